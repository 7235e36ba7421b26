import Derived.Test.YtioeffnadipbaaaGreatDoorDeM3
import Derived.Test.YtioeffnadipbaaaGreatDoorDeM1
import Derived.Test.YtioeffnadipbaaaGreatDoorDeM2
namespace Go.Proofs.YtioeffnadipbaaaGreatDoor
open Go Go.Dn Go.Rl Go.Proofs
attribute [local irreducible] ba vc
set_option maxRecDepth 20000
theorem x65(κ:Kp)(l:List AV)(s:ByteArray)(i:Int)(I:Nat->S->Prop)(n:Nat)(K:Exit->S->Prop):(vc (MI κ) 12 189 none 0 (ag (Pr κ).toProgram 189 2) (sp 19 [(0, .ad 9 l),(1, .lit (.string s)),(7, .int l.length),(8, .int i)] []) (bB (MI κ) 189 2 0 I n K))=(
 letI z1:=i<(↑(l.length):Int)
 aw (decide z1) (aP (decide ((0:Int)<=i)&&decide z1) (aw (ByteArray.toList s==ByteArray.toList (toStr (nth l i.toNat))) (K Exit.ret (sp 19 [(4,AV.int i)]
 [])) (∃(e0:Nat),e0<n/\I e0 (sp 19 [(0,AV.ad 9 l),(1,AV.str s),(7,AV.int (↑(l.length):Int)),(8,AV.int (IntKind.wrap IntKind.i64 (i+(1:
 Int))))] [])))) (K (Exit.exit 0) (sp 19 [] []))):=by kernel_rfl
abbrev QW(a:List AV×ByteArray×Int):S:=sp 19 [(0, .ad 9 a.1),(1, .lit (.string a.2.1)),(7, .int a.1.length),(8, .int a.2.2)] []
def KX(a:List AV×ByteArray×Int):Prop:=a.1.length<=aL/\0<=a.2.2/\a.2.2<=a.1.length
def FK(a:List AV×ByteArray×Int):Out (Exit×S):= .aw (decide (dU a.2.1 (a.1.drop a.2.2.toNat) a.2.2>=0)) (.one (.ret,sp 19 [(4, .int (dU a.2.1 (a.1.drop a.2.2.toNat) a.2.2))] [])) (.one (.exit 0,sp 19 [] []))
theorem l65(κ:Kp):bf (MI κ) 12 189 2 (aR 0 QW KX FK):=by
 refine aG (fun a=>a.1.length - a.2.2.toNat) ?_
 rintro⟨l,s,i⟩ K ⟨h1,h2,h3⟩ ho
 simp only at h1 h2 h3
 rw[show(MI κ).P=Pr κ from rfl]
 refine Eq.mpr (x65 κ l s i _ _ K) ?_
 simp only[aL] at h1
 simp only[FK,Out.run,ae] at ho
 simp only[ae,ai,aa0,aa2,aa1]
 refine⟨fun hi=>⟨⟨h2,hi⟩,fun e=>?_,fun e=>?_⟩,fun hi=>?_⟩
 ·rw[ab1 (show i.toNat<l.length by omega),←a7 l i.toNat (by omega),dU,show ma s (toStr (nth l i.toNat))=true from e,aa7,aa6 (show i>=0 from h2)] at ho
  exact ho.1 rfl
 ·rw[aC (n:=i+1) (by omega) (by omega)]
  refine⟨_,?_,(l,s,i+1),rfl,⟨by simpa[aL] using h1,by simp only;omega,by simp only;omega⟩,rfl,?_⟩
  ·simp only;omega
  ·rw[ab1 (show i.toNat<l.length by omega),←a7 l i.toNat (by omega),dU,show ma s (toStr (nth l i.toNat))=false from e,aa5] at ho
   simp only[FK,Out.run,ae,show(i+1).toNat=i.toNat+1 by omega]
   exact ho
 ·rw[aa8 (by omega)] at ho
  exact ho.2 rfl
noncomputable def I9(κ:Kp):Env:=(MI κ).ar 189 2 (aR 0 QW KX FK)
theorem XJ(κ:Kp):aE (I9 κ):=(e39 κ).ar (X5 κ) (l65 κ)
theorem SV(κ:Kp):aj (I9 κ):=(X5 κ).ar aW
theorem Zy(κ:Kp)(l:List AV)(s:ByteArray)(K:AV->List Dn.Obj->Prop):(ba (I9 κ) 12 189 [.ad 9 l, .lit (.string s)] [] K)=(
 ag (Pg.toProgram (Env.P (MI κ))) 189 2=ag (Pg.toProgram (Env.P (MI κ))) 189 2/\∃(a:List AV×ByteArray×Int),sp 19 [(0,AV.ad 9 l),(1,
 AV.str s),(7,AV.int (↑(l.length):Int)),(8,AV.int 0)] []=sp 19 [(0,AV.ad 9 a.1),(1,AV.str a.2.1),(7,AV.int (↑(a.1.length):Int)),(8,AV.int
 a.2.2)] []/\(a.1.length<=9223372036854775807/\(0:Int)<=a.2.2/\a.2.2<=(↑(a.1.length):Int))/\aw (decide (dU a.2.1 (List.drop (Int.toNat a.2.2)
 a.1) a.2.2>=(0:Int))) (K (AV.int (dU a.2.1 (List.drop (Int.toNat a.2.2) a.1) a.2.2)) []) (K (AV.int (-1)) [])):=by kernel_rfl
def XK:List AV->Option (Bool×AV)
 |[.ad 9 l, .lit (.string s)]=>some (decide (l.length<=aL), .int (dU s l 0))
 |_=>none
theorem vK(s:ByteArray): ∀(l:List AV) (i:Int),¬ dU s l i>=0->0<=i->dU s l i= -1
 |[],_,_,_=>rfl
 |a::l,i,h,h0=>by
  simp only[dU] at h⊢
  cases e:ma s (toStr a) with
  |true=>rw[e] at h;exact absurd h0 h
  |false=>rw[e] at h;exact vK s l (i+1) h (by omega)
theorem p65(κ:Kp):cj (I9 κ) 12 189 XK:=by
 intro args x hh
 unfold XK at hh
 split at hh
 ·rename_i l s
  simp only[aa3,aa9,aa0] at hh
  obtain⟨h1,rfl⟩:=hh
  refine⟨_,rfl,rfl,?_⟩
  refine Eq.mpr (Zy κ l s _) ?_
  refine⟨rfl,(l,s,0),rfl,⟨h1,by simp only;omega,by simp only;omega⟩,?_⟩
  simp only[ab7,ab0,ae,aa0,aa2]
  exact⟨fun _=>trivial,fun e=>by rw[vK s l 0 e (by omega)]⟩
 ·cases hh
noncomputable def RJ(κ:Kp):Env:=(I9 κ).aK 189 XK
theorem ZO(κ:Kp):aE (RJ κ):=(XJ κ).aK (SV κ) (p65 κ)
theorem YK(κ:Kp):aj (RJ κ):=(SV κ).aK
theorem y63(κ:Kp)(l:List AV)(s:ByteArray)(K:AV->List Dn.Obj->Prop):(ba (RJ κ) 12 164 [.ad 9 l, .lit (.string s)] [] K)=(
 aP (decide (l.length<=9223372036854775807)) (K (AV.bool (decide (dU s l (0:Int)>=(0:Int)))) [])):=by kernel_rfl
def V3:List AV->Option (Bool×AV)
 |[.ad 9 l, .lit (.string s)]=>some (decide (l.length<=aL), .bool (decide (dU s l 0>=0)))
 |_=>none
theorem p63(κ:Kp):cj (RJ κ) 12 164 V3:=by
 intro args x hh
 unfold V3 at hh
 split at hh
 ·rename_i l s
  simp only[aa3,aa9,aa0] at hh
  obtain⟨h1,rfl⟩:=hh
  refine⟨_,rfl,rfl,?_⟩
  refine Eq.mpr (y63 κ l s _) ?_
  rw[ai,aa0]
  exact⟨h1,rfl⟩
 ·cases hh
noncomputable def QF(κ:Kp):Env:=(RJ κ).aK 164 V3
theorem e63(κ:Kp):aE (QF κ):=(ZO κ).aK (YK κ) (p63 κ)
theorem Y3(κ:Kp):aj (QF κ):=(YK κ).aK
theorem y24(κ:Kp)(a:cf)(k:Int)(K:AV->List Dn.Obj->Prop):(ba (QF κ) 12 113 [au a, .int k] [] K)=(
 letI z2:=nth a.bl k.toNat
 letI z1:=∃(e1:List AV),([AV.ad 38 [AV.agg [AV.int (toInt (af (af z2 2) 0)),AV.str (toStr (af (af z2 2) 1)),AV.int (toInt (af (af z2 2) 2)),AV.ad 38 (ah
  (af (af z2 2) 3))]]],aJ)=([AV.ad 38 e1],aJ)/\bw e1/\∃(e0:cf×Int),([au a,AV.int k],aJ)=([au e0.1,AV.int e0.2],aJ)/\(aV (aF e0.1)=true/\(aI
  (aa (bh 38 e0.1.hl e0.1.bl))<=100000/\e0.1.bl.length<=100000)/\(0:Int)<=e0.2/\e0.2<(↑(e0.1.bl.length):Int))/\aP (decide ((List.length (aq (aa e1))
  +List.length (strs (ea (aF e0.1) e0.2.toNat))+1)*17<=70368744177664)) (K (AV.ad 9 (List.take (List.length (aq (aa e1))+List.length (strs (ea (aF e0.1)
  e0.2.toNat))) (List.drop 0 (List.take (List.length (aq (aa e1))) (strs (aq (aa e1)))++strs (ea (aF e0.1) e0.2.toNat))))) [])
 aP (decide ((0:Int)<=k)&&decide (k<(↑(a.bl.length):Int))) (aw (decide ((7:Int)<=toInt (af z2 0))) ((z1/\z1)/\z1) (∃(e0:LA),([AV.agg [AV.int
 (toInt (af z2 0)),AV.agg [AV.str (toStr (af (af z2 1) 0)),AV.ad 38 (ah (af (af z2 1) 1))],AV.agg [AV.int (toInt (af (af z2 2) 0)),AV.str (toStr (af (af z2
 2) 1)),AV.int (toInt (af (af z2 2) 2)),AV.ad 38 (ah (af (af z2 2) 3))],AV.agg [AV.int (toInt (af (af z2 3) 0)),AV.str (toStr (af (af z2 3) 1)),AV.int
 (toInt (af (af z2 3) 2)),AV.ad 38 (ah (af (af z2 3) 3))]]],aJ)=([AV.agg [AV.int e0.op,AV.agg [AV.str e0.s,AV.ad 38 e0.l],AV.agg [AV.int e0.o1,AV.str
 e0.s1,AV.int e0.n1,AV.ad 38 e0.l1],AV.agg [AV.int e0.o2,AV.str e0.s2,AV.int e0.n2,AV.ad 38 e0.l2]]],aJ)/\fU e0/\K (AV.ad 9 (List.take (List.length (ei
 (LA.lt e0))) (List.drop 0 (strs (ei (LA.lt e0)))))) []))):=by kernel_rfl
def NC(a:cf×Int):Out (AV×List Dn.Obj):= .one (.ad 9 (strs (cU (aF a.1) a.2.toNat)),[])
theorem ET(l:Lt):aI [l.x]<=iH l:=by
 simp only[iH,aI];omega
theorem FT(x:AV):aa [pk 38 (af x 2)]=[(cR x).x]:=by
 simp only[aa,ac0,List.map_nil,qB];rfl
theorem r7{a:cf}(h:da a)(k:Nat):(ea (aF a) k).length<=100000:=by
 have h5:(ff (aF a)).length<=100000:=by
  have h6:=cy (aa (bh 38 a.hl a.bl))
  rw[ir 38 a.rel a.hl a.bl] at h6
  exact Nat.le_trans h6 h.1
 have h7:=kg (ff (aF a)) []
 refine Nat.le_trans (List.length_filter_le _ _) ?_
 unfold dc
 cases aV (aF a)
 ·simp
 ·rw[aa7];omega
theorem c24(κ:Kp):bG (QF κ) 12 113 (a0 Nd y5 NC):=by
 refine bc ?_
 rintro⟨a,k⟩ K ⟨h1,h2,h3,h4⟩ ho
 refine Eq.mpr (y24 κ a k K) ?_
 simp only at h1 h2 h3 h4
 have hk:k.toNat<a.bl.length:=by omega
 have hlit:=kr h2 hk
 have hv:=cy [(cR (nth a.bl k.toNat)).x]
 have hc:=ET (cR (nth a.bl k.toNat))
 have ho':K (.ad 9 (strs (cU (aF a) k.toNat))) []:=ho
 unfold cU at ho'
 rw[show(aF a).body=dh a.bl from rfl,j4 _ hk,show(cR (nth a.bl k.toNat)).op=toInt (af (nth a.bl k.toNat) 0) from rfl] at ho'
 simp only[and_self]
 rw[ai,aa1,aa0,aa0,ae,aa0,aa2]
 refine⟨⟨h3,h4⟩,fun e=>?_,fun e=>?_⟩
 ·rw[aa6 e] at ho'
  refine⟨[pk 38 (af (nth a.bl k.toNat) 2)],rfl,by simp only[bw,FT];omega,(a,k),rfl,⟨h1,h2,h3,h4⟩,?_⟩
  have hol:=r7 h2 k.toNat
  simp only[FT,aO,ab0,cX,ai,aa0]
  refine⟨by omega,?_⟩
  rw[←gN,List.take_of_length_le (by simp[aO])]
  exact ho'
 ·rw[aa4 e] at ho'
  refine⟨se (nth a.bl k.toNat),rfl,by rw[fU,eB];exact hlit,?_⟩
  simp only[eB,ab0,cX]
  exact ho'
noncomputable def TZ(κ:Kp):Env:=(QF κ).az 113 (a0 Nd y5 NC)
theorem e24(κ:Kp):aE (TZ κ):=(e63 κ).az (Y3 κ) (c24 κ)
theorem Y1(κ:Kp):aj (TZ κ):=(Y3 κ).az aZ
theorem y52(κ:Kp)(a:cf)(k:Int)(es:List (Value×AV))(K:AV->List Dn.Obj->Prop):(ba (TZ κ) 12 191 [.mp 0,au a, .int k] [.map 9 4 es] K)=(
 letI z4:=nth a.bl k.toNat
 letI z5:=toStr (af (af z4 3) 1)
 letI z6:=ah (af (af z4 1) 1)
 letI z7:=toStr (af (af z4 1) 0)
 letI z8:=toInt (af (af z4 2) 0)
 letI z9:=toStr (af (af z4 2) 1)
 letI z10:=toInt (af (af z4 2) 2)
 letI z11:=toInt (af (af z4 3) 0)
 letI z12:=toInt (af (af z4 3) 2)
 letI z13:=ah (af (af z4 2) 3)
 letI z14:=ah (af (af z4 3) 3)
 letI z15:=Value×AV
 letI z1:=∃(e3:cf×Int),([au a,AV.int k],aJ)=([au e3.1,AV.int e3.2],aJ)/\(aV (aF e3.1)=true/\(aI (aa (bh 38 e3.1.hl e3.1.bl))<=100000/\
  e3.1.bl.length<=100000)/\(0:Int)<=e3.2/\e3.2<(↑(e3.1.bl.length):Int))/\∃(e2:List AV×List z15),([AV.mp 0,AV.ad 9 (strs (ea (aF e3.1)
  e3.2.toNat))],[Dn.Obj.map 9 4 es])=([AV.mp 0,AV.ad 9 e2.1],[Dn.Obj.map 9 4 e2.2])/\bj e2/\aw (gk e2.2 e2.1) (∃(e1:ByteArray×List AV),([AV.agg
  [AV.str z7,AV.ad 38 z6]],aJ)=([AV.agg [AV.str e1.1,AV.ad 38 e1.2]],aJ)/\jC e1/\∃(e0:List AV×List z15),([AV.mp 0,AV.ad 9 (List.take (List.length
  (dD (aa e1.2))) (List.drop 0 (strs (dD (aa e1.2)))))],[Dn.Obj.map 9 4 e2.2])=([AV.mp 0,AV.ad 9 e0.1],[Dn.Obj.map 9 4 e0.2])/\bj e0/\K (AV.bool (gk e0.2
  e0.1)) [Dn.Obj.map 9 4 e0.2]) (K (AV.bool false) [Dn.Obj.map 9 4 e2.2])
 letI z2:=∃(e1:LA),([AV.agg [AV.int (toInt (af z4 0)),AV.agg [AV.str z7,AV.ad 38 z6],AV.agg [AV.int z8,AV.str z9,AV.int z10,AV.ad 38 z13],AV.agg
  [AV.int z11,AV.str z5,AV.int z12,AV.ad 38 z14]]],aJ)=([AV.agg [AV.int e1.op,AV.agg [AV.str e1.s,AV.ad 38 e1.l],AV.agg [AV.int e1.o1,AV.str e1.s1,
  AV.int e1.n1,AV.ad 38 e1.l1],AV.agg [AV.int e1.o2,AV.str e1.s2,AV.int e1.n2,AV.ad 38 e1.l2]]],aJ)/\fU e1/\∃(e0:List AV×List z15),([AV.mp 0,AV.ad
  9 (List.take (List.length (ei (LA.lt e1))) (List.drop 0 (strs (ei (LA.lt e1)))))],[Dn.Obj.map 9 4 es])=([AV.mp 0,AV.ad 9 e0.1],[Dn.Obj.map 9 4 e0.2])/\bj
  e0/\K (AV.bool (gk e0.2 e0.1)) [Dn.Obj.map 9 4 e0.2]
 letI z3:=∃(e4:List AV),([AV.ad 38 z6],aJ)=([AV.ad 38 e4],aJ)/\bw e4/\aP (decide (List.length (List.take (List.length (aq (aa e4))) (List.drop 0
  (strs (aq (aa e4)))))<=9223372036854775807)) (aw (decide (dU z5 (List.take (List.length (aq (aa e4))) (List.drop 0 (strs (aq (aa e4))))) (0:Int)>=(0:
  Int))) z1 (K (AV.bool false) [Dn.Obj.map 9 4 es]))
 aP (decide ((0:Int)<=k)&&decide (k<(↑(a.bl.length):Int))) (aw (toInt (af z4 0)==(1:Int)) (∃(e1:ByteArray×List AV),([AV.agg [AV.str z7,AV.ad
 38 z6]],aJ)=([AV.agg [AV.str e1.1,AV.ad 38 e1.2]],aJ)/\jC e1/\∃(e0:List AV×List z15),([AV.mp 0,AV.ad 9 (List.take (List.length (dD (aa e1.2)))
 (List.drop 0 (strs (dD (aa e1.2)))))],[Dn.Obj.map 9 4 es])=([AV.mp 0,AV.ad 9 e0.1],[Dn.Obj.map 9 4 e0.2])/\bj e0/\K (AV.bool (gk e0.2 e0.1)) [Dn.Obj.map
 9 4 e0.2]) (aw (toInt (af z4 0)==(3:Int)) (∃(e3:TA),([AV.mp 0,AV.agg [AV.int z8,AV.str z9,AV.int z10,AV.ad 38 z13],AV.agg [AV.int z11,AV.str z5,
 AV.int z12,AV.ad 38 z14]],[Dn.Obj.map 9 4 es])=([AV.mp 0,AV.agg [AV.int e3.o1,AV.str e3.s1,AV.int e3.n1,AV.ad 38 e3.l1],AV.agg [AV.int e3.o2,AV.str
 e3.s2,AV.int e3.n2,AV.ad 38 e3.l2]],[Dn.Obj.map 9 4 e3.es])/\iF e3/\aw (lj e3.es (TA.x e3) (TA.y e3)) (K (AV.bool true) [Dn.Obj.map 9 4 e3.es]) (∃(e2:
 TA),([AV.mp 0,AV.agg [AV.int z11,AV.str z5,AV.int z12,AV.ad 38 z14],AV.agg [AV.int z8,AV.str z9,AV.int z10,AV.ad 38 z13]],[Dn.Obj.map 9 4 e3.es])=
 ([AV.mp 0,AV.agg [AV.int e2.o1,AV.str e2.s1,AV.int e2.n1,AV.ad 38 e2.l1],AV.agg [AV.int e2.o2,AV.str e2.s2,AV.int e2.n2,AV.ad 38 e2.l2]],[Dn.Obj.map 9
 4 e2.es])/\iF e2/\aw (lj e2.es (TA.x e2) (TA.y e2)) (K (AV.bool true) [Dn.Obj.map 9 4 e2.es]) (∃(e1:LA),([AV.agg [AV.int (toInt (af z4 0)),AV.agg [AV.str
 z7,AV.ad 38 z6],AV.agg [AV.int z8,AV.str z9,AV.int z10,AV.ad 38 z13],AV.agg [AV.int z11,AV.str z5,AV.int z12,AV.ad 38 z14]]],aJ)=([AV.agg [AV.int
 e1.op,AV.agg [AV.str e1.s,AV.ad 38 e1.l],AV.agg [AV.int e1.o1,AV.str e1.s1,AV.int e1.n1,AV.ad 38 e1.l1],AV.agg [AV.int e1.o2,AV.str e1.s2,AV.int e1.n2,
 AV.ad 38 e1.l2]]],aJ)/\fU e1/\∃(e0:List AV×List z15),([AV.mp 0,AV.ad 9 (List.take (List.length (ei (LA.lt e1))) (List.drop 0 (strs (ei (LA.lt
 e1)))))],[Dn.Obj.map 9 4 e2.es])=([AV.mp 0,AV.ad 9 e0.1],[Dn.Obj.map 9 4 e0.2])/\bj e0/\K (AV.bool (gk e0.2 e0.1)) [Dn.Obj.map 9 4 e0.2]))) (aw (toInt
 (af z4 0)==(2:Int)) z2 (aw (toInt (af z4 0)==(4:Int)) z2 (aw (toInt (af z4 0)==(5:Int)) z2 (aw (toInt (af z4 0)==(6:Int)) z2 (aw (toInt (af z4
 0)==(7:Int)) (z1/\z1/\z1/\z1) (z3/\z3/\z3/\z3))))))))):=by kernel_rfl
def S0(a:cf×Int×List ByteArray):List AV×List Dn.Obj:=([.mp 0,au a.1, .int a.2.1],[.map 9 4 (bL a.2.2)])
def IF(a:cf×Int×List ByteArray):Prop:=aV (aF a.1)=true/\da a.1/\0<=a.2.1/\a.2.1<a.1.bl.length
def NV(a:cf×Int×List ByteArray):Out (AV×List Dn.Obj):= .one (.bool (nY a.2.2 (aF a.1) a.2.1.toNat),[.map 9 4 (bL a.2.2)])
theorem yD(x y:AV)(es:List (Value×AV)):(TA.mk (toInt (af x 0)) (toStr (af x 1)) (toInt (af x 2)) (ah (af x 3)) (toInt (af y 0)) (toStr (af y 1)) (toInt (af y 2)) (ah (af y 3)) es).x=cI x:=by rw[cP];rfl
theorem nw(x y:AV)(es:List (Value×AV)):(TA.mk (toInt (af x 0)) (toStr (af x 1)) (toInt (af x 2)) (ah (af x 3)) (toInt (af y 0)) (toStr (af y 1)) (toInt (af y 2)) (ah (af y 3)) es).y=cI y:=by rw[cP];rfl
def lp(x y:AV)(es:List (Value×AV)):TA:=TA.mk (toInt (af x 0)) (toStr (af x 1)) (toInt (af x 2)) (ah (af x 3)) (toInt (af y 0)) (toStr (af y 1)) (toInt (af y 2)) (ah (af y 3)) es
theorem c52(κ:Kp):bG (TZ κ) 12 191 (a0 S0 IF NV):=by
 refine bc ?_
 rintro⟨a,k,b⟩ K ⟨h1,h2,h3,h4⟩ ho
 refine Eq.mpr (y52 κ a k (bL b) K) ?_
 simp only at h1 h2 h3 h4
 have hk:k.toNat<a.bl.length:=by omega
 have hlit:=kr h2 hk
 have ho':K (.bool (nY b (aF a) k.toNat)) [.map 9 4 (bL b)]:=ho
 unfold nY at ho'
 rw[show(aF a).body=dh a.bl from rfl,j4 _ hk,show(cR (nth a.bl k.toNat)).op=toInt (af (nth a.bl k.toNat) 0) from rfl,show(cR (nth a.bl k.toNat)).a.l=aa (ah (af (af (nth a.bl k.toNat) 1) 1)) from rfl,
  show(cR (nth a.bl k.toNat)).x=cI (af (nth a.bl k.toNat) 2) from rfl,show(cR (nth a.bl k.toNat)).y=cI (af (nth a.bl k.toNat) 3) from rfl] at ho'
 have hlc:iH (cR (nth a.bl k.toNat))=aI [cI (af (nth a.bl k.toNat) 2),cI (af (nth a.bl k.toNat) 3)]+aI (aa (ah (af (af (nth a.bl k.toNat) 1) 1))):=rfl
 have hcl:aI (aa (ah (af (af (nth a.bl k.toNat) 1) 1)))<=100000:=by omega
 have hcx:aI [cI (af (nth a.bl k.toNat) 2)]<=100000/\aI [cI (af (nth a.bl k.toNat) 3)]<=100000:=by
  simp only[aI] at hlc⊢;omega
 have hvl:=cy (aa (ah (af (af (nth a.bl k.toNat) 1) 1)))
 have hrl:=AX (aa (ah (af (af (nth a.bl k.toNat) 1) 1)))
 have hol:=r7 h2 k.toNat
 have hll:(ei (cR (nth a.bl k.toNat))).length<=100000:=by
  have e1:=cy [(cR (nth a.bl k.toNat)).x,(cR (nth a.bl k.toNat)).y]
  have e2:=cy (cR (nth a.bl k.toNat)).a.l
  simp only[ei,iH,ab8] at hlit⊢;omega
 simp only[and_self]
 rw[ai,aa1,aa0,aa0]
 refine⟨⟨h3,h4⟩,?_⟩
 rw[ae,beq_iff_eq,beq_eq_false_iff_ne]
 refine⟨fun e1=>?_,fun e1=>?_⟩
 ·rw[aa6 e1,aa7] at ho'
  refine⟨(toStr (af (af (nth a.bl k.toNat) 1) 0),ah (af (af (nth a.bl k.toNat) 1) 1)),rfl,hcl,(strs (dD (aa (ah (af (af (nth a.bl k.toNat) 1) 1)))),bL b),by simp only[ab0,cX],by simp only[bj,aO,aL];omega,?_⟩
  simp only[eV];exact ho'
 rw[aa4 e1,aa5] at ho'
 rw[ae,beq_iff_eq,beq_eq_false_iff_ne]
 refine⟨fun e2=>?_,fun e2=>?_⟩
 ·rw[aa6 e2,aa7] at ho'
  refine⟨lp (af (nth a.bl k.toNat) 2) (af (nth a.bl k.toNat) 3) (bL b),rfl,by unfold iF lp;rw[nw];exact hcx.2,?_⟩
  unfold lp
  rw[yD,nw,oi]
  rw[ae]
  refine⟨fun f1=>by rw[f1] at ho';exact ho',fun f1=>?_⟩
  rw[f1,Bool.false_or] at ho'
  refine⟨lp (af (nth a.bl k.toNat) 3) (af (nth a.bl k.toNat) 2) (bL b),rfl,by unfold iF lp;rw[nw];exact hcx.1,?_⟩
  unfold lp
  rw[yD,nw,oi,ae]
  refine⟨fun f2=>by rw[f2] at ho';exact ho',fun f2=>?_⟩
  rw[f2,Bool.false_or] at ho'
  exact⟨se (nth a.bl k.toNat),rfl,by rw[fU,eB];exact hlit,(strs (ei (se (nth a.bl k.toNat)).lt),bL b),by simp only[ab0,cX],by simp only[bj,aO,aL];rw[eB];omega,by simp only[eV,eB];exact ho'⟩
 rw[aa4 e2,aa5] at ho'
 rw[ae,beq_iff_eq,beq_eq_false_iff_ne]
 refine⟨fun e3=>?_,fun e3=>?_⟩
 ·rw[aa6 e3] at ho'
  simp only[Bool.true_or,Bool.or_true,aa7] at ho'
  exact⟨se (nth a.bl k.toNat),rfl,by rw[fU,eB];exact hlit,(strs (ei (se (nth a.bl k.toNat)).lt),bL b),by simp only[ab0,cX],by simp only[bj,aO,aL];rw[eB];omega,by simp only[eV,eB];exact ho'⟩
 rw[ae,beq_iff_eq,beq_eq_false_iff_ne]
 refine⟨fun e4=>?_,fun e4=>?_⟩
 ·rw[aa6 e4] at ho'
  simp only[Bool.true_or,Bool.or_true,aa7] at ho'
  exact⟨se (nth a.bl k.toNat),rfl,by rw[fU,eB];exact hlit,(strs (ei (se (nth a.bl k.toNat)).lt),bL b),by simp only[ab0,cX],by simp only[bj,aO,aL];rw[eB];omega,by simp only[eV,eB];exact ho'⟩
 rw[ae,beq_iff_eq,beq_eq_false_iff_ne]
 refine⟨fun e5=>?_,fun e5=>?_⟩
 ·rw[aa6 e5] at ho'
  simp only[Bool.true_or,Bool.or_true,aa7] at ho'
  exact⟨se (nth a.bl k.toNat),rfl,by rw[fU,eB];exact hlit,(strs (ei (se (nth a.bl k.toNat)).lt),bL b),by simp only[ab0,cX],by simp only[bj,aO,aL];rw[eB];omega,by simp only[eV,eB];exact ho'⟩
 rw[ae,beq_iff_eq,beq_eq_false_iff_ne]
 refine⟨fun e6=>?_,fun e6=>?_⟩
 ·rw[aa6 e6] at ho'
  simp only[Bool.true_or,Bool.or_true,aa7] at ho'
  exact⟨se (nth a.bl k.toNat),rfl,by rw[fU,eB];exact hlit,(strs (ei (se (nth a.bl k.toNat)).lt),bL b),by simp only[ab0,cX],by simp only[bj,aO,aL];rw[eB];omega,by simp only[eV,eB];exact ho'⟩
 rw[aa4 e3,aa4 e4,aa4 e5,aa4 e6] at ho'
 simp only[Bool.false_or,aa5] at ho'
 rw[ae,beq_iff_eq,beq_eq_false_iff_ne]
 refine⟨fun e7=>?_,fun e7=>?_⟩
 ·rw[aa6 e7,Bool.true_or,ab9] at ho'
  refine⟨(a,k),rfl,⟨h1,h2,h3,h4⟩,(strs (ea (aF a) k.toNat),bL b),rfl,by simp only[bj,aO,aL];omega,ae.2 ⟨fun f1=>⟨(toStr (af (af (nth a.bl k.toNat) 1) 0),ah (af (af (nth a.bl k.toNat) 1) 1)),rfl,hcl,(strs (dD (aa (ah (af (af (nth a.bl k.toNat) 1) 1)))),bL b),by simp only[ab0,cX],by simp only[bj,aO,aL];omega,?_⟩,fun f1=>?_⟩⟩
  ·rw[eV] at f1
   simp only[eV]
   rw[f1,ab9] at ho';exact ho'
  ·rw[eV] at f1
   rw[f1,Bool.false_and] at ho';exact ho'
 ·rw[aa4 e7,Bool.false_or] at ho'
  refine⟨_,rfl,hcl,?_⟩
  have hp:=w8 (toStr (af (af (nth a.bl k.toNat) 3) 1)) (aq (aa (ah (af (af (nth a.bl k.toNat) 1) 1)))) 0 (by omega)
  have hs:(cI (af (nth a.bl k.toNat) 3)).s=toStr (af (af (nth a.bl k.toNat) 3) 1):=by rw[cP];rfl
  simp only[ab0,cX,aO,hp]
  rw[ai,aa0,ae]
  rw[hs] at ho'
  refine⟨by omega,fun e8=>?_,fun e8=>?_⟩
  ·rw[e8,ab9] at ho'
   refine⟨(a,k),rfl,⟨h1,h2,h3,h4⟩,(strs (ea (aF a) k.toNat),bL b),rfl,by simp only[bj,aO,aL];omega,ae.2 ⟨fun f1=>⟨(toStr (af (af (nth a.bl k.toNat) 1) 0),ah (af (af (nth a.bl k.toNat) 1) 1)),rfl,hcl,(strs (dD (aa (ah (af (af (nth a.bl k.toNat) 1) 1)))),bL b),by simp only[ab0,cX],by simp only[bj,aO,aL];omega,?_⟩,fun f1=>?_⟩⟩
   ·rw[eV] at f1
    simp only[eV]
    rw[f1,ab9] at ho';exact ho'
   ·rw[eV] at f1
    rw[f1,Bool.false_and] at ho';exact ho'
  ·rw[e8,Bool.false_and] at ho';exact ho'
noncomputable def Mn(κ:Kp):Env:=(TZ κ).az 191 (a0 S0 IF NV)
theorem e52(κ:Kp):aE (Mn κ):=(e24 κ).az (Y1 κ) (c52 κ)
theorem Zf(κ:Kp):aj (Mn κ):=(Y1 κ).az aZ
def bV(l:List Bool):List AV:=l.map fun b=> .lit (.bool b)
theorem iV(l:List Bool):(bV l).length=l.length:=by simp[bV]
theorem HN(l:List Bool)(k:Nat):Dn.toBool (nth (bV l) k)=Rl.eZ l k:=by
 unfold Rl.eZ
 rw[List.getD_eq_getElem?_getD]
 induction l generalizing k with
 |nil=>rfl
 |cons a l ih=>
  cases k with
  |zero=>rfl
  |succ k=>simpa[bV,nth] using ih k
structure HY where
 a:cf
 done:List Bool
 b:List ByteArray
 i:Int
 first:Int
abbrev Fu(a:HY):S:=sp 38 [(1, .aB 0 0 (bV a.done).length),(2, .mp 1),(3, .ptr 2 0 [] 0),(7, .int a.first),(11, .ad 80 a.a.bl),(12, .int a.a.bl.length),(13, .int a.i)] [.row 4 (bV a.done), .map 9 4 (bL a.b), .box 48 (au a.a)]
theorem x36(κ:Kp)(a:HY)(es:List (Value×AV))(I:Nat->S->Prop)(n:Nat)(K:Exit->S->Prop):(vc (Mn κ) 12 170 none 2 (ag (Pr κ).toProgram 170 3) (sp 38 [(1, .aB 0 0 (bV a.done).length),(2, .mp 1),(3, .ptr 2 0 [] 0),(7, .int a.first),(11, .ad 80 a.a.bl),(12, .int a.a.bl.length),(13, .int a.i)] [.row 4 (bV a.done), .map 9 4 es, .box 48 (au a.a)]) (bB (Mn κ) 170 3 2 I n K))=(
 letI z1:=IntKind.wrap IntKind.i64 (a.i+(1:Int))
 letI z2:=List.length (bV a.done)
 letI z3:=List.length a.a.bl
 aw (decide (a.i<(↑z3:Int))) (aP (decide ((0:Int)<=a.i)&&decide (a.i<(↑z3:Int))) (aP (decide ((0:Int)<=a.i)&&decide (a.i<(↑z2:Int))) (aw
 (Dn.toBool (nth (bV a.done) (0+a.i.toNat))) (∃(e0:Nat),e0<n/\I e0 (sp 38 [(1,AV.aB 0 0 z2),(2,AV.mp 1),(3,AV.ptr 2 0 [] 0),(7,AV.int a.first),
 (11,AV.ad 80 a.a.bl),(12,AV.int (↑z3:Int)),(13,AV.int z1)] [Obj.row 4 (bV a.done),Dn.Obj.map 9 4 es,Obj.box 48 (au a.a)])) (∃(e1:cf×Int×List
 ByteArray),([AV.mp 0,au a.a,AV.int a.i],[Dn.Obj.map 9 4 es])=([AV.mp 0,au e1.1,AV.int e1.2.1],[Dn.Obj.map 9 4 (bL e1.2.2)])/\(aV (aF e1.1)=true/\
 (aI (aa (bh 38 e1.1.hl e1.1.bl))<=100000/\e1.1.bl.length<=100000)/\(0:Int)<=e1.2.1/\e1.2.1<(↑(e1.1.bl.length):Int))/\aw (!nY e1.2.2 (aF e1.1)
 e1.2.1.toNat) (∃(e0:Nat),e0<n/\I e0 (sp 38 [(1,AV.aB 0 0 z2),(2,AV.mp 1),(3,AV.ptr 2 0 [] 0),(7,AV.int a.first),(11,AV.ad 80 a.a.bl),(12,
 AV.int (↑z3:Int)),(13,AV.int z1)] [Obj.row 4 (bV a.done),Dn.Obj.map 9 4 (bL e1.2.2),Obj.box 48 (au a.a)])) (aw (toInt (af (nth a.a.bl a.i.toNat) 0) != (1
 :Int)) (K Exit.ret (sp 38 [(6,AV.int a.i)] [Obj.row 4 (bV a.done),Dn.Obj.map 9 4 (bL e1.2.2)])) (aw (decide (a.first<(0:Int))) (∃(e0:Nat),e0<n/\I
 e0 (sp 38 [(1,AV.aB 0 0 z2),(2,AV.mp 1),(3,AV.ptr 2 0 [] 0),(7,AV.int a.i),(11,AV.ad 80 a.a.bl),(12,AV.int (↑z3:Int)),(13,AV.int z1)] [Obj.row 4
 (bV a.done),Dn.Obj.map 9 4 (bL e1.2.2),Obj.box 48 (au a.a)])) (∃(e0:Nat),e0<n/\I e0 (sp 38 [(1,AV.aB 0 0 z2),(2,AV.mp 1),(3,AV.ptr 2 0 [] 0),(7,
 AV.int a.first),(11,AV.ad 80 a.a.bl),(12,AV.int (↑z3:Int)),(13,AV.int z1)] [Obj.row 4 (bV a.done),Dn.Obj.map 9 4 (bL e1.2.2),Obj.box 48 (au
 a.a)])))))))) (K (Exit.exit 0) (sp 38 [(7,AV.int a.first)] [Obj.row 4 (bV a.done),Dn.Obj.map 9 4 es]))):=by kernel_rfl
def z8(a:HY):Prop:=aV (aF a.a)=true/\da a.a/\0<=a.i/\a.i<=a.a.bl.length/\a.done.length=a.a.bl.length
def xR(a:HY):Int:=lD (aF a.a) a.done a.b (a.a.bl.length - a.i.toNat) a.i.toNat a.first
def CA(a:HY):Out (Exit×S):= .all (fun _:Bool=>True) fun e=> .aw e (.one (.ret,sp 38 [(6, .int (xR a))] [.row 4 (bV a.done), .map 9 4 (bL a.b)])) (.one (.exit 0,sp 38 [(7, .int (xR a))] [.row 4 (bV a.done), .map 9 4 (bL a.b)]))
theorem ZD(κ:Kp):bf (Mn κ) 12 170 3 (aR 2 Fu z8 CA):=by
 refine aG (fun a=>a.a.bl.length - a.i.toNat) ?_
 rintro⟨a,done,b,i,first⟩ K ⟨h1,h2,h3,h4,h5⟩ ho
 simp only at h1 h2 h3 h4 h5
 rw[show(Mn κ).P=Pr κ from rfl]
 refine Eq.mpr (x36 κ ⟨a,done,b,i,first⟩ (bL b) _ _ K) ?_
 have ho1:=ho true trivial
 have ho2:=ho false trivial
 simp only[Out.run,aw,xR] at ho1 ho2
 simp only[Nat.zero_add,HN]
 have hbl:=iV done
 have hl:=h2.2
 rw[ae,ai,ai,aa1,aa1,aa0,aa0,aa0,aa2]
 have go:i<a.bl.length->∀f:Int,lD (aF a) done b (a.bl.length - i.toNat) i.toNat first=lD (aF a) done b (a.bl.length - (i.toNat+1)) (i.toNat+1) f->
   ∃m,m<a.bl.length - i.toNat/\ig Fu z8 CA (fun a=>a.a.bl.length - a.i.toNat) K m (Fu ⟨a,done,b,i+1,f⟩):=by
  intro hi f hf
  refine⟨_,?_,⟨a,done,b,i+1,f⟩,rfl,⟨h1,h2,by simp only;omega,by simp only;omega,h5⟩,rfl,?_⟩
  ·simp only;omega
  ·intro e _
   simp only[Out.run,xR,show(i+1).toNat=i.toNat+1 by omega,←hf]
   cases e
   ·exact ho2
   ·exact ho1
 refine⟨fun hi=>⟨⟨h3,hi⟩,⟨h3,by omega⟩,?_⟩,fun hi=>?_⟩
 ·have hn:=CJ (aF a) done b (a.bl.length - (i.toNat+1)) i.toNat first
  rw[show a.bl.length - (i.toNat+1)+1=a.bl.length - i.toNat by omega] at hn
  have hk:i.toNat<a.bl.length:=by omega
  have hop:(dI (aF a).body i.toNat).op=toInt (af (nth a.bl i.toNat) 0):=by
   rw[show(aF a).body=dh a.bl from rfl,j4 _ hk];rfl
  rw[hop] at hn
  rw[aC (n:=i+1) (by omega) (by omega),ae]
  refine⟨fun e=>go hi first (by rw[hn,e];rfl),fun e=>⟨(a,i,b),rfl,⟨h1,h2,h3,hi⟩,?_⟩⟩
  rw[e,Bool.false_or] at hn
  simp only[ae,Bool.not_eq_true',ab2,bne_iff_ne,bne_eq_false_iff_eq,aa0,aa2]
  refine⟨fun e1=>go hi first (by rw[hn,e1];rfl),fun e1=>⟨fun e2=>?_,fun e2=>⟨fun e3=>go hi i ?_,fun e3=>go hi first ?_⟩⟩⟩
  ·rw[hn,e1,aa4 e2] at ho1
   simp only[Bool.not_true,aa5,Bool.not_false,aa7,Int.toNat_of_nonneg h3] at ho1
   exact ho1
  ·rw[hn,e1,aa6 e2,aa6 e3]
   simp only[Bool.not_true,aa5,aa7,Int.toNat_of_nonneg h3]
  ·rw[hn,e1,aa6 e2,aa4 e3]
   simp only[Bool.not_true,aa5]
 ·rw[show a.bl.length - i.toNat=0 by omega] at ho2
  exact ho2
noncomputable def IJ(κ:Kp):Env:=(Mn κ).ar 170 3 (aR 2 Fu z8 CA)
theorem Wy(κ:Kp):aE (IJ κ):=(e52 κ).ar (Zf κ) (ZD κ)
theorem S7(κ:Kp):aj (IJ κ):=(Zf κ).ar aW
theorem y36(κ:Kp)(a:HY)(K:AV->List Dn.Obj->Prop):(ba (IJ κ) 12 170 [au a.a, .aB 0 0 (bV a.done).length, .mp 1] [.row 4 (bV a.done), .map 9 4 (bL a.b)] K)=(
 letI z1:=Pg.toProgram (Env.P (Mn κ))
 ag z1 170 3=ag z1 170 3/\∃(e1:HY),sp 38 [(1,AV.aB 0 0 (List.length (bV a.done))),(2,AV.mp 1),(3,AV.ptr 2 0 [] 0),(7,AV.int (-1)),(11,AV.ad 80
 a.a.bl),(12,AV.int (↑(List.length a.a.bl):Int)),(13,AV.int 0)] [Obj.row 4 (bV a.done),Dn.Obj.map 9 4 (bL a.b),Obj.box 48 (au a.a)]=sp 38 [(1,AV.aB 0
 0 (List.length (bV e1.done))),(2,AV.mp 1),(3,AV.ptr 2 0 [] 0),(7,AV.int e1.first),(11,AV.ad 80 e1.a.bl),(12,AV.int (↑(List.length e1.a.bl):Int)),
 (13,AV.int e1.i)] [Obj.row 4 (bV e1.done),Dn.Obj.map 9 4 (bL e1.b),Obj.box 48 (au e1.a)]/\(aV (aF e1.a)=true/\(aI (aa (bh 38 e1.a.hl e1.a.bl))<=100000/\
 List.length e1.a.bl<=100000)/\(0:Int)<=e1.i/\e1.i<=(↑(List.length e1.a.bl):Int)/\e1.done.length=List.length e1.a.bl)/\∀(e0:Bool),True->aw e0
 (K (AV.int (xR e1)) [Obj.row 4 (bV e1.done),Dn.Obj.map 9 4 (bL e1.b)]) (K (AV.int (xR e1)) [Obj.row 4 (bV e1.done),Dn.Obj.map 9 4 (bL e1.b)])):=by kernel_rfl
def Sh(a:HY):List AV×List Dn.Obj:=([au a.a, .aB 0 0 (bV a.done).length, .mp 1],[.row 4 (bV a.done), .map 9 4 (bL a.b)])
def IZ(a:HY):Prop:=aV (aF a.a)=true/\da a.a/\a.done.length=a.a.bl.length
def Oa(a:HY):Out (AV×List Dn.Obj):= .one (.int (aD (aF a.a) a.done a.b),[.row 4 (bV a.done), .map 9 4 (bL a.b)])
theorem fp(a:cf):(aF a).body.length=a.bl.length:=zm a.bl
theorem ZW(κ:Kp):bG (IJ κ) 12 170 (a0 Sh IZ Oa):=by
 refine bc ?_
 rintro⟨a,done,b,i,first⟩ K ⟨h1,h2,h5⟩ ho
 refine Eq.mpr (y36 κ ⟨a,done,b,i,first⟩ K) ?_
 simp only at h1 h2 h5
 have ho':K (.int (aD (aF a) done b)) [.row 4 (bV done), .map 9 4 (bL b)]:=ho
 unfold aD at ho'
 rw[fp] at ho'
 refine⟨rfl,⟨a,done,b,0, -1⟩,rfl,⟨h1,h2,by simp only;omega,by simp only;omega,h5⟩,?_⟩
 intro e _
 cases e
 ·exact ho'
 ·exact ho'
noncomputable def LM(κ:Kp):Env:=(IJ κ).az 170 (a0 Sh IZ Oa)
theorem ZC(κ:Kp):aE (LM κ):=(Wy κ).az (S7 κ) (ZW κ)
theorem Zb(κ:Kp):aj (LM κ):=(S7 κ).az aZ
def ints(l:List Nat):List AV:=l.map fun(k:Nat)=>AV.lit (.int .i64 (k:Int))
theorem og(l:List Nat):(ints l).length=l.length:=by simp[ints]
theorem KT(l m:List Nat):ints (l++m)=ints l++ints m:=by simp[ints]
structure Td where
 a:cf
 ks:List Nat
 done:List Bool
 b:List ByteArray
 i:Int
noncomputable abbrev QC(a:cf)(κ:Kp):Dn.Obj:=
 .loop (iw (Pr κ).toProgram 107 4 .ready none (ic (bM 40) [(0,au a),(1, .ptr 0 0 [] 0),(2, .nil),(3, .lit .nilIface),(4, .ptr 1 0 [] 0),(5, .ptr 3 0 [] 0),(7, .mp 2),(8,au a),(9, .bq 169 [.ptr 4 0 [] 0])]))
noncomputable abbrev FL(κ:Kp)(a:cf)(ks:List Nat)(b:List ByteArray):List Dn.Obj:=[.box 48 (au a), .box 35 (.aB 6 0 (ints ks).length), .map 9 4 (bL b), .box 178 (.mp 2), .box 48 (au a),QC a κ, .row 3 (ints ks)]
noncomputable abbrev I5(κ:Kp)(a:Td):S:=sp 38 [(0, .de 5),(1, .ptr 4 0 [] 0),(3, .mp 7),(4, .aB 8 0 (bV a.done).length),(13, .int a.a.bl.length),(14, .int a.i)] (FL κ a.a a.ks a.b++[.map 9 4 (bL a.b), .row 4 (bV a.done)])
theorem x17(κ:Kp)(a:cf)(ks:List AV)(es es':List (Value×AV))(done:List AV)(i:Int)(I:Nat->S->Prop)(n:Nat)(K:Exit->S->Prop):(vc (LM κ) 12 169 none 6 (ag (Pr κ).toProgram 169 3) (sp 38 [(0, .de 5),(1, .ptr 4 0 [] 0),(3, .mp 7),(4, .aB 8 0 done.length),(13, .int a.bl.length),(14, .int i)] [.box 48 (au a), .box 35 (.aB 6 0 ks.length), .map 9 4 es, .box 178 (.mp 2), .box 48 (au a),QC a κ, .row 3 ks, .map 9 4 es', .row 4 done]) (bB (LM κ) 169 3 6 I n K))=(
 letI z1:=iw Tryz.prog 107 4 LoopState.ready none (ic (bM 40) [(0,au a),(1,AV.ptr 0 0 [] 0),(2,AV.nil),(3,AV.lit Value.nilIface),(4,AV.ptr 1 0 [] 0),
  (5,AV.ptr 3 0 [] 0),(7,AV.mp 2),(8,au a),(9,AV.bq 169 [AV.ptr 4 0 [] 0])])
 letI z2:=sp 38 [] [Obj.box 48 (au a),Obj.box 35 (AV.aB 6 0 ks.length),Dn.Obj.map 9 4 es,Obj.box 178 (AV.mp 2),Obj.box 48 (au a),Dn.Obj.loop z1,Obj.row 3
  ks]
 letI z3:=IntKind.wrap IntKind.i64 (i+(1:Int))
 letI z4:=Value×AV
 letI z5:=AV.aB 6 0 (ks.length+1)
 aw (decide (i<(↑(a.bl.length):Int))) (∃(e5:HY),([au a,AV.aB 0 0 done.length,AV.mp 1],[Obj.row 4 done,Dn.Obj.map 9 4 es'])=([au e5.a,AV.aB 0 0
 (List.length (bV e5.done)),AV.mp 1],[Obj.row 4 (bV e5.done),Dn.Obj.map 9 4 (bL e5.b)])/\(aV (aF e5.a)=true/\(aI (aa (bh 38 e5.a.hl e5.a.bl))<=100000/\
 List.length e5.a.bl<=100000)/\e5.done.length=List.length e5.a.bl)/\aw (decide (aD (aF e5.a) e5.done e5.b<(0:Int))) (K Exit.ret z2) (aP (decide
 ((ks.length+1+1)*9<=70368744177664)) ((∃(e4:cf×Int),([au a,AV.int (aD (aF e5.a) e5.done e5.b)],aJ)=([au e4.1,AV.int e4.2],aJ)/\(aV (aF e4.1)
 =true/\(aI (aa (bh 38 e4.1.hl e4.1.bl))<=100000/\e4.1.bl.length<=100000)/\(0:Int)<=e4.2/\e4.2<(↑(e4.1.bl.length):Int))/\∃(e3:List AV×List
 z4),([AV.mp 0,AV.ad 9 (strs (cU (aF e4.1) e4.2.toNat))],[Dn.Obj.map 9 4 es])=([AV.mp 0,AV.ad 9 e3.1],[Dn.Obj.map 9 4 e3.2])/\bj e3/\aP (decide ((0:
 Int)<=aD (aF e5.a) e5.done e5.b)&&decide (aD (aF e5.a) e5.done e5.b<(↑(done.length):Int))) (∃(e2:cf×Int),([au a,AV.int (aD (aF e5.a) e5.done
 e5.b)],aJ)=([au e2.1,AV.int e2.2],aJ)/\(aV (aF e2.1)=true/\(aI (aa (bh 38 e2.1.hl e2.1.bl))<=100000/\e2.1.bl.length<=100000)/\(0:Int)<=e2.2/\
 e2.2<(↑(e2.1.bl.length):Int))/\∃(e1:List AV×List z4),([AV.mp 0,AV.ad 9 (strs (cU (aF e2.1) e2.2.toNat))],[Dn.Obj.map 9 4 (bL e5.b)])=([AV.mp 0,
 AV.ad 9 e1.1],[Dn.Obj.map 9 4 e1.2])/\bj e1/\∃(e0:Nat),e0<n/\I e0 (sp 38 [(0,AV.de 5),(1,AV.ptr 4 0 [] 0),(3,AV.mp 7),(4,AV.aB 8 0
 done.length),(13,AV.int (↑(a.bl.length):Int)),(14,AV.int z3)] [Obj.box 48 (au a),Obj.box 35 z5,Dn.Obj.map 9 4 (fo e3.2 e3.1),Obj.box 178 (AV.mp 2),
 Obj.box 48 (au a),Dn.Obj.loop z1,Obj.row 3 (List.take ks.length ks++[AV.int (aD (aF e5.a) e5.done e5.b)]),Dn.Obj.map 9 4 (fo e1.2 e1.1),Obj.row 4 (bJ (bV
 e5.done) (0+Int.toNat (aD (aF e5.a) e5.done e5.b)) (AV.bool true))])))/\∃(e4:cf×Int),([au a,AV.int (aD (aF e5.a) e5.done e5.b)],aJ)=([au e4.1,
 AV.int e4.2],aJ)/\(aV (aF e4.1)=true/\(aI (aa (bh 38 e4.1.hl e4.1.bl))<=100000/\e4.1.bl.length<=100000)/\(0:Int)<=e4.2/\e4.2<(↑(e4.1.bl.length):
 Int))/\∃(e3:List AV×List z4),([AV.mp 0,AV.ad 9 (strs (cU (aF e4.1) e4.2.toNat))],[Dn.Obj.map 9 4 es])=([AV.mp 0,AV.ad 9 e3.1],[Dn.Obj.map 9 4
 e3.2])/\bj e3/\aP (decide ((0:Int)<=aD (aF e5.a) e5.done e5.b)&&decide (aD (aF e5.a) e5.done e5.b<(↑(done.length):Int))) (∃(e2:cf×Int),([au a,
 AV.int (aD (aF e5.a) e5.done e5.b)],aJ)=([au e2.1,AV.int e2.2],aJ)/\(aV (aF e2.1)=true/\(aI (aa (bh 38 e2.1.hl e2.1.bl))<=100000/\e2.1.bl.length<=
 100000)/\(0:Int)<=e2.2/\e2.2<(↑(e2.1.bl.length):Int))/\∃(e1:List AV×List z4),([AV.mp 0,AV.ad 9 (strs (cU (aF e2.1) e2.2.toNat))],[Dn.Obj.map 9
 4 (bL e5.b)])=([AV.mp 0,AV.ad 9 e1.1],[Dn.Obj.map 9 4 e1.2])/\bj e1/\∃(e0:Nat),e0<n/\I e0 (sp 38 [(0,AV.de 5),(1,AV.ptr 4 0 [] 0),(3,AV.mp 7),
 (4,AV.aB 8 0 done.length),(13,AV.int (↑(a.bl.length):Int)),(14,AV.int z3)] [Obj.box 48 (au a),Obj.box 35 z5,Dn.Obj.map 9 4 (fo e3.2 e3.1),Obj.box 178
 (AV.mp 2),Obj.box 48 (au a),Dn.Obj.loop z1,Obj.row 3 (List.take ks.length ks++[AV.int (aD (aF e5.a) e5.done e5.b)]),Dn.Obj.map 9 4 (fo e1.2 e1.1),Obj.row
 4 (bJ (bV e5.done) (0+Int.toNat (aD (aF e5.a) e5.done e5.b)) (AV.bool true))]))))) (K (Exit.exit 0) z2)):=by kernel_rfl
theorem pw: ∀(l:List Bool) (k:Nat),bJ (bV l) k (.lit (.bool true))=bV (l.set k true)
 |[],_=>rfl
 |_::_,0=>rfl
 |a::l,k+1=>by
  have:=pw l k
  simp only[bV] at this
  simp only[bV,ac0,bJ,List.set_cons_succ,this]
noncomputable def eO(a:Td):List Nat:=nS (aF a.a) (a.a.bl.length - a.i.toNat) a.done a.b
def Eb(a:Td):Prop:=aV (aF a.a)=true/\da a.a/\0<=a.i/\a.i<=a.a.bl.length/\a.done.length=a.a.bl.length/\a.ks.length<=a.i.toNat
noncomputable def K7(κ:Kp)(a:Td):Out (Exit×S):= .all (fun _:Bool=>True) fun e=> .aw e (.one (.ret,sp 38 [] (FL κ a.a (a.ks++eO a) (a.b++eP (aF a.a) (eO a)))))
 (.one (.exit 0,sp 38 [] (FL κ a.a (a.ks++eO a) (a.b++eP (aF a.a) (eO a)))))
theorem rA{a:cf}(h:da a){k:Nat}(hk:k<a.bl.length):(cU (aF a) k).length<=200000:=by
 have hlit:=kr h hk
 have hol:=r7 h k
 have hc:=ET (cR (nth a.bl k))
 have hv:=cy [(cR (nth a.bl k)).x]
 have e1:=cy [(cR (nth a.bl k)).x,(cR (nth a.bl k)).y]
 have e2:=cy (cR (nth a.bl k)).a.l
 unfold cU
 rw[show(aF a).body=dh a.bl from rfl,j4 _ hk]
 cases decide (7<=(cR (nth a.bl k)).op) with
 |true=>rw[aa7,ab8];omega
 |false=>
  rw[aa5]
  simp only[ei,iH,ab8] at hlit⊢;omega
theorem l17(κ:Kp):bf (LM κ) 12 169 3 (aR 6 (I5 κ) Eb (K7 κ)):=by
 refine aG (fun a=>a.a.bl.length - a.i.toNat) ?_
 rintro⟨a,ks,done,b,i⟩ K ⟨h1,h2,h3,h4,h5,h6⟩ ho
 simp only at h1 h2 h3 h4 h5 h6
 rw[show(LM κ).P=Pr κ from rfl]
 refine Eq.mpr (x17 κ a (ints ks) (bL b) (bL b) (bV done) i _ _ K) ?_
 have ho1:=ho true trivial
 have ho2:=ho false trivial
 simp only[Out.run,aw,eO] at ho1 ho2
 simp only[and_self]
 have hbl:=iV done
 have hil:=og ks
 have hl:=h2.2
 rw[ae,aa0,aa2]
 refine⟨fun hi=>⟨⟨a,done,b,0,0⟩,rfl,⟨h1,h2,h5⟩,?_⟩,fun hi=>?_⟩
 ·have hw:=CD (aF a) (a.bl.length - (i.toNat+1)) done b
  rw[show a.bl.length - (i.toNat+1)+1=a.bl.length - i.toNat by omega] at hw
  rw[ae,aa0,aa2]
  refine⟨fun e=>?_,fun e=>?_⟩
  ·rw[hw,aa6 e] at ho1
   simp only[aa7,List.append_nil,eP,List.flatMap_nil] at ho1
   exact ho1
  ·rw[hw,aa4 e,aa5] at ho1 ho2
   rcases pH (aF a) done b with e0|⟨e1,e2,e3,_⟩
   ·rw[e0] at e;omega
   have e2':=e2
   rw[fp] at e2'
   have hg:=rA h2 e2'
   rw[ai,aa0]
   refine⟨by omega,(a,aD (aF a) done b),rfl,⟨h1,h2,e1,by simp only;omega⟩,(strs (cU (aF a) (aD (aF a) done b).toNat),bL b),rfl,by simp only[bj,aO,aL];omega,?_⟩
   rw[ai,aa1,aa0,aa0]
   refine⟨⟨e1,by show aD (aF a) done b<_;omega⟩,(a,aD (aF a) done b),rfl,⟨h1,h2,e1,by simp only;omega⟩,(strs (cU (aF a) (aD (aF a) done b).toNat),bL b),rfl,by simp only[bj,aO,aL];omega,?_⟩
   rw[aC (n:=i+1) (by omega) (by omega)]
   refine⟨_,?_,⟨a,ks++[(aD (aF a) done b).toNat],done.set (aD (aF a) done b).toNat true,b++cU (aF a) (aD (aF a) done b).toNat,i+1⟩,?_,⟨h1,h2,by simp only;omega,by simp only;omega,by simpa using h5,by simp only[ab8,List.length_singleton];omega⟩,rfl,?_⟩
   ·simp only;omega
   ·simp only[List.take_length]
    simp only[I5,FL,List.cons_append,List.nil_append,Nat.zero_add,pw,lF,iV,List.length_set,KT,og,ab8,List.length_singleton]
    simp only[ints,ac0,List.map_nil,Int.toNat_of_nonneg e1,List.length_singleton]
   ·have hg2: ∀l,b++eP (aF a) ((aD (aF a) done b).toNat::l)=(b++cU (aF a) (aD (aF a) done b).toNat)++eP (aF a) l:=fun l=>by
     simp only[eP,List.flatMap_cons,List.append_assoc]
    have hk2: ∀l,ks++(aD (aF a) done b).toNat::l=(ks++[(aD (aF a) done b).toNat])++l:=fun l=>by simp
    rw[hg2,hk2] at ho1 ho2
    intro f _
    simp only[Out.run,eO,show(i+1).toNat=i.toNat+1 by omega]
    cases f
    ·exact ho2
    ·exact ho1
 ·rw[show a.bl.length - i.toNat=0 by omega] at ho2
  simp only[nS,List.append_nil,eP,List.flatMap_nil] at ho2
  exact ho2
noncomputable def Gd(κ:Kp):Env:=(LM κ).ar 169 3 (aR 6 (I5 κ) Eb (K7 κ))
theorem Wu(κ:Kp):aE (Gd κ):=(ZC κ).ar (Zb κ) (l17 κ)
theorem Mt(κ:Kp):aj (Gd κ):=(Zb κ).ar aW
end Go.Proofs.YtioeffnadipbaaaGreatDoor
namespace Go.Proofs.YtioeffnadipbaaaGreatDoor
open Go Go.Dn Go.Rl Go.Proofs Go.RowKit Go.Extern.Stop Go.Stop Go.Extern
theorem SE(v:Value)(xT:TypeId)(w:World):(Instr.typeAssert (.iface 253 v) xT 259 true).run Tryz.prog w= .ok (.tuple #[.nilIface, .bool false]) w:=run_typeAssert_lacksB Tryz.underlying259 (by kernel_rfl) (by kernel_rfl) v xT w
theorem HL(v:Value)(xT:TypeId)(w:World):(Instr.typeAssert (.iface 253 v) xT 261 true).run Tryz.prog w= .ok (.tuple #[.nilIface, .bool false]) w:=run_typeAssert_lacksB Tryz.underlying261 (by kernel_rfl) (by kernel_rfl) v xT w
theorem AW(v:Value)(xT:TypeId)(w:World):(Instr.typeAssert (.iface 253 v) xT 263 true).run Tryz.prog w= .ok (.tuple #[.iface 253 v, .bool true]) w:=run_typeAssert_hasB Tryz.underlying263 (by kernel_rfl) v xT w
theorem wJ(v:Value)(w:World):(Go.method 411 253 v "Unwrap").run Tryz.prog w= .ok (218,v) w:=by kernel_rfl
set_option maxRecDepth 4000 in
theorem GH(a:Addr)(w:World):
  Calls Tryz.prog 158 #[.iface 273 (.pointer (some a)), .iface 273 (.pointer (some a)), .bool true] w fun e w'=>e= .returned (.bool true)/\w'=w:=by
 obtain⟨i,hi,hcmp⟩:=Option.map_eq_some_iff.1 CI
 obtain⟨j,hj,hjs⟩:=Option.map_eq_some_iff.1 CS
 have heq:=run_eql_iface_ptr_same (P:=Tryz.prog) w a Tryz.underlying171 Tryz.underlying273 hi hcmp hj
 go_enter Tryz.func158,Tryz.ntmps158
 go_wp2
 refine wp_loop_rounds 1 ?_
 rw[rounds_succ]
 go_wp2
 go_ret
 exact⟨rfl,rfl⟩
set_option maxRecDepth 8000 in
theorem MN(ja ra b:Addr)(cap:Nat)(w:World)(h1:w.cell? ja=some (.slice (some ra) 1 cap))(h2:w.cell? ra=some (.iface 273 (.pointer (some b)))):
  Calls Tryz.prog 108 #[.iface 253 (.pointer (some ja)), .iface 273 (.pointer (some b))] w fun e w'=>e= .returned (.bool true)/\w'=w:=by
 have h8:= @run_callFunc_extern Tryz.prog 157 _ Extern.ReflectliteType.typeOf Tryz.func157 (by kernel_rfl) (by kernel_rfl) (by kernel_rfl) (by kernel_rfl)
 have h32:= @run_callFunc_extern Tryz.prog 222 _ (Extern.ReflectliteType.method fun t=>do Go.Extern.Rtype.noPackHeld "Comparable" t;pure (.bool (←typeInfo t).comparable)) Tryz.func222 (by kernel_rfl) (by kernel_rfl) (by kernel_rfl) (by kernel_rfl)
 have tT:=uP
 have cT:=mB
 have mR:=ie
 have hne:=run_eql_iface_types (P:=Tryz.prog) 253 273 (.pointer (some ja)) (.pointer (some b)) Tryz.underlying171 (by decide)
 have n1:=SE
 have n2:=HL
 have n3:=AW
 have mU:=wJ
 go_enter Tryz.func108,Tryz.ntmps108
 go_wp2
 refine wp_loop_rounds 1 ?_
 rw[rounds_succ]
 go_wp2
 refine wp_loop_rounds 1 ?_
 rw[rounds_succ]
 go_wp2_with (first|(go_at_call 158;refine(GH b _).mono ?_;rintro e w' ⟨rfl,rfl⟩))
 all_goals (go_ret;exact⟨rfl,rfl⟩)
end Go.Proofs.YtioeffnadipbaaaGreatDoor
namespace Go.Proofs.YtioeffnadipbaaaGreatDoor
open Go Go.Dn Go.Rl Go.Proofs
attribute [local irreducible] ba vc
set_option maxRecDepth 20000
noncomputable def Qh(κ:Kp):Env:=(Gd κ).ar 156 3 (km (Gd κ) 12 156 3 3)
noncomputable def SF(κ:Kp):Env:=(Qh κ).ar 156 12 (km (Qh κ) 12 156 12 3)
theorem eJ1(κ:Kp):aE (Qh κ):=(Wu κ).ar (Mt κ) (rO (Mt κ) 3)
theorem UF(κ:Kp):aj (Qh κ):=(Mt κ).ar (kO (Mt κ) 3)
theorem ZJ(κ:Kp):aE (SF κ):=(eJ1 κ).ar (UF κ) (rO (UF κ) 3)
theorem XW(κ:Kp):aj (SF κ):=(UF κ).ar (kO (UF κ) 3)
theorem yJ(κ:Kp)(K:AV->List Dn.Obj->Prop):(ba (SF κ) 12 156 [.ad 171 [.lit (lO κ)]] [] K)=(
 letI z1:=Pg.toProgram (Env.P (Gd κ))
 letI z2:=Pg.toProgram (Env.P (Qh κ))
 ag z1 156 3=ag z1 156 3/\ag z2 156 12=ag z2 156 12/\K (AV.iN 253 (AV.ptr 0 0 [] 0)) [Obj.box 255 (AV.agg [AV.aB 1 0 1]),Obj.row 171 [AV.lit (Value.iface
 273 (Value.pointer (some (Kp.stuck κ))))]]):=by kernel_rfl
abbrev yp:AV:= .iN 253 (.ptr 0 0 [] 0)
abbrev zn(κ:Kp):List Dn.Obj:=[.box 255 (.agg [.aB 1 0 1]), .row 171 [.lit (lO κ)]]
def YG(κ:Kp)(_:Unit):List AV×List Dn.Obj:=([.ad 171 [.lit (lO κ)]],[])
def Ee(_:Unit):Prop:=True
def QK(κ:Kp)(_:Unit):Out (AV×List Dn.Obj):= .one (yp,zn κ)
theorem cJ(κ:Kp):bG (SF κ) 12 156 (a0 (YG κ) Ee (QK κ)):=by
 refine bc ?_
 rintro⟨⟩ K _ ho
 refine Eq.mpr (yJ κ K) ?_
 exact⟨rfl,rfl,ho⟩
def Y9(κ:Kp)(_:Unit):List AV×List Dn.Obj:=([yp, .lit (lO κ)],zn κ)
def RI(κ:Kp)(_:Unit):Out (AV×List Dn.Obj):= .one (.bool true,zn κ)
theorem qI(κ:Kp): ∀args st K,a0 (Y9 κ) Ee (RI κ) args st K->bD (Pr κ) 108 args st K:=by
 rintro args st K ⟨_,h1,_,h3⟩
 obtain⟨rfl,rfl⟩:=Prod.mk.inj h1
 refine⟨⟨_,Tryz.func108,rfl⟩,fun C vs hC hI hst hm=>?_⟩
 obtain⟨vs⟩:=vs
 match vs,hm with
 | [v1,v2],hm=>
  simp only[MT] at hm
  obtain⟨a1,a2,a3,b1,b2,b3,_⟩:=hm
  have hv2:v2=lO κ:=aH (C:=C) ⟨b1,b2,b3⟩
  have r1:Rel C yp v1:=⟨a1,a2,a3⟩
  obtain⟨c1,_⟩:=gp r1 rfl (by simp)
  simp only[M,c1] at a3
  obtain⟨u,u1,u2,u3,u4,v,v1',v2',v3⟩:=a3
  have hv1:v1= .iface 253 u:=by simpa using u1
  have hu:u.cells= #[u]:=gE (by rw[u2];rfl)
  have huv:v=u:=by rw[hu] at v1';simpa using v1'.symm
  subst huv
  have o0:=hI.obj 0 (by rw[hst];simp)
  have o1:=hI.obj 1 (by rw[hst];simp)
  rw[hst] at o0 o1
  simp only[an,jF] at o0 o1
  obtain⟨_,_,c,e,g1,_,g2⟩:=o0
  simp only[M,ML] at g2
  obtain⟨⟨_,s,s1,_,s2⟩,_⟩:=g2
  have s3:=s2.1 171 [.lit (lO κ)] (by rw[hst];rfl)
  obtain⟨_,s3⟩:=s3
  rcases s3 with⟨_,_,_,s3⟩|⟨n1,cap,q,rfl,s3,s4,_⟩
  ·cases s3
  have hq:q=⟨(C.ι 1).block,0,none⟩:=by
   rcases s3 with s3|⟨s3,s5⟩
   ·rw[s3,Nat.zero_mul]
   ·omega
  subst hq
  obtain⟨_,o1⟩:=o1
  rcases o1 with⟨o1,_⟩|⟨_,_,c',k1,_,_,_,k2⟩
  ·rw[n1] at o1;cases o1
  simp only[MR,M] at k2
  obtain⟨⟨k2,_⟩,_⟩:=k2
  have hp:v= .pointer (some ⟨(C.ι 0).block,0,none⟩):=(v3.2.1 255 _ (by rw[hst];rfl)).2
  subst hp
  subst hv1 hv2
  refine(callsIn_wide.2 (MN ⟨(C.ι 0).block,0,none⟩ ⟨(C.ι 1).block,0,none⟩ κ.stuck cap C.w s1 k2)).mono ?_
  rintro e' w' ⟨rfl,rfl⟩
  exact⟨_, .bool true,C,rfl,rfl,rfl,hI,aQ rfl,Ext.refl _ (by rw[hst];exact Nat.le_refl _),by rw[hst];exact h3⟩
 |[],hm=>simp[MT] at hm
 |[_],hm=>simp[MT] at hm
 |_::_::_::_,hm=>simp[MT] at hm
noncomputable def EJ(κ:Kp):Env:=((SF κ).az 156 (a0 (YG κ) Ee (QK κ))).az 108 (a0 (Y9 κ) Ee (RI κ))
theorem eJ(κ:Kp):aE (EJ κ):=((ZJ κ).az (XW κ) (cJ κ)).fT (qI κ)
theorem mJ(κ:Kp):aj (EJ κ):=((XW κ).az aZ).az aZ
theorem y17(κ:Kp)(a:cf)(K:AV->List Dn.Obj->Prop):(ba (EJ κ) 12 107 [au a] [] K)=(
 letI z2:=Value.iface 273 (Value.pointer (some (Kp.stuck κ)))
 letI z1:=∃(e0:Unit),([AV.ad 171 [AV.lit z2]],aJ)=([AV.ad 171 [AV.lit z2]],aJ)/\True/\K (AV.aX [AV.nil,AV.iN 253 (AV.ptr 0 0 [] 0)]) [Obj.box 255
  (AV.agg [AV.aB 1 0 1]),Obj.row 171 [AV.lit z2]]
 letI z3:=a.bl.length
 letI z4:=Value×AV
 letI z5:=Pg.toProgram (Env.P (LM κ))
 letI z6:=Int.toNat (↑z3:Int)
 aP (true&&decide ((↑z3:Int)<=(↑z3:Int))&&decide ((Int.toNat (↑z3:Int)+1)*2<=70368744177664)&&true) (ag z5 169 3=ag z5 169 3/\∃(e4:Td),
 sp 38 [(0,AV.de 5),(1,AV.ptr 4 0 [] 0),(3,AV.mp 7),(4,AV.aB 8 0 z6),(13,AV.int (↑z3:Int)),(14,AV.int 0)] [Obj.box 48 (au a),Obj.box 35 (AV.aB 6 0
 0),Dn.Obj.map 9 4 [],Obj.box 178 (AV.mp 2),Obj.box 48 (au a),Dn.Obj.loop (iw Tryz.prog 107 4 LoopState.ready none (ic (bM 40) [(0,au a),(1,AV.ptr 0 0 []
 0),(2,AV.nil),(3,AV.lit Value.nilIface),(4,AV.ptr 1 0 [] 0),(5,AV.ptr 3 0 [] 0),(7,AV.mp 2),(8,au a),(9,AV.bq 169 [AV.ptr 4 0 [] 0])])),Obj.row 3
 [],Dn.Obj.map 9 4 [],Obj.row 4 (eM (AV.bool false) z6)]=sp 38 [(0,AV.de 5),(1,AV.ptr 4 0 [] 0),(3,AV.mp 7),(4,AV.aB 8 0 (List.length (bV e4.done))),
 (13,AV.int (↑(List.length e4.a.bl):Int)),(14,AV.int e4.i)] [Obj.box 48 (au e4.a),Obj.box 35 (AV.aB 6 0 (List.length (ints e4.ks))),Dn.Obj.map 9 4 (bL
 e4.b),Obj.box 178 (AV.mp 2),Obj.box 48 (au e4.a),Dn.Obj.loop (iw Tryz.prog 107 4 LoopState.ready none (ic (bM 40) [(0,au e4.a),(1,AV.ptr 0 0 [] 0),(2,
 AV.nil),(3,AV.lit Value.nilIface),(4,AV.ptr 1 0 [] 0),(5,AV.ptr 3 0 [] 0),(7,AV.mp 2),(8,au e4.a),(9,AV.bq 169 [AV.ptr 4 0 [] 0])])),Obj.row 3
 (ints e4.ks),Dn.Obj.map 9 4 (bL e4.b),Obj.row 4 (bV e4.done)]/\(aV (aF e4.a)=true/\(aI (aa (bh 38 e4.a.hl e4.a.bl))<=100000/\List.length e4.a.bl<=
 100000)/\(0:Int)<=e4.i/\e4.i<=(↑(List.length e4.a.bl):Int)/\e4.done.length=List.length e4.a.bl/\e4.ks.length<=e4.i.toNat)/\∀(e3:Bool),True->
 aw e3 (aw (decide ((↑(List.length (ints (e4.ks++eO e4))):Int)<(↑(List.length e4.a.bl):Int))) (z1/\z1) ((∃(e2:List AV),([AV.ad 38 e4.a.hl],aJ)=
 ([AV.ad 38 e2],aJ)/\bw e2/\∃(e1:List AV×List z4),([AV.mp 0,AV.ad 9 (List.take (List.length (aq (aa e2))) (List.drop 0 (strs (aq (aa e2)))))],
 [Dn.Obj.map 9 4 (bL (e4.b++eP (aF e4.a) (eO e4)))])=([AV.mp 0,AV.ad 9 e1.1],[Dn.Obj.map 9 4 e1.2])/\bj e1/\aw (!gk e1.2 e1.1) z1 (K (AV.aX [AV.aB 0 0
 (List.length (ints (e4.ks++eO e4))),AV.lit Value.nilIface]) [Obj.row 3 (ints (e4.ks++eO e4))]))/\∃(e2:List AV),([AV.ad 38 e4.a.hl],aJ)=([AV.ad 38
 e2],aJ)/\bw e2/\∃(e1:List AV×List z4),([AV.mp 0,AV.ad 9 (List.take (List.length (aq (aa e2))) (List.drop 0 (strs (aq (aa e2)))))],[Dn.Obj.map 9 4 (bL
 (e4.b++eP (aF e4.a) (eO e4)))])=([AV.mp 0,AV.ad 9 e1.1],[Dn.Obj.map 9 4 e1.2])/\bj e1/\aw (!gk e1.2 e1.1) z1 (K (AV.aX [AV.aB 0 0 (List.length (ints
 (e4.ks++eO e4))),AV.lit Value.nilIface]) [Obj.row 3 (ints (e4.ks++eO e4))]))) (aw (decide ((↑(List.length (ints (e4.ks++eO e4))):Int)<(↑(List.length
 e4.a.bl):Int))) (z1/\z1) ((∃(e2:List AV),([AV.ad 38 e4.a.hl],aJ)=([AV.ad 38 e2],aJ)/\bw e2/\∃(e1:List AV×List z4),([AV.mp 0,AV.ad 9
 (List.take (List.length (aq (aa e2))) (List.drop 0 (strs (aq (aa e2)))))],[Dn.Obj.map 9 4 (bL (e4.b++eP (aF e4.a) (eO e4)))])=([AV.mp 0,AV.ad 9 e1.1],
 [Dn.Obj.map 9 4 e1.2])/\bj e1/\aw (!gk e1.2 e1.1) z1 (K (AV.aX [AV.aB 0 0 (List.length (ints (e4.ks++eO e4))),AV.lit Value.nilIface]) [Obj.row 3 (ints
 (e4.ks++eO e4))]))/\∃(e2:List AV),([AV.ad 38 e4.a.hl],aJ)=([AV.ad 38 e2],aJ)/\bw e2/\∃(e1:List AV×List z4),([AV.mp 0,AV.ad 9 (List.take
 (List.length (aq (aa e2))) (List.drop 0 (strs (aq (aa e2)))))],[Dn.Obj.map 9 4 (bL (e4.b++eP (aF e4.a) (eO e4)))])=([AV.mp 0,AV.ad 9 e1.1],[Dn.Obj.map 9
 4 e1.2])/\bj e1/\aw (!gk e1.2 e1.1) z1 (K (AV.aX [AV.aB 0 0 (List.length (ints (e4.ks++eO e4))),AV.lit Value.nilIface]) [Obj.row 3 (ints (e4.ks++eO
 e4))]))))):=by kernel_rfl
def AM(a:cf):List AV×List Dn.Obj:=([au a],[])
def K0(a:cf):Prop:=aV (aF a)=true/\da a
noncomputable def KB(κ:Kp)(a:cf):Out (AV×List Dn.Obj):= .aw (jI (aF a)) (.one (.aX [.aB 0 0 (bP (aF a)).length, .lit .nilIface],[.row 3 (ints (bP (aF a)))])) (.one (.aX [.nil,yp],zn κ))
theorem sO(n:Nat):eM (.lit (.bool false)) n=bV (List.replicate n false):=by simp[eM,bV]
theorem c17(κ:Kp):bG (EJ κ) 12 107 (a0 AM K0 (KB κ)):=by
 refine bc ?_
 rintro a K ⟨h1,h2⟩ ho
 refine Eq.mpr (y17 κ a K) ?_
 simp only[and_self]
 simp only[KB,Out.run,ae] at ho
 have hl:=h2.2
 have hw:eO ⟨a,[],List.replicate a.bl.length false,[],0⟩=bP (aF a):=by
  unfold eO bP
  rw[fp];rfl
 have hc:=oG h2
 have hv:=cy (aa a.hl)
 have hs:jI (aF a)=(decide (a.bl.length<=(bP (aF a)).length)&&hasB (eP (aF a) (bP (aF a))) (aq (aa a.hl))):=by
  unfold jI;rw[fp];rfl
 rw[hs] at ho
 simp only[ai,aa1,aa0,Int.toNat_natCast]
 refine⟨⟨⟨⟨trivial,by omega⟩,by omega⟩,trivial⟩,trivial,⟨a,[],List.replicate a.bl.length false,[],0⟩,?_,⟨h1,h2,by simp only;omega,by simp only;omega,by simp,by simp⟩,?_⟩
 ·simp only[sO,iV,List.length_replicate];rfl
 ·intro y _
  rw[hw]
  cases y<;>
  ·simp only[og,List.nil_append,ae,aa0,aa2,Bool.not_eq_true',ab2,reduceCtorEq,false_implies,true_implies,and_true,true_and]
   refine⟨fun e=>?_,fun e=>?_⟩
   ·rw[aa4 (show ¬ a.bl.length<=(bP (aF a)).length by omega),Bool.false_and] at ho
    exact⟨(),ho.2 rfl⟩
   ·rw[aa6 (show a.bl.length<=(bP (aF a)).length by omega),ab9] at ho
    refine⟨a.hl,rfl,hc,(strs (aq (aa a.hl)),bL (eP (aF a) (bP (aF a)))),?_,?_,?_⟩
    ·simp only[ab0,cX]
    ·simp only[bj,aO,aL];omega
    ·simp only[eV]
     exact⟨fun e2=>⟨(),ho.2 e2⟩,fun e2=>ho.1 e2⟩
noncomputable def SO(κ:Kp):Env:=(EJ κ).az 107 (a0 AM K0 (KB κ))
theorem e17(κ:Kp):aE (SO κ):=(eJ κ).az (mJ κ) (c17 κ)
theorem X2(κ:Kp):aj (SO κ):=(mJ κ).az aZ
theorem y7(κ:Kp)(a:cf)(K:AV->List Dn.Obj->Prop):(ba (SO κ) 12 62 [au a] [] K)=(
 letI z1:=Value.iface 273 (Value.pointer (some (Kp.stuck κ)))
 aP (decide (a.hl.length<=9223372036854775807)&&decide (a.bl.length<=9223372036854775807)) (aw (!aV {head:={rel:=a.rel,l:=aa a.hl},body:=dh a.bl}) (K (AV.aX [AV.nil,AV.int 30]) []) (∃(e1:cf),([AV.agg [AV.agg [AV.str a.rel,AV.ad 38 a.hl],AV.ad 80 a.bl,AV.int a.line]],aJ)=([AV.agg [AV.agg [AV.str e1.rel,AV.ad 38 e1.hl],AV.ad 80 e1.bl,AV.int e1.line]],aJ)/\(aV (aF e1)=true/\aI (aa (bh 38 e1.hl e1.bl))<=100000/\e1.bl.length<=100000)/\aw (jI (aF e1)) (K (AV.aX [AV.aB 0 0 (List.length (bP (aF e1))),AV.int 0]) [Obj.row 3 (ints (bP (aF e1)))]) (∃(e0:Unit),([AV.iN 253 (AV.ptr 0 0 [] 0),AV.lit z1],[Obj.box 255 (AV.agg [AV.aB 1 0 1]),Obj.row 171 [AV.lit z1]])=([AV.iN 253 (AV.ptr 0 0 [] 0),AV.lit z1],[Obj.box 255 (AV.agg [AV.aB 1 0 1]),Obj.row 171 [AV.lit z1]])/\True/\K (AV.aX [AV.nil,AV.int 60]) [])))):=by kernel_rfl
def Hk(a:cf):Out (AV×List Dn.Obj):= .aw (aV (aF a)) (.aw (jI (aF a)) (.one (.aX [.aB 0 0 (bP (aF a)).length, .int 0],[.row 3 (ints (bP (aF a)))])) (.one (.aX [.nil, .int 60],[]))) (.one (.aX [.nil, .int 30],[]))
theorem c7(κ:Kp):bG (SO κ) 12 62 (a0 AM da Hk):=by
 refine bc ?_
 rintro a K h2 ho
 refine Eq.mpr (y7 κ a K) ?_
 simp only[Hk,Out.run,ae] at ho
 have hc:=oG h2
 have hl1:=ee (aa a.hl)
 rw[du] at hl1
 have hl:=h2.2
 rw[ai,aa1,aa0,aa0]
 refine⟨⟨by omega,by omega⟩,?_⟩
 have hr:aV ⟨⟨a.rel,aa a.hl⟩,dh a.bl⟩=aV (aF a):=rfl
 rw[hr]
 simp only[ae,Bool.not_eq_true',ab2]
 refine⟨fun e=>ho.2 e,fun e=>⟨a,rfl,⟨e,h2⟩,fun e2=>(ho.1 e).1 e2,fun e2=>⟨(),trivial,trivial,(ho.1 e).2 e2⟩⟩⟩
noncomputable def E7(κ:Kp):Env:=(SO κ).az 62 (a0 AM da Hk)
theorem e7(κ:Kp):aE (E7 κ):=(e17 κ).az (X2 κ) (c7 κ)
theorem m7(κ:Kp):aj (E7 κ):=(X2 κ).az aZ
def eG(es:List (Value×AV))(s:ByteArray):Bool:=kD es s
structure DB where
 vs:List ByteArray
 i:Int
 es:List (Value×AV)
abbrev Bu(R:List AV)(es:List (Value×AV)):List Dn.Obj:=[.row 9 R, .box 178 (.mp 2), .map 9 4 es]
abbrev MX:AV:= .bq 116 [.ptr 1 0 [] 0]
abbrev HP(a:DB):S:=sp 19 [(0, .aB 0 0 (strs a.vs).length),(1,MX),(7, .int (strs a.vs).length),(8, .int a.i)] (Bu (strs a.vs) a.es)
theorem xFB(κ:Kp)(a:DB)(I:Nat->S->Prop)(n:Nat)(K:Exit->S->Prop):(vc (nE κ) 12 161 none 3 (ag (Pr κ).toProgram 161 2) (HP a) (bB (nE κ) 161 2 3 I n K))=(
 letI z1:=List.length (strs a.vs)
 aw (decide (a.i<(↑z1:Int))) (aP (decide ((0:Int)<=a.i)&&decide (a.i<(↑z1:Int))) (aw (!Dn.toBool (dO a.es (Value.string (toStr (nth (strs a.vs) (0+
 a.i.toNat)))) (AV.bool false))) (K Exit.ret (sp 19 [(4,AV.int a.i)] [Obj.row 9 (strs a.vs),Obj.box 178 (AV.mp 2),Dn.Obj.map 9 4 a.es])) (∃(e0:Nat),e0<n
 /\I e0 (sp 19 [(0,AV.aB 0 0 z1),(1,AV.bq 116 [AV.ptr 1 0 [] 0]),(7,AV.int (↑z1:Int)),(8,AV.int (IntKind.wrap IntKind.i64 (a.i+(1:Int))))] [Obj.row
 9 (strs a.vs),Obj.box 178 (AV.mp 2),Dn.Obj.map 9 4 a.es])))) (K (Exit.exit 0) (sp 19 [] [Obj.row 9 (strs a.vs),Obj.box 178 (AV.mp 2),Dn.Obj.map 9 4 a.es]))):=by kernel_rfl
def CV(a:DB):Prop:=a.vs.length<=aL/\0<=a.i/\a.i<=a.vs.length/\∀s,s∈a.vs.take a.i.toNat->eG a.es s=true
def BN(a:DB):Out (Exit×S):=
 .aw (a.vs.all (eG a.es)) (.one (.exit 0,sp 19 [] (Bu (strs a.vs) a.es)))
  (.all (fun j:Int=>uH (eG a.es) a.vs j) fun j=> .one (.ret,sp 19 [(4, .int j)] (Bu (strs a.vs) a.es)))
theorem lFB(κ:Kp):bf (nE κ) 12 161 2 (aR 3 HP CV BN):=by
 refine aG (fun a=>a.vs.length - a.i.toNat) ?_
 rintro⟨vs,i,es⟩ K ⟨h1,h2,h3,h4⟩ ho
 simp only at h1 h2 h3 h4
 rw[show(nE κ).P=Pr κ from rfl]
 refine Eq.mpr (xFB κ ⟨vs,i,es⟩ _ _ K) ?_
 simp only[aL] at h1
 simp only[BN,Out.run,ae] at ho
 have hl:=aO vs
 simp only[aO,Nat.zero_add]
 have fin:i<vs.length->∀(hi:i.toNat<vs.length),(eG es vs[i.toNat]=false->K .ret (sp 19 [(4, .int i)] (Bu (strs vs) es)))/\
   (eG es vs[i.toNat]=true->∃m,m<vs.length - i.toNat/\ig HP CV BN (fun a=>a.vs.length - a.i.toNat) K m (HP ⟨vs,i+1,es⟩)):=by
  intro hi0 hi
  refine⟨fun e=>ho.2 ?_ i ⟨h2,hi,h4,e⟩,fun e=>⟨_,?_,⟨vs,i+1,es⟩,rfl,⟨by simpa[aL] using h1,by simp only;omega,by simp only;omega,?_⟩,rfl,?_⟩⟩
  ·rw[Bool.eq_false_iff]
   intro hall
   rw[List.all_eq_true.1 hall _ (List.getElem_mem hi)] at e
   cases e
  ·simp only;omega
  ·intro s hs
   simp only at hs
   rw[show(i+1).toNat=i.toNat+1 by omega,List.take_succ_eq_append_getElem hi,List.mem_append,List.mem_singleton] at hs
   rcases hs with hs|hs
   ·exact h4 s hs
   ·rw[hs];exact e
  ·simp only[BN,Out.run,ae]
   exact ho
 simp only[ae,ai,aa0,aa2,aa1,Bool.not_eq_true',ab2]
 refine⟨fun hi=>⟨⟨h2,hi⟩,?_⟩,fun hi=>?_⟩
 ·have hi':i.toNat<vs.length:=by omega
  have hn:toStr (nth (strs vs) i.toNat)=vs[i.toNat]:=by rw[u6 vs _ hi'];rfl
  rw[aC (n:=i+1) (by omega) (by omega),hn]
  have hf:=fin hi hi'
  simp only[HP,aO] at hf
  exact⟨fun e=>hf.1 e,fun e=>hf.2 e⟩
 ·refine ho.1 (List.all_eq_true.2 fun s hs=>h4 s ?_)
  rw[List.take_of_length_le (by omega)];exact hs
noncomputable def Ns(κ:Kp):Env:=(nE κ).ar 161 2 (aR 3 HP CV BN)
theorem eFB(κ:Kp):aE (Ns κ):=(PH κ).ar (Jq κ) (lFB κ)
theorem YL(κ:Kp):aj (Ns κ):=(Jq κ).ar aW
structure GB where
 R:List AV
 i:Int
 j:Int
 es:List (Value×AV)
 P:List ByteArray
 ws:List ByteArray
abbrev AA(a:GB):S:=sp 42 [(0, .aB 0 0 a.R.length),(1,MX),(5, .int a.i),(6, .int a.j)] (Bu a.R a.es)
theorem xGB(κ:Kp)(a:GB)(I:Nat->S->Prop)(n:Nat)(K:Exit->S->Prop):(vc (Ns κ) 12 114 none 3 (ag (Pr κ).toProgram 114 5) (AA a) (bB (Ns κ) 114 5 3 I n K))=(
 letI z1:=IntKind.wrap IntKind.i64 (a.j+(1:Int))
 letI z2:=toStr (nth a.R (0+a.j.toNat))
 letI z3:=a.j<(↑(a.R.length):Int)
 aw (decide z3) (aP (decide ((0:Int)<=a.j)&&decide z3) (aw (!!Dn.toBool (dO a.es (Value.string z2) (AV.bool false))) (aP (decide ((0:Int)<=a.i)&&decide
 (a.i<(↑(a.R.length):Int))) (∃(e0:Nat),e0<n/\I e0 (sp 42 [(0,AV.aB 0 0 a.R.length),(1,AV.bq 116 [AV.ptr 1 0 [] 0]),(5,AV.int (IntKind.wrap
 IntKind.i64 (a.i+(1:Int)))),(6,AV.int z1)] [Obj.row 9 (bJ a.R (0+a.i.toNat) (AV.str z2)),Obj.box 178 (AV.mp 2),Dn.Obj.map 9 4 a.es]))) (∃(e0:Nat),
 e0<n/\I e0 (sp 42 [(0,AV.aB 0 0 a.R.length),(1,AV.bq 116 [AV.ptr 1 0 [] 0]),(5,AV.int a.i),(6,AV.int z1)] [Obj.row 9 a.R,Obj.box 178 (AV.mp 2),
 Dn.Obj.map 9 4 a.es])))) (K (Exit.exit 0) (sp 42 [(0,AV.aB 0 0 a.R.length),(5,AV.int a.i)] [Obj.row 9 a.R,Obj.box 178 (AV.mp 2),Dn.Obj.map 9 4 a.es]))):=by kernel_rfl
def zI(a:GB):Prop:=a.R.length<=aL/\0<=a.i/\a.i<a.j/\a.j<=a.R.length/\a.R.take a.i.toNat=strs a.P/\a.R.drop a.j.toNat=strs a.ws
def Bc(a:GB):Out (Exit×S):= .all (fun R:List AV=>R.length=a.R.length/\R.take (a.P++a.ws.filter (eG a.es)).length=strs (a.P++a.ws.filter (eG a.es)))
 fun R=> .one (.exit 0,sp 42 [(0, .aB 0 0 a.R.length),(5, .int (a.P++a.ws.filter (eG a.es)).length)] (Bu R a.es))
theorem lGB(κ:Kp):bf (Ns κ) 12 114 5 (aR 3 AA zI Bc):=by
 refine aG (fun a=>a.R.length - a.j.toNat) ?_
 rintro⟨R,i,j,es,P,ws⟩ K ⟨h1,h2,h3,h4,h5,h6⟩ ho
 simp only at h1 h2 h3 h4 h5 h6
 rw[show(Ns κ).P=Pr κ from rfl]
 refine Eq.mpr (xGB κ ⟨R,i,j,es,P,ws⟩ _ _ K) ?_
 simp only[aL] at h1
 simp only[Bc,Out.run] at ho
 simp only[Nat.zero_add]
 have hP:P.length=i.toNat:=by
  have:=congrArg List.length h5
  rw[List.length_take,aO] at this;omega
 have fin: ∀(s:ByteArray) (l:List ByteArray),ws=s::l->j<R.length->nth R j.toNat= .lit (.string s)->
   (eG es s=false->∃m,m<R.length - j.toNat/\ig AA zI Bc (fun a=>a.R.length - a.j.toNat) K m (AA ⟨R,i,j+1,es,P,l⟩))/\
   (eG es s=true->∃m,m<R.length - j.toNat/\ig AA zI Bc (fun a=>a.R.length - a.j.toNat) K m (AA ⟨bJ R i.toNat (.lit (.string s)),i+1,j+1,es,P++[s],l⟩)):=by
  rintro s l rfl hj hn
  obtain⟨_,_,h7⟩:=jf (l:=strs l) h6
  refine⟨fun e=>⟨_,?_,_,rfl,⟨by simpa[aL] using h1,h2,by simp only;omega,by simp only;omega,h5,?_⟩,rfl,?_⟩,fun e=>⟨_,?_,_,rfl,⟨by simpa[aL,gh] using h1,by simp only;omega,by simp only;omega,by simp only[gh];omega,?_,?_⟩,rfl,?_⟩⟩
  ·simp only;omega
  ·simp only[show(j+1).toNat=j.toNat+1 by omega];exact h7
  ·intro y hy
   have:=ho y
   simp only[List.filter_cons,e,Bool.false_eq_true,if_false] at hy this⊢
   exact this hy
  ·simp only[gh];omega
  ·simp only[show(i+1).toNat=i.toNat+1 by omega]
   rw[rI _ _ _ (by omega),h5,gN];rfl
  ·simp only[show(j+1).toNat=j.toNat+1 by omega]
   rw[rm _ _ _ _ (by omega)];exact h7
  ·intro y hy
   have:=ho y
   simp only[List.filter_cons,e,if_true,gh,List.append_assoc,List.singleton_append] at hy this⊢
   exact this hy
 simp only[ae,ai,aa0,aa2,aa1,Bool.not_eq_true',ab2]
 refine⟨fun hj=>⟨⟨by omega,hj⟩,?_⟩,fun hj=>?_⟩
 ·cases ws with
  |nil=>
   have:=congrArg List.length h6
   rw[List.length_drop,aO] at this
   simp at this;omega
  |cons s l=>
   obtain⟨_,hn,_⟩:=jf (l:=strs l) h6
   have hn':toStr (nth R j.toNat)=s:=by rw[hn];rfl
   have hf:=fin s l rfl hj hn
   simp only[AA,gh] at hf
   rw[aC (n:=i+1) (by omega) (by omega),aC (n:=j+1) (by omega) (by omega),hn']
   exact⟨fun e=>⟨⟨by omega,by omega⟩,hf.2 e⟩,fun e=>hf.1 e⟩
 ·have hw:ws=[]:=by
   have:=congrArg List.length h6
   rw[List.length_drop,aO] at this
   cases ws with
   |nil=>rfl
   |cons=>simp at this;omega
  subst hw
  have:=ho R ⟨rfl,by simp only[List.filter_nil,List.append_nil,hP];exact h5⟩
  simp only[List.filter_nil,List.append_nil,hP,Int.toNat_of_nonneg h2] at this
  exact this
noncomputable def UN(κ:Kp):Env:=(Ns κ).ar 114 5 (aR 3 AA zI Bc)
theorem eGB(κ:Kp):aE (UN κ):=(eFB κ).ar (YL κ) (lGB κ)
theorem mGB(κ:Kp):aj (UN κ):=(YL κ).ar aW
theorem yGB(κ:Kp)(a:DB)(K:AV->List Dn.Obj->Prop):(ba (UN κ) 12 114 [.aB 0 0 (strs a.vs).length,MX] (Bu (strs a.vs) a.es) K)=(
 letI z1:=List.length (strs a.vs)
 letI z2:=Pg.toProgram (Env.P (nE κ))
 letI z3:=Pg.toProgram (Env.P (Ns κ))
 ag z2 161 2=ag z2 161 2/\∃(e3:DB),sp 19 [(0,AV.aB 0 0 z1),(1,AV.bq 116 [AV.ptr 1 0 [] 0]),(7,AV.int (↑z1:Int)),(8,AV.int 0)] [Obj.row 9 (strs a.vs),Obj.box 178 (AV.mp 2),Dn.Obj.map 9 4 a.es]=sp 19 [(0,AV.aB 0 0 (List.length (strs e3.vs))),(1,AV.bq 116 [AV.ptr 1 0 [] 0]),(7,AV.int (↑(List.length (strs e3.vs)):Int)),(8,AV.int e3.i)] [Obj.row 9 (strs e3.vs),Obj.box 178 (AV.mp 2),Dn.Obj.map 9 4 e3.es]/\(e3.vs.length<=9223372036854775807/\(0:Int)<=e3.i/\e3.i<=(↑(e3.vs.length):Int)/\∀(e0:ByteArray),List.Mem e0 (List.take e3.i.toNat e3.vs)->eG e3.es e0=true)/\aw (List.all e3.vs (eG e3.es)) (K (AV.ad 9 (List.take z1 (List.drop 0 (strs e3.vs)))) [Obj.kC 9 (strs e3.vs),Obj.box 178 (AV.mp 2),Dn.Obj.map 9 4 e3.es]) (∀(e2:Int),((0:Int)<=e2/\∃(e1:e2.toNat<e3.vs.length),(∀(e0:ByteArray),List.Mem e0 (List.take e2.toNat e3.vs)->eG e3.es e0=true)/\eG e3.es e3.vs[e2.toNat]=false)->aw (e2==(-1:Int)) (K (AV.ad 9 (List.take z1 (List.drop 0 (strs e3.vs)))) [Obj.kC 9 (strs e3.vs),Obj.box 178 (AV.mp 2),Dn.Obj.map 9 4 e3.es]) (ag z3 114 5=ag z3 114 5/\∃(e1:GB),sp 42 [(0,AV.aB 0 0 z1),(1,AV.bq 116 [AV.ptr 1 0 [] 0]),(5,AV.int e2),(6,AV.int (IntKind.wrap IntKind.i64 (e2+(1:Int))))] [Obj.row 9 (strs e3.vs),Obj.box 178 (AV.mp 2),Dn.Obj.map 9 4 e3.es]=sp 42 [(0,AV.aB 0 0 e1.R.length),(1,AV.bq 116 [AV.ptr 1 0 [] 0]),(5,AV.int e1.i),(6,AV.int e1.j)] [Obj.row 9 e1.R,Obj.box 178 (AV.mp 2),Dn.Obj.map 9 4 e1.es]/\(e1.R.length<=9223372036854775807/\(0:Int)<=e1.i/\e1.i<e1.j/\e1.j<=(↑(e1.R.length):Int)/\List.take e1.i.toNat e1.R=strs e1.P/\List.drop e1.j.toNat e1.R=strs e1.ws)/\∀(e0:List AV),e0.length=e1.R.length/\List.take (List.length (e1.P++List.filter (eG e1.es) e1.ws)) e0=strs (e1.P++List.filter (eG e1.es) e1.ws)->aP (true&&decide ((↑(List.length (e1.P++List.filter (eG e1.es) e1.ws)):Int)<=(↑(e1.R.length):Int))&&decide ((↑(e1.R.length):Int)<=(↑(e1.R.length):Int))) (aP (true&&decide ((↑(List.length (e1.P++List.filter (eG e1.es) e1.ws)):Int)<=(↑(e1.R.length):Int))) (K (AV.ad 9 (List.take (Int.toNat ((↑(List.length (e1.P++List.filter (eG e1.es) e1.ws)):Int) - (0:Int))) (List.drop 0 (cO e0 (0+Int.toNat (↑(List.length (e1.P++List.filter (eG e1.es) e1.ws)):Int)) (Int.toNat ((↑(e1.R.length):Int) - (↑(List.length (e1.P++List.filter (eG e1.es) e1.ws)):Int))) (AV.str {data:= #[]}))))) [Obj.kC 9 (cO e0 (0+Int.toNat (↑(List.length (e1.P++List.filter (eG e1.es) e1.ws)):Int)) (Int.toNat ((↑(e1.R.length):Int) - (↑(List.length (e1.P++List.filter (eG e1.es) e1.ws)):Int))) (AV.str {data:= #[]})),Obj.box 178 (AV.mp 2),Dn.Obj.map 9 4 e1.es]))))):=by kernel_rfl
def Eu(a:DB):List AV×List Dn.Obj:=([.aB 0 0 a.vs.length,MX],Bu (strs a.vs) a.es)
def oF(a:DB):Prop:=a.vs.length<=aL
def Da(a:DB):Out (AV×List Dn.Obj):= .all (fun _:List AV=>True) fun R=> .one (.ad 9 (strs (a.vs.filter (eG a.es))),[.kC 9 R, .box 178 (.mp 2), .map 9 4 a.es])
theorem VE(κ:Kp):bG (UN κ) 12 114 (a0 Eu oF Da):=by
 refine bc ?_
 rintro⟨vs,i,es⟩ K h1 ho
 simp only[oF] at h1
 simp only[Eu]
 rw[←aO vs]
 refine Eq.mpr (yGB κ ⟨vs,i,es⟩ K) ?_
 refine⟨rfl,⟨vs,0,es⟩,rfl,⟨h1,by simp only;omega,by simp only;omega,fun s hs=>nomatch hs⟩,?_⟩
 rw[ae]
 refine⟨fun e=>?_,fun e y hy=>?_⟩
 ·have hf:vs.filter (eG es)=vs:=List.filter_eq_self.2 (List.all_eq_true.1 e)
  have:=ho (strs vs) trivial
  simp only[hf] at this
  rw[ab0,List.take_length]
  exact this
 ·have hF:=rf hy
  obtain⟨h0,h2,h3,h4⟩:=hy
  simp only at h0 h2
  simp only[aL] at h1
  rw[ae,beq_iff_eq,beq_eq_false_iff_ne]
  refine⟨fun e2=>by omega,fun _=>⟨rfl,⟨strs vs,y,y+1,es,vs.take y.toNat,vs.drop (y.toNat+1)⟩,?_,⟨by simp only[aO];omega,h0,by simp only;omega,by simp only[aO];omega,?_,?_⟩,?_⟩⟩
  ·rw[aC (n:=y+1) (by omega) (by omega)]
  ·simp only[strs,List.map_take]
  ·simp only[strs,List.map_drop,show(y+1).toNat=y.toNat+1 by omega]
  ·rintro R ⟨r1,r2⟩
   simp only at r1 r2
   rw[←hF] at r2⊢
   have hle:(vs.filter (eG es)).length<=vs.length:=List.length_filter_le _ _
   rw[ai,ai]
   refine⟨by simp[aO,hle],by simp[aO,hle],?_⟩
   have:=ho (cO R (0+Int.toNat ((vs.filter (eG es)).length:Int)) (Int.toNat (((strs vs).length:Int) - ((vs.filter (eG es)).length:Int))) (.lit (.string (ByteArray.mk #[])))) trivial
   simp only[Int.toNat_natCast,Nat.zero_add,Int.sub_zero,ab0,nD,r2] at this⊢
   exact this
theorem Wc(κ:Kp): ∀args st K,a0 Eu oF Da args st K->bD (Pr κ) 114 args st K:=fun args st K h=>cZ (eGB κ) (mGB κ) (VE κ args st K h)
structure QP where
 a:cf
 ws:List Nat
 n:Nat
 i:Int
 vs:List ByteArray
abbrev NR(a:QP):S:=sp 48 [(2, .ptr 0 0 [] 0),(8, .ptr 1 0 [] 0),(32, .aB 3 0 a.n),(33, .int a.n),(34, .int a.i)] [.box 48 (au a.a), .box 178 (.mp 2), .map 9 4 (bL a.vs), .row 3 (ints a.ws)]
theorem x10(κ:Kp)(a:QP)(ws:List AV)(es:List (Value×AV))(I:Nat->S->Prop)(n:Nat)(K:Exit->S->Prop):(vc (E7 κ) 12 65 none 0 (ag (Pr κ).toProgram 65 8) (sp 48 [(2, .ptr 0 0 [] 0),(8, .ptr 1 0 [] 0),(32, .aB 3 0 a.n),(33, .int a.n),(34, .int a.i)] [.box 48 (au a.a), .box 178 (.mp 2), .map 9 4 es, .row 3 ws]) (bB (E7 κ) 65 8 0 I n K))=(
 letI z1:=∃(e2:cf×Int),([au a.a,AV.int (toInt (nth ws (0+a.i.toNat)))],aJ)=([au e2.1,AV.int e2.2],aJ)/\(aV (aF e2.1)=true/\(aI (aa (bh 38
  e2.1.hl e2.1.bl))<=100000/\e2.1.bl.length<=100000)/\(0:Int)<=e2.2/\e2.2<(↑(e2.1.bl.length):Int))/\∃(e1:List AV×List (Value×AV)),([AV.mp 0,
  AV.ad 9 (strs (cU (aF e2.1) e2.2.toNat))],[Dn.Obj.map 9 4 es])=([AV.mp 0,AV.ad 9 e1.1],[Dn.Obj.map 9 4 e1.2])/\bj e1/\∃(e0:Nat),e0<n/\I e0 (sp 48
  [(2,AV.ptr 0 0 [] 0),(8,AV.ptr 1 0 [] 0),(32,AV.aB 3 0 a.n),(33,AV.int (↑(a.n):Int)),(34,AV.int (IntKind.wrap IntKind.i64 (a.i+(1:Int))))]
  [Obj.box 48 (au a.a),Obj.box 178 (AV.mp 2),Dn.Obj.map 9 4 (fo e1.2 e1.1),Obj.row 3 ws])
 aw (decide (a.i<(↑(a.n):Int))) (aP (decide ((0:Int)<=a.i)&&decide (a.i<(↑(a.n):Int))) (z1/\z1)) (K (Exit.exit 1) (sp 48 [(2,AV.ptr 0 0 [] 0),(8,
 AV.ptr 1 0 [] 0)] [Obj.box 48 (au a.a),Obj.box 178 (AV.mp 2),Dn.Obj.map 9 4 es]))):=by kernel_rfl
def FQ(a:QP):Prop:=aV (aF a.a)=true/\da a.a/\0<=a.i/\a.i<=a.n/\a.n<=a.ws.length/\a.ws.length<=a.a.bl.length/\∀k,k∈a.ws->k<a.a.bl.length
def zj(a:QP):Out (Exit×S):= .one (.exit 1,sp 48 [(2, .ptr 0 0 [] 0),(8, .ptr 1 0 [] 0)] [.box 48 (au a.a), .box 178 (.mp 2), .map 9 4 (bL (a.vs++eP (aF a.a) ((a.ws.take a.n).drop a.i.toNat)))])
theorem AN(l:List Nat)(i:Nat)(h:i<l.length):toInt (nth (ints l) i)=(l[i]:Int):=by
 rw[a7 _ _ (by rw[og];exact h)];simp[ints,toInt]
theorem l10(κ:Kp):bf (E7 κ) 12 65 8 (aR 0 NR FQ zj):=by
 refine aG (fun a=>a.n - a.i.toNat) ?_
 rintro⟨a,ws,n,i,vs⟩ K ⟨h1,h2,h3,h4,h5,h6,h7⟩ ho
 simp only at h1 h2 h3 h4 h5 h6 h7
 rw[show(E7 κ).P=Pr κ from rfl]
 refine Eq.mpr (x10 κ ⟨a,ws,n,i,vs⟩ (ints ws) (bL vs) _ _ K) ?_
 simp only[zj,Out.run] at ho
 simp only[and_self,Nat.zero_add]
 have hl:=h2.2
 rw[ae,ai,aa1,aa0,aa0,aa2]
 refine⟨fun hi=>⟨⟨h3,hi⟩,?_⟩,fun hi=>?_⟩
 ·have hi':i.toNat<ws.length:=by omega
  have hk:=h7 _ (List.getElem_mem hi')
  have hg:=rA h2 hk
  have hd:(ws.take n).drop i.toNat=ws[i.toNat]::(ws.take n).drop (i.toNat+1):=by
   rw[ab1 (by rw[List.length_take];omega)]
   simp
  rw[hd] at ho
  rw[aC (n:=i+1) (by omega) (by omega),AN ws _ hi']
  refine⟨(a,(ws[i.toNat]:Int)),rfl,⟨h1,h2,by simp only;omega,by simp only;omega⟩,(strs (cU (aF a) ws[i.toNat]),bL vs),rfl,by simp only[bj,aO,aL];omega,_,?_,⟨a,ws,n,i+1,vs++cU (aF a) ws[i.toNat]⟩,?_,⟨h1,h2,by simp only;omega,by simp only;omega,h5,h6,h7⟩,rfl,?_⟩
  ·simp only;omega
  ·simp only[lF]
  ·simp only[zj,Out.run,show(i+1).toNat=i.toNat+1 by omega]
   simpa only[eP,List.flatMap_cons,List.append_assoc] using ho
 ·rw[aa8 (by rw[List.length_take];omega)] at ho
  simpa[eP] using ho
noncomputable def II(κ:Kp):Env:=((E7 κ).ar 65 8 (aR 0 NR FQ zj)).az 114 (a0 Eu oF Da)
theorem Vj(κ:Kp):aE (II κ):=((e7 κ).ar (m7 κ) (l10 κ)).fT (Wc κ)
theorem Rs(κ:Kp):aj (II κ):=((m7 κ).ar aW).az aZ
theorem y10(κ:Kp)(a:cf)(k:Int)(K:AV->List Dn.Obj->Prop):(ba (II κ) 12 65 [au a, .int k] [] K)=(
 letI z1:=K (AV.aX [AV.nil,AV.int 2]) []
 letI z2:=Pg.toProgram (Env.P (E7 κ))
 letI z3:=Int.toNat (k - (0:Int))
 ∃(e4:cf),([au a],aJ)=([au e4],aJ)/\(aI (aa (bh 38 e4.hl e4.bl))<=100000/\e4.bl.length<=100000)/\aw (aV (aF e4)) (aw (jI (aF e4)) (aw (decide (k<
 (0:Int))) z1 (aw (decide (k>(↑(List.length (bP (aF e4))):Int))) z1 (aP (true&&decide ((0:Int)<=k)&&decide (k<=(↑(List.length (bP (aF e4))):
 Int))) (ag z2 65 8=ag z2 65 8/\∃(e3:QP),sp 48 [(2,AV.ptr 0 0 [] 0),(8,AV.ptr 1 0 [] 0),(32,AV.aB 3 0 z3),(33,AV.int (↑z3:Int)),(34,AV.int 0)]
 [Obj.box 48 (au a),Obj.box 178 (AV.mp 2),Dn.Obj.map 9 4 [],Obj.row 3 (ints (bP (aF e4)))]=sp 48 [(2,AV.ptr 0 0 [] 0),(8,AV.ptr 1 0 [] 0),(32,AV.aB 3 0
 e3.n),(33,AV.int (↑(e3.n):Int)),(34,AV.int e3.i)] [Obj.box 48 (au e3.a),Obj.box 178 (AV.mp 2),Dn.Obj.map 9 4 (bL e3.vs),Obj.row 3 (ints e3.ws)]/\(aV
 (aF e3.a)=true/\(aI (aa (bh 38 e3.a.hl e3.a.bl))<=100000/\List.length e3.a.bl<=100000)/\(0:Int)<=e3.i/\e3.i<=(↑(e3.n):Int)/\e3.n<=e3.ws.length/\
 e3.ws.length<=List.length e3.a.bl/\∀(e0:Nat),List.Mem e0 e3.ws->e0<List.length e3.a.bl)/\∃(e2:cf),([au e3.a],aJ)=([au e2],aJ)/\(aV (aF e2)=
 true/\aI (aa (bh 38 e2.hl e2.bl))<=100000/\e2.bl.length<=100000)/\∃(e1:DB),([AV.aB 0 0 (List.length (dc (aF e2))),AV.bq 116 [AV.ptr 1 0 [] 0]],
 [Obj.row 9 (strs (dc (aF e2))),Obj.box 178 (AV.mp 2),Dn.Obj.map 9 4 (bL (e3.vs++eP (aF e3.a) (List.drop e3.i.toNat (List.take e3.n e3.ws))))])=([AV.aB 0 0
 e1.vs.length,AV.bq 116 [AV.ptr 1 0 [] 0]],[Obj.row 9 (strs e1.vs),Obj.box 178 (AV.mp 2),Dn.Obj.map 9 4 e1.es])/\oF e1/\∀(e0:List AV),True->K (AV.aX
 [AV.ad 9 (strs (List.filter (eG e1.es) e1.vs)),AV.int 0]) [])))) (K (AV.aX [AV.nil,AV.int 60]) [])) (K (AV.aX [AV.nil,AV.int 30]) [])):=by kernel_rfl
def LS(a:cf×Int):List AV×List Dn.Obj:=([au a.1, .int a.2],[])
def zA(a:cf×Int):Prop:=da a.1
def xP(a:cf×Int):Out (AV×List Dn.Obj):= .aw (aV (aF a.1)) (.aw (jI (aF a.1)) (.aw (decide (a.2<0)||decide (a.1.bl.length<a.2)) (.one (.aX [.nil, .int 2],[]))
 (.one (.aX [.ad 9 (strs (kk (aF a.1) a.2.toNat)), .int 0],[]))) (.one (.aX [.nil, .int 60],[]))) (.one (.aX [.nil, .int 30],[]))
theorem lC{a:cf}(h:jI (aF a)=true):(bP (aF a)).length=a.bl.length:=by
 have h1:=Hw (aF a)
 rw[fp] at h1
 simp only[jI,aa1,aa0,fp] at h
 omega
theorem c10(κ:Kp):bG (II κ) 12 65 (a0 LS zA xP):=by
 refine bc ?_
 rintro⟨a,k⟩ K h2 ho
 refine Eq.mpr (y10 κ a k K) ?_
 simp only[xP,Out.run,ae] at ho
 have h2:da a:=h2
 have hl:=h2.2
 refine⟨a,rfl,h2,?_⟩
 rw[ae]
 refine⟨fun e1=>?_,fun e1=>ho.2 e1⟩
 rw[ae]
 refine⟨fun e2=>?_,fun e2=>(ho.1 e1).2 e2⟩
 have hw:=lC e2
 have ho1:=(ho.1 e1).1 e2
 rw[ae,aa0,aa2]
 refine⟨fun e3=>ho1.1 (by rw[aa6 e3];rfl),fun e3=>?_⟩
 rw[ae,aa0,aa2,hw]
 refine⟨fun e4=>ho1.1 (by rw[aa6 (show(a.bl.length:Int)<k from e4)];simp),fun e4=>?_⟩
 have ho2:=ho1.2 (by rw[aa4 e3,aa4 (show ¬ (a.bl.length:Int)<k from e4)];rfl)
 simp only[ai,aa1,aa0,Int.sub_zero]
 have h5:(ff (aF a)).length<=100000:=by
  have h6:=cy (aa (bh 38 a.hl a.bl))
  rw[ir 38 a.rel a.hl a.bl] at h6
  exact Nat.le_trans h6 h2.1
 have h7:=kg (ff (aF a)) []
 refine⟨⟨⟨trivial,by omega⟩,by omega⟩,trivial,⟨a,bP (aF a),k.toNat,0,[]⟩,rfl,⟨e1,h2,by simp only;omega,by simp only;omega,by simp only;omega,by simp only;omega,fun j hj=>by have:=qb hj;rwa [fp] at this⟩,a,rfl,⟨e1,h2⟩,⟨dc (aF a),0,bL ([]++eP (aF a) (((bP (aF a)).take k.toNat).drop (Int.toNat 0)))⟩,rfl,?_,?_⟩
 ·simp only[oF,dc,e1,aa7,aL];omega
 ·intro R _
  have hk3:List.filter (eG (bL ([]++eP (aF a) (((bP (aF a)).take k.toNat).drop (Int.toNat 0))))) (dc (aF a))=kk (aF a) k.toNat:=by
   unfold kk
   refine congrFun (congrArg _ ?_) _
   funext s
   unfold eG
   rw[om];rfl
  simp only[hk3]
  exact ho2
noncomputable def MJ(κ:Kp):Env:=(II κ).az 65 (a0 LS zA xP)
theorem e10(κ:Kp):aE (MJ κ):=(Vj κ).az (Rs κ) (c10 κ)
theorem YO(κ:Kp):aj (MJ κ):=(Rs κ).az aZ
end Go.Proofs.YtioeffnadipbaaaGreatDoor
