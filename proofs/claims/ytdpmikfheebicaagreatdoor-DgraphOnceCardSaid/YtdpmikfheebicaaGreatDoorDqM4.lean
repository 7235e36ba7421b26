import Derived.Test.YtdpmikfheebicaaGreatDoorDqM3
import Derived.Test.YtdpmikfheebicaaGreatDoorDqM1
import Derived.Test.YtdpmikfheebicaaGreatDoorDqM2
namespace Go.Proofs.YtdpmikfheebicaaGreatDoor
open Go Go.Dn Go.Rl Go.Proofs
attribute [local irreducible] bg vc
set_option maxRecDepth 20000
theorem Y3(κ:Kp)(l:List AV)(s:ByteArray)(i:Int)(I:Nat->S->Prop)(n:Nat)(K:Exit->S->Prop):(vc (LH κ) 12 171 none 0 (ag (Pr κ).toProgram 171 2) (sp 19 [(0, .ae 9 l),(1, .lit (.string s)),(7, .int l.length),(8, .int i)] []) (bI (LH κ) 171 2 0 I n K))=(
 letI z1:=i<(↑(l.length):Int)
 ax (decide z1) (aO (decide ((0:Int)<=i)&&decide z1) (ax (ByteArray.toList s==ByteArray.toList (toStr (nth l i.toNat))) (K Exit.ret (sp 19 [(4,AV.int i)]
 [])) (∃(e0:Nat),e0<n/\I e0 (sp 19 [(0,AV.ae 9 l),(1,AV.str s),(7,AV.int (↑(l.length):Int)),(8,AV.int (IntKind.wrap IntKind.i64 (i+(1:
 Int))))] [])))) (K (Exit.exit 0) (sp 19 [] []))):=by kernel_rfl
abbrev QG(a:List AV×ByteArray×Int):S:=sp 19 [(0, .ae 9 a.1),(1, .lit (.string a.2.1)),(7, .int a.1.length),(8, .int a.2.2)] []
def JN(a:List AV×ByteArray×Int):Prop:=a.1.length<=aP/\0<=a.2.2/\a.2.2<=a.1.length
def Df(a:List AV×ByteArray×Int):Out (Exit×S):= .ax (decide (fb a.2.1 (a.1.drop a.2.2.toNat) a.2.2>=0)) (.one (.ret,sp 19 [(4, .int (fb a.2.1 (a.1.drop a.2.2.toNat) a.2.2))] [])) (.one (.exit 0,sp 19 [] []))
theorem l65(κ:Kp):bn (LH κ) 12 171 2 (aQ 0 QG JN Df):=by
 refine aR (fun a=>a.1.length - a.2.2.toNat) ?_
 rintro⟨l,s,i⟩ K ⟨h1,h2,h3⟩ ho
 simp only at h1 h2 h3
 rw[show(LH κ).P=Pr κ from rfl]
 refine Eq.mpr (Y3 κ l s i _ _ K) ?_
 simp only[aP] at h1
 simp only[Df,Out.run,af] at ho
 simp only[af,au,aa0,aa2,aa1]
 refine⟨fun hi=>⟨⟨h2,hi⟩,fun e=>?_,fun e=>?_⟩,fun hi=>?_⟩
 ·rw[ab1 (show i.toNat<l.length by omega),←a8 l i.toNat (by omega),fb,show lB s (toStr (nth l i.toNat))=true from e,aa7,aa6 (show i>=0 from h2)] at ho
  exact ho.1 rfl
 ·rw[a5 (n:=i+1) (by omega) (by omega)]
  refine⟨_,?_,(l,s,i+1),rfl,⟨by simpa[aP] using h1,by simp only;omega,by simp only;omega⟩,rfl,?_⟩
  ·simp only;omega
  ·rw[ab1 (show i.toNat<l.length by omega),←a8 l i.toNat (by omega),fb,show lB s (toStr (nth l i.toNat))=false from e,aa5] at ho
   simp only[Df,Out.run,af,show(i+1).toNat=i.toNat+1 by omega]
   exact ho
 ·rw[aa8 (by omega)] at ho
  exact ho.2 rfl
noncomputable def Ji(κ:Kp):Env:=(LH κ).aj 171 2 (aQ 0 QG JN Df)
theorem RA(κ:Kp):aC (Ji κ):=(Y0 κ).aj (UG κ) (l65 κ)
theorem Qv(κ:Kp):ai (Ji κ):=(UG κ).aj aG
theorem Vg(κ:Kp)(l:List AV)(s:ByteArray)(K:AV->List Dn.Obj->Prop):(bg (Ji κ) 12 171 [.ae 9 l, .lit (.string s)] [] K)=(
 ag (Pg.toProgram (Env.P (LH κ))) 171 2=ag (Pg.toProgram (Env.P (LH κ))) 171 2/\∃(a:List AV×ByteArray×Int),sp 19 [(0,AV.ae 9 l),(1,
 AV.str s),(7,AV.int (↑(l.length):Int)),(8,AV.int 0)] []=sp 19 [(0,AV.ae 9 a.1),(1,AV.str a.2.1),(7,AV.int (↑(a.1.length):Int)),(8,AV.int
 a.2.2)] []/\(a.1.length<=9223372036854775807/\(0:Int)<=a.2.2/\a.2.2<=(↑(a.1.length):Int))/\ax (decide (fb a.2.1 (List.drop (Int.toNat a.2.2)
 a.1) a.2.2>=(0:Int))) (K (AV.int (fb a.2.1 (List.drop (Int.toNat a.2.2) a.1) a.2.2)) []) (K (AV.int (-1)) [])):=by kernel_rfl
def SH:List AV->Option (Bool×AV)
 |[.ae 9 l, .lit (.string s)]=>some (decide (l.length<=aP), .int (fb s l 0))
 |_=>none
theorem uw(s:ByteArray): ∀(l:List AV) (i:Int),¬ fb s l i>=0->0<=i->fb s l i= -1
 |[],_,_,_=>rfl
 |a::l,i,h,h0=>by
  simp only[fb] at h⊢
  cases e:lB s (toStr a) with
  |true=>rw[e] at h;exact absurd h0 h
  |false=>rw[e] at h;exact uw s l (i+1) h (by omega)
theorem XU(κ:Kp):cy (Ji κ) 12 171 SH:=by
 intro args x hh
 unfold SH at hh
 split at hh
 ·rename_i l s
  simp only[aa3,aa9,aa0] at hh
  obtain⟨h1,rfl⟩:=hh
  refine⟨_,rfl,rfl,?_⟩
  refine Eq.mpr (Vg κ l s _) ?_
  refine⟨rfl,(l,s,0),rfl,⟨h1,by simp only;omega,by simp only;omega⟩,?_⟩
  simp only[ab7,ab0,af,aa0,aa2]
  exact⟨fun _=>trivial,fun e=>by rw[uw s l 0 e (by omega)]⟩
 ·cases hh
noncomputable def Qc(κ:Kp):Env:=(Ji κ).aF 171 SH
theorem Wb(κ:Kp):aC (Qc κ):=(RA κ).aF (Qv κ) (XU κ)
theorem Uh(κ:Kp):ai (Qc κ):=(Qv κ).aF
theorem W7(κ:Kp)(l:List AV)(s:ByteArray)(K:AV->List Dn.Obj->Prop):(bg (Qc κ) 12 169 [.ae 9 l, .lit (.string s)] [] K)=(
 aO (decide (l.length<=9223372036854775807)) (K (AV.bool (decide (fb s l (0:Int)>=(0:Int)))) [])):=by kernel_rfl
def Ro:List AV->Option (Bool×AV)
 |[.ae 9 l, .lit (.string s)]=>some (decide (l.length<=aP), .bool (decide (fb s l 0>=0)))
 |_=>none
theorem Ve(κ:Kp):cy (Qc κ) 12 169 Ro:=by
 intro args x hh
 unfold Ro at hh
 split at hh
 ·rename_i l s
  simp only[aa3,aa9,aa0] at hh
  obtain⟨h1,rfl⟩:=hh
  refine⟨_,rfl,rfl,?_⟩
  refine Eq.mpr (W7 κ l s _) ?_
  rw[au,aa0]
  exact⟨h1,rfl⟩
 ·cases hh
noncomputable def P6(κ:Kp):Env:=(Qc κ).aF 169 Ro
theorem e63(κ:Kp):aC (P6 κ):=(Wb κ).aF (Uh κ) (Ve κ)
theorem Uu(κ:Kp):ai (P6 κ):=(Uh κ).aF
theorem y24(κ:Kp)(a:ba)(k:Int)(K:AV->List Dn.Obj->Prop):(bg (P6 κ) 12 82 [an a, .int k] [] K)=(
 letI z2:=nth a.bl k.toNat
 letI z1:=∃(e1:List AV),([AV.ae 52 [AV.agg [AV.int (toInt (ad (ad z2 2) 0)),AV.str (toStr (ad (ad z2 2) 1)),AV.int (toInt (ad (ad z2 2) 2)),AV.ae 52 (ah
  (ad (ad z2 2) 3))]]],aB)=([AV.ae 52 e1],aB)/\bu e1/\∃(e0:ba×Int),([an a,AV.int k],aB)=([an e0.1,AV.int e0.2],aB)/\(aU (aJ e0.1)=true/\(aM
  (aa (aH 52 e0.1.hl e0.1.bl))<=100000/\e0.1.bl.length<=100000)/\(0:Int)<=e0.2/\e0.2<(↑(e0.1.bl.length):Int))/\aO (decide ((List.length (aq (aa e1))
  +List.length (strs (dF (aJ e0.1) e0.2.toNat))+1)*17<=70368744177664)) (K (AV.ae 9 (List.take (List.length (aq (aa e1))+List.length (strs (dF (aJ e0.1)
  e0.2.toNat))) (List.drop 0 (List.take (List.length (aq (aa e1))) (strs (aq (aa e1)))++strs (dF (aJ e0.1) e0.2.toNat))))) [])
 aO (decide ((0:Int)<=k)&&decide (k<(↑(a.bl.length):Int))) (ax (decide ((7:Int)<=toInt (ad z2 0))) ((z1/\z1)/\z1) (∃(e0:LA),([AV.agg [AV.int
 (toInt (ad z2 0)),AV.agg [AV.str (toStr (ad (ad z2 1) 0)),AV.ae 52 (ah (ad (ad z2 1) 1))],AV.agg [AV.int (toInt (ad (ad z2 2) 0)),AV.str (toStr (ad (ad z2
 2) 1)),AV.int (toInt (ad (ad z2 2) 2)),AV.ae 52 (ah (ad (ad z2 2) 3))],AV.agg [AV.int (toInt (ad (ad z2 3) 0)),AV.str (toStr (ad (ad z2 3) 1)),AV.int
 (toInt (ad (ad z2 3) 2)),AV.ae 52 (ah (ad (ad z2 3) 3))]]],aB)=([AV.agg [AV.int e0.op,AV.agg [AV.str e0.s,AV.ae 52 e0.l],AV.agg [AV.int e0.o1,AV.str
 e0.s1,AV.int e0.n1,AV.ae 52 e0.l1],AV.agg [AV.int e0.o2,AV.str e0.s2,AV.int e0.n2,AV.ae 52 e0.l2]]],aB)/\fp e0/\K (AV.ae 9 (List.take (List.length (dJ
 (LA.lt e0))) (List.drop 0 (strs (dJ (LA.lt e0)))))) []))):=by kernel_rfl
def LY(a:ba×Int):Out (AV×List Dn.Obj):= .one (.ae 9 (strs (cK (aJ a.1) a.2.toNat)),[])
theorem El(l:Lt):aM [l.x]<=iR l:=by
 simp only[iR,aM];omega
theorem D9(x:AV):aa [oJ 52 (ad x 2)]=[(cm x).x]:=by
 simp only[aa,ac0,List.map_nil,pS];rfl
theorem qR{a:ba}(h:dr a)(k:Nat):(dF (aJ a) k).length<=100000:=by
 have h5:(eT (aJ a)).length<=100000:=by
  have h6:=b8 (aa (aH 52 a.hl a.bl))
  rw[iS 52 a.rel a.hl a.bl] at h6
  exact Nat.le_trans h6 h.1
 have h7:=kV (eT (aJ a)) []
 refine Nat.le_trans (List.length_filter_le _ _) ?_
 unfold c6
 cases aU (aJ a)
 ·simp
 ·rw[aa7];omega
theorem Wh(κ:Kp):bz (P6 κ) 12 82 (aZ J4 yD LY):=by
 refine bh ?_
 rintro⟨a,k⟩ K ⟨h1,h2,h3,h4⟩ ho
 refine Eq.mpr (y24 κ a k K) ?_
 simp only at h1 h2 h3 h4
 have hk:k.toNat<a.bl.length:=by omega
 have hlit:=j8 h2 hk
 have hv:=b8 [(cm (nth a.bl k.toNat)).x]
 have hc:=El (cm (nth a.bl k.toNat))
 have ho':K (.ae 9 (strs (cK (aJ a) k.toNat))) []:=ho
 unfold cK at ho'
 rw[show(aJ a).body=cC a.bl from rfl,jL _ hk,show(cm (nth a.bl k.toNat)).op=toInt (ad (nth a.bl k.toNat) 0) from rfl] at ho'
 simp only[and_self]
 rw[au,aa1,aa0,aa0,af,aa0,aa2]
 refine⟨⟨h3,h4⟩,fun e=>?_,fun e=>?_⟩
 ·rw[aa6 e] at ho'
  refine⟨[oJ 52 (ad (nth a.bl k.toNat) 2)],rfl,by simp only[bu,D9];omega,(a,k),rfl,⟨h1,h2,h3,h4⟩,?_⟩
  have hol:=qR h2 k.toNat
  simp only[D9,bf,ab0,ct,au,aa0]
  refine⟨by omega,?_⟩
  rw[←iU,List.take_of_length_le (by simp[bf])]
  exact ho'
 ·rw[aa4 e] at ho'
  refine⟨qM (nth a.bl k.toNat),rfl,by rw[fp,dO];exact hlit,?_⟩
  simp only[dO,ab0,ct]
  exact ho'
noncomputable def PS(κ:Kp):Env:=(P6 κ).aw 82 (aZ J4 yD LY)
theorem e24(κ:Kp):aC (PS κ):=(e63 κ).aw (Uu κ) (Wh κ)
theorem TH(κ:Kp):ai (PS κ):=(Uu κ).aw aI
theorem YT(κ:Kp)(a:ba)(k:Int)(es:List (Value×AV))(K:AV->List Dn.Obj->Prop):(bg (PS κ) 12 152 [.mp 0,an a, .int k] [.map 9 4 es] K)=(
 letI z4:=nth a.bl k.toNat
 letI z5:=toStr (ad (ad z4 3) 1)
 letI z6:=ah (ad (ad z4 1) 1)
 letI z7:=toStr (ad (ad z4 1) 0)
 letI z8:=toInt (ad (ad z4 2) 0)
 letI z9:=toStr (ad (ad z4 2) 1)
 letI z10:=toInt (ad (ad z4 2) 2)
 letI z11:=toInt (ad (ad z4 3) 0)
 letI z12:=toInt (ad (ad z4 3) 2)
 letI z13:=ah (ad (ad z4 2) 3)
 letI z14:=ah (ad (ad z4 3) 3)
 letI z15:=Value×AV
 letI z1:=∃(e3:ba×Int),([an a,AV.int k],aB)=([an e3.1,AV.int e3.2],aB)/\(aU (aJ e3.1)=true/\(aM (aa (aH 52 e3.1.hl e3.1.bl))<=100000/\
  e3.1.bl.length<=100000)/\(0:Int)<=e3.2/\e3.2<(↑(e3.1.bl.length):Int))/\∃(e2:List AV×List z15),([AV.mp 0,AV.ae 9 (strs (dF (aJ e3.1)
  e3.2.toNat))],[Dn.Obj.map 9 4 es])=([AV.mp 0,AV.ae 9 e2.1],[Dn.Obj.map 9 4 e2.2])/\bd e2/\ax (fD e2.2 e2.1) (∃(e1:ByteArray×List AV),([AV.agg
  [AV.str z7,AV.ae 52 z6]],aB)=([AV.agg [AV.str e1.1,AV.ae 52 e1.2]],aB)/\jo e1/\∃(e0:List AV×List z15),([AV.mp 0,AV.ae 9 (List.take (List.length
  (dn (aa e1.2))) (List.drop 0 (strs (dn (aa e1.2)))))],[Dn.Obj.map 9 4 e2.2])=([AV.mp 0,AV.ae 9 e0.1],[Dn.Obj.map 9 4 e0.2])/\bd e0/\K (AV.bool (fD e0.2
  e0.1)) [Dn.Obj.map 9 4 e0.2]) (K (AV.bool false) [Dn.Obj.map 9 4 e2.2])
 letI z2:=∃(e1:LA),([AV.agg [AV.int (toInt (ad z4 0)),AV.agg [AV.str z7,AV.ae 52 z6],AV.agg [AV.int z8,AV.str z9,AV.int z10,AV.ae 52 z13],AV.agg
  [AV.int z11,AV.str z5,AV.int z12,AV.ae 52 z14]]],aB)=([AV.agg [AV.int e1.op,AV.agg [AV.str e1.s,AV.ae 52 e1.l],AV.agg [AV.int e1.o1,AV.str e1.s1,
  AV.int e1.n1,AV.ae 52 e1.l1],AV.agg [AV.int e1.o2,AV.str e1.s2,AV.int e1.n2,AV.ae 52 e1.l2]]],aB)/\fp e1/\∃(e0:List AV×List z15),([AV.mp 0,AV.ae
  9 (List.take (List.length (dJ (LA.lt e1))) (List.drop 0 (strs (dJ (LA.lt e1)))))],[Dn.Obj.map 9 4 es])=([AV.mp 0,AV.ae 9 e0.1],[Dn.Obj.map 9 4 e0.2])/\bd
  e0/\K (AV.bool (fD e0.2 e0.1)) [Dn.Obj.map 9 4 e0.2]
 letI z3:=∃(e4:List AV),([AV.ae 52 z6],aB)=([AV.ae 52 e4],aB)/\bu e4/\aO (decide (List.length (List.take (List.length (aq (aa e4))) (List.drop 0
  (strs (aq (aa e4)))))<=9223372036854775807)) (ax (decide (fb z5 (List.take (List.length (aq (aa e4))) (List.drop 0 (strs (aq (aa e4))))) (0:Int)>=(0:
  Int))) z1 (K (AV.bool false) [Dn.Obj.map 9 4 es]))
 aO (decide ((0:Int)<=k)&&decide (k<(↑(a.bl.length):Int))) (ax (toInt (ad z4 0)==(1:Int)) (∃(e1:ByteArray×List AV),([AV.agg [AV.str z7,AV.ae
 52 z6]],aB)=([AV.agg [AV.str e1.1,AV.ae 52 e1.2]],aB)/\jo e1/\∃(e0:List AV×List z15),([AV.mp 0,AV.ae 9 (List.take (List.length (dn (aa e1.2)))
 (List.drop 0 (strs (dn (aa e1.2)))))],[Dn.Obj.map 9 4 es])=([AV.mp 0,AV.ae 9 e0.1],[Dn.Obj.map 9 4 e0.2])/\bd e0/\K (AV.bool (fD e0.2 e0.1)) [Dn.Obj.map
 9 4 e0.2]) (ax (toInt (ad z4 0)==(3:Int)) (∃(e3:TA),([AV.mp 0,AV.agg [AV.int z8,AV.str z9,AV.int z10,AV.ae 52 z13],AV.agg [AV.int z11,AV.str z5,
 AV.int z12,AV.ae 52 z14]],[Dn.Obj.map 9 4 es])=([AV.mp 0,AV.agg [AV.int e3.o1,AV.str e3.s1,AV.int e3.n1,AV.ae 52 e3.l1],AV.agg [AV.int e3.o2,AV.str
 e3.s2,AV.int e3.n2,AV.ae 52 e3.l2]],[Dn.Obj.map 9 4 e3.es])/\gX e3/\ax (kF e3.es (TA.x e3) (TA.y e3)) (K (AV.bool true) [Dn.Obj.map 9 4 e3.es]) (∃(e2:
 TA),([AV.mp 0,AV.agg [AV.int z11,AV.str z5,AV.int z12,AV.ae 52 z14],AV.agg [AV.int z8,AV.str z9,AV.int z10,AV.ae 52 z13]],[Dn.Obj.map 9 4 e3.es])=
 ([AV.mp 0,AV.agg [AV.int e2.o1,AV.str e2.s1,AV.int e2.n1,AV.ae 52 e2.l1],AV.agg [AV.int e2.o2,AV.str e2.s2,AV.int e2.n2,AV.ae 52 e2.l2]],[Dn.Obj.map 9
 4 e2.es])/\gX e2/\ax (kF e2.es (TA.x e2) (TA.y e2)) (K (AV.bool true) [Dn.Obj.map 9 4 e2.es]) (∃(e1:LA),([AV.agg [AV.int (toInt (ad z4 0)),AV.agg [AV.str
 z7,AV.ae 52 z6],AV.agg [AV.int z8,AV.str z9,AV.int z10,AV.ae 52 z13],AV.agg [AV.int z11,AV.str z5,AV.int z12,AV.ae 52 z14]]],aB)=([AV.agg [AV.int
 e1.op,AV.agg [AV.str e1.s,AV.ae 52 e1.l],AV.agg [AV.int e1.o1,AV.str e1.s1,AV.int e1.n1,AV.ae 52 e1.l1],AV.agg [AV.int e1.o2,AV.str e1.s2,AV.int e1.n2,
 AV.ae 52 e1.l2]]],aB)/\fp e1/\∃(e0:List AV×List z15),([AV.mp 0,AV.ae 9 (List.take (List.length (dJ (LA.lt e1))) (List.drop 0 (strs (dJ (LA.lt
 e1)))))],[Dn.Obj.map 9 4 e2.es])=([AV.mp 0,AV.ae 9 e0.1],[Dn.Obj.map 9 4 e0.2])/\bd e0/\K (AV.bool (fD e0.2 e0.1)) [Dn.Obj.map 9 4 e0.2]))) (ax (toInt
 (ad z4 0)==(2:Int)) z2 (ax (toInt (ad z4 0)==(4:Int)) z2 (ax (toInt (ad z4 0)==(5:Int)) z2 (ax (toInt (ad z4 0)==(6:Int)) z2 (ax (toInt (ad z4
 0)==(7:Int)) (z1/\z1/\z1/\z1) (z3/\z3/\z3/\z3))))))))):=by kernel_rfl
def O5(a:ba×Int×List ByteArray):List AV×List Dn.Obj:=([.mp 0,an a.1, .int a.2.1],[.map 9 4 (bL a.2.2)])
def HI(a:ba×Int×List ByteArray):Prop:=aU (aJ a.1)=true/\dr a.1/\0<=a.2.1/\a.2.1<a.1.bl.length
def Mt(a:ba×Int×List ByteArray):Out (AV×List Dn.Obj):= .one (.bool (mv a.2.2 (aJ a.1) a.2.1.toNat),[.map 9 4 (bL a.2.2)])
theorem yz(x y:AV)(es:List (Value×AV)):(TA.mk (toInt (ad x 0)) (toStr (ad x 1)) (toInt (ad x 2)) (ah (ad x 3)) (toInt (ad y 0)) (toStr (ad y 1)) (toInt (ad y 2)) (ah (ad y 3)) es).x=cG x:=by rw[cE];rfl
theorem mB(x y:AV)(es:List (Value×AV)):(TA.mk (toInt (ad x 0)) (toStr (ad x 1)) (toInt (ad x 2)) (ah (ad x 3)) (toInt (ad y 0)) (toStr (ad y 1)) (toInt (ad y 2)) (ah (ad y 3)) es).y=cG y:=by rw[cE];rfl
def kH(x y:AV)(es:List (Value×AV)):TA:=TA.mk (toInt (ad x 0)) (toStr (ad x 1)) (toInt (ad x 2)) (ah (ad x 3)) (toInt (ad y 0)) (toStr (ad y 1)) (toInt (ad y 2)) (ah (ad y 3)) es
theorem ZH(κ:Kp):bz (PS κ) 12 152 (aZ O5 HI Mt):=by
 refine bh ?_
 rintro⟨a,k,b⟩ K ⟨h1,h2,h3,h4⟩ ho
 refine Eq.mpr (YT κ a k (bL b) K) ?_
 simp only at h1 h2 h3 h4
 have hk:k.toNat<a.bl.length:=by omega
 have hlit:=j8 h2 hk
 have ho':K (.bool (mv b (aJ a) k.toNat)) [.map 9 4 (bL b)]:=ho
 unfold mv at ho'
 rw[show(aJ a).body=cC a.bl from rfl,jL _ hk,show(cm (nth a.bl k.toNat)).op=toInt (ad (nth a.bl k.toNat) 0) from rfl,show(cm (nth a.bl k.toNat)).a.l=aa (ah (ad (ad (nth a.bl k.toNat) 1) 1)) from rfl,
  show(cm (nth a.bl k.toNat)).x=cG (ad (nth a.bl k.toNat) 2) from rfl,show(cm (nth a.bl k.toNat)).y=cG (ad (nth a.bl k.toNat) 3) from rfl] at ho'
 have hlc:iR (cm (nth a.bl k.toNat))=aM [cG (ad (nth a.bl k.toNat) 2),cG (ad (nth a.bl k.toNat) 3)]+aM (aa (ah (ad (ad (nth a.bl k.toNat) 1) 1))):=rfl
 have hcl:aM (aa (ah (ad (ad (nth a.bl k.toNat) 1) 1)))<=100000:=by omega
 have hcx:aM [cG (ad (nth a.bl k.toNat) 2)]<=100000/\aM [cG (ad (nth a.bl k.toNat) 3)]<=100000:=by
  simp only[aM] at hlc⊢;omega
 have hvl:=b8 (aa (ah (ad (ad (nth a.bl k.toNat) 1) 1)))
 have hrl:=AW (aa (ah (ad (ad (nth a.bl k.toNat) 1) 1)))
 have hol:=qR h2 k.toNat
 have hll:(dJ (cm (nth a.bl k.toNat))).length<=100000:=by
  have e1:=b8 [(cm (nth a.bl k.toNat)).x,(cm (nth a.bl k.toNat)).y]
  have e2:=b8 (cm (nth a.bl k.toNat)).a.l
  simp only[dJ,iR,ab8] at hlit⊢;omega
 simp only[and_self]
 rw[au,aa1,aa0,aa0]
 refine⟨⟨h3,h4⟩,?_⟩
 rw[af,beq_iff_eq,beq_eq_false_iff_ne]
 refine⟨fun e1=>?_,fun e1=>?_⟩
 ·rw[aa6 e1,aa7] at ho'
  refine⟨(toStr (ad (ad (nth a.bl k.toNat) 1) 0),ah (ad (ad (nth a.bl k.toNat) 1) 1)),rfl,hcl,(strs (dn (aa (ah (ad (ad (nth a.bl k.toNat) 1) 1)))),bL b),by simp only[ab0,ct],by simp only[bd,bf,aP];omega,?_⟩
  simp only[eB];exact ho'
 rw[aa4 e1,aa5] at ho'
 rw[af,beq_iff_eq,beq_eq_false_iff_ne]
 refine⟨fun e2=>?_,fun e2=>?_⟩
 ·rw[aa6 e2,aa7] at ho'
  refine⟨kH (ad (nth a.bl k.toNat) 2) (ad (nth a.bl k.toNat) 3) (bL b),rfl,by unfold gX kH;rw[mB];exact hcx.2,?_⟩
  unfold kH
  rw[yz,mB,nJ]
  rw[af]
  refine⟨fun f1=>by rw[f1] at ho';exact ho',fun f1=>?_⟩
  rw[f1,Bool.false_or] at ho'
  refine⟨kH (ad (nth a.bl k.toNat) 3) (ad (nth a.bl k.toNat) 2) (bL b),rfl,by unfold gX kH;rw[mB];exact hcx.1,?_⟩
  unfold kH
  rw[yz,mB,nJ,af]
  refine⟨fun f2=>by rw[f2] at ho';exact ho',fun f2=>?_⟩
  rw[f2,Bool.false_or] at ho'
  exact⟨qM (nth a.bl k.toNat),rfl,by rw[fp,dO];exact hlit,(strs (dJ (qM (nth a.bl k.toNat)).lt),bL b),by simp only[ab0,ct],by simp only[bd,bf,aP];rw[dO];omega,by simp only[eB,dO];exact ho'⟩
 rw[aa4 e2,aa5] at ho'
 rw[af,beq_iff_eq,beq_eq_false_iff_ne]
 refine⟨fun e3=>?_,fun e3=>?_⟩
 ·rw[aa6 e3] at ho'
  simp only[Bool.true_or,Bool.or_true,aa7] at ho'
  exact⟨qM (nth a.bl k.toNat),rfl,by rw[fp,dO];exact hlit,(strs (dJ (qM (nth a.bl k.toNat)).lt),bL b),by simp only[ab0,ct],by simp only[bd,bf,aP];rw[dO];omega,by simp only[eB,dO];exact ho'⟩
 rw[af,beq_iff_eq,beq_eq_false_iff_ne]
 refine⟨fun e4=>?_,fun e4=>?_⟩
 ·rw[aa6 e4] at ho'
  simp only[Bool.true_or,Bool.or_true,aa7] at ho'
  exact⟨qM (nth a.bl k.toNat),rfl,by rw[fp,dO];exact hlit,(strs (dJ (qM (nth a.bl k.toNat)).lt),bL b),by simp only[ab0,ct],by simp only[bd,bf,aP];rw[dO];omega,by simp only[eB,dO];exact ho'⟩
 rw[af,beq_iff_eq,beq_eq_false_iff_ne]
 refine⟨fun e5=>?_,fun e5=>?_⟩
 ·rw[aa6 e5] at ho'
  simp only[Bool.true_or,Bool.or_true,aa7] at ho'
  exact⟨qM (nth a.bl k.toNat),rfl,by rw[fp,dO];exact hlit,(strs (dJ (qM (nth a.bl k.toNat)).lt),bL b),by simp only[ab0,ct],by simp only[bd,bf,aP];rw[dO];omega,by simp only[eB,dO];exact ho'⟩
 rw[af,beq_iff_eq,beq_eq_false_iff_ne]
 refine⟨fun e6=>?_,fun e6=>?_⟩
 ·rw[aa6 e6] at ho'
  simp only[Bool.true_or,Bool.or_true,aa7] at ho'
  exact⟨qM (nth a.bl k.toNat),rfl,by rw[fp,dO];exact hlit,(strs (dJ (qM (nth a.bl k.toNat)).lt),bL b),by simp only[ab0,ct],by simp only[bd,bf,aP];rw[dO];omega,by simp only[eB,dO];exact ho'⟩
 rw[aa4 e3,aa4 e4,aa4 e5,aa4 e6] at ho'
 simp only[Bool.false_or,aa5] at ho'
 rw[af,beq_iff_eq,beq_eq_false_iff_ne]
 refine⟨fun e7=>?_,fun e7=>?_⟩
 ·rw[aa6 e7,Bool.true_or,ab9] at ho'
  refine⟨(a,k),rfl,⟨h1,h2,h3,h4⟩,(strs (dF (aJ a) k.toNat),bL b),rfl,by simp only[bd,bf,aP];omega,af.2 ⟨fun f1=>⟨(toStr (ad (ad (nth a.bl k.toNat) 1) 0),ah (ad (ad (nth a.bl k.toNat) 1) 1)),rfl,hcl,(strs (dn (aa (ah (ad (ad (nth a.bl k.toNat) 1) 1)))),bL b),by simp only[ab0,ct],by simp only[bd,bf,aP];omega,?_⟩,fun f1=>?_⟩⟩
  ·rw[eB] at f1
   simp only[eB]
   rw[f1,ab9] at ho';exact ho'
  ·rw[eB] at f1
   rw[f1,Bool.false_and] at ho';exact ho'
 ·rw[aa4 e7,Bool.false_or] at ho'
  refine⟨_,rfl,hcl,?_⟩
  have hp:=vX (toStr (ad (ad (nth a.bl k.toNat) 3) 1)) (aq (aa (ah (ad (ad (nth a.bl k.toNat) 1) 1)))) 0 (by omega)
  have hs:(cG (ad (nth a.bl k.toNat) 3)).s=toStr (ad (ad (nth a.bl k.toNat) 3) 1):=by rw[cE];rfl
  simp only[ab0,ct,bf,hp]
  rw[au,aa0,af]
  rw[hs] at ho'
  refine⟨by omega,fun e8=>?_,fun e8=>?_⟩
  ·rw[e8,ab9] at ho'
   refine⟨(a,k),rfl,⟨h1,h2,h3,h4⟩,(strs (dF (aJ a) k.toNat),bL b),rfl,by simp only[bd,bf,aP];omega,af.2 ⟨fun f1=>⟨(toStr (ad (ad (nth a.bl k.toNat) 1) 0),ah (ad (ad (nth a.bl k.toNat) 1) 1)),rfl,hcl,(strs (dn (aa (ah (ad (ad (nth a.bl k.toNat) 1) 1)))),bL b),by simp only[ab0,ct],by simp only[bd,bf,aP];omega,?_⟩,fun f1=>?_⟩⟩
   ·rw[eB] at f1
    simp only[eB]
    rw[f1,ab9] at ho';exact ho'
   ·rw[eB] at f1
    rw[f1,Bool.false_and] at ho';exact ho'
  ·rw[e8,Bool.false_and] at ho';exact ho'
noncomputable def KN(κ:Kp):Env:=(PS κ).aw 152 (aZ O5 HI Mt)
theorem Z7(κ:Kp):aC (KN κ):=(e24 κ).aw (TH κ) (ZH κ)
theorem TO(κ:Kp):ai (KN κ):=(TH κ).aw aI
def a6(l:List Bool):List AV:=l.map fun b=> .lit (.bool b)
theorem iD(l:List Bool):(a6 l).length=l.length:=by simp[a6]
theorem F4(l:List Bool)(k:Nat):Dn.toBool (nth (a6 l) k)=Rl.eR l k:=by
 unfold Rl.eR
 rw[List.getD_eq_getElem?_getD]
 induction l generalizing k with
 |nil=>rfl
 |cons a l ih=>
  cases k with
  |zero=>rfl
  |succ k=>simpa[a6,nth] using ih k
structure GB where
 a:ba
 done:List Bool
 b:List ByteArray
 i:Int
 first:Int
abbrev ED(a:GB):S:=sp 38 [(1, .az 0 0 (a6 a.done).length),(2, .mp 1),(3, .ptr 2 0 [] 0),(7, .int a.first),(11, .ae 55 a.a.bl),(12, .int a.a.bl.length),(13, .int a.i)] [.row 4 (a6 a.done), .map 9 4 (bL a.b), .box 41 (an a.a)]
theorem Xe(κ:Kp)(a:GB)(es:List (Value×AV))(I:Nat->S->Prop)(n:Nat)(K:Exit->S->Prop):(vc (KN κ) 12 126 none 2 (ag (Pr κ).toProgram 126 3) (sp 38 [(1, .az 0 0 (a6 a.done).length),(2, .mp 1),(3, .ptr 2 0 [] 0),(7, .int a.first),(11, .ae 55 a.a.bl),(12, .int a.a.bl.length),(13, .int a.i)] [.row 4 (a6 a.done), .map 9 4 es, .box 41 (an a.a)]) (bI (KN κ) 126 3 2 I n K))=(
 letI z1:=IntKind.wrap IntKind.i64 (a.i+(1:Int))
 letI z2:=List.length (a6 a.done)
 letI z3:=List.length a.a.bl
 ax (decide (a.i<(↑z3:Int))) (aO (decide ((0:Int)<=a.i)&&decide (a.i<(↑z3:Int))) (aO (decide ((0:Int)<=a.i)&&decide (a.i<(↑z2:Int))) (ax
 (Dn.toBool (nth (a6 a.done) (0+a.i.toNat))) (∃(e0:Nat),e0<n/\I e0 (sp 38 [(1,AV.az 0 0 z2),(2,AV.mp 1),(3,AV.ptr 2 0 [] 0),(7,AV.int a.first),
 (11,AV.ae 55 a.a.bl),(12,AV.int (↑z3:Int)),(13,AV.int z1)] [Obj.row 4 (a6 a.done),Dn.Obj.map 9 4 es,Obj.box 41 (an a.a)])) (∃(e1:ba×Int×List
 ByteArray),([AV.mp 0,an a.a,AV.int a.i],[Dn.Obj.map 9 4 es])=([AV.mp 0,an e1.1,AV.int e1.2.1],[Dn.Obj.map 9 4 (bL e1.2.2)])/\(aU (aJ e1.1)=true/\
 (aM (aa (aH 52 e1.1.hl e1.1.bl))<=100000/\e1.1.bl.length<=100000)/\(0:Int)<=e1.2.1/\e1.2.1<(↑(e1.1.bl.length):Int))/\ax (!mv e1.2.2 (aJ e1.1)
 e1.2.1.toNat) (∃(e0:Nat),e0<n/\I e0 (sp 38 [(1,AV.az 0 0 z2),(2,AV.mp 1),(3,AV.ptr 2 0 [] 0),(7,AV.int a.first),(11,AV.ae 55 a.a.bl),(12,
 AV.int (↑z3:Int)),(13,AV.int z1)] [Obj.row 4 (a6 a.done),Dn.Obj.map 9 4 (bL e1.2.2),Obj.box 41 (an a.a)])) (ax (toInt (ad (nth a.a.bl a.i.toNat) 0) != (1
 :Int)) (K Exit.ret (sp 38 [(6,AV.int a.i)] [Obj.row 4 (a6 a.done),Dn.Obj.map 9 4 (bL e1.2.2)])) (ax (decide (a.first<(0:Int))) (∃(e0:Nat),e0<n/\I
 e0 (sp 38 [(1,AV.az 0 0 z2),(2,AV.mp 1),(3,AV.ptr 2 0 [] 0),(7,AV.int a.i),(11,AV.ae 55 a.a.bl),(12,AV.int (↑z3:Int)),(13,AV.int z1)] [Obj.row 4
 (a6 a.done),Dn.Obj.map 9 4 (bL e1.2.2),Obj.box 41 (an a.a)])) (∃(e0:Nat),e0<n/\I e0 (sp 38 [(1,AV.az 0 0 z2),(2,AV.mp 1),(3,AV.ptr 2 0 [] 0),(7,
 AV.int a.first),(11,AV.ae 55 a.a.bl),(12,AV.int (↑z3:Int)),(13,AV.int z1)] [Obj.row 4 (a6 a.done),Dn.Obj.map 9 4 (bL e1.2.2),Obj.box 41 (an
 a.a)])))))))) (K (Exit.exit 0) (sp 38 [(7,AV.int a.first)] [Obj.row 4 (a6 a.done),Dn.Obj.map 9 4 es]))):=by kernel_rfl
def xR(a:GB):Prop:=aU (aJ a.a)=true/\dr a.a/\0<=a.i/\a.i<=a.a.bl.length/\a.done.length=a.a.bl.length
def w5(a:GB):Int:=lC (aJ a.a) a.done a.b (a.a.bl.length - a.i.toNat) a.i.toNat a.first
def Bq(a:GB):Out (Exit×S):= .all (fun _:Bool=>True) fun e=> .ax e (.one (.ret,sp 38 [(6, .int (w5 a))] [.row 4 (a6 a.done), .map 9 4 (bL a.b)])) (.one (.exit 0,sp 38 [(7, .int (w5 a))] [.row 4 (a6 a.done), .map 9 4 (bL a.b)]))
theorem l36(κ:Kp):bn (KN κ) 12 126 3 (aQ 2 ED xR Bq):=by
 refine aR (fun a=>a.a.bl.length - a.i.toNat) ?_
 rintro⟨a,done,b,i,first⟩ K ⟨h1,h2,h3,h4,h5⟩ ho
 simp only at h1 h2 h3 h4 h5
 rw[show(KN κ).P=Pr κ from rfl]
 refine Eq.mpr (Xe κ ⟨a,done,b,i,first⟩ (bL b) _ _ K) ?_
 have ho1:=ho true trivial
 have ho2:=ho false trivial
 simp only[Out.run,ax,w5] at ho1 ho2
 simp only[Nat.zero_add,F4]
 have hbl:=iD done
 have hl:=h2.2
 rw[af,au,au,aa1,aa1,aa0,aa0,aa0,aa2]
 have go:i<a.bl.length->∀f:Int,lC (aJ a) done b (a.bl.length - i.toNat) i.toNat first=lC (aJ a) done b (a.bl.length - (i.toNat+1)) (i.toNat+1) f->
   ∃m,m<a.bl.length - i.toNat/\fw ED xR Bq (fun a=>a.a.bl.length - a.i.toNat) K m (ED ⟨a,done,b,i+1,f⟩):=by
  intro hi f hf
  refine⟨_,?_,⟨a,done,b,i+1,f⟩,rfl,⟨h1,h2,by simp only;omega,by simp only;omega,h5⟩,rfl,?_⟩
  ·simp only;omega
  ·intro e _
   simp only[Out.run,w5,show(i+1).toNat=i.toNat+1 by omega,←hf]
   cases e
   ·exact ho2
   ·exact ho1
 refine⟨fun hi=>⟨⟨h3,hi⟩,⟨h3,by omega⟩,?_⟩,fun hi=>?_⟩
 ·have hn:=BS (aJ a) done b (a.bl.length - (i.toNat+1)) i.toNat first
  rw[show a.bl.length - (i.toNat+1)+1=a.bl.length - i.toNat by omega] at hn
  have hk:i.toNat<a.bl.length:=by omega
  have hop:(dq (aJ a).body i.toNat).op=toInt (ad (nth a.bl i.toNat) 0):=by
   rw[show(aJ a).body=cC a.bl from rfl,jL _ hk];rfl
  rw[hop] at hn
  rw[a5 (n:=i+1) (by omega) (by omega),af]
  refine⟨fun e=>go hi first (by rw[hn,e];rfl),fun e=>⟨(a,i,b),rfl,⟨h1,h2,h3,hi⟩,?_⟩⟩
  rw[e,Bool.false_or] at hn
  simp only[af,Bool.not_eq_true',ab2,bne_iff_ne,bne_eq_false_iff_eq,aa0,aa2]
  refine⟨fun e1=>go hi first (by rw[hn,e1];rfl),fun e1=>⟨fun e2=>?_,fun e2=>⟨fun e3=>go hi i ?_,fun e3=>go hi first ?_⟩⟩⟩
  ·rw[hn,e1,aa4 e2] at ho1
   simp only[Bool.not_true,aa5,Bool.not_false,aa7,Int.toNat_of_nonneg h3] at ho1
   exact ho1
  ·rw[hn,e1,aa6 e2,aa6 e3]
   simp only[Bool.not_true,aa5,aa7,Int.toNat_of_nonneg h3]
  ·rw[hn,e1,aa6 e2,aa4 e3]
   simp only[Bool.not_true,aa5]
 ·rw[show a.bl.length - i.toNat=0 by omega] at ho2
  exact ho2
noncomputable def G5(κ:Kp):Env:=(KN κ).aj 126 3 (aQ 2 ED xR Bq)
theorem RE(κ:Kp):aC (G5 κ):=(Z7 κ).aj (TO κ) (l36 κ)
theorem QM(κ:Kp):ai (G5 κ):=(TO κ).aj aG
theorem Xy(κ:Kp)(a:GB)(K:AV->List Dn.Obj->Prop):(bg (G5 κ) 12 126 [an a.a, .az 0 0 (a6 a.done).length, .mp 1] [.row 4 (a6 a.done), .map 9 4 (bL a.b)] K)=(
 letI z1:=Pg.toProgram (Env.P (KN κ))
 ag z1 126 3=ag z1 126 3/\∃(e1:GB),sp 38 [(1,AV.az 0 0 (List.length (a6 a.done))),(2,AV.mp 1),(3,AV.ptr 2 0 [] 0),(7,AV.int (-1)),(11,AV.ae 55
 a.a.bl),(12,AV.int (↑(List.length a.a.bl):Int)),(13,AV.int 0)] [Obj.row 4 (a6 a.done),Dn.Obj.map 9 4 (bL a.b),Obj.box 41 (an a.a)]=sp 38 [(1,AV.az 0
 0 (List.length (a6 e1.done))),(2,AV.mp 1),(3,AV.ptr 2 0 [] 0),(7,AV.int e1.first),(11,AV.ae 55 e1.a.bl),(12,AV.int (↑(List.length e1.a.bl):Int)),
 (13,AV.int e1.i)] [Obj.row 4 (a6 e1.done),Dn.Obj.map 9 4 (bL e1.b),Obj.box 41 (an e1.a)]/\(aU (aJ e1.a)=true/\(aM (aa (aH 52 e1.a.hl e1.a.bl))<=100000/\
 List.length e1.a.bl<=100000)/\(0:Int)<=e1.i/\e1.i<=(↑(List.length e1.a.bl):Int)/\e1.done.length=List.length e1.a.bl)/\∀(e0:Bool),True->ax e0
 (K (AV.int (w5 e1)) [Obj.row 4 (a6 e1.done),Dn.Obj.map 9 4 (bL e1.b)]) (K (AV.int (w5 e1)) [Obj.row 4 (a6 e1.done),Dn.Obj.map 9 4 (bL e1.b)])):=by kernel_rfl
def PH(a:GB):List AV×List Dn.Obj:=([an a.a, .az 0 0 (a6 a.done).length, .mp 1],[.row 4 (a6 a.done), .map 9 4 (bL a.b)])
def IZ(a:GB):Prop:=aU (aJ a.a)=true/\dr a.a/\a.done.length=a.a.bl.length
def Mk(a:GB):Out (AV×List Dn.Obj):= .one (.int (aE (aJ a.a) a.done a.b),[.row 4 (a6 a.done), .map 9 4 (bL a.b)])
theorem hJ(a:ba):(aJ a).body.length=a.bl.length:=y0 a.bl
theorem VG(κ:Kp):bz (G5 κ) 12 126 (aZ PH IZ Mk):=by
 refine bh ?_
 rintro⟨a,done,b,i,first⟩ K ⟨h1,h2,h5⟩ ho
 refine Eq.mpr (Xy κ ⟨a,done,b,i,first⟩ K) ?_
 simp only at h1 h2 h5
 have ho':K (.int (aE (aJ a) done b)) [.row 4 (a6 done), .map 9 4 (bL b)]:=ho
 unfold aE at ho'
 rw[hJ] at ho'
 refine⟨rfl,⟨a,done,b,0, -1⟩,rfl,⟨h1,h2,by simp only;omega,by simp only;omega,h5⟩,?_⟩
 intro e _
 cases e
 ·exact ho'
 ·exact ho'
noncomputable def Lo(κ:Kp):Env:=(G5 κ).aw 126 (aZ PH IZ Mk)
theorem YQ(κ:Kp):aC (Lo κ):=(RE κ).aw (QM κ) (VG κ)
theorem U4(κ:Kp):ai (Lo κ):=(QM κ).aw aI
def ints(l:List Nat):List AV:=l.map fun(k:Nat)=>AV.lit (.int .i64 (k:Int))
theorem pM(l:List Nat):(ints l).length=l.length:=by simp[ints]
theorem GH(l m:List Nat):ints (l++m)=ints l++ints m:=by simp[ints]
structure Pl where
 a:ba
 ks:List Nat
 done:List Bool
 b:List ByteArray
 i:Int
noncomputable abbrev Pn(a:ba)(κ:Kp):Dn.Obj:=
 .loop (il (Pr κ).toProgram 55 4 .ready none (ie (bK 40) [(0,an a),(1, .ptr 0 0 [] 0),(2, .nil),(3, .lit .nilIface),(4, .ptr 1 0 [] 0),(5, .ptr 3 0 [] 0),(7, .mp 2),(8,an a),(9, .bP 125 [.ptr 4 0 [] 0])]))
noncomputable abbrev Dd(κ:Kp)(a:ba)(ks:List Nat)(b:List ByteArray):List Dn.Obj:=[.box 41 (an a), .box 48 (.az 6 0 (ints ks).length), .map 9 4 (bL b), .box 114 (.mp 2), .box 41 (an a),Pn a κ, .row 3 (ints ks)]
noncomputable abbrev Jv(κ:Kp)(a:Pl):S:=sp 38 [(0, .cx 5),(1, .ptr 4 0 [] 0),(3, .mp 7),(4, .az 8 0 (a6 a.done).length),(13, .int a.a.bl.length),(14, .int a.i)] (Dd κ a.a a.ks a.b++[.map 9 4 (bL a.b), .row 4 (a6 a.done)])
theorem Zg(κ:Kp)(a:ba)(ks:List AV)(es es':List (Value×AV))(done:List AV)(i:Int)(I:Nat->S->Prop)(n:Nat)(K:Exit->S->Prop):(vc (Lo κ) 12 125 none 6 (ag (Pr κ).toProgram 125 3) (sp 38 [(0, .cx 5),(1, .ptr 4 0 [] 0),(3, .mp 7),(4, .az 8 0 done.length),(13, .int a.bl.length),(14, .int i)] [.box 41 (an a), .box 48 (.az 6 0 ks.length), .map 9 4 es, .box 114 (.mp 2), .box 41 (an a),Pn a κ, .row 3 ks, .map 9 4 es', .row 4 done]) (bI (Lo κ) 125 3 6 I n K))=(
 letI z1:=il Tryz.prog 55 4 LoopState.ready none (ie (bK 40) [(0,an a),(1,AV.ptr 0 0 [] 0),(2,AV.nil),(3,AV.lit Value.nilIface),(4,AV.ptr 1 0 [] 0),
  (5,AV.ptr 3 0 [] 0),(7,AV.mp 2),(8,an a),(9,AV.bP 125 [AV.ptr 4 0 [] 0])])
 letI z2:=sp 38 [] [Obj.box 41 (an a),Obj.box 48 (AV.az 6 0 ks.length),Dn.Obj.map 9 4 es,Obj.box 114 (AV.mp 2),Obj.box 41 (an a),Dn.Obj.loop z1,Obj.row 3
  ks]
 letI z3:=IntKind.wrap IntKind.i64 (i+(1:Int))
 letI z4:=Value×AV
 letI z5:=AV.az 6 0 (ks.length+1)
 ax (decide (i<(↑(a.bl.length):Int))) (∃(e5:GB),([an a,AV.az 0 0 done.length,AV.mp 1],[Obj.row 4 done,Dn.Obj.map 9 4 es'])=([an e5.a,AV.az 0 0
 (List.length (a6 e5.done)),AV.mp 1],[Obj.row 4 (a6 e5.done),Dn.Obj.map 9 4 (bL e5.b)])/\(aU (aJ e5.a)=true/\(aM (aa (aH 52 e5.a.hl e5.a.bl))<=100000/\
 List.length e5.a.bl<=100000)/\e5.done.length=List.length e5.a.bl)/\ax (decide (aE (aJ e5.a) e5.done e5.b<(0:Int))) (K Exit.ret z2) (aO (decide
 ((ks.length+1+1)*9<=70368744177664)) ((∃(e4:ba×Int),([an a,AV.int (aE (aJ e5.a) e5.done e5.b)],aB)=([an e4.1,AV.int e4.2],aB)/\(aU (aJ e4.1)
 =true/\(aM (aa (aH 52 e4.1.hl e4.1.bl))<=100000/\e4.1.bl.length<=100000)/\(0:Int)<=e4.2/\e4.2<(↑(e4.1.bl.length):Int))/\∃(e3:List AV×List
 z4),([AV.mp 0,AV.ae 9 (strs (cK (aJ e4.1) e4.2.toNat))],[Dn.Obj.map 9 4 es])=([AV.mp 0,AV.ae 9 e3.1],[Dn.Obj.map 9 4 e3.2])/\bd e3/\aO (decide ((0:
 Int)<=aE (aJ e5.a) e5.done e5.b)&&decide (aE (aJ e5.a) e5.done e5.b<(↑(done.length):Int))) (∃(e2:ba×Int),([an a,AV.int (aE (aJ e5.a) e5.done
 e5.b)],aB)=([an e2.1,AV.int e2.2],aB)/\(aU (aJ e2.1)=true/\(aM (aa (aH 52 e2.1.hl e2.1.bl))<=100000/\e2.1.bl.length<=100000)/\(0:Int)<=e2.2/\
 e2.2<(↑(e2.1.bl.length):Int))/\∃(e1:List AV×List z4),([AV.mp 0,AV.ae 9 (strs (cK (aJ e2.1) e2.2.toNat))],[Dn.Obj.map 9 4 (bL e5.b)])=([AV.mp 0,
 AV.ae 9 e1.1],[Dn.Obj.map 9 4 e1.2])/\bd e1/\∃(e0:Nat),e0<n/\I e0 (sp 38 [(0,AV.cx 5),(1,AV.ptr 4 0 [] 0),(3,AV.mp 7),(4,AV.az 8 0
 done.length),(13,AV.int (↑(a.bl.length):Int)),(14,AV.int z3)] [Obj.box 41 (an a),Obj.box 48 z5,Dn.Obj.map 9 4 (fc e3.2 e3.1),Obj.box 114 (AV.mp 2),
 Obj.box 41 (an a),Dn.Obj.loop z1,Obj.row 3 (List.take ks.length ks++[AV.int (aE (aJ e5.a) e5.done e5.b)]),Dn.Obj.map 9 4 (fc e1.2 e1.1),Obj.row 4 (bQ (a6
 e5.done) (0+Int.toNat (aE (aJ e5.a) e5.done e5.b)) (AV.bool true))])))/\∃(e4:ba×Int),([an a,AV.int (aE (aJ e5.a) e5.done e5.b)],aB)=([an e4.1,
 AV.int e4.2],aB)/\(aU (aJ e4.1)=true/\(aM (aa (aH 52 e4.1.hl e4.1.bl))<=100000/\e4.1.bl.length<=100000)/\(0:Int)<=e4.2/\e4.2<(↑(e4.1.bl.length):
 Int))/\∃(e3:List AV×List z4),([AV.mp 0,AV.ae 9 (strs (cK (aJ e4.1) e4.2.toNat))],[Dn.Obj.map 9 4 es])=([AV.mp 0,AV.ae 9 e3.1],[Dn.Obj.map 9 4
 e3.2])/\bd e3/\aO (decide ((0:Int)<=aE (aJ e5.a) e5.done e5.b)&&decide (aE (aJ e5.a) e5.done e5.b<(↑(done.length):Int))) (∃(e2:ba×Int),([an a,
 AV.int (aE (aJ e5.a) e5.done e5.b)],aB)=([an e2.1,AV.int e2.2],aB)/\(aU (aJ e2.1)=true/\(aM (aa (aH 52 e2.1.hl e2.1.bl))<=100000/\e2.1.bl.length<=
 100000)/\(0:Int)<=e2.2/\e2.2<(↑(e2.1.bl.length):Int))/\∃(e1:List AV×List z4),([AV.mp 0,AV.ae 9 (strs (cK (aJ e2.1) e2.2.toNat))],[Dn.Obj.map 9
 4 (bL e5.b)])=([AV.mp 0,AV.ae 9 e1.1],[Dn.Obj.map 9 4 e1.2])/\bd e1/\∃(e0:Nat),e0<n/\I e0 (sp 38 [(0,AV.cx 5),(1,AV.ptr 4 0 [] 0),(3,AV.mp 7),
 (4,AV.az 8 0 done.length),(13,AV.int (↑(a.bl.length):Int)),(14,AV.int z3)] [Obj.box 41 (an a),Obj.box 48 z5,Dn.Obj.map 9 4 (fc e3.2 e3.1),Obj.box 114
 (AV.mp 2),Obj.box 41 (an a),Dn.Obj.loop z1,Obj.row 3 (List.take ks.length ks++[AV.int (aE (aJ e5.a) e5.done e5.b)]),Dn.Obj.map 9 4 (fc e1.2 e1.1),Obj.row
 4 (bQ (a6 e5.done) (0+Int.toNat (aE (aJ e5.a) e5.done e5.b)) (AV.bool true))]))))) (K (Exit.exit 0) z2)):=by kernel_rfl
theorem lR: ∀(l:List Bool) (k:Nat),bQ (a6 l) k (.lit (.bool true))=a6 (l.set k true)
 |[],_=>rfl
 |_::_,0=>rfl
 |a::l,k+1=>by
  have:=lR l k
  simp only[a6] at this
  simp only[a6,ac0,bQ,List.set_cons_succ,this]
noncomputable def eg(a:Pl):List Nat:=na (aJ a.a) (a.a.bl.length - a.i.toNat) a.done a.b
def D7(a:Pl):Prop:=aU (aJ a.a)=true/\dr a.a/\0<=a.i/\a.i<=a.a.bl.length/\a.done.length=a.a.bl.length/\a.ks.length<=a.i.toNat
noncomputable def HC(κ:Kp)(a:Pl):Out (Exit×S):= .all (fun _:Bool=>True) fun e=> .ax e (.one (.ret,sp 38 [] (Dd κ a.a (a.ks++eg a) (a.b++gF (aJ a.a) (eg a)))))
 (.one (.exit 0,sp 38 [] (Dd κ a.a (a.ks++eg a) (a.b++gF (aJ a.a) (eg a)))))
theorem wC{a:ba}(h:dr a){k:Nat}(hk:k<a.bl.length):(cK (aJ a) k).length<=200000:=by
 have hlit:=j8 h hk
 have hol:=qR h k
 have hc:=El (cm (nth a.bl k))
 have hv:=b8 [(cm (nth a.bl k)).x]
 have e1:=b8 [(cm (nth a.bl k)).x,(cm (nth a.bl k)).y]
 have e2:=b8 (cm (nth a.bl k)).a.l
 unfold cK
 rw[show(aJ a).body=cC a.bl from rfl,jL _ hk]
 cases decide (7<=(cm (nth a.bl k)).op) with
 |true=>rw[aa7,ab8];omega
 |false=>
  rw[aa5]
  simp only[dJ,iR,ab8] at hlit⊢;omega
theorem Ya(κ:Kp):bn (Lo κ) 12 125 3 (aQ 6 (Jv κ) D7 (HC κ)):=by
 refine aR (fun a=>a.a.bl.length - a.i.toNat) ?_
 rintro⟨a,ks,done,b,i⟩ K ⟨h1,h2,h3,h4,h5,h6⟩ ho
 simp only at h1 h2 h3 h4 h5 h6
 rw[show(Lo κ).P=Pr κ from rfl]
 refine Eq.mpr (Zg κ a (ints ks) (bL b) (bL b) (a6 done) i _ _ K) ?_
 have ho1:=ho true trivial
 have ho2:=ho false trivial
 simp only[Out.run,ax,eg] at ho1 ho2
 simp only[and_self]
 have hbl:=iD done
 have hil:=pM ks
 have hl:=h2.2
 rw[af,aa0,aa2]
 refine⟨fun hi=>⟨⟨a,done,b,0,0⟩,rfl,⟨h1,h2,h5⟩,?_⟩,fun hi=>?_⟩
 ·have hw:=C5 (aJ a) (a.bl.length - (i.toNat+1)) done b
  rw[show a.bl.length - (i.toNat+1)+1=a.bl.length - i.toNat by omega] at hw
  rw[af,aa0,aa2]
  refine⟨fun e=>?_,fun e=>?_⟩
  ·rw[hw,aa6 e] at ho1
   simp only[aa7,List.append_nil,gF,List.flatMap_nil] at ho1
   exact ho1
  ·rw[hw,aa4 e,aa5] at ho1 ho2
   rcases oU (aJ a) done b with e0|⟨e1,e2,e3,_⟩
   ·rw[e0] at e;omega
   have e2':=e2
   rw[hJ] at e2'
   have hg:=wC h2 e2'
   rw[au,aa0]
   refine⟨by omega,(a,aE (aJ a) done b),rfl,⟨h1,h2,e1,by simp only;omega⟩,(strs (cK (aJ a) (aE (aJ a) done b).toNat),bL b),rfl,by simp only[bd,bf,aP];omega,?_⟩
   rw[au,aa1,aa0,aa0]
   refine⟨⟨e1,by show aE (aJ a) done b<_;omega⟩,(a,aE (aJ a) done b),rfl,⟨h1,h2,e1,by simp only;omega⟩,(strs (cK (aJ a) (aE (aJ a) done b).toNat),bL b),rfl,by simp only[bd,bf,aP];omega,?_⟩
   rw[a5 (n:=i+1) (by omega) (by omega)]
   refine⟨_,?_,⟨a,ks++[(aE (aJ a) done b).toNat],done.set (aE (aJ a) done b).toNat true,b++cK (aJ a) (aE (aJ a) done b).toNat,i+1⟩,?_,⟨h1,h2,by simp only;omega,by simp only;omega,by simpa using h5,by simp only[ab8,List.length_singleton];omega⟩,rfl,?_⟩
   ·simp only;omega
   ·simp only[List.take_length]
    simp only[Jv,Dd,List.cons_append,List.nil_append,Nat.zero_add,lR,mE,iD,List.length_set,GH,pM,ab8,List.length_singleton]
    simp only[ints,ac0,List.map_nil,Int.toNat_of_nonneg e1,List.length_singleton]
   ·have hg2: ∀l,b++gF (aJ a) ((aE (aJ a) done b).toNat::l)=(b++cK (aJ a) (aE (aJ a) done b).toNat)++gF (aJ a) l:=fun l=>by
     simp only[gF,List.flatMap_cons,List.append_assoc]
    have hk2: ∀l,ks++(aE (aJ a) done b).toNat::l=(ks++[(aE (aJ a) done b).toNat])++l:=fun l=>by simp
    rw[hg2,hk2] at ho1 ho2
    intro f _
    simp only[Out.run,eg,show(i+1).toNat=i.toNat+1 by omega]
    cases f
    ·exact ho2
    ·exact ho1
 ·rw[show a.bl.length - i.toNat=0 by omega] at ho2
  simp only[na,List.append_nil,gF,List.flatMap_nil] at ho2
  exact ho2
noncomputable def Gv(κ:Kp):Env:=(Lo κ).aj 125 3 (aQ 6 (Jv κ) D7 (HC κ))
theorem RX(κ:Kp):aC (Gv κ):=(YQ κ).aj (U4 κ) (Ya κ)
theorem Lw(κ:Kp):ai (Gv κ):=(U4 κ).aj aG
end Go.Proofs.YtdpmikfheebicaaGreatDoor
namespace Go.Proofs.YtdpmikfheebicaaGreatDoor
open Go Go.Dn Go.Rl Go.Proofs Go.RowKit Go.Extern.Stop Go.Stop Go.Extern
theorem Qp(v:Value)(xT:TypeId)(w:World):(Instr.typeAssert (.iface 159 v) xT 165 true).run Tryz.prog w= .ok (.tuple #[.nilIface, .bool false]) w:=run_typeAssert_lacksB Tryz.underlying165 (by kernel_rfl) (by kernel_rfl) v xT w
theorem F3(v:Value)(xT:TypeId)(w:World):(Instr.typeAssert (.iface 159 v) xT 167 true).run Tryz.prog w= .ok (.tuple #[.nilIface, .bool false]) w:=run_typeAssert_lacksB Tryz.underlying167 (by kernel_rfl) (by kernel_rfl) v xT w
theorem An(v:Value)(xT:TypeId)(w:World):(Instr.typeAssert (.iface 159 v) xT 169 true).run Tryz.prog w= .ok (.tuple #[.iface 159 v, .bool true]) w:=run_typeAssert_hasB Tryz.underlying169 (by kernel_rfl) v xT w
theorem vE(v:Value)(w:World):(Go.method 327 159 v "Unwrap").run Tryz.prog w= .ok (188,v) w:=by kernel_rfl
set_option maxRecDepth 4000 in
theorem Gl(a:Addr)(w:World):
  Calls Tryz.prog 87 #[.iface 189 (.pointer (some a)), .iface 189 (.pointer (some a)), .bool true] w fun e w'=>e= .returned (.bool true)/\w'=w:=by
 obtain⟨i,hi,hcmp⟩:=Option.map_eq_some_iff.1 CI
 obtain⟨j,hj,hjs⟩:=Option.map_eq_some_iff.1 Cq
 have heq:=run_eql_iface_ptr_same (P:=Tryz.prog) w a Tryz.underlying88 Tryz.underlying189 hi hcmp hj
 go_enter Tryz.func87,Tryz.ntmps87
 go_wp2
 refine wp_loop_rounds 1 ?_
 rw[rounds_succ]
 go_wp2
 go_ret
 exact⟨rfl,rfl⟩
set_option maxRecDepth 8000 in
theorem J7(ja ra b:Addr)(cap:Nat)(w:World)(h1:w.cell? ja=some (.slice (some ra) 1 cap))(h2:w.cell? ra=some (.iface 189 (.pointer (some b)))):
  Calls Tryz.prog 56 #[.iface 159 (.pointer (some ja)), .iface 189 (.pointer (some b))] w fun e w'=>e= .returned (.bool true)/\w'=w:=by
 have h8:= @run_callFunc_extern Tryz.prog 86 _ Extern.ReflectliteType.typeOf Tryz.func86 (by kernel_rfl) (by kernel_rfl) (by kernel_rfl) (by kernel_rfl)
 have h32:= @run_callFunc_extern Tryz.prog 192 _ (Extern.ReflectliteType.method fun t=>do Go.Extern.Rtype.noPackHeld "Comparable" t;pure (.bool (←typeInfo t).comparable)) Tryz.func192 (by kernel_rfl) (by kernel_rfl) (by kernel_rfl) (by kernel_rfl)
 have tT:=tf
 have cT:=lU
 have mR:=gC
 have hne:=run_eql_iface_types (P:=Tryz.prog) 159 189 (.pointer (some ja)) (.pointer (some b)) Tryz.underlying88 (by decide)
 have n1:=Qp
 have n2:=F3
 have n3:=An
 have mU:=vE
 go_enter Tryz.func56,Tryz.ntmps56
 go_wp2
 refine wp_loop_rounds 1 ?_
 rw[rounds_succ]
 go_wp2
 refine wp_loop_rounds 1 ?_
 rw[rounds_succ]
 go_wp2_with (first|(go_at_call 87;refine(Gl b _).mono ?_;rintro e w' ⟨rfl,rfl⟩))
 all_goals (go_ret;exact⟨rfl,rfl⟩)
end Go.Proofs.YtdpmikfheebicaaGreatDoor
namespace Go.Proofs.YtdpmikfheebicaaGreatDoor
open Go Go.Dn Go.Rl Go.Proofs
attribute [local irreducible] bg vc
set_option maxRecDepth 20000
noncomputable def Oh(κ:Kp):Env:=(Gv κ).aj 85 3 (jZ (Gv κ) 12 85 3 3)
noncomputable def Pw(κ:Kp):Env:=(Oh κ).aj 85 12 (jZ (Oh κ) 12 85 12 3)
theorem Va(κ:Kp):aC (Oh κ):=(RX κ).aj (Lw κ) (qL (Lw κ) 3)
theorem QZ(κ:Kp):ai (Oh κ):=(Lw κ).aj (ky (Lw κ) 3)
theorem WN(κ:Kp):aC (Pw κ):=(Va κ).aj (QZ κ) (qL (QZ κ) 3)
theorem T8(κ:Kp):ai (Pw κ):=(QZ κ).aj (ky (QZ κ) 3)
theorem yJ(κ:Kp)(K:AV->List Dn.Obj->Prop):(bg (Pw κ) 12 85 [.ae 88 [.lit (kQ κ)]] [] K)=(
 letI z1:=Pg.toProgram (Env.P (Gv κ))
 letI z2:=Pg.toProgram (Env.P (Oh κ))
 ag z1 85 3=ag z1 85 3/\ag z2 85 12=ag z2 85 12/\K (AV.iq 159 (AV.ptr 0 0 [] 0)) [Obj.box 161 (AV.agg [AV.az 1 0 1]),Obj.row 88 [AV.lit (Value.iface 189
 (Value.pointer (some (Kp.stuck κ))))]]):=by kernel_rfl
abbrev xG:AV:= .iq 159 (.ptr 0 0 [] 0)
abbrev y6(κ:Kp):List Dn.Obj:=[.box 161 (.agg [.az 1 0 1]), .row 88 [.lit (kQ κ)]]
def Tl(κ:Kp)(_:Unit):List AV×List Dn.Obj:=([.ae 88 [.lit (kQ κ)]],[])
def DA(_:Unit):Prop:=True
def Oy(κ:Kp)(_:Unit):Out (AV×List Dn.Obj):= .one (xG,y6 κ)
theorem cJ(κ:Kp):bz (Pw κ) 12 85 (aZ (Tl κ) DA (Oy κ)):=by
 refine bh ?_
 rintro⟨⟩ K _ ho
 refine Eq.mpr (yJ κ K) ?_
 exact⟨rfl,rfl,ho⟩
def UE(κ:Kp)(_:Unit):List AV×List Dn.Obj:=([xG, .lit (kQ κ)],y6 κ)
def O3(κ:Kp)(_:Unit):Out (AV×List Dn.Obj):= .one (.bool true,y6 κ)
theorem qI(κ:Kp): ∀args st K,aZ (UE κ) DA (O3 κ) args st K->dj (Pr κ) 56 args st K:=by
 rintro args st K ⟨_,h1,_,h3⟩
 obtain⟨rfl,rfl⟩:=Prod.mk.inj h1
 refine⟨⟨_,Tryz.func56,rfl⟩,fun C vs hC hI hst hm=>?_⟩
 obtain⟨vs⟩:=vs
 match vs,hm with
 | [v1,v2],hm=>
  simp only[MT] at hm
  obtain⟨a1,a2,a3,b1,b2,b3,_⟩:=hm
  have hv2:v2=kQ κ:=aL (C:=C) ⟨b1,b2,b3⟩
  have r1:Rel C xG v1:=⟨a1,a2,a3⟩
  obtain⟨c1,_⟩:=fG r1 rfl (by simp)
  simp only[M,c1] at a3
  obtain⟨u,u1,u2,u3,u4,v,v1',v2',v3⟩:=a3
  have hv1:v1= .iface 159 u:=by simpa using u1
  have hu:u.cells= #[u]:=fR (by rw[u2];rfl)
  have huv:v=u:=by rw[hu] at v1';simpa using v1'.symm
  subst huv
  have o0:=hI.obj 0 (by rw[hst];simp)
  have o1:=hI.obj 1 (by rw[hst];simp)
  rw[hst] at o0 o1
  simp only[ar,js] at o0 o1
  obtain⟨_,_,c,e,g1,_,g2⟩:=o0
  simp only[M,ML] at g2
  obtain⟨⟨_,s,s1,_,s2⟩,_⟩:=g2
  have s3:=s2.1 88 [.lit (kQ κ)] (by rw[hst];rfl)
  obtain⟨_,s3⟩:=s3
  rcases s3 with⟨_,_,_,s3⟩|⟨n1,cap,q,rfl,s3,s4,_⟩
  ·cases s3
  have hq:q=⟨(C.ι 1).block,0,none⟩:=by
   rcases s3 with s3|⟨s3,s5⟩
   ·rw[s3,Nat.zero_mul]
   ·omega
  subst hq
  obtain⟨_,o1⟩:=o1
  rcases o1 with⟨o1,_⟩|⟨_,_,c',k1,_,_,_,k2⟩
  ·rw[n1] at o1;cases o1
  simp only[MR,M] at k2
  obtain⟨⟨k2,_⟩,_⟩:=k2
  have hp:v= .pointer (some ⟨(C.ι 0).block,0,none⟩):=(v3.2.1 161 _ (by rw[hst];rfl)).2
  subst hp
  subst hv1 hv2
  refine(callsIn_wide.2 (J7 ⟨(C.ι 0).block,0,none⟩ ⟨(C.ι 1).block,0,none⟩ κ.stuck cap C.w s1 k2)).mono ?_
  rintro e' w' ⟨rfl,rfl⟩
  exact⟨_, .bool true,C,rfl,rfl,rfl,hI,aW rfl,Ext.refl _ (by rw[hst];exact Nat.le_refl _),by rw[hst];exact h3⟩
 |[],hm=>simp[MT] at hm
 |[_],hm=>simp[MT] at hm
 |_::_::_::_,hm=>simp[MT] at hm
noncomputable def EJ(κ:Kp):Env:=((Pw κ).aw 85 (aZ (Tl κ) DA (Oy κ))).aw 56 (aZ (UE κ) DA (O3 κ))
theorem eJ(κ:Kp):aC (EJ κ):=((WN κ).aw (T8 κ) (cJ κ)).me (qI κ)
theorem mJ(κ:Kp):ai (EJ κ):=((T8 κ).aw aI).aw aI
theorem ZX(κ:Kp)(a:ba)(K:AV->List Dn.Obj->Prop):(bg (EJ κ) 12 55 [an a] [] K)=(
 letI z2:=Value.iface 189 (Value.pointer (some (Kp.stuck κ)))
 letI z1:=∃(e0:Unit),([AV.ae 88 [AV.lit z2]],aB)=([AV.ae 88 [AV.lit z2]],aB)/\True/\K (AV.bp [AV.nil,AV.iq 159 (AV.ptr 0 0 [] 0)]) [Obj.box 161
  (AV.agg [AV.az 1 0 1]),Obj.row 88 [AV.lit z2]]
 letI z3:=a.bl.length
 letI z4:=Value×AV
 letI z5:=Pg.toProgram (Env.P (Lo κ))
 letI z6:=Int.toNat (↑z3:Int)
 aO (true&&decide ((↑z3:Int)<=(↑z3:Int))&&decide ((Int.toNat (↑z3:Int)+1)*2<=70368744177664)&&true) (ag z5 125 3=ag z5 125 3/\∃(e4:Pl),
 sp 38 [(0,AV.cx 5),(1,AV.ptr 4 0 [] 0),(3,AV.mp 7),(4,AV.az 8 0 z6),(13,AV.int (↑z3:Int)),(14,AV.int 0)] [Obj.box 41 (an a),Obj.box 48 (AV.az 6 0
 0),Dn.Obj.map 9 4 [],Obj.box 114 (AV.mp 2),Obj.box 41 (an a),Dn.Obj.loop (il Tryz.prog 55 4 LoopState.ready none (ie (bK 40) [(0,an a),(1,AV.ptr 0 0 []
 0),(2,AV.nil),(3,AV.lit Value.nilIface),(4,AV.ptr 1 0 [] 0),(5,AV.ptr 3 0 [] 0),(7,AV.mp 2),(8,an a),(9,AV.bP 125 [AV.ptr 4 0 [] 0])])),Obj.row 3
 [],Dn.Obj.map 9 4 [],Obj.row 4 (ee (AV.bool false) z6)]=sp 38 [(0,AV.cx 5),(1,AV.ptr 4 0 [] 0),(3,AV.mp 7),(4,AV.az 8 0 (List.length (a6 e4.done))),
 (13,AV.int (↑(List.length e4.a.bl):Int)),(14,AV.int e4.i)] [Obj.box 41 (an e4.a),Obj.box 48 (AV.az 6 0 (List.length (ints e4.ks))),Dn.Obj.map 9 4 (bL
 e4.b),Obj.box 114 (AV.mp 2),Obj.box 41 (an e4.a),Dn.Obj.loop (il Tryz.prog 55 4 LoopState.ready none (ie (bK 40) [(0,an e4.a),(1,AV.ptr 0 0 [] 0),(2,
 AV.nil),(3,AV.lit Value.nilIface),(4,AV.ptr 1 0 [] 0),(5,AV.ptr 3 0 [] 0),(7,AV.mp 2),(8,an e4.a),(9,AV.bP 125 [AV.ptr 4 0 [] 0])])),Obj.row 3
 (ints e4.ks),Dn.Obj.map 9 4 (bL e4.b),Obj.row 4 (a6 e4.done)]/\(aU (aJ e4.a)=true/\(aM (aa (aH 52 e4.a.hl e4.a.bl))<=100000/\List.length e4.a.bl<=
 100000)/\(0:Int)<=e4.i/\e4.i<=(↑(List.length e4.a.bl):Int)/\e4.done.length=List.length e4.a.bl/\e4.ks.length<=e4.i.toNat)/\∀(e3:Bool),True->
 ax e3 (ax (decide ((↑(List.length (ints (e4.ks++eg e4))):Int)<(↑(List.length e4.a.bl):Int))) (z1/\z1) ((∃(e2:List AV),([AV.ae 52 e4.a.hl],aB)=
 ([AV.ae 52 e2],aB)/\bu e2/\∃(e1:List AV×List z4),([AV.mp 0,AV.ae 9 (List.take (List.length (aq (aa e2))) (List.drop 0 (strs (aq (aa e2)))))],
 [Dn.Obj.map 9 4 (bL (e4.b++gF (aJ e4.a) (eg e4)))])=([AV.mp 0,AV.ae 9 e1.1],[Dn.Obj.map 9 4 e1.2])/\bd e1/\ax (!fD e1.2 e1.1) z1 (K (AV.bp [AV.az 0 0
 (List.length (ints (e4.ks++eg e4))),AV.lit Value.nilIface]) [Obj.row 3 (ints (e4.ks++eg e4))]))/\∃(e2:List AV),([AV.ae 52 e4.a.hl],aB)=([AV.ae 52
 e2],aB)/\bu e2/\∃(e1:List AV×List z4),([AV.mp 0,AV.ae 9 (List.take (List.length (aq (aa e2))) (List.drop 0 (strs (aq (aa e2)))))],[Dn.Obj.map 9 4 (bL
 (e4.b++gF (aJ e4.a) (eg e4)))])=([AV.mp 0,AV.ae 9 e1.1],[Dn.Obj.map 9 4 e1.2])/\bd e1/\ax (!fD e1.2 e1.1) z1 (K (AV.bp [AV.az 0 0 (List.length (ints
 (e4.ks++eg e4))),AV.lit Value.nilIface]) [Obj.row 3 (ints (e4.ks++eg e4))]))) (ax (decide ((↑(List.length (ints (e4.ks++eg e4))):Int)<(↑(List.length
 e4.a.bl):Int))) (z1/\z1) ((∃(e2:List AV),([AV.ae 52 e4.a.hl],aB)=([AV.ae 52 e2],aB)/\bu e2/\∃(e1:List AV×List z4),([AV.mp 0,AV.ae 9
 (List.take (List.length (aq (aa e2))) (List.drop 0 (strs (aq (aa e2)))))],[Dn.Obj.map 9 4 (bL (e4.b++gF (aJ e4.a) (eg e4)))])=([AV.mp 0,AV.ae 9 e1.1],
 [Dn.Obj.map 9 4 e1.2])/\bd e1/\ax (!fD e1.2 e1.1) z1 (K (AV.bp [AV.az 0 0 (List.length (ints (e4.ks++eg e4))),AV.lit Value.nilIface]) [Obj.row 3 (ints
 (e4.ks++eg e4))]))/\∃(e2:List AV),([AV.ae 52 e4.a.hl],aB)=([AV.ae 52 e2],aB)/\bu e2/\∃(e1:List AV×List z4),([AV.mp 0,AV.ae 9 (List.take
 (List.length (aq (aa e2))) (List.drop 0 (strs (aq (aa e2)))))],[Dn.Obj.map 9 4 (bL (e4.b++gF (aJ e4.a) (eg e4)))])=([AV.mp 0,AV.ae 9 e1.1],[Dn.Obj.map 9
 4 e1.2])/\bd e1/\ax (!fD e1.2 e1.1) z1 (K (AV.bp [AV.az 0 0 (List.length (ints (e4.ks++eg e4))),AV.lit Value.nilIface]) [Obj.row 3 (ints (e4.ks++eg
 e4))]))))):=by kernel_rfl
def Ff(a:ba):List AV×List Dn.Obj:=([an a],[])
def G3(a:ba):Prop:=aU (aJ a)=true/\dr a
noncomputable def Ju(κ:Kp)(a:ba):Out (AV×List Dn.Obj):= .ax (kc (aJ a)) (.one (.bp [.az 0 0 (fk (aJ a)).length, .lit .nilIface],[.row 3 (ints (fk (aJ a)))])) (.one (.bp [.nil,xG],y6 κ))
theorem nh(n:Nat):ee (.lit (.bool false)) n=a6 (List.replicate n false):=by simp[ee,a6]
theorem Vb(κ:Kp):bz (EJ κ) 12 55 (aZ Ff G3 (Ju κ)):=by
 refine bh ?_
 rintro a K ⟨h1,h2⟩ ho
 refine Eq.mpr (ZX κ a K) ?_
 simp only[and_self]
 simp only[Ju,Out.run,af] at ho
 have hl:=h2.2
 have hw:eg ⟨a,[],List.replicate a.bl.length false,[],0⟩=fk (aJ a):=by
  unfold eg fk
  rw[hJ];rfl
 have hc:=oa h2
 have hv:=b8 (aa a.hl)
 have hs:kc (aJ a)=(decide (a.bl.length<=(fk (aJ a)).length)&&hasB (gF (aJ a) (fk (aJ a))) (aq (aa a.hl))):=by
  unfold kc;rw[hJ];rfl
 rw[hs] at ho
 simp only[au,aa1,aa0,Int.toNat_natCast]
 refine⟨⟨⟨⟨trivial,by omega⟩,by omega⟩,trivial⟩,trivial,⟨a,[],List.replicate a.bl.length false,[],0⟩,?_,⟨h1,h2,by simp only;omega,by simp only;omega,by simp,by simp⟩,?_⟩
 ·simp only[nh,iD,List.length_replicate];rfl
 ·intro y _
  rw[hw]
  cases y<;>
  ·simp only[pM,List.nil_append,af,aa0,aa2,Bool.not_eq_true',ab2,reduceCtorEq,false_implies,true_implies,and_true,true_and]
   refine⟨fun e=>?_,fun e=>?_⟩
   ·rw[aa4 (show ¬ a.bl.length<=(fk (aJ a)).length by omega),Bool.false_and] at ho
    exact⟨(),ho.2 rfl⟩
   ·rw[aa6 (show a.bl.length<=(fk (aJ a)).length by omega),ab9] at ho
    refine⟨a.hl,rfl,hc,(strs (aq (aa a.hl)),bL (gF (aJ a) (fk (aJ a)))),?_,?_,?_⟩
    ·simp only[ab0,ct]
    ·simp only[bd,bf,aP];omega
    ·simp only[eB]
     exact⟨fun e2=>⟨(),ho.2 e2⟩,fun e2=>ho.1 e2⟩
noncomputable def Pj(κ:Kp):Env:=(EJ κ).aw 55 (aZ Ff G3 (Ju κ))
theorem e17(κ:Kp):aC (Pj κ):=(eJ κ).aw (mJ κ) (Vb κ)
theorem TK(κ:Kp):ai (Pj κ):=(mJ κ).aw aI
theorem y7(κ:Kp)(a:ba)(K:AV->List Dn.Obj->Prop):(bg (Pj κ) 12 27 [an a] [] K)=(
 letI z1:=Value.iface 189 (Value.pointer (some (Kp.stuck κ)))
 aO (decide (a.hl.length<=9223372036854775807)&&decide (a.bl.length<=9223372036854775807)) (ax (!aU {head:={rel:=a.rel,l:=aa a.hl},body:=cC a.bl}) (K (AV.bp [AV.nil,AV.int 30]) []) (∃(e1:ba),([AV.agg [AV.agg [AV.str a.rel,AV.ae 52 a.hl],AV.ae 55 a.bl,AV.int a.line]],aB)=([AV.agg [AV.agg [AV.str e1.rel,AV.ae 52 e1.hl],AV.ae 55 e1.bl,AV.int e1.line]],aB)/\(aU (aJ e1)=true/\aM (aa (aH 52 e1.hl e1.bl))<=100000/\e1.bl.length<=100000)/\ax (kc (aJ e1)) (K (AV.bp [AV.az 0 0 (List.length (fk (aJ e1))),AV.int 0]) [Obj.row 3 (ints (fk (aJ e1)))]) (∃(e0:Unit),([AV.iq 159 (AV.ptr 0 0 [] 0),AV.lit z1],[Obj.box 161 (AV.agg [AV.az 1 0 1]),Obj.row 88 [AV.lit z1]])=([AV.iq 159 (AV.ptr 0 0 [] 0),AV.lit z1],[Obj.box 161 (AV.agg [AV.az 1 0 1]),Obj.row 88 [AV.lit z1]])/\True/\K (AV.bp [AV.nil,AV.int 60]) [])))):=by kernel_rfl
def M5(a:ba):Out (AV×List Dn.Obj):= .ax (aU (aJ a)) (.ax (kc (aJ a)) (.one (.bp [.az 0 0 (fk (aJ a)).length, .int 0],[.row 3 (ints (fk (aJ a)))])) (.one (.bp [.nil, .int 60],[]))) (.one (.bp [.nil, .int 30],[]))
theorem c7(κ:Kp):bz (Pj κ) 12 27 (aZ Ff dr M5):=by
 refine bh ?_
 rintro a K h2 ho
 refine Eq.mpr (y7 κ a K) ?_
 simp only[M5,Out.run,af] at ho
 have hc:=oa h2
 have hl1:=fJ (aa a.hl)
 rw[eY] at hl1
 have hl:=h2.2
 rw[au,aa1,aa0,aa0]
 refine⟨⟨by omega,by omega⟩,?_⟩
 have hr:aU ⟨⟨a.rel,aa a.hl⟩,cC a.bl⟩=aU (aJ a):=rfl
 rw[hr]
 simp only[af,Bool.not_eq_true',ab2]
 refine⟨fun e=>ho.2 e,fun e=>⟨a,rfl,⟨e,h2⟩,fun e2=>(ho.1 e).1 e2,fun e2=>⟨(),trivial,trivial,(ho.1 e).2 e2⟩⟩⟩
noncomputable def E7(κ:Kp):Env:=(Pj κ).aw 27 (aZ Ff dr M5)
theorem e7(κ:Kp):aC (E7 κ):=(e17 κ).aw (TK κ) (c7 κ)
theorem m7(κ:Kp):ai (E7 κ):=(TK κ).aw aI
theorem FO{a:ba}(h:kc (aJ a)=true):(fk (aJ a)).length=a.bl.length:=by
 have h1:=Fa (aJ a)
 rw[hJ] at h1
 simp only[kc,aa1,aa0,hJ] at h
 omega
noncomputable abbrev Ln(κ:Kp):Env:=E7 κ
theorem Vo(κ:Kp):aC (Ln κ):=e7 κ
theorem Tc(κ:Kp):ai (Ln κ):=m7 κ
end Go.Proofs.YtdpmikfheebicaaGreatDoor
