import Derived.Test.YtioeffnadipbaaaGreatDoorDeP3
import Derived.Test.YtioeffnadipbaaaGreatDoorDeP1
import Derived.Test.YtioeffnadipbaaaGreatDoorDeP2
namespace Go.Proofs.YtioeffnadipbaaaGreatDoor
open Go Go.Dn Go.Rl Go.Proofs
attribute [local irreducible] a7 vc
set_option maxRecDepth 20000
theorem x65 κ l s i I n K:(vc (RK κ) 12 189 none 0 (ad (Pr κ).toProgram 189 2) (sp 19 [(0, .ah 9 l),(1, .lit (.string s)),(7, .int l.length),(8, .int i)] []) (bh (RK κ) 189 2 0 I n K))=(
 letI a:=i<(↑(l.length):Int)
 aq (decide a) (aW (decide ((0:Int)<=i)&&decide a) (aq (ByteArray.toList s==ByteArray.toList (toStr (nth l i.toNat))) (K Exit.ret (sp 19 [(4,AV.int i)]
 [])) (∃(e0:Nat),e0<n/\I e0 (sp 19 [(0,AV.ah 9 l),(1,AV.str s),(7,AV.int (↑(l.length):Int)),(8,AV.int (IntKind.wrap IntKind.i64 (i+(1:
 Int))))] [])))) (K (Exit.exit 0) (sp 19 [] []))):=by kernel_rfl
abbrev Y7(a:List _×ByteArray×Int):=sp 19 [(0, .ah 9 a.1),(1, .lit (.string a.2.1)),(7, .int a.1.length),(8, .int a.2.2)] []
def NO(a:List AV×ByteArray×Int):=a.1.length<=aU/\0<=a.2.2/\a.2.2<=a.1.length
def Jk(a:List AV×ByteArray×Int):Out (Exit×S):= .aq (decide (fX a.2.1 (a.1.drop a.2.2.toNat) a.2.2>=0)) (.one (.ret,sp 19 [(4, .int (fX a.2.1 (a.1.drop a.2.2.toNat) a.2.2))] [])) (.one (.exit 0,sp 19 [] []))
theorem l65 κ:aR (RK κ) 12 189 2 (aG 0 Y7 NO Jk):=by
 refine aD (fun a=>a.1.length - a.2.2.toNat) ?_;rintro⟨l,s,i⟩ K ⟨h1,h2,h3⟩ ho;simp only at h1 h2 h3;rw[show(RK κ).P=Pr κ from rfl];refine Eq.mpr (x65 κ l s i _ _ K) ?_;simp only[aU] at h1;simp only[Jk,Out.run,ae] at ho;simp only[ae,ai,an2,an4,an3];refine⟨fun hi=>⟨⟨h2,hi⟩,fun e=>?_,fun e=>?_⟩,fun hi=>?_⟩
 ·rw[ao3 (show i.toNat<l.length by omega),←aX l i.toNat (by omega),fX,show o7 s (toStr (nth l i.toNat))=true from e,an9,an8 (show i>=0 from h2)] at ho
  exact ho.1 rfl
 ·rw[az (n:=i+1) (by omega) (by omega)]
  refine⟨_,?_,(l,s,i+1),rfl,⟨by simpa[aU] using h1,by simp only;omega,by simp only;omega⟩,rfl,?_⟩
  ·simp only;omega
  ·rw[ao3 (show i.toNat<l.length by omega),←aX l i.toNat (by omega),fX,show o7 s (toStr (nth l i.toNat))=false from e,an7] at ho
   simp only[Jk,Out.run,ae,show(i+1).toNat=i.toNat+1 by omega];exact ho
 ·rw[ao0 (by omega)] at ho
  exact ho.2 rfl
noncomputable def OO κ:=(RK κ).an 189 2 (aG 0 Y7 NO Jk)
theorem ai7 κ:aE (OO κ):=(e39 _).an (m39 _) (l65 _)
theorem Yl κ:aj (OO κ):=(m39 _).an aI
theorem y65 κ l s K:(a7 (OO κ) 12 189 [.ah 9 l, .lit (.string s)] [] K)=(
 letI b:=AV.int
 ad (Pg.toProgram (Env.P (RK κ))) 189 2=ad (Pg.toProgram (Env.P (RK κ))) 189 2/\∃(a:List AV×ByteArray×Int),letI c:=List.drop (Int.toNat a.2.2) a.1;sp 19 [(0,AV.ah 9 l),(1,AV.str s),(7,b (↑(l.length):Int)),(8,b 0)] []=sp 19 [(0,AV.ah 9 a.1),(1,AV.str a.2.1),(7,b (↑(a.1.length):Int)),(8,b a.2.2)] []/\(a.1.length<=9223372036854775807/\(0:Int)<=a.2.2/\a.2.2<=(↑(a.1.length):Int))/\aq (decide (fX a.2.1 c a.2.2>=(0:Int))) (K (b (fX a.2.1 c a.2.2)) []) (K (b (-1)) [])):=by kernel_rfl
def g65:List AV->Option (Bool×AV)
 |[.ah 9 l, .lit (.string s)]=>some (decide (l.length<=aU), .int (fX s l 0))
 |_=>none
theorem wD s: ∀l i,¬ fX s l i>=0->0<=i->fX s l i= -1
 |[],_,_,_=>rfl
 |a::l,i,h,h0=>by
  simp only[fX] at h⊢;cases e:o7 s _ with
  |true=>grind
  |false=>rw[e] at h;exact wD s l _ h (by omega)
theorem p65 κ:cj (OO κ) 12 189 g65:=by
 intro args x hh;unfold g65 at hh;split at hh
 ·rename_i l s
  simp only[an5,ao1,an2] at hh;obtain⟨h1,rfl⟩:=hh;refine⟨_,rfl,rfl,?_⟩;refine Eq.mpr (y65 κ l s _) ?_;refine⟨rfl,(l,s,0),rfl,⟨h1,by simp only;omega,by simp only;omega⟩,?_⟩
  simp_all[Int.toNat_zero,ae,wD]
 ·cases hh
noncomputable def Zu κ:=(OO κ).aK 189 g65
theorem e65 κ:aE (Zu κ):=(ai7 _).aK (Yl _) (p65 _)
theorem m65 κ:aj (Zu κ):=(Yl _).aK
theorem y63 κ l s K:(a7 (Zu κ) 12 164 [.ah 9 l, .lit (.string s)] [] K)=(
 aW (decide (l.length<=9223372036854775807)) (K (AV.bool (decide (fX s l (0:Int)>=(0:Int)))) [])):=by kernel_rfl
def g63:List AV->Option (Bool×AV)
 |[.ah 9 l, .lit (.string s)]=>some (decide (l.length<=aU), .bool (decide (fX s l 0>=0)))
 |_=>none
theorem p63 κ:cj (Zu κ) 12 164 g63:=by
 intro args x hh;unfold g63 at hh;split at hh
 ·rename_i l s
  simp   at hh;obtain⟨h1,rfl⟩:=hh;refine⟨_,rfl,rfl,?_⟩;refine Eq.mpr (y63 _ l s _) ?_;rw[ai,an2];exact⟨h1,rfl⟩
 grind
noncomputable def Yd κ:=(Zu κ).aK 164 g63
theorem e63 κ:aE (Yd κ):=(e65 _).aK (m65 _) (p63 _)
theorem m63 κ:aj (Yd κ):=(m65 _).aK
theorem y24 κ a k K:(a7 (Yd κ) 12 113 [au a, .int k] [] K)=(
 letI b:=AV.int
 letI c:=AV.agg
 letI d:=AV.str
 letI e:=AV.ah
 letI f:=nth a.bl k.toNat
 letI h:=∃(e1:List AV),letI g:=ax (aa e1);([e 38 [c [b (toInt (af (af f 2) 0)),d (toStr (af (af f 2) 1)),b (toInt (af (af f 2) 2)),e 38 (ag (af (af f 2) 3))]]],aL)=([e 38 e1],aL)/\bE e1/\∃(e0:dh×Int),letI i:=eh (aM e0.1) e0.2.toNat;([au a,b k],aL)=([au e0.1,b e0.2],aL)/\(a9 (aM e0.1)=true/\(bj (aa (bn 38 e0.1.hl e0.1.bl))<=100000/\e0.1.bl.length<=100000)/\(0:Int)<=e0.2/\e0.2<(↑(e0.1.bl.length):Int))/\aW (decide ((List.length g+List.length (strs i)+1)*17<=70368744177664)) (K (e 9 (List.take (List.length g+List.length (strs i)) (List.drop 0 (List.take (List.length g) (strs g)++strs i)))) [])
 aW (decide ((0:Int)<=k)&&decide (k<(↑(a.bl.length):Int))) (aq (decide ((7:Int)<=toInt (af f 0))) ((h/\h)/\h) (∃(e0:LA),([c [b
 (toInt (af f 0)),c [d (toStr (af (af f 1) 0)),e 38 (ag (af (af f 1) 1))],c [b (toInt (af (af f 2) 0)),d (toStr (af (af f
 2) 1)),b (toInt (af (af f 2) 2)),e 38 (ag (af (af f 2) 3))],c [b (toInt (af (af f 3) 0)),d (toStr (af (af f 3) 1)),b
 (toInt (af (af f 3) 2)),e 38 (ag (af (af f 3) 3))]]],aL)=([c [b e0.op,c [d e0.s,e 38 e0.l],c [b e0.o1,d
 e0.s1,b e0.n1,e 38 e0.l1],c [b e0.o2,d e0.s2,b e0.n2,e 38 e0.l2]]],aL)/\gr e0/\K (e 9 (List.take (List.length (ej
 (LA.lt e0))) (List.drop 0 (strs (ej (LA.lt e0)))))) []))):=by kernel_rfl
def TR(a:dh×Int):Out (AV×List Dn.Obj):= .one (.ah 9 (strs (cI (aM a.1) a.2.toNat)),[])
theorem Hz l:bj [l.x]<=jZ l:=by
 grind [jZ,bj]
theorem IX x:aa [qx 38 (af x 2)]=[(cX x).x]:=by
 simp[aa,sM];rfl
theorem tx{a}(h:c9 a) k:(eh (aM a) k).length<=100000:=by
 have h5:(fB (aM a)).length<=100000:=by
  have h6:=cF (aa (bn 38 a.hl a.bl));rw[iM _ _ _ _] at h6;exact Nat.le_trans h6 h.1
 have h7:=kM (fB (aM a));refine Nat.le_trans (List.length_filter_le _ _) ?_
 grind [de]
theorem c24 κ:bg (Yd κ) 12 113 (aO Qh Bd TR):=by
 refine aQ ?_;rintro⟨a,k⟩ K ⟨h1,h2,h3,h4⟩ ho;refine Eq.mpr (y24 κ a k K) ?_;simp only at h1 h2 h3 h4;have hk:k.toNat<a.bl.length:=by omega
 have hlit:=kW h2 hk;have hv:=cF [(cX (nth a.bl k.toNat)).x];have hc:=Hz (cX (nth a.bl k.toNat));have ho':K (.ah 9 (strs (cI (aM a) k.toNat))) []:=ho;unfold cI at ho';rw[show(aM a).body=dv a.bl from rfl,kF _ hk,show(cX (nth a.bl k.toNat)).op=toInt (af (nth a.bl k.toNat) 0) from rfl] at ho';simp only[and_self];rw[ai,an3,an2,an2,ae,an2,an4];refine⟨⟨h3,h4⟩,fun e=>?_,fun e=>?_⟩
 ·rw[an8 e] at ho'
  refine⟨[qx 38 (af (nth a.bl k.toNat) 2)],rfl,by simp only[bE,IX];omega,(a,k),rfl,⟨h1,h2,h3,h4⟩,?_⟩;have hol:=tx h2 k.toNat;simp only[IX,bc,ao2,cL,ai,an2];refine⟨by omega,?_⟩;rw[←iY,List.take_of_length_le (by simp[bc])];exact ho'
 ·rw[an6 e] at ho'
  refine⟨tf (nth a.bl k.toNat),rfl,by rw[gr,ez];exact hlit,?_⟩;simp only[ez,ao2,cL];exact ho'
noncomputable def Zd κ:=(Yd κ).aw 113 (aO Qh Bd TR)
theorem e24 κ:aE (Zd κ):=(e63 _).aw (m63 _) (c24 _)
theorem m24 κ:aj (Zd κ):=(m63 _).aw aH
theorem y52(κ:Kp)(a:dh)(k:Int) es K:(a7 (Zd κ) 12 191 [.mp 0,au a, .int k] [.map 9 4 es] K)=(
 letI b:=AV.int
 letI c:=AV.agg
 letI d:=AV.bool
 letI e:=AV.str
 letI f:=Dn.Obj.map
 letI g:=AV.ah
 letI h:=AV.mp
 letI i:=nth a.bl k.toNat
 letI t:=toStr (af (af i 3) 1)
 letI u:=ag (af (af i 1) 1)
 letI x:=toStr (af (af i 1) 0)
 letI y:=toInt (af (af i 2) 0)
 letI z:=toStr (af (af i 2) 1)
 letI l:=toInt (af (af i 2) 2)
 letI m:=toInt (af (af i 3) 0)
 letI n:=toInt (af (af i 3) 2)
 letI o:=ag (af (af i 2) 3)
 letI p:=ag (af (af i 3) 3)
 letI j:=Value×AV
 letI v:=∃(e3:dh×Int),([au a,b k],aL)=([au e3.1,b e3.2],aL)/\(a9 (aM e3.1)=true/\(bj (aa (bn 38 e3.1.hl e3.1.bl))<=100000/\e3.1.bl.length<=100000)/\(0:Int)<=e3.2/\e3.2<(↑(e3.1.bl.length):Int))/\∃(e2:List AV×List j),letI q:=[f 9 4 e2.2];([h 0,g 9 (strs (eh (aM e3.1) e3.2.toNat))],[f 9 4 es])=([h 0,g 9 e2.1],q)/\bq e2/\aq (gi e2.2 e2.1) (∃(e1:ByteArray×List AV),([c [e x,g 38 u]],aL)=([c [e e1.1,g 38 e1.2]],aL)/\kf e1/\∃(e0:List AV×List j),([h 0,g 9 (List.take (List.length (dK (aa e1.2))) (List.drop 0 (strs (dK (aa e1.2)))))],q)=([h 0,g 9 e0.1],[f 9 4 e0.2])/\bq e0/\K (d (gi e0.2 e0.1)) [f 9 4 e0.2]) (K (d false) q)
 letI A:=∃(e1:LA),([c [b (toInt (af i 0)),c [e x,g 38 u],c [b y,e z,b l,g 38 o],c
  [b m,e t,b n,g 38 p]]],aL)=([c [b e1.op,c [e e1.s,g 38 e1.l],c [b e1.o1,e e1.s1,
  b e1.n1,g 38 e1.l1],c [b e1.o2,e e1.s2,b e1.n2,g 38 e1.l2]]],aL)/\gr e1/\∃(e0:List AV×List j),([h 0,g
  9 (List.take (List.length (ej (LA.lt e1))) (List.drop 0 (strs (ej (LA.lt e1)))))],[f 9 4 es])=([h 0,g 9 e0.1],[f 9 4 e0.2])/\bq
  e0/\K (d (gi e0.2 e0.1)) [f 9 4 e0.2]
 letI B:=∃(e4:List AV),letI w:=List.take (List.length (ax (aa e4))) (List.drop 0 (strs (ax (aa e4))));([g 38 u],aL)=([g 38 e4],aL)/\bE e4/\aW (decide (List.length w<=9223372036854775807)) (aq (decide (fX t w (0:Int)>=(0:Int))) v (K (d false) [f 9 4 es]))
 aW (decide ((0:Int)<=k)&&decide (k<(↑(a.bl.length):Int))) (aq (toInt (af i 0)==(1:Int)) (∃(e1:ByteArray×List AV),([c [e x,g 38 u]],aL)=([c [e e1.1,g 38 e1.2]],aL)/\kf e1/\∃(e0:List AV×List j),([h 0,g 9 (List.take (List.length (dK (aa e1.2))) (List.drop 0 (strs (dK (aa e1.2)))))],[f 9 4 es])=([h 0,g 9 e0.1],[f 9 4 e0.2])/\bq e0/\K (d (gi e0.2 e0.1)) [f 9 4 e0.2]) (aq (toInt (af i 0)==(3:Int)) (∃(e3:TA),letI r:=[f 9 4 e3.es];([h 0,c [b y,e z,b l,g 38 o],c [b m,e t,b n,g 38 p]],[f 9 4 es])=([h 0,c [b e3.o1,e e3.s1,b e3.n1,g 38 e3.l1],c [b e3.o2,e e3.s2,b e3.n2,g 38 e3.l2]],r)/\jf e3/\aq (mb e3.es (TA.x e3) (TA.y e3)) (K (d true) r) (∃(e2:TA),letI s:=[f 9 4 e2.es];([h 0,c [b m,e t,b n,g 38 p],c [b y,e z,b l,g 38 o]],r)=([h 0,c [b e2.o1,e e2.s1,b e2.n1,g 38 e2.l1],c [b e2.o2,e e2.s2,b e2.n2,g 38 e2.l2]],s)/\jf e2/\aq (mb e2.es (TA.x e2) (TA.y e2)) (K (d true) s) (∃(e1:LA),([c [b (toInt (af i 0)),c [e x,g 38 u],c [b y,e z,b l,g 38 o],c [b m,e t,b n,g 38 p]]],aL)=([c [b e1.op,c [e e1.s,g 38 e1.l],c [b e1.o1,e e1.s1,b e1.n1,g 38 e1.l1],c [b e1.o2,e e1.s2,b e1.n2,g 38 e1.l2]]],aL)/\gr e1/\∃(e0:List AV×List j),([h 0,g 9 (List.take (List.length (ej (LA.lt e1))) (List.drop 0 (strs (ej (LA.lt e1)))))],s)=([h 0,g 9 e0.1],[f 9 4 e0.2])/\bq e0/\K (d (gi e0.2 e0.1)) [f 9 4 e0.2]))) (aq (toInt (af i 0)==(2:Int)) A (aq (toInt (af i 0)==(4:Int)) A (aq (toInt (af i 0)==(5:Int)) A (aq (toInt (af i 0)==(6:Int)) A (aq (toInt (af i 0)==(7:Int)) (v/\v/\v/\v) (B/\B/\B/\B))))))))):=by kernel_rfl
def X1(a:dh×Int×List ByteArray):List AV×List Dn.Obj:=([.mp 0,au a.1, .int a.2.1],[.map 9 4 (bU a.2.2)])
def Ol(a:dh×Int×List ByteArray):=a9 (aM a.1)=true/\c9 a.1/\0<=a.2.1/\a.2.1<a.1.bl.length
def TI(a:dh×Int×List ByteArray):Out (AV×List Dn.Obj):= .one (.bool (oq a.2.2 (aM a.1) a.2.1.toNat),[.map 9 4 (bU a.2.2)])
theorem AJ x y es:(TA.mk (toInt (af x 0)) (toStr (af x 1)) (toInt (af x 2)) (ag (af x 3)) (toInt (af y 0)) (toStr (af y 1)) (toInt (af y 2)) (ag (af y 3)) es).x=cE x:=by rw[da];rfl
theorem oP x y es:(TA.mk (toInt (af x 0)) (toStr (af x 1)) (toInt (af x 2)) (ag (af x 3)) (toInt (af y 0)) (toStr (af y 1)) (toInt (af y 2)) (ag (af y 3)) es).y=cE y:=by rw[da];rfl
def l9 x y es:=TA.mk (toInt (af x 0)) (toStr (af x 1)) (toInt (af x 2)) (ag (af x 3)) (toInt (af y 0)) (toStr (af y 1)) (toInt (af y 2)) (ag (af y 3)) es
theorem c52 κ:bg (Zd κ) 12 191 (aO X1 Ol TI):=by
 refine aQ ?_;rintro⟨a,k,b⟩ K ⟨h1,h2,h3,h4⟩ ho;refine Eq.mpr (y52 κ a k (bU b) K) ?_;simp only at h1 h2 h3 h4;have hk:k.toNat<a.bl.length:=by omega
 have hlit:=kW h2 hk;have ho':K (.bool (oq b (aM a) k.toNat)) [.map 9 4 (bU b)]:=ho;unfold oq at ho';rw[show(aM a).body=dv a.bl from rfl,kF _ hk,show(cX (nth a.bl k.toNat)).op=toInt (af (nth a.bl k.toNat) 0) from rfl,show(cX (nth a.bl k.toNat)).a.l=aa (ag (af (af (nth a.bl k.toNat) 1) 1)) from rfl,
  show(cX (nth a.bl k.toNat)).x=cE (af (nth a.bl k.toNat) 2) from rfl,show(cX (nth a.bl k.toNat)).y=cE (af (nth a.bl k.toNat) 3) from rfl] at ho'
 have hlc:jZ (cX (nth a.bl k.toNat))=bj [cE (af (nth a.bl k.toNat) 2),cE (af (nth a.bl k.toNat) 3)]+bj (aa (ag (af (af (nth a.bl k.toNat) 1) 1))):=rfl;have hcl:bj (aa (ag (af (af (nth a.bl k.toNat) 1) 1)))<=100000:=by omega
 have hcx:bj [cE (af (nth a.bl k.toNat) 2)]<=100000/\bj [cE (af (nth a.bl k.toNat) 3)]<=100000:=by
  simp only[bj] at hlc⊢;omega
 have hvl:=cF (aa (ag (af (af (nth a.bl k.toNat) 1) 1)));have hrl:=Dl (aa (ag (af (af (nth a.bl k.toNat) 1) 1)));have hol:=tx h2 k.toNat;have hll:(ej (cX (nth a.bl k.toNat))).length<=100000:=by
  have e1:=cF [(cX (nth a.bl k.toNat)).x,(cX (nth a.bl k.toNat)).y];have e2:=cF (cX (nth a.bl k.toNat)).a.l;simp only[ej,jZ,ao7] at hlit⊢;omega
 simp only[and_self];rw[ai,an3,an2,an2];refine⟨⟨h3,h4⟩,?_⟩;rw[ae,beq_iff_eq,beq_eq_false_iff_ne];refine⟨fun e1=>?_,fun e1=>?_⟩
 ·rw[an8 e1,an9] at ho'
  refine⟨(toStr (af (af (nth a.bl k.toNat) 1) 0),ag (af (af (nth a.bl k.toNat) 1) 1)),rfl,hcl,(strs (dK (aa (ag (af (af (nth a.bl k.toNat) 1) 1)))),bU b),by simp only[ao2,cL],by simp only[bq,bc,aU];omega,?_⟩;simp only[fo];exact ho'
 rw[an6 e1,an7] at ho';rw[ae,beq_iff_eq,beq_eq_false_iff_ne];refine⟨fun e2=>?_,fun e2=>?_⟩
 ·rw[an8 e2,an9] at ho'
  refine⟨l9 (af (nth a.bl k.toNat) 2) (af (nth a.bl k.toNat) 3) (bU b),rfl,by unfold jf l9;rw[oP];exact hcx.2,?_⟩;unfold l9;rw[AJ,oP,pS];rw[ae];refine⟨fun f1=>by rw[f1] at ho';exact ho',fun f1=>?_⟩;rw[f1,Bool.false_or] at ho';refine⟨l9 (af (nth a.bl k.toNat) 3) (af (nth a.bl k.toNat) 2) (bU b),rfl,by unfold jf l9;rw[oP];exact hcx.1,?_⟩;unfold l9;rw[AJ,oP,pS,ae];refine⟨fun f2=>by rw[f2] at ho';exact ho',fun f2=>?_⟩;rw[f2,Bool.false_or] at ho';exact⟨tf (nth a.bl k.toNat),rfl,by rw[gr,ez];exact hlit,(strs (ej (tf (nth a.bl k.toNat)).lt),bU b),by simp only[ao2,cL],by simp only[bq,bc,aU];rw[ez];omega,by simp only[fo,ez];exact ho'⟩
 rw[an6 e2,an7] at ho';rw[ae,beq_iff_eq,beq_eq_false_iff_ne];refine⟨fun e3=>?_,fun e3=>?_⟩
 ·rw[an8 e3] at ho'
  simp only[Bool.true_or,an9] at ho';exact⟨tf (nth a.bl k.toNat),rfl,by rw[gr,ez];exact hlit,(strs (ej (tf (nth a.bl k.toNat)).lt),bU b),by simp only[ao2,cL],by simp only[bq,bc,aU];rw[ez];omega,by simp only[fo,ez];exact ho'⟩
 rw[ae,beq_iff_eq,beq_eq_false_iff_ne];refine⟨fun e4=>?_,fun e4=>?_⟩
 ·rw[an8 e4] at ho'
  simp only[Bool.true_or,Bool.or_true,an9] at ho';exact⟨tf (nth a.bl k.toNat),rfl,by rw[gr,ez];exact hlit,(strs (ej (tf (nth a.bl k.toNat)).lt),bU b),by simp only[ao2,cL],by simp only[bq,bc,aU];rw[ez];omega,by simp only[fo,ez];exact ho'⟩
 rw[ae,beq_iff_eq,beq_eq_false_iff_ne];refine⟨fun e5=>?_,fun e5=>?_⟩
 ·rw[an8 e5] at ho'
  simp only[Bool.true_or,Bool.or_true,an9] at ho';exact⟨tf (nth a.bl k.toNat),rfl,by rw[gr,ez];exact hlit,(strs (ej (tf (nth a.bl k.toNat)).lt),bU b),by simp only[ao2,cL],by simp only[bq,bc,aU];rw[ez];omega,by simp only[fo,ez];exact ho'⟩
 rw[ae,beq_iff_eq,beq_eq_false_iff_ne];refine⟨fun e6=>?_,fun e6=>?_⟩
 ·rw[an8 e6] at ho'
  simp only[Bool.or_true,an9] at ho';exact⟨tf (nth a.bl k.toNat),rfl,by rw[gr,ez];exact hlit,(strs (ej (tf (nth a.bl k.toNat)).lt),bU b),by simp only[ao2,cL],by simp only[bq,bc,aU];rw[ez];omega,by simp only[fo,ez];exact ho'⟩
 rw[an6 e3,an6 e4,an6 e5,an6 e6] at ho';simp only[Bool.false_or,an7] at ho';rw[ae,beq_iff_eq,beq_eq_false_iff_ne];refine⟨fun e7=>?_,fun e7=>?_⟩
 ·rw[an8 e7,Bool.true_or,ao8] at ho'
  refine⟨(a,k),rfl,⟨h1,h2,h3,h4⟩,(strs (eh (aM a) k.toNat),bU b),rfl,by simp only[bq,bc,aU];omega,ae.2 ⟨fun f1=>⟨(toStr (af (af (nth a.bl k.toNat) 1) 0),ag (af (af (nth a.bl k.toNat) 1) 1)),rfl,hcl,(strs (dK (aa (ag (af (af (nth a.bl k.toNat) 1) 1)))),bU b),by simp only[ao2,cL],by simp only[bq,bc,aU];omega,?_⟩,fun f1=>?_⟩⟩
  ·rw[fo] at f1
   simp only[fo];rw[f1,ao8] at ho';exact ho'
  ·rw[fo] at f1
   rw[f1,Bool.false_and] at ho';exact ho'
 ·rw[an6 e7,Bool.false_or] at ho'
  refine⟨_,rfl,hcl,?_⟩;have hp:=z7 (toStr (af (af (nth a.bl k.toNat) 3) 1)) (ax (aa (ag (af (af (nth a.bl k.toNat) 1) 1)))) 0 (by omega);have hs:(cE (af (nth a.bl k.toNat) 3)).s=toStr (af (af (nth a.bl k.toNat) 3) 1):=by rw[da];rfl
  simp only[ao2,cL,bc,hp];rw[ai,an2,ae];rw[hs] at ho';refine⟨by omega,fun e8=>?_,fun e8=>?_⟩
  ·rw[e8,ao8] at ho'
   refine⟨(a,k),rfl,⟨h1,h2,h3,h4⟩,(strs (eh (aM a) k.toNat),bU b),rfl,by simp only[bq,bc,aU];omega,ae.2 ⟨fun f1=>⟨(toStr (af (af (nth a.bl k.toNat) 1) 0),ag (af (af (nth a.bl k.toNat) 1) 1)),rfl,hcl,(strs (dK (aa (ag (af (af (nth a.bl k.toNat) 1) 1)))),bU b),by simp only,by simp only[bq,bc,aU];omega,?_⟩,fun f1=>?_⟩⟩
   ·rw[fo] at f1
    simp only[fo];rw[f1,ao8] at ho';exact ho'
   ·rw[fo] at f1
    rw[f1,Bool.false_and] at ho';exact ho'
  ·rw[e8,Bool.false_and] at ho';exact ho'
noncomputable def Sz κ:=(Zd κ).aw 191 (aO X1 Ol TI)
theorem e52 κ:aE (Sz κ):=(e24 _).aw (m24 _) (c52 _)
theorem m52 κ:aj (Sz κ):=(m24 _).aw aH
def b9(l:List Bool):List AV:=l.map fun b=> .lit (.bool b)
theorem jH l:(b9 l).length=l.length:=by simp[b9]
theorem KR l k:Dn.toBool (nth (b9 l) k)=Rl.fy l k:=by
 unfold Rl.fy;induction l generalizing k with
 |nil=>rfl
 |cons a l ih=>
  cases k with
  |zero=>rfl
  |succ k=>grind [b9,nth]
structure Ln where
 a:dh
 done:List Bool
 b:List ByteArray
 i:Int
 first:Int
abbrev H4(a:Ln):=sp 38 [(1, .ak 0 0 (b9 a.done).length),(2, .mp 1),(3, .ptr 2 0 [] 0),(7, .int a.first),(11, .ah 80 a.a.bl),(12, .int a.a.bl.length),(13, .int a.i)] [.row 4 (b9 a.done), .map 9 4 (bU a.b), .box 48 (au a.a)]
theorem x36(κ:Kp)(a:Ln) es I n K:(vc (Sz κ) 12 170 none 2 (ad (Pr κ).toProgram 170 3) (sp 38 [(1, .ak 0 0 (b9 a.done).length),(2, .mp 1),(3, .ptr 2 0 [] 0),(7, .int a.first),(11, .ah 80 a.a.bl),(12, .int a.a.bl.length),(13, .int a.i)] [.row 4 (b9 a.done), .map 9 4 es, .box 48 (au a.a)]) (bh (Sz κ) 170 3 2 I n K))=(
 letI b:=AV.int
 letI c:=Obj.row
 letI d:=Dn.Obj.map
 letI g:=IntKind.wrap IntKind.i64 (a.i+(1:Int))
 letI f:=List.length (b9 a.done)
 letI e:=List.length a.a.bl
 aq (decide (a.i<(↑e:Int))) (aW (decide ((0:Int)<=a.i)&&decide (a.i<(↑e:Int))) (aW (decide ((0:Int)<=a.i)&&decide (a.i<(↑f:Int))) (aq (Dn.toBool (nth (b9 a.done) (0+a.i.toNat))) (∃(e0:Nat),e0<n/\I e0 (sp 38 [(1,AV.ak 0 0 f),(2,AV.mp 1),(3,AV.ptr 2 0 [] 0),(7,b a.first),(11,AV.ah 80 a.a.bl),(12,b (↑e:Int)),(13,b g)] [c 4 (b9 a.done),d 9 4 es,Obj.box 48 (au a.a)])) (∃(e1:dh×Int×List ByteArray),letI h:=[c 4 (b9 a.done),d 9 4 (bU e1.2.2),Obj.box 48 (au a.a)];letI i:=∃(e0:Nat),e0<n/\I e0 (sp 38 [(1,AV.ak 0 0 f),(2,AV.mp 1),(3,AV.ptr 2 0 [] 0),(7,b a.first),(11,AV.ah 80 a.a.bl),(12,b (↑e:Int)),(13,b g)] h);([AV.mp 0,au a.a,b a.i],[d 9 4 es])=([AV.mp 0,au e1.1,b e1.2.1],[d 9 4 (bU e1.2.2)])/\(a9 (aM e1.1)=true/\(bj (aa (bn 38 e1.1.hl e1.1.bl))<=100000/\e1.1.bl.length<=100000)/\(0:Int)<=e1.2.1/\e1.2.1<(↑(e1.1.bl.length):Int))/\aq (!oq e1.2.2 (aM e1.1) e1.2.1.toNat) i (aq (toInt (af (nth a.a.bl a.i.toNat) 0) != (1:Int)) (K Exit.ret (sp 38 [(6,b a.i)] [c 4 (b9 a.done),d 9 4 (bU e1.2.2)])) (aq (decide (a.first<(0:Int))) (∃(e0:Nat),e0<n/\I e0 (sp 38 [(1,AV.ak 0 0 f),(2,AV.mp 1),(3,AV.ptr 2 0 [] 0),(7,b a.i),(11,AV.ah 80 a.a.bl),(12,b (↑e:Int)),(13,b g)] h)) i)))))) (K (Exit.exit 0) (sp 38 [(7,b a.first)] [c 4 (b9 a.done),d 9 4 es]))):=by kernel_rfl
def Ai(a:Ln):=a9 (aM a.a)=true/\c9 a.a/\0<=a.i/\a.i<=a.a.bl.length/\a.done.length=a.a.bl.length
def Ad(a:Ln):=mF (aM a.a) a.done a.b (a.a.bl.length - a.i.toNat) a.i.toNat a.first
def Gu(a:Ln):Out (Exit×S):= .all (fun _=>True) fun e=> .aq e (.one (.ret,sp 38 [(6, .int (Ad a))] [.row 4 (b9 a.done), .map 9 4 (bU a.b)])) (.one (.exit 0,sp 38 [(7, .int (Ad a))] [.row 4 (b9 a.done), .map 9 4 (bU a.b)]))
theorem l36 κ:aR (Sz κ) 12 170 3 (aG 2 H4 Ai Gu):=by
 refine aD (fun a=>a.a.bl.length - a.i.toNat) ?_;rintro⟨a,done,b,i,first⟩ K ⟨h1,h2,h3,h4,h5⟩ ho;simp only at h1 h2 h3 h4 h5;rw[show(Sz κ).P=Pr κ from rfl];refine Eq.mpr (x36 κ ⟨a,done,b,i,first⟩ (bU b) _ _ K) ?_;have ho1:=ho true trivial;have ho2:=ho false trivial;simp only[Out.run,aq,Ad] at ho1 ho2;simp only[Nat.zero_add,KR];have hbl:=jH done;have hl:=h2.2;rw[ae,ai,ai,an3,an3,an2,an2,an2,an4];have go:i<a.bl.length->∀f:Int,mF (aM a) done b (a.bl.length - i.toNat) i.toNat first=mF (aM a) done b (a.bl.length - (i.toNat+1)) (i.toNat+1) f->
   ∃m,m<a.bl.length - i.toNat/\ei H4 Ai Gu (fun a=>a.a.bl.length - a.i.toNat) K m (H4 ⟨a,done,b,i+1,f⟩):=by
  intro hi f hf;refine⟨_,?_,⟨a,done,b,i+1,f⟩,rfl,⟨h1,h2,by simp only;omega,by simp only;omega,h5⟩,rfl,?_⟩
  ·simp only;omega
  ·intro e _
   simp only[Out.run,Ad,show(i+1).toNat=i.toNat+1 by omega,←hf];cases e
   ·exact ho2
   ·exact ho1
 refine⟨fun hi=>⟨⟨h3,hi⟩,⟨h3,by omega⟩,?_⟩,fun hi=>?_⟩
 ·have hn:=Gq (aM a) done b (a.bl.length - (i.toNat+1)) i.toNat first
  rw[show a.bl.length - (i.toNat+1)+1=a.bl.length - i.toNat by omega] at hn;have hk:i.toNat<a.bl.length:=by omega
  have hop:(dS (aM a).body i.toNat).op=toInt (af (nth a.bl i.toNat) 0):=by
   rw[show(aM a).body=dv a.bl from rfl,kF _ hk];rfl
  rw[hop] at hn;rw[az (n:=i+1) (by omega) (by omega),ae];refine⟨fun e=>go hi first (by rw[hn,e];rfl),fun e=>⟨(a,i,b),rfl,⟨h1,h2,h3,hi⟩,?_⟩⟩;rw[e,Bool.false_or] at hn;simp only[ae,Bool.not_eq_true',ao4,bne_iff_ne,bne_eq_false_iff_eq,an2,an4]
  grind
 ·rw[show a.bl.length - i.toNat=0 by omega] at ho2
  exact ho2
noncomputable def Oo κ:=(Sz κ).an 170 3 (aG 2 H4 Ai Gu)
theorem al8 κ:aE (Oo κ):=(e52 _).an (m52 _) (l36 _)
theorem Yg κ:aj (Oo κ):=(m52 _).an aI
theorem y36 κ(a:Ln) K:(a7 (Oo κ) 12 170 [au a.a, .ak 0 0 (b9 a.done).length, .mp 1] [.row 4 (b9 a.done), .map 9 4 (bU a.b)] K)=(
 letI b:=AV.int
 letI c:=Dn.Obj.map
 letI d:=Pg.toProgram (Env.P (Sz κ))
 ad d 170 3=ad d 170 3/\∃(e1:Ln),letI e:=K (b (Ad e1)) [Obj.row 4 (b9 e1.done),c 9 4 (bU e1.b)];sp 38 [(1,AV.ak 0 0 (List.length (b9 a.done))),(2,AV.mp 1),(3,AV.ptr 2 0 [] 0),(7,b (-1)),(11,AV.ah 80 a.a.bl),(12,b (↑(List.length a.a.bl):Int)),(13,b 0)] [Obj.row 4 (b9 a.done),c 9 4 (bU a.b),Obj.box 48 (au a.a)]=sp 38 [(1,AV.ak 0 0 (List.length (b9 e1.done))),(2,AV.mp 1),(3,AV.ptr 2 0 [] 0),(7,b e1.first),(11,AV.ah 80 e1.a.bl),(12,b (↑(List.length e1.a.bl):Int)),(13,b e1.i)] [Obj.row 4 (b9 e1.done),c 9 4 (bU e1.b),Obj.box 48 (au e1.a)]/\(a9 (aM e1.a)=true/\(bj (aa (bn 38 e1.a.hl e1.a.bl))<=100000/\List.length e1.a.bl<=100000)/\(0:Int)<=e1.i/\e1.i<=(↑(List.length e1.a.bl):Int)/\e1.done.length=List.length e1.a.bl)/\∀(e0:Bool),True->aq e0 e e):=by kernel_rfl
def XI(a:Ln):List AV×List Dn.Obj:=([au a.a, .ak 0 0 (b9 a.done).length, .mp 1],[.row 4 (b9 a.done), .map 9 4 (bU a.b)])
def Pc(a:Ln):=a9 (aM a.a)=true/\c9 a.a/\a.done.length=a.a.bl.length
def Tc(a:Ln):Out (AV×List Dn.Obj):= .one (.int (aF (aM a.a) a.done a.b),[.row 4 (b9 a.done), .map 9 4 (bU a.b)])
theorem gM a:(aM a).body.length=a.bl.length:=Al _
theorem c36 κ:bg (Oo κ) 12 170 (aO XI Pc Tc):=by
 refine aQ ?_;rintro⟨a,done,b,i,first⟩ K ⟨h1,h2,h5⟩ ho;refine Eq.mpr (y36 κ _ K) ?_;have ho':K _ _:=ho;unfold aF at ho';rw[gM] at ho';refine⟨rfl,⟨a,done,b,0, -1⟩,rfl,⟨h1,h2,by simp only;omega,by simp only;omega,h5⟩,?_⟩;intro e _;cases e
 ·exact ho'
 ·exact ho'
noncomputable def Qp κ:=(Oo κ).aw 170 (aO XI Pc Tc)
theorem e36 κ:aE (Qp κ):=(al8 _).aw (Yg _) (c36 _)
theorem m36 κ:aj (Qp κ):=(Yg _).aw aH
def ints(l:List _):=l.map fun(k:Nat)=>AV.lit (.int .i64 k)
theorem sq l:(ints l).length=l.length:=by simp[ints]
theorem MY l m:ints (l++m)=ints l++ints m:=by simp[ints]
structure Zc where
 a:dh
 ks:List Nat
 done:List Bool
 b:List ByteArray
 i:Int
noncomputable abbrev ac6(a:dh)(κ:Kp):Dn.Obj:=
 .loop (iO (Pr κ).toProgram 107 4 .ready none (ik (bO 40) [(0,au a),(1, .ptr 0 0 [] 0),(2, .nil),(3, .lit .nilIface),(4, .ptr 1 0 [] 0),(5, .ptr 3 0 [] 0),(7, .mp 2),(8,au a),(9, .bm 169 [.ptr 4 0 [] 0])]))
noncomputable abbrev Ja κ a ks b:=[.box 48 (au a), .box 35 (.ak 6 0 (ints ks).length), .map 9 4 (bU b), .box 178 (.mp 2), .box 48 (au a),ac6 a κ, .row 3 (ints ks)]
noncomputable abbrev Nh κ(a:Zc):=sp 38 [(0, .cf 5),(1, .ptr 4 0 [] 0),(3, .mp 7),(4, .ak 8 0 (b9 a.done).length),(13, .int a.a.bl.length),(14, .int a.i)] (Ja κ a.a a.ks a.b++[.map 9 4 (bU a.b), .row 4 (b9 a.done)])
theorem x17(κ:Kp)(a:dh) ks es es' done i I n K:(vc (Qp κ) 12 169 none 6 (ad (Pr κ).toProgram 169 3) (sp 38 [(0, .cf 5),(1, .ptr 4 0 [] 0),(3, .mp 7),(4, .ak 8 0 done.length),(13, .int a.bl.length),(14, .int i)] [.box 48 (au a), .box 35 (.ak 6 0 ks.length), .map 9 4 es, .box 178 (.mp 2), .box 48 (au a),ac6 a κ, .row 3 ks, .map 9 4 es', .row 4 done]) (bh (Qp κ) 169 3 6 I n K))=(
 letI b:=AV.int
 letI c:=AV.ptr
 letI d:=Obj.box
 letI e:=Obj.row
 letI f:=Dn.Obj.map
 letI g:=AV.ah
 letI h:=AV.ak
 letI j:=AV.mp
 letI o:=iO Tryz.prog 107 4 LoopState.ready none (ik (bO 40) [(0,au a),(1,c 0 0 [] 0),(2,AV.nil),(3,AV.lit Value.nilIface),(4,c 1 0 [] 0),
  (5,c 3 0 [] 0),(7,j 2),(8,au a),(9,AV.bm 169 [c 4 0 [] 0])])
 letI p:=sp 38 [] [d 48 (au a),d 35 (h 6 0 ks.length),f 9 4 es,d 178 (j 2),d 48 (au a),Dn.Obj.loop o,e 3
  ks]
 letI q:=IntKind.wrap IntKind.i64 (i+(1:Int))
 letI m:=Value×AV
 letI r:=h 6 0 (ks.length+1)
 aq (decide (i<(↑(a.bl.length):Int))) (∃(e5:Ln),letI k:=aF (aM e5.a) e5.done e5.b;letI s:=decide ((0:Int)<=aF (aM e5.a) e5.done e5.b)&&decide (aF (aM e5.a) e5.done e5.b<(↑(done.length):Int));letI t:=bM (b9 e5.done) (0+Int.toNat k) (AV.bool true);letI u:=List.take ks.length ks++[b k];letI l:=[f 9 4 (bU e5.b)];([au a,h 0 0 done.length,j 1],[e 4 done,f 9 4 es'])=([au e5.a,h 0 0 (List.length (b9 e5.done)),j 1],[e 4 (b9 e5.done),f 9 4 (bU e5.b)])/\(a9 (aM e5.a)=true/\(bj (aa (bn 38 e5.a.hl e5.a.bl))<=100000/\List.length e5.a.bl<=100000)/\e5.done.length=List.length e5.a.bl)/\aq (decide (aF (aM e5.a) e5.done e5.b<(0:Int))) (K Exit.ret p) (aW (decide ((ks.length+1+1)*9<=70368744177664)) ((∃(e4:dh×Int),([au a,b k],aL)=([au e4.1,b e4.2],aL)/\(a9 (aM e4.1)=true/\(bj (aa (bn 38 e4.1.hl e4.1.bl))<=100000/\e4.1.bl.length<=100000)/\(0:Int)<=e4.2/\e4.2<(↑(e4.1.bl.length):Int))/\∃(e3:List AV×List m),([j 0,g 9 (strs (cI (aM e4.1) e4.2.toNat))],[f 9 4 es])=([j 0,g 9 e3.1],[f 9 4 e3.2])/\bq e3/\aW s (∃(e2:dh×Int),([au a,b k],aL)=([au e2.1,b e2.2],aL)/\(a9 (aM e2.1)=true/\(bj (aa (bn 38 e2.1.hl e2.1.bl))<=100000/\e2.1.bl.length<=100000)/\(0:Int)<=e2.2/\e2.2<(↑(e2.1.bl.length):Int))/\∃(e1:List AV×List m),([j 0,g 9 (strs (cI (aM e2.1) e2.2.toNat))],l)=([j 0,g 9 e1.1],[f 9 4 e1.2])/\bq e1/\∃(e0:Nat),e0<n/\I e0 (sp 38 [(0,AV.cf 5),(1,c 4 0 [] 0),(3,j 7),(4,h 8 0 done.length),(13,b (↑(a.bl.length):Int)),(14,b q)] [d 48 (au a),d 35 r,f 9 4 (fK e3.2 e3.1),d 178 (j 2),d 48 (au a),Dn.Obj.loop o,e 3 u,f 9 4 (fK e1.2 e1.1),e 4 t])))/\∃(e4:dh×Int),([au a,b k],aL)=([au e4.1,b e4.2],aL)/\(a9 (aM e4.1)=true/\(bj (aa (bn 38 e4.1.hl e4.1.bl))<=100000/\e4.1.bl.length<=100000)/\(0:Int)<=e4.2/\e4.2<(↑(e4.1.bl.length):Int))/\∃(e3:List AV×List m),([j 0,g 9 (strs (cI (aM e4.1) e4.2.toNat))],[f 9 4 es])=([j 0,g 9 e3.1],[f 9 4 e3.2])/\bq e3/\aW s (∃(e2:dh×Int),([au a,b k],aL)=([au e2.1,b e2.2],aL)/\(a9 (aM e2.1)=true/\(bj (aa (bn 38 e2.1.hl e2.1.bl))<=100000/\e2.1.bl.length<=100000)/\(0:Int)<=e2.2/\e2.2<(↑(e2.1.bl.length):Int))/\∃(e1:List AV×List m),([j 0,g 9 (strs (cI (aM e2.1) e2.2.toNat))],l)=([j 0,g 9 e1.1],[f 9 4 e1.2])/\bq e1/\∃(e0:Nat),e0<n/\I e0 (sp 38 [(0,AV.cf 5),(1,c 4 0 [] 0),(3,j 7),(4,h 8 0 done.length),(13,b (↑(a.bl.length):Int)),(14,b q)] [d 48 (au a),d 35 r,f 9 4 (fK e3.2 e3.1),d 178 (j 2),d 48 (au a),Dn.Obj.loop o,e 3 u,f 9 4 (fK e1.2 e1.1),e 4 t]))))) (K (Exit.exit 0) p)):=by kernel_rfl
theorem qC: ∀l k,bM (b9 l) k (.lit (.bool true))=b9 (l.set k true)
 |[],_=>rfl
 |_::_,0=>rfl
 |a::l,k+1=>by
  have:=qC l k
  grind [b9,bM]
noncomputable def eX(a:Zc):=oU (aM a.a) (a.a.bl.length - a.i.toNat) a.done a.b
def I2(a:Zc):=a9 (aM a.a)=true/\c9 a.a/\0<=a.i/\a.i<=a.a.bl.length/\a.done.length=a.a.bl.length/\a.ks.length<=a.i.toNat
noncomputable def M4(κ:Kp)(a:Zc):Out (Exit×S):= .all (fun _=>True) fun e=> .aq e (.one (.ret,sp 38 [] (Ja κ a.a (a.ks++eX a) (a.b++fb (aM a.a) (eX a)))))
 (.one (.exit 0,sp 38 [] (Ja κ a.a (a.ks++eX a) (a.b++fb (aM a.a) (eX a)))))
theorem tP{a}(h:c9 a){k}(hk:k<a.bl.length):(cI (aM a) k).length<=200000:=by
 have hlit:=kW h hk;have hol:=tx h k;have hc:=Hz (cX (nth a.bl k))
 grind [cF,cI,aM,kF,cX,nth,ej,jZ]
theorem l17 κ:aR (Qp κ) 12 169 3 (aG 6 (Nh κ) I2 (M4 κ)):=by
 refine aD (fun a=>a.a.bl.length - a.i.toNat) ?_;rintro⟨a,ks,done,b,i⟩ K ⟨h1,h2,h3,h4,h5,h6⟩ ho;simp only at h1 h2 h3 h4 h5 h6;rw[show(Qp κ).P=Pr κ from rfl];refine Eq.mpr (x17 κ a (ints ks) (bU b) (bU b) (b9 done) i _ _ K) ?_;have ho1:=ho true trivial;have ho2:=ho false trivial;simp only[Out.run,aq,eX] at ho1 ho2;simp only[and_self];have hbl:=jH done;have hil:=sq ks;have hl:=h2.2;rw[ae,an2,an4];refine⟨fun hi=>⟨⟨a,done,b,0,0⟩,rfl,⟨h1,h2,h5⟩,?_⟩,fun hi=>?_⟩
 ·have hw:=GW (aM a) (a.bl.length - (i.toNat+1)) done b
  rw[show a.bl.length - (i.toNat+1)+1=a.bl.length - i.toNat by omega] at hw;rw[ae,an2,an4];refine⟨fun e=>?_,fun e=>?_⟩
  ·rw[hw,an8 e] at ho1
   simp only[an9,List.append_nil,fb,List.flatMap_nil] at ho1;exact ho1
  ·rw[hw,an6 e,an7] at ho1 ho2
   rcases qF (aM a) done b with e0|⟨e1,e2,e3,_⟩
   ·rw[e0] at e;omega
   have e2':=e2;rw[gM] at e2';have hg:=tP h2 e2';rw[ai,an2];refine⟨by omega,(a,aF (aM a) done b),rfl,⟨h1,h2,e1,by simp only;omega⟩,(strs (cI (aM a) (aF (aM a) done b).toNat),bU b),rfl,by simp only[bq,bc,aU];omega,?_⟩;rw[ai,an3,an2,an2];refine⟨⟨e1,by show aF (aM a) done b<_;omega⟩,(a,aF (aM a) done b),rfl,⟨h1,h2,e1,by simp only;omega⟩,(strs (cI (aM a) (aF (aM a) done b).toNat),bU b),rfl,by simp only[bq,bc,aU];omega,?_⟩;rw[az (n:=i+1) (by omega) (by omega)];refine⟨_,?_,⟨a,ks++[(aF (aM a) done b).toNat],done.set (aF (aM a) done b).toNat true,b++cI (aM a) (aF (aM a) done b).toNat,i+1⟩,?_,⟨h1,h2,by simp only;omega,by simp only;omega,by simpa using h5,by simp only[ao7,List.length_singleton];omega⟩,rfl,?_⟩
   ·simp only;omega
   ·simp only[List.take_length]
    simp only[Nh,Ja,List.cons_append,List.nil_append,Nat.zero_add,qC,mx,jH,List.length_set,MY,sq,ao7,List.length_singleton];simp only[ints,ao9,List.map_nil,Int.toNat_of_nonneg e1]
   ·have hg2: ∀l,b++fb (aM a) ((aF (aM a) done b).toNat::l)=(b++cI (aM a) (aF (aM a) done b).toNat)++fb (aM a) l:=fun l=>by
     simp only[fb,List.flatMap_cons,List.append_assoc]
    have hk2: ∀l,ks++(aF (aM a) done b).toNat::l=(ks++[(aF (aM a) done b).toNat])++l:=fun l=>by simp
    rw[hg2,hk2] at ho1 ho2;intro f _;simp only[Out.run,eX,show(i+1).toNat=i.toNat+1 by omega];cases f
    ·exact ho2
    ·exact ho1
 ·rw[show a.bl.length - i.toNat=0 by omega] at ho2
  simp only[oU,List.append_nil,fb,List.flatMap_nil] at ho2;exact ho2
noncomputable def J0 κ:=(Qp κ).an 169 3 (aG 6 (Nh κ) I2 (M4 κ))
theorem aj8 κ:aE (J0 κ):=(e36 _).an (m36 _) (l17 _)
theorem P4 κ:aj (J0 κ):=(m36 _).an aI
end Go.Proofs.YtioeffnadipbaaaGreatDoor
namespace Go.Proofs.YtioeffnadipbaaaGreatDoor
open Go Go.Dn Go.Rl Go.Proofs Go.RowKit Go.Extern.Stop Go.Stop Go.Extern
theorem X4 v xT w:(Instr.typeAssert (.iface 253 v) xT 259 true).run Tryz.prog w= .ok (.tuple #[.nilIface, .bool false]) w:=run_typeAssert_lacksB Tryz.underlying259 (by kernel_rfl) (by kernel_rfl) v _ w
theorem KA v xT w:(Instr.typeAssert (.iface 253 v) xT 261 true).run Tryz.prog w= .ok (.tuple #[.nilIface, .bool false]) w:=run_typeAssert_lacksB Tryz.underlying261 (by kernel_rfl) (by kernel_rfl) v _ w
theorem Ct v xT w:(Instr.typeAssert (.iface 253 v) xT 263 true).run Tryz.prog w= .ok (.tuple #[.iface 253 v, .bool true]) w:=run_typeAssert_hasB Tryz.underlying263 (by kernel_rfl) v _ w
theorem yA v w:(Go.method 411 253 v "Unwrap").run Tryz.prog w= .ok (218,v) w:=by kernel_rfl
set_option maxRecDepth 4000 in
theorem KF(a:Addr)(w:World):
  Calls Tryz.prog 158 #[.iface 273 (.pointer (some a)), .iface 273 (.pointer (some a)), .bool true] w fun e w'=>e= .returned (.bool true)/\w'=w:=by
 obtain⟨i,hi,hcmp⟩:=Option.map_eq_some_iff.1 Gf;obtain⟨j,hj,hjs⟩:=Option.map_eq_some_iff.1 Fk;have heq:=run_eql_iface_ptr_same (P:=Tryz.prog) w a Tryz.underlying171 Tryz.underlying273 hi hcmp hj
 go_enter Tryz.func158,Tryz.ntmps158
 go_wp2
 refine wp_loop_rounds 1 ?_;rw[rounds_succ]
 go_wp2
 go_ret
 exact⟨rfl,rfl⟩
set_option maxRecDepth 8000 in
theorem Ry(ja ra b:Addr)(cap:Nat)(w:World)(h1:w.cell? ja=some (.slice (some ra) 1 cap))(h2:w.cell? ra=some (.iface 273 (.pointer (some b)))):
  Calls Tryz.prog 108 #[.iface 253 (.pointer (some ja)), .iface 273 (.pointer (some b))] w fun e w'=>e= .returned (.bool true)/\w'=w:=by
 have h8:= @run_callFunc_extern Tryz.prog 157 _ Extern.ReflectliteType.typeOf Tryz.func157 (by kernel_rfl) (by kernel_rfl) (by kernel_rfl) (by kernel_rfl);have h32:= @run_callFunc_extern Tryz.prog 222 _ (Extern.ReflectliteType.method fun t=>do Go.Extern.Rtype.noPackHeld "Comparable" t;pure (.bool (←typeInfo t).comparable)) Tryz.func222 (by kernel_rfl) (by kernel_rfl) (by kernel_rfl) (by kernel_rfl);have tT:=xm;have cT:=mW;have mR:=iG;have hne:=run_eql_iface_types (P:=Tryz.prog) 253 273 (.pointer (some ja)) (.pointer (some b)) Tryz.underlying171 (by decide);have n1:=X4;have n2:=KA;have n3:=Ct;have mU:=yA
 go_enter Tryz.func108,Tryz.ntmps108
 go_wp2
 refine wp_loop_rounds 1 ?_;rw[rounds_succ]
 go_wp2
 refine wp_loop_rounds 1 ?_;rw[rounds_succ]
 go_wp2_with (first|(go_at_call 158;refine(KF b _).mono ?_;rintro e w' ⟨rfl,rfl⟩))
 all_goals (go_ret;exact⟨rfl,rfl⟩)
end Go.Proofs.YtioeffnadipbaaaGreatDoor
namespace Go.Proofs.YtioeffnadipbaaaGreatDoor
open Go Go.Dn Go.Rl Go.Proofs
attribute [local irreducible] a7 vc
set_option maxRecDepth 20000
noncomputable def WM κ:=(J0 κ).an 156 3 (lv (J0 κ) 12 156 3 3)
noncomputable def Yb κ:=(WM κ).an 156 12 (lv (WM κ) 12 156 12 3)
theorem eJ1 κ:aE (WM κ):=(aj8 _).an (P4 _) (tO (P4 _) 3)
theorem mJ1 κ:aj (WM κ):=(P4 _).an (lL (P4 _) 3)
theorem eJ2 κ:aE (Yb κ):=(eJ1 _).an (mJ1 _) (tO (mJ1 _) 3)
theorem mJ2 κ:aj (Yb κ):=(mJ1 _).an (lL (mJ1 _) 3)
theorem yJ κ K:(a7 (Yb κ) 12 156 [.ah 171 [.lit (mO κ)]] [] K)=(
 letI a:=Pg.toProgram (Env.P (J0 κ))
 letI b:=Pg.toProgram (Env.P (WM κ))
 ad a 156 3=ad a 156 3/\ad b 156 12=ad b 156 12/\K (AV.jz 253 (AV.ptr 0 0 [] 0)) [Obj.box 255 (AV.agg [AV.ak 1 0 1]),Obj.row 171 [AV.lit (Value.iface
 273 (Value.pointer (some (Kp.stuck κ))))]]):=by kernel_rfl
abbrev AH:AV:= .jz 253 (.ptr 0 0 [] 0)
abbrev AR(κ:Kp):List Dn.Obj:=[.box 255 (.agg [.ak 1 0 1]), .row 171 [.lit (mO κ)]]
def stJ(κ:Kp)(_:Unit):List AV×List Dn.Obj:=([.ah 171 [.lit (mO κ)]],[])
def Hv(_:Unit):Prop:=True
def YC(κ:Kp)(_:Unit):Out (AV×List Dn.Obj):= .one (AH,AR κ)
theorem cJ κ:bg (Yb κ) 12 156 (aO (stJ κ) Hv (YC κ)):=by
 refine aQ ?_;rintro⟨⟩ K _ ho;refine Eq.mpr (yJ _ K) ?_;exact⟨rfl,rfl,ho⟩
def stI κ(_:Unit):=([AH, .lit (mO κ)],AR κ)
def Zg(κ:Kp)(_:Unit):Out (AV×List Dn.Obj):= .one (.bool true,AR κ)
theorem qI κ: ∀args st K,aO (stI κ) Hv (Zg κ) args st K->b6 (Pr κ) 108 args st K:=by
 rintro args st K ⟨_,h1,_,h3⟩;obtain⟨rfl,rfl⟩:=Prod.mk.inj h1;refine⟨⟨_,Tryz.func108,rfl⟩,fun C vs hC hI hst hm=>?_⟩;obtain⟨vs⟩:=vs;match vs,hm with
 | [v1,v2],hm=>
  simp only[MT] at hm;obtain⟨a1,a2,a3,b1,b2,b3,_⟩:=hm;have hv2:v2=mO κ:=aV (C:=C) ⟨b1,b2,b3⟩;have r1:Rel C AH v1:=⟨a1,a2,a3⟩
  obtain⟨c1,_⟩:=gO r1 rfl (by simp);simp only[M,c1] at a3;obtain⟨u,u1,u2,u3,u4,v,v1',v2',v3⟩:=a3;have hv1:v1= .iface 253 u:=by simpa using u1
  have hu:u.cells= #[u]:=gU (by rw[u2];rfl);have huv:v=u:=by rw[hu] at v1';simpa using v1'.symm
  subst huv;have o0:=hI.obj 0 (by rw[hst];simp);have o1:=hI.obj 1 (by rw[hst];simp);rw[hst] at o0 o1;simp only[ay,kj] at o0 o1;obtain⟨_,_,c,e,g1,_,g2⟩:=o0;simp only[M,ML] at g2;obtain⟨⟨_,s,s1,_,s2⟩,_⟩:=g2;have s3:=s2.1 171 [.lit (mO κ)] (by rw[hst];rfl);obtain⟨_,s3⟩:=s3;rcases s3 with⟨_,_,_,s3⟩|⟨n1,cap,q,rfl,s3,s4,_⟩
  ·cases s3
  have hq:q=⟨(C.ι 1).block,0,none⟩:=by
   rcases s3 with s3|⟨s3,s5⟩
   ·rw[s3,Nat.zero_mul]
   ·omega
  subst hq;obtain⟨_,o1⟩:=o1;rcases o1 with⟨o1,_⟩|⟨_,_,c',k1,_,_,_,k2⟩
  ·rw[n1] at o1;cases o1
  simp only[MR,M] at k2;obtain⟨⟨k2,_⟩,_⟩:=k2;have hp:v= .pointer (some ⟨(C.ι 0).block,0,none⟩):=(v3.2.1 255 _ (by rw[hst];rfl)).2;subst hp;subst hv1 hv2;refine(callsIn_wide.2 (Ry ⟨(C.ι 0).block,0,none⟩ ⟨(C.ι 1).block,0,none⟩ κ.stuck cap C.w s1 k2)).mono ?_;rintro e' w' ⟨rfl,rfl⟩;exact⟨_, .bool true,C,rfl,rfl,rfl,hI,a0 rfl,Ext.refl _ (by rw[hst];exact Nat.le_refl _),by rw[hst];exact h3⟩
 |[],hm=>simp[MT] at hm
 |[_],hm=>simp[MT] at hm
 |_::_::_::_,hm=>simp[MT] at hm
noncomputable def EJ κ:=((Yb κ).aw 156 (aO (stJ κ) Hv (YC κ))).aw 108 (aO (stI κ) Hv (Zg κ))
theorem eJ κ:aE (EJ κ):=((eJ2 _).aw (mJ2 _) (cJ _)).fV (qI _)
theorem mJ κ:aj (EJ κ):=((mJ2 _).aw aH).aw aH
theorem y17 κ a K:(a7 (EJ κ) 12 107 [au a] [] K)=(
 letI b:=AV.ptr 0 0 []
 letI c:=AV.ptr
 letI d:=AV.lit
 letI e:=Obj.box
 letI f:=Obj.row
 letI g:=Dn.Obj.map
 letI h:=AV.ah
 letI i:=AV.ak
 letI j:=AV.mp
 letI o:=Value.iface 273 (Value.pointer (some (Kp.stuck κ)))
 letI n:=∃(_e0:Unit),([h 171 [d o]],aL)=([h 171 [d o]],aL)/\True/\K (AV.aJ [AV.nil,AV.jz 253 (b 0)]) [e 255
  (AV.agg [i 1 0 1]),f 171 [d o]]
 letI m:=a.bl.length
 letI p:=Value×AV
 letI q:=Pg.toProgram (Env.P (Qp κ))
 letI r:=Int.toNat (↑m:Int)
 aW (true&&decide ((↑m:Int)<=(↑m:Int))&&decide ((Int.toNat (↑m:Int)+1)*2<=70368744177664)&&true) (ad q 169 3=ad q 169 3/\∃(e4:Zc),letI k:=ints (e4.ks++eX e4);letI s:=K (AV.aJ [i 0 0 (List.length k),d Value.nilIface]) [f 3 k];letI t:=[g 9 4 (bU (e4.b++fb (aM e4.a) (eX e4)))];letI l:=List.length e4.a.bl;letI u:=aq (decide ((↑(List.length k):Int)<(↑l:Int))) (n/\n) ((∃(e2:List AV),([h 38 e4.a.hl],aL)=([h 38 e2],aL)/\bE e2/\∃(e1:List AV×List p),([j 0,h 9 (List.take (List.length (ax (aa e2))) (List.drop 0 (strs (ax (aa e2)))))],t)=([j 0,h 9 e1.1],[g 9 4 e1.2])/\bq e1/\aq (!gi e1.2 e1.1) n s)/\∃(e2:List AV),([h 38 e4.a.hl],aL)=([h 38 e2],aL)/\bE e2/\∃(e1:List AV×List p),([j 0,h 9 (List.take (List.length (ax (aa e2))) (List.drop 0 (strs (ax (aa e2)))))],t)=([j 0,h 9 e1.1],[g 9 4 e1.2])/\bq e1/\aq (!gi e1.2 e1.1) n s);sp 38 [(0,AV.cf 5),(1,c 4 0 [] 0),(3,j 7),(4,i 8 0 r),(13,AV.int (↑m:Int)),(14,AV.int 0)] [e 48 (au a),e 35 (i 6 0 0),g 9 4 [],e 178 (j 2),e 48 (au a),Dn.Obj.loop (iO Tryz.prog 107 4 LoopState.ready none (ik (bO 40) [(0,au a),(1,b 0),(2,AV.nil),(3,d Value.nilIface),(4,c 1 0 [] 0),(5,c 3 0 [] 0),(7,j 2),(8,au a),(9,AV.bm 169 [c 4 0 [] 0])])),f 3 [],g 9 4 [],f 4 (fO (AV.bool false) r)]=sp 38 [(0,AV.cf 5),(1,c 4 0 [] 0),(3,j 7),(4,i 8 0 (List.length (b9 e4.done))),(13,AV.int (↑l:Int)),(14,AV.int e4.i)] [e 48 (au e4.a),e 35 (i 6 0 (List.length (ints e4.ks))),g 9 4 (bU e4.b),e 178 (j 2),e 48 (au e4.a),Dn.Obj.loop (iO Tryz.prog 107 4 LoopState.ready none (ik (bO 40) [(0,au e4.a),(1,b 0),(2,AV.nil),(3,d Value.nilIface),(4,c 1 0 [] 0),(5,c 3 0 [] 0),(7,j 2),(8,au e4.a),(9,AV.bm 169 [c 4 0 [] 0])])),f 3 (ints e4.ks),g 9 4 (bU e4.b),f 4 (b9 e4.done)]/\(a9 (aM e4.a)=true/\(bj (aa (bn 38 e4.a.hl e4.a.bl))<=100000/\List.length e4.a.bl<=100000)/\(0:Int)<=e4.i/\e4.i<=(↑l:Int)/\e4.done.length=List.length e4.a.bl/\e4.ks.length<=e4.i.toNat)/\∀(e3:Bool),True->aq e3 u u)):=by kernel_rfl
def D3(a:dh):List AV×List Dn.Obj:=([au a],[])
def Ni a:=a9 (aM a)=true/\c9 a
noncomputable def Mq(κ:Kp)(a:dh):Out (AV×List Dn.Obj):= .aq (jW (aM a)) (.one (.aJ [.ak 0 0 (cW (aM a)).length, .lit .nilIface],[.row 3 (ints (cW (aM a)))])) (.one (.aJ [.nil,AH],AR κ))
theorem uE n:fO (.lit (.bool false)) n=b9 (List.replicate n false):=by simp[fO,b9]
theorem c17 κ:bg (EJ κ) 12 107 (aO D3 Ni (Mq κ)):=by
 refine aQ ?_;rintro a K ⟨h1,h2⟩ ho;refine Eq.mpr (y17 κ a K) ?_;simp only[and_self];simp only[Mq,Out.run,ae] at ho;have hl:=h2.2;have hw:eX ⟨a,[],List.replicate a.bl.length false,[],0⟩=cW (aM a):=by
  unfold eX cW;rw[gM];rfl
 have hc:=pM h2;have hv:=cF (aa a.hl);have hs:jW (aM a)=(decide (a.bl.length<=(cW (aM a)).length)&&hasB (fb (aM a) (cW (aM a))) (ax (aa a.hl))):=by
  unfold jW;rw[gM];rfl
 rw[hs] at ho;simp only[ai,an3,an2,Int.toNat_natCast];refine⟨⟨⟨⟨trivial,by omega⟩,by omega⟩,trivial⟩,trivial,⟨a,[],List.replicate a.bl.length false,[],0⟩,?_,⟨h1,h2,by simp only;omega,by simp only;omega,by simp,by simp⟩,?_⟩
 ·simp only[uE,jH,List.length_replicate];rfl
 ·intro y _
  rw[hw];cases y<;>
  ·simp only[sq,List.nil_append,ae,an2,an4,Bool.not_eq_true',ao4,reduceCtorEq,false_implies,true_implies,and_true,true_and]
   refine⟨fun e=>?_,fun e=>?_⟩
   ·rw[an6 (show ¬ a.bl.length<=(cW (aM a)).length by omega),Bool.false_and] at ho
    exact⟨(),ho.2 rfl⟩
   ·rw[an8 (show a.bl.length<=(cW (aM a)).length by omega),ao8] at ho
    refine⟨a.hl,rfl,hc,(strs (ax (aa a.hl)),bU (fb (aM a) (cW (aM a)))),?_,?_,?_⟩
    ·simp only[ao2,cL]
    ·simp only[bq,bc,aU];omega
    ·simp only[fo]
     exact⟨fun e2=>⟨(),ho.2 e2⟩,fun e2=>ho.1 e2⟩
noncomputable def YK κ:=(EJ κ).aw 107 (aO D3 Ni (Mq κ))
theorem e17 κ:aE (YK κ):=(eJ _).aw (mJ _) (c17 _)
theorem m17 κ:aj (YK κ):=(mJ _).aw aH
theorem y7 κ a K:(a7 (YK κ) 12 62 [au a] [] K)=(
 letI b:=AV.int
 letI c:=AV.agg
 letI d:=Value.iface 273 (Value.pointer (some (Kp.stuck κ)))
 aW (decide (a.hl.length<=9223372036854775807)&&decide (a.bl.length<=9223372036854775807)) (aq (!a9 {head:={rel:=a.rel,l:=aa a.hl},body:=dv a.bl}) (K (AV.aJ [AV.nil,b 30]) []) (∃(e1:dh),([c [c [AV.str a.rel,AV.ah 38 a.hl],AV.ah 80 a.bl,b a.line]],aL)=([c [c [AV.str e1.rel,AV.ah 38 e1.hl],AV.ah 80 e1.bl,b e1.line]],aL)/\(a9 (aM e1)=true/\bj (aa (bn 38 e1.hl e1.bl))<=100000/\e1.bl.length<=100000)/\aq (jW (aM e1)) (K (AV.aJ [AV.ak 0 0 (List.length (cW (aM e1))),b 0]) [Obj.row 3 (ints (cW (aM e1)))]) (∃(_e0:Unit),([AV.jz 253 (AV.ptr 0 0 [] 0),AV.lit d],[Obj.box 255 (c [AV.ak 1 0 1]),Obj.row 171 [AV.lit d]])=([AV.jz 253 (AV.ptr 0 0 [] 0),AV.lit d],[Obj.box 255 (c [AV.ak 1 0 1]),Obj.row 171 [AV.lit d]])/\True/\K (AV.aJ [AV.nil,b 60]) [])))):=by kernel_rfl
def JY(a:dh):Out (AV×List Dn.Obj):= .aq (a9 (aM a)) (.aq (jW (aM a)) (.one (.aJ [.ak 0 0 (cW (aM a)).length, .int 0],[.row 3 (ints (cW (aM a)))])) (.one (.aJ [.nil, .int 60],[]))) (.one (.aJ [.nil, .int 30],[]))
theorem c7 κ:bg (YK κ) 12 62 (aO D3 c9 JY):=by
 refine aQ ?_;rintro a K h2 ho;refine Eq.mpr (y7 κ a K) ?_;simp only[JY,Out.run,ae] at ho;have hc:=pM h2;have hl1:=gI (aa a.hl);rw[er] at hl1;have hl:=h2.2;rw[ai,an3,an2,an2];refine⟨⟨by omega,by omega⟩,?_⟩;have hr:a9 ⟨_,dv a.bl⟩=a9 (aM a):=rfl;rw[hr];simp only[ae,Bool.not_eq_true',ao4];refine⟨fun e=>ho.2 e,fun e=>⟨a,rfl,⟨e,h2⟩,fun e2=>(ho.1 e).1 e2,by simp_all⟩⟩
noncomputable def E7 κ:=(YK κ).aw 62 (aO D3 c9 JY)
theorem e7 κ:aE (E7 κ):=(e17 _).aw (m17 _) (c7 _)
theorem m7 κ:aj (E7 κ):=(m17 _).aw aH
def eK es s:=yH es s
structure DB where
 vs:List ByteArray
 i:Int
 es:List (Value×AV)
abbrev DY(R:List AV)(es:List (Value×AV)):List Dn.Obj:=[.row 9 R, .box 178 (.mp 2), .map 9 4 es]
abbrev QP:AV:= .bm 116 [.ptr 1 0 [] 0]
abbrev JS(a:DB):=sp 19 [(0, .ak 0 0 (strs a.vs).length),(1,QP),(7, .int (strs a.vs).length),(8, .int a.i)] (DY (strs a.vs) a.es)
theorem xFB κ a I n K:(vc (oT κ) 12 161 none 3 (ad (Pr κ).toProgram 161 2) (JS a) (bh (oT κ) 161 2 3 I n K))=(
 letI b:=Dn.Obj.map
 letI c:=List.length (strs a.vs)
 aq (decide (a.i<(↑c:Int))) (aW (decide ((0:Int)<=a.i)&&decide (a.i<(↑c:Int))) (aq (!Dn.toBool (cV a.es (Value.string (toStr (nth (strs a.vs) (0+
 a.i.toNat)))) (AV.bool false))) (K Exit.ret (sp 19 [(4,AV.int a.i)] [Obj.row 9 (strs a.vs),Obj.box 178 (AV.mp 2),b 9 4 a.es])) (∃(e0:Nat),e0<n
 /\I e0 (sp 19 [(0,AV.ak 0 0 c),(1,AV.bm 116 [AV.ptr 1 0 [] 0]),(7,AV.int (↑c:Int)),(8,AV.int (IntKind.wrap IntKind.i64 (a.i+(1:Int))))] [Obj.row
 9 (strs a.vs),Obj.box 178 (AV.mp 2),b 9 4 a.es])))) (K (Exit.exit 0) (sp 19 [] [Obj.row 9 (strs a.vs),Obj.box 178 (AV.mp 2),b 9 4 a.es]))):=by kernel_rfl
def GZ(a:DB):=a.vs.length<=aU/\0<=a.i/\a.i<=a.vs.length/\∀s,s∈a.vs.take a.i.toNat->eK a.es s=true
def DP(a:DB):Out (Exit×S):=
 .aq (a.vs.all (eK a.es)) (.one (.exit 0,sp 19 [] (DY (strs a.vs) a.es)))
  (.all (fun j=>wy (eK a.es) a.vs j) fun j=> .one (.ret,sp 19 [(4, .int j)] (DY (strs a.vs) a.es)))
theorem lFB κ:aR (oT κ) 12 161 2 (aG 3 JS GZ DP):=by
 refine aD (fun a=>a.vs.length - a.i.toNat) ?_;rintro⟨vs,i,es⟩ K ⟨h1,h2,h3,h4⟩ ho;simp only at h1 h2 h3 h4;rw[show(oT κ).P=Pr κ from rfl];refine Eq.mpr (xFB κ ⟨vs,i,es⟩ _ _ K) ?_;simp only[aU] at h1;simp only[DP,Out.run,ae] at ho;have hl:=bc vs;simp only[bc,Nat.zero_add];have fin:i<vs.length->∀(hi:i.toNat<vs.length),(eK es vs[i.toNat]=false->K .ret (sp 19 [(4, .int i)] (DY (strs vs) es)))/\
   (eK es vs[i.toNat]=true->∃m,m<vs.length - i.toNat/\ei JS GZ DP (fun a=>a.vs.length - a.i.toNat) K m (JS ⟨vs,i+1,es⟩)):=by
  intro hi0 hi;refine⟨fun e=>ho.2 ?_ i ⟨h2,hi,h4,e⟩,fun e=>⟨_,?_,⟨vs,i+1,es⟩,rfl,⟨by simpa[aU] using h1,by simp only;omega,by simp only;omega,?_⟩,rfl,?_⟩⟩
  ·rw[Bool.eq_false_iff]
   intro hall;rw[List.all_eq_true.1 hall _ (List.getElem_mem hi)] at e;cases e
  ·simp only;omega
  ·intro s hs
   simp only at hs;rw[show(i+1).toNat=i.toNat+1 by omega,List.take_succ_eq_append_getElem hi,List.mem_append,List.mem_singleton] at hs;rcases hs with hs|hs
   ·exact h4 s hs
   ·rw[hs];exact e
  ·simp only[DP,Out.run,ae]
   exact ho
 simp only[ae,ai,an2,an4,an3,Bool.not_eq_true',ao4];refine⟨fun hi=>⟨⟨h2,hi⟩,?_⟩,fun hi=>?_⟩
 ·have hi':i.toNat<vs.length:=by omega
  have hn:toStr (nth (strs vs) i.toNat)=vs[i.toNat]:=by rw[xC vs _ hi'];rfl
  rw[az (n:=i+1) (by omega) (by omega),hn];have hf:=fin hi hi';simp only[JS,bc] at hf;exact⟨fun e=>hf.1 e,fun e=>hf.2 e⟩
 ·refine ho.1 (List.all_eq_true.2 fun s hs=>h4 s ?_)
  rw[List.take_of_length_le (by omega)];exact hs
noncomputable def R8 κ:=(oT κ).an 161 2 (aG 3 JS GZ DP)
theorem eFB κ:aE (R8 κ):=(UD _).an (Lu _) (lFB _)
theorem mFB κ:aj (R8 κ):=(Lu _).an aI
structure GB where
 R:List AV
 i:Int
 j:Int
 es:List (Value×AV)
 P:List ByteArray
 ws:List ByteArray
abbrev DX(a:GB):=sp 42 [(0, .ak 0 0 a.R.length),(1,QP),(5, .int a.i),(6, .int a.j)] (DY a.R a.es)
theorem xGB κ a I n K:(vc (R8 κ) 12 114 none 3 (ad (Pr κ).toProgram 114 5) (DX a) (bh (R8 κ) 114 5 3 I n K))=(
 letI b:=AV.int
 letI c:=Dn.Obj.map
 letI d:=IntKind.wrap IntKind.i64 (a.j+(1:Int))
 letI e:=toStr (nth a.R (0+a.j.toNat))
 letI f:=a.j<(↑(a.R.length):Int)
 aq (decide f) (aW (decide ((0:Int)<=a.j)&&decide f) (aq (!!Dn.toBool (cV a.es (Value.string e) (AV.bool false))) (aW (decide ((0:Int)<=a.i)&&decide
 (a.i<(↑(a.R.length):Int))) (∃(e0:Nat),e0<n/\I e0 (sp 42 [(0,AV.ak 0 0 a.R.length),(1,AV.bm 116 [AV.ptr 1 0 [] 0]),(5,b (IntKind.wrap
 IntKind.i64 (a.i+(1:Int)))),(6,b d)] [Obj.row 9 (bM a.R (0+a.i.toNat) (AV.str e)),Obj.box 178 (AV.mp 2),c 9 4 a.es]))) (∃(e0:Nat),
 e0<n/\I e0 (sp 42 [(0,AV.ak 0 0 a.R.length),(1,AV.bm 116 [AV.ptr 1 0 [] 0]),(5,b a.i),(6,b d)] [Obj.row 9 a.R,Obj.box 178 (AV.mp 2),
 c 9 4 a.es])))) (K (Exit.exit 0) (sp 42 [(0,AV.ak 0 0 a.R.length),(5,b a.i)] [Obj.row 9 a.R,Obj.box 178 (AV.mp 2),c 9 4 a.es]))):=by kernel_rfl
def A7(a:GB):=a.R.length<=aU/\0<=a.i/\a.i<a.j/\a.j<=a.R.length/\a.R.take a.i.toNat=strs a.P/\a.R.drop a.j.toNat=strs a.ws
def Et(a:GB):Out (Exit×S):= .all (fun R=>R.length=a.R.length/\R.take (a.P++a.ws.filter (eK a.es)).length=strs (a.P++a.ws.filter (eK a.es)))
 fun R=> .one (.exit 0,sp 42 [(0, .ak 0 0 a.R.length),(5, .int (a.P++a.ws.filter (eK a.es)).length)] (DY R a.es))
theorem lGB κ:aR (R8 κ) 12 114 5 (aG 3 DX A7 Et):=by
 refine aD (fun a=>a.R.length - a.j.toNat) ?_;rintro⟨R,i,j,es,P,ws⟩ K ⟨h1,h2,h3,h4,h5,h6⟩ ho;simp only at h1 h2 h3 h4 h5 h6;rw[show(R8 κ).P=Pr κ from rfl];refine Eq.mpr (xGB κ ⟨R,i,j,es,P,ws⟩ _ _ K) ?_;simp only[aU] at h1;simp only[Et,Out.run] at ho;simp only[Nat.zero_add];have hP:P.length=i.toNat:=by
  have:=congrArg List.length h5
  rw[List.length_take,bc] at this;omega
 have fin: ∀(s:ByteArray) (l:List ByteArray),ws=s::l->j<R.length->nth R j.toNat= .lit (.string s)->
   (eK es s=false->∃m,m<R.length - j.toNat/\ei DX A7 Et (fun a=>a.R.length - a.j.toNat) K m (DX ⟨R,i,j+1,es,P,l⟩))/\
   (eK es s=true->∃m,m<R.length - j.toNat/\ei DX A7 Et (fun a=>a.R.length - a.j.toNat) K m (DX ⟨bM R i.toNat (.lit (.string s)),i+1,j+1,es,P++[s],l⟩)):=by
  rintro s l rfl hj hn;obtain⟨_,_,h7⟩:=jM (l:=strs l) h6;refine⟨fun e=>⟨_,?_,_,rfl,⟨by simpa[aU] using h1,h2,by simp only;omega,by simp only;omega,h5,?_⟩,rfl,?_⟩,fun e=>⟨_,?_,_,rfl,⟨by simpa[aU,gF] using h1,by simp only;omega,by simp only;omega,by simp only[gF];omega,?_,?_⟩,rfl,?_⟩⟩
  ·simp only;omega
  ·simp only[show(j+1).toNat=j.toNat+1 by omega];exact h7
  ·intro y hy
   have:=ho y
   simp only[List.filter_cons,e,Bool.false_eq_true,if_false] at hy this⊢;exact this hy
  ·simp only[gF];omega
  ·simp only[show(i+1).toNat=i.toNat+1 by omega]
   rw[ui _ _ _ (by omega),h5,iY];rfl
  ·simp only[show(j+1).toNat=j.toNat+1 by omega]
   rw[tc _ _ _ _ (by omega)];exact h7
  ·intro y hy
   have:=ho y
   simp only[List.filter_cons,e,if_true,gF,List.append_assoc,List.singleton_append] at hy this⊢;exact this hy
 simp only[ae,ai,an2,an4,an3,Bool.not_eq_true',ao4];refine⟨fun hj=>⟨⟨by omega,hj⟩,?_⟩,fun hj=>?_⟩
 ·cases ws with
  |nil=>
   have:=congrArg List.length h6
   rw[List.length_drop,bc] at this;simp at this;omega
  |cons s l=>
   obtain⟨_,hn,_⟩:=jM (l:=strs l) h6;have hn':toStr (nth R j.toNat)=s:=by rw[hn];rfl
   have hf:=fin s l rfl hj hn;simp only[DX,gF] at hf;rw[az (n:=i+1) (by omega) (by omega),az (n:=j+1) (by omega) (by omega),hn'];exact⟨fun e=>⟨⟨by omega,by omega⟩,hf.2 e⟩,fun e=>hf.1 e⟩
 ·have hw:ws=[]:=by
   have:=congrArg List.length h6
   rw[List.length_drop,bc] at this;cases ws with
   |nil=>rfl
   |cons=>simp at this;omega
  subst hw;have:=ho R ⟨rfl,by simp only[List.filter_nil,List.append_nil,hP];exact h5⟩
  simp only[List.filter_nil,List.append_nil,hP,Int.toNat_of_nonneg h2] at this;exact this
noncomputable def EGB κ:=(R8 κ).an 114 5 (aG 3 DX A7 Et)
theorem eGB κ:aE (EGB κ):=(eFB _).an (mFB _) (lGB _)
theorem mGB κ:aj (EGB κ):=(mFB _).an aI
theorem yGB κ(a:DB) K:(a7 (EGB κ) 12 114 [.ak 0 0 (strs a.vs).length,QP] (DY (strs a.vs) a.es) K)=(
 letI b:=AV.int
 letI c:=Obj.box
 letI d:=Dn.Obj.map
 letI j:=List.length (strs a.vs)
 letI k:=Pg.toProgram (Env.P (oT κ))
 letI l:=Pg.toProgram (Env.P (R8 κ))
 ad k 161 2=ad k 161 2/\∃(e3:DB),letI f:=strs e3.vs;letI m:=K (AV.ah 9 (List.take j (List.drop 0 f))) [Obj.lz 9 f,c 178 (AV.mp 2),d 9 4 e3.es];letI n:=[Obj.row 9 f,c 178 (AV.mp 2),d 9 4 e3.es];sp 19 [(0,AV.ak 0 0 j),(1,AV.bm 116 [AV.ptr 1 0 [] 0]),(7,b (↑j:Int)),(8,b 0)] [Obj.row 9 (strs a.vs),c 178 (AV.mp 2),d 9 4 a.es]=sp 19 [(0,AV.ak 0 0 (List.length f)),(1,AV.bm 116 [AV.ptr 1 0 [] 0]),(7,b (↑(List.length f):Int)),(8,b e3.i)] n/\(e3.vs.length<=9223372036854775807/\(0:Int)<=e3.i/\e3.i<=(↑(e3.vs.length):Int)/\∀(e0:ByteArray),List.Mem e0 (List.take e3.i.toNat e3.vs)->eK e3.es e0=true)/\aq (List.all e3.vs (eK e3.es)) m (∀(e2:Int),((0:Int)<=e2/\∃(e1:e2.toNat<e3.vs.length),(∀(e0:ByteArray),List.Mem e0 (List.take e2.toNat e3.vs)->eK e3.es e0=true)/\eK e3.es e3.vs[e2.toNat]=false)->aq (e2==(-1:Int)) m (ad l 114 5=ad l 114 5/\∃(e1:GB),letI o:=e1.P++List.filter (eK e1.es) e1.ws;letI e:=List.length o;letI g:=e1.R.length;sp 42 [(0,AV.ak 0 0 j),(1,AV.bm 116 [AV.ptr 1 0 [] 0]),(5,b e2),(6,b (IntKind.wrap IntKind.i64 (e2+(1:Int))))] n=sp 42 [(0,AV.ak 0 0 e1.R.length),(1,AV.bm 116 [AV.ptr 1 0 [] 0]),(5,b e1.i),(6,b e1.j)] [Obj.row 9 e1.R,c 178 (AV.mp 2),d 9 4 e1.es]/\(e1.R.length<=9223372036854775807/\(0:Int)<=e1.i/\e1.i<e1.j/\e1.j<=(↑g:Int)/\List.take e1.i.toNat e1.R=strs e1.P/\List.drop e1.j.toNat e1.R=strs e1.ws)/\∀(e0:List AV),letI h:=Int.toNat ((↑g:Int) - (↑e:Int));letI i:=(↑e:Int)<=(↑g:Int);e0.length=e1.R.length/\List.take e e0=strs o->aW (true&&decide i&&decide ((↑g:Int)<=(↑g:Int))) (aW (true&&decide i) (K (AV.ah 9 (List.take (Int.toNat ((↑e:Int) - (0:Int))) (List.drop 0 (c6 e0 (0+Int.toNat (↑e:Int)) h (AV.str {data:= #[]}))))) [Obj.lz 9 (c6 e0 (0+Int.toNat (↑e:Int)) h (AV.str {data:= #[]})),c 178 (AV.mp 2),d 9 4 e1.es]))))):=by kernel_rfl
def IQ(a:DB):=([.ak 0 0 a.vs.length,QP],DY (strs a.vs) a.es)
def pH(a:DB):=a.vs.length<=aU
def Gp(a:DB):Out (AV×List Dn.Obj):= .all (fun _=>True) fun R=> .one (.ah 9 (strs (a.vs.filter (eK a.es))),[.lz 9 R, .box 178 (.mp 2), .map 9 4 a.es])
theorem aj5 κ:bg (EGB κ) 12 114 (aO IQ pH Gp):=by
 refine aQ ?_;rintro⟨vs,i,es⟩ K h1 ho;simp only[pH] at h1;simp only[IQ];rw[←bc vs];refine Eq.mpr (yGB κ ⟨vs,i,es⟩ K) ?_;refine⟨rfl,⟨vs,0,es⟩,rfl,⟨h1,by simp only;omega,by simp only;omega,fun s hs=>nomatch hs⟩,?_⟩;rw[ae];refine⟨fun e=>?_,fun e y hy=>?_⟩
 ·have hf:vs.filter (eK es)=vs:=List.filter_eq_self.2 (List.all_eq_true.1 e)
  have:=ho (strs vs) trivial
  simp only[hf] at this;rw[ao2,List.take_length];exact this
 ·have hF:=rS hy
  obtain⟨h0,h2,h3,h4⟩:=hy;simp only at h0 h2;simp only[aU] at h1;rw[ae,beq_iff_eq,beq_eq_false_iff_ne];refine⟨fun e2=>by omega,fun _=>⟨rfl,⟨strs vs,y,y+1,es,vs.take y.toNat,vs.drop (y.toNat+1)⟩,?_,⟨by simp only[bc];omega,h0,by simp only;omega,by simp only[bc];omega,?_,?_⟩,?_⟩⟩
  ·rw[az (n:=y+1) (by omega) (by omega)]
  ·simp only[strs,List.map_take]
  ·simp only[strs,List.map_drop,show(y+1).toNat=y.toNat+1 by omega]
  ·rintro R ⟨r1,r2⟩
   simp only at r1 r2;rw[←hF] at r2⊢;have hle:(vs.filter (eK es)).length<=vs.length:=List.length_filter_le _ _;rw[ai,ai];refine⟨by simp[bc,hle],by simp[bc,hle],?_⟩;have:=ho (c6 R (0+Int.toNat ((vs.filter (eK es)).length:Int)) (Int.toNat (((strs vs).length:Int) - ((vs.filter (eK es)).length:Int))) (.lit (.string (ByteArray.mk #[])))) trivial
   simp only[Int.toNat_natCast,Nat.zero_add,Int.sub_zero,ao2,oC,r2] at this⊢;exact this
theorem ag9 κ: ∀args st K,aO IQ pH Gp args st K->b6 (Pr κ) 114 args st K:=fun _args _st K h=>gW (eGB _) (mGB _) (aj5 _ _ _ K h)
structure Z2 where
 a:dh
 ws:List Nat
 n:Nat
 i:Int
 vs:List ByteArray
abbrev TT(a:Z2):=sp 48 [(2, .ptr 0 0 [] 0),(8, .ptr 1 0 [] 0),(32, .ak 3 0 a.n),(33, .int a.n),(34, .int a.i)] [.box 48 (au a.a), .box 178 (.mp 2), .map 9 4 (bU a.vs), .row 3 (ints a.ws)]
theorem x10(κ:Kp)(a:Z2) ws es I n K:(vc (E7 κ) 12 65 none 0 (ad (Pr κ).toProgram 65 8) (sp 48 [(2, .ptr 0 0 [] 0),(8, .ptr 1 0 [] 0),(32, .ak 3 0 a.n),(33, .int a.n),(34, .int a.i)] [.box 48 (au a.a), .box 178 (.mp 2), .map 9 4 es, .row 3 ws]) (bh (E7 κ) 65 8 0 I n K))=(
 letI b:=Obj.box
 letI c:=Dn.Obj.map
 letI d:=∃(e2:dh×Int),([au a.a,AV.int (toInt (nth ws (0+a.i.toNat)))],aL)=([au e2.1,AV.int e2.2],aL)/\(a9 (aM e2.1)=true/\(bj (aa (bn 38
  e2.1.hl e2.1.bl))<=100000/\e2.1.bl.length<=100000)/\(0:Int)<=e2.2/\e2.2<(↑(e2.1.bl.length):Int))/\∃(e1:List AV×List (Value×AV)),([AV.mp 0,
  AV.ah 9 (strs (cI (aM e2.1) e2.2.toNat))],[c 9 4 es])=([AV.mp 0,AV.ah 9 e1.1],[c 9 4 e1.2])/\bq e1/\∃(e0:Nat),e0<n/\I e0 (sp 48
  [(2,AV.ptr 0 0 [] 0),(8,AV.ptr 1 0 [] 0),(32,AV.ak 3 0 a.n),(33,AV.int (↑(a.n):Int)),(34,AV.int (IntKind.wrap IntKind.i64 (a.i+(1:Int))))]
  [b 48 (au a.a),b 178 (AV.mp 2),c 9 4 (fK e1.2 e1.1),Obj.row 3 ws])
 aq (decide (a.i<(↑(a.n):Int))) (aW (decide ((0:Int)<=a.i)&&decide (a.i<(↑(a.n):Int))) (d/\d)) (K (Exit.exit 1) (sp 48 [(2,AV.ptr 0 0 [] 0),(8,
 AV.ptr 1 0 [] 0)] [b 48 (au a.a),b 178 (AV.mp 2),c 9 4 es]))):=by kernel_rfl
def Hp(a:Z2):=a9 (aM a.a)=true/\c9 a.a/\0<=a.i/\a.i<=a.n/\a.n<=a.ws.length/\a.ws.length<=a.a.bl.length/\∀k,k∈a.ws->k<a.a.bl.length
def Bx(a:Z2):Out (Exit×S):= .one (.exit 1,sp 48 [(2, .ptr 0 0 [] 0),(8, .ptr 1 0 [] 0)] [.box 48 (au a.a), .box 178 (.mp 2), .map 9 4 (bU (a.vs++fb (aM a.a) ((a.ws.take a.n).drop a.i.toNat)))])
theorem xU l i h:toInt (nth (ints l) i)=l[i]:=by
 grind [aX,ints,toInt]
theorem l10 κ:aR (E7 κ) 12 65 8 (aG 0 TT Hp Bx):=by
 refine aD (fun a=>a.n - a.i.toNat) ?_;rintro⟨a,ws,n,i,vs⟩ K ⟨h1,h2,h3,h4,h5,h6,h7⟩ ho;simp only at h1 h2 h3 h4 h5 h6 h7;rw[show(E7 κ).P=Pr κ from rfl];refine Eq.mpr (x10 κ ⟨a,ws,n,i,vs⟩ (ints ws) (bU vs) _ _ K) ?_;simp only[Bx,Out.run] at ho;simp only[and_self,Nat.zero_add];have hl:=h2.2;rw[ae,ai,an3,an2,an2,an4];refine⟨fun hi=>⟨⟨h3,hi⟩,?_⟩,fun hi=>?_⟩
 ·have hi':i.toNat<ws.length:=by omega
  have hk:=h7 _ (List.getElem_mem hi');have hg:=tP h2 hk;have hd:(ws.take n).drop i.toNat=ws[i.toNat]::(ws.take n).drop (i.toNat+1):=by
   rw[ao3 (by rw[List.length_take];omega)];simp
  rw[hd] at ho;rw[az (n:=i+1) (by omega) (by omega),xU ws _ hi'];refine⟨(a,(ws[i.toNat]:Int)),rfl,⟨h1,h2,by simp only;omega,by simp only;omega⟩,(strs (cI (aM a) ws[i.toNat]),bU vs),rfl,by simp only[bq,bc,aU];omega,_,?_,⟨a,ws,n,i+1,vs++cI (aM a) ws[i.toNat]⟩,?_,⟨h1,h2,by simp only;omega,by simp only;omega,h5,h6,h7⟩,rfl,?_⟩
  ·simp only;omega
  ·simp only[mx]
  ·simp only[Bx,Out.run,show(i+1).toNat=i.toNat+1 by omega]
   simpa only[fb,List.flatMap_cons,List.append_assoc] using ho
 ·rw[ao0 (by rw[List.length_take];omega)] at ho
  simpa[fb] using ho
noncomputable def PI κ:=((E7 κ).an 65 8 (aG 0 TT Hp Bx)).aw 114 (aO IQ pH Gp)
theorem ah9 κ:aE (PI κ):=((e7 _).an (m7 _) (l10 _)).fV (ag9 _)
theorem ab7 κ:aj (PI κ):=((m7 _).an aI).aw aH
theorem y10 κ a k K:(a7 (PI κ) 12 65 [au a, .int k] [] K)=(
 letI b:=AV.int
 letI c:=AV.ptr
 letI d:=Obj.box
 letI e:=Obj.row
 letI f:=Dn.Obj.map
 letI g:=K (AV.aJ [AV.nil,b 2]) []
 letI h:=Pg.toProgram (Env.P (E7 κ))
 letI i:=Int.toNat (k - (0:Int))
 ∃(e4:dh),letI j:=List.length (cW (aM e4));([au a],aL)=([au e4],aL)/\(bj (aa (bn 38 e4.hl e4.bl))<=100000/\e4.bl.length<=100000)/\aq (a9 (aM e4)) (aq (jW (aM e4)) (aq (decide (k<(0:Int))) g (aq (decide (k>(↑j:Int))) g (aW (true&&decide ((0:Int)<=k)&&decide (k<=(↑j:Int))) (ad h 65 8=ad h 65 8/\∃(e3:Z2),sp 48 [(2,c 0 0 [] 0),(8,c 1 0 [] 0),(32,AV.ak 3 0 i),(33,b (↑i:Int)),(34,b 0)] [d 48 (au a),d 178 (AV.mp 2),f 9 4 [],e 3 (ints (cW (aM e4)))]=sp 48 [(2,c 0 0 [] 0),(8,c 1 0 [] 0),(32,AV.ak 3 0 e3.n),(33,b (↑(e3.n):Int)),(34,b e3.i)] [d 48 (au e3.a),d 178 (AV.mp 2),f 9 4 (bU e3.vs),e 3 (ints e3.ws)]/\(a9 (aM e3.a)=true/\(bj (aa (bn 38 e3.a.hl e3.a.bl))<=100000/\List.length e3.a.bl<=100000)/\(0:Int)<=e3.i/\e3.i<=(↑(e3.n):Int)/\e3.n<=e3.ws.length/\e3.ws.length<=List.length e3.a.bl/\∀(e0:Nat),List.Mem e0 e3.ws->e0<List.length e3.a.bl)/\∃(e2:dh),([au e3.a],aL)=([au e2],aL)/\(a9 (aM e2)=true/\bj (aa (bn 38 e2.hl e2.bl))<=100000/\e2.bl.length<=100000)/\∃(e1:DB),([AV.ak 0 0 (List.length (de (aM e2))),AV.bm 116 [c 1 0 [] 0]],[e 9 (strs (de (aM e2))),d 178 (AV.mp 2),f 9 4 (bU (e3.vs++fb (aM e3.a) (List.drop e3.i.toNat (List.take e3.n e3.ws))))])=([AV.ak 0 0 e1.vs.length,AV.bm 116 [c 1 0 [] 0]],[e 9 (strs e1.vs),d 178 (AV.mp 2),f 9 4 e1.es])/\pH e1/\∀(_e0:List AV),True->K (AV.aJ [AV.ah 9 (strs (List.filter (eK e1.es) e1.vs)),b 0]) [])))) (K (AV.aJ [AV.nil,b 60]) [])) (K (AV.aJ [AV.nil,b 30]) [])):=by kernel_rfl
def Yj(a:dh×Int):List AV×List Dn.Obj:=([au a.1, .int a.2],[])
def Pl(a:dh×Int):Prop:=c9 a.1
def NQ(a:dh×Int):Out (AV×List Dn.Obj):= .aq (a9 (aM a.1)) (.aq (jW (aM a.1)) (.aq (decide (a.2<0)||decide (a.1.bl.length<a.2)) (.one (.aJ [.nil, .int 2],[]))
 (.one (.aJ [.ah 9 (strs (Gy (aM a.1) a.2.toNat)), .int 0],[]))) (.one (.aJ [.nil, .int 60],[]))) (.one (.aJ [.nil, .int 30],[]))
theorem tn{a}(h:jW (aM a)=true):(cW (aM a)).length=a.bl.length:=by
 grind [KO,gM,jW]
theorem c10 κ:bg (PI κ) 12 65 (aO Yj Pl NQ):=by
 refine aQ ?_;rintro⟨a,k⟩ K h2 ho;refine Eq.mpr (y10 κ a k K) ?_;simp only[NQ,Out.run,ae] at ho;have h2:c9 a:=h2;have hl:=h2.2;refine⟨a,rfl,h2,?_⟩;rw[ae];refine⟨fun e1=>?_,fun e1=>ho.2 e1⟩;rw[ae];refine⟨fun e2=>?_,fun e2=>(ho.1 e1).2 e2⟩;have hw:=tn e2;have ho1:=(ho.1 e1).1 e2;rw[ae,an2,an4];refine⟨fun e3=>ho1.1 (by rw[an8 e3];rfl),fun e3=>?_⟩;rw[ae,an2,an4,hw];refine⟨fun e4=>ho1.1 (by rw[an8 (show(a.bl.length:Int)<k from e4)];simp),fun e4=>?_⟩;have ho2:=ho1.2 (by rw[an6 e3,an6 (show ¬ (a.bl.length:Int)<k from e4)];rfl);simp only[ai,an3,an2,Int.sub_zero];have h5:(fB (aM a)).length<=100000:=by
  have h6:=cF (aa (bn 38 a.hl a.bl));rw[iM 38 a.rel a.hl a.bl] at h6;exact Nat.le_trans h6 h2.1
 have h7:=kM (fB (aM a)) [];refine⟨⟨⟨trivial,by omega⟩,by omega⟩,trivial,⟨a,cW (aM a),k.toNat,0,[]⟩,rfl,⟨e1,h2,by simp only;omega,by simp only;omega,by simp only;omega,by simp only;omega,fun j hj=>by have:=xv hj;rwa [gM] at this⟩,a,rfl,⟨e1,h2⟩,⟨de (aM a),0,bU ([]++fb (aM a) (((cW (aM a)).take k.toNat).drop (Int.toNat 0)))⟩,rfl,?_,?_⟩
 ·simp only[pH,de,e1,an9,aU];omega
 ·intro R _
  have hk3:List.filter (eK (bU ([]++fb (aM a) (((cW (aM a)).take k.toNat).drop (Int.toNat 0))))) (de (aM a))=Gy (aM a) k.toNat:=by
   unfold Gy;refine congrFun (congrArg _ ?_) _;funext s
   unfold eK;rw[pW];rfl
  simp only[hk3];exact ho2
noncomputable def Qz κ:=(PI κ).aw 65 (aO Yj Pl NQ)
theorem e10 κ:aE (Qz κ):=(ah9 _).aw (ab7 _) (c10 _)
theorem m10 κ:aj (Qz κ):=(ab7 _).aw aH
end Go.Proofs.YtioeffnadipbaaaGreatDoor
namespace Go.Proofs.YtioeffnadipbaaaGreatDoor
open Go Go.Dn Go.Rl Go.Proofs
attribute [local irreducible] a7 vc
set_option maxRecDepth 20000
noncomputable abbrev lp8(a:dh)(ws:List AV)(κ:Kp)(st:LoopState)(p:Option Code):Dn.Obj:=
 .loop (iO (Pr κ).toProgram 89 5 st p (ik (bO 63) [(0,au a),(1, .ptr 0 0 [] 0),(2, .ptr 1 0 [] 0),(3, .ptr 2 0 [] 0),(4, .ak 3 0 ws.length),(5, .int 0),(10, .aJ [.ak 3 0 ws.length, .int 0]),(11,au a),(12, .aJ [.ak 3 0 ws.length, .int 0]),(13, .ak 3 0 ws.length),(14, .int 0),(15, .int 0),(16, .bool false),(18,au a),(19, .bm 169 [.ptr 4 0 [] 0])]))
noncomputable abbrev EL κ a ws b st p:=[.box 48 (au a), .box 4 (.bool b), .box 32 (.int 0), .row 3 ws, .box 48 (au a),lp8 a ws κ st p]
theorem x8(κ:Kp)(a:dh) ws es done(i:Int) I(n:Nat) K:(vc (Qz κ) 12 169 none 6 (ad (Pr κ).toProgram 169 3) (sp 38 [(0, .cf 5),(1, .ptr 4 0 [] 0),(3, .mp 6),(4, .ak 7 0 done.length),(13, .int a.bl.length),(14, .int i)] (EL κ a ws false .ready none++[.map 9 4 es, .row 4 done])) (bh (Qz κ) 169 3 6 I n K))=(
 letI b:=AV.int
 letI c:=AV.ptr
 letI d:=AV.agg
 letI e:=AV.str
 letI f:=Obj.box
 letI g:=Obj.row
 letI h:=Dn.Obj.map
 letI j:=AV.ah
 letI k:=AV.ak
 letI l:=AV.mp
 letI C:=ik (bO 63) [(0,au a),(1,c 0 0 [] 0),(2,c 1 0 [] 0),(3,c 2 0 [] 0),(4,k 3 0 ws.length),(5,b 0),(10,AV.aJ [k 3
  0 ws.length,b 0]),(11,au a),(12,AV.aJ [k 3 0 ws.length,b 0]),(13,k 3 0 ws.length),(14,b 0),(15,b 0),(16,AV.bool
  false),(18,au a),(19,AV.bm 169 [c 4 0 [] 0])]
 letI z:=iO Tryz.prog 89 5 LoopState.ready none C
 letI D:=IntKind.wrap IntKind.i64 (i+(1:Int))
 letI x:=a.bl.length
 letI A:=AV.bool false
 letI E:=sp 38 [] [f 48 (au a),f 4 A,f 32 (b 0),g 3 ws,f 48 (au a),Dn.Obj.loop z]
 letI F:=AV.bool true
 letI y:=K Exit.ret (sp 38 [] [f 48 (au a),f 4 F,f 32 (b 0),g 3 ws,f 48 (au a),Dn.Obj.loop (iO Tryz.prog 89 5
  LoopState.done (some Code.ret) C)])
 letI G:=done.length
 letI p:=Value×AV
 aq (decide (i<(↑x:Int))) (∃(e5:Ln),letI o:=aF (aM e5.a) e5.done e5.b;letI m:=nth a.bl (Int.toNat o);letI q:=(0:Int)<=aF (aM e5.a) e5.done e5.b;letI r:=decide q&&decide (aF (aM e5.a) e5.done e5.b<(↑G:Int));letI B:=[l 0,d [b (toInt (af (af m 3) 0)),e (toStr (af (af m 3) 1)),b (toInt (af (af m 3) 2)),j 38 (ag (af (af m 3) 3))],d [b (toInt (af (af m 2) 0)),e (toStr (af (af m 2) 1)),b (toInt (af (af m 2) 2)),j 38 (ag (af (af m 2) 3))]];letI s:=bM (b9 e5.done) (0+Int.toNat o) F;letI t:=decide ((7:Int)<=toInt (af m 0));letI u:=[h 9 4 (bU e5.b)];([au a,k 0 0 done.length,l 1],[g 4 done,h 9 4 es])=([au e5.a,k 0 0 (List.length (b9 e5.done)),l 1],[g 4 (b9 e5.done),h 9 4 (bU e5.b)])/\(a9 (aM e5.a)=true/\(bj (aa (bn 38 e5.a.hl e5.a.bl))<=100000/\List.length e5.a.bl<=100000)/\e5.done.length=List.length e5.a.bl)/\aq (decide (aF (aM e5.a) e5.done e5.b<(0:Int))) (K Exit.ret E) (aW (decide q&&decide (aF (aM e5.a) e5.done e5.b<(↑x:Int))) (aq (toInt (af m 0)==(3:Int)) (∃(e4:TA),letI v:=∃(e3:TA),letI w:=aq t y (aW r (∃(e2:dh×Int),([au a,b o],aL)=([au e2.1,b e2.2],aL)/\(a9 (aM e2.1)=true/\(bj (aa (bn 38 e2.1.hl e2.1.bl))<=100000/\e2.1.bl.length<=100000)/\(0:Int)<=e2.2/\e2.2<(↑(e2.1.bl.length):Int))/\∃(e1:List AV×List p),([l 0,j 9 (strs (cI (aM e2.1) e2.2.toNat))],[h 9 4 e3.es])=([l 0,j 9 e1.1],[h 9 4 e1.2])/\bq e1/\∃(e0:Nat),e0<n/\I e0 (sp 38 [(0,AV.cf 5),(1,c 4 0 [] 0),(3,l 6),(4,k 7 0 done.length),(13,b (↑x:Int)),(14,b D)] [f 48 (au a),f 4 A,f 32 (b 0),g 3 ws,f 48 (au a),Dn.Obj.loop z,h 9 4 (fK e1.2 e1.1),g 4 s])));(B,[h 9 4 e4.es])=([l 0,d [b e3.o1,e e3.s1,b e3.n1,j 38 e3.l1],d [b e3.o2,e e3.s2,b e3.n2,j 38 e3.l2]],[h 9 4 e3.es])/\jf e3/\aq (mb e3.es (TA.x e3) (TA.y e3)) (aq (decide (toInt (af (af m 2) 0)>=(5:Int))) y w) w;([l 0,d [b (toInt (af (af m 2) 0)),e (toStr (af (af m 2) 1)),b (toInt (af (af m 2) 2)),j 38 (ag (af (af m 2) 3))],d [b (toInt (af (af m 3) 0)),e (toStr (af (af m 3) 1)),b (toInt (af (af m 3) 2)),j 38 (ag (af (af m 3) 3))]],u)=([l 0,d [b e4.o1,e e4.s1,b e4.n1,j 38 e4.l1],d [b e4.o2,e e4.s2,b e4.n2,j 38 e4.l2]],[h 9 4 e4.es])/\jf e4/\aq (mb e4.es (TA.x e4) (TA.y e4)) (aq (decide (toInt (af (af m 3) 0)>=(5:Int))) y v) v) (aq t y (aW r (∃(e2:dh×Int),([au a,b o],aL)=([au e2.1,b e2.2],aL)/\(a9 (aM e2.1)=true/\(bj (aa (bn 38 e2.1.hl e2.1.bl))<=100000/\e2.1.bl.length<=100000)/\(0:Int)<=e2.2/\e2.2<(↑(e2.1.bl.length):Int))/\∃(e1:List AV×List p),([l 0,j 9 (strs (cI (aM e2.1) e2.2.toNat))],u)=([l 0,j 9 e1.1],[h 9 4 e1.2])/\bq e1/\∃(e0:Nat),e0<n/\I e0 (sp 38 [(0,AV.cf 5),(1,c 4 0 [] 0),(3,l 6),(4,k 7 0 done.length),(13,b (↑x:Int)),(14,b D)] [f 48 (au a),f 4 A,f 32 (b 0),g 3 ws,f 48 (au a),Dn.Obj.loop z,h 9 4 (fK e1.2 e1.1),g 4 s]))))))) (K (Exit.exit 0) E)):=by kernel_rfl
structure A8 where
 a:dh
 ws:List AV
 done:List Bool
 b:List ByteArray
 i:Int
noncomputable abbrev Qn κ(a:A8):=sp 38 [(0, .cf 5),(1, .ptr 4 0 [] 0),(3, .mp 6),(4, .ak 7 0 (b9 a.done).length),(13, .int a.a.bl.length),(14, .int a.i)] (EL κ a.a a.ws false .ready none++[.map 9 4 (bU a.b), .row 4 (b9 a.done)])
def Fh(a:A8):=a9 (aM a.a)=true/\c9 a.a/\0<=a.i/\a.i<=a.a.bl.length/\a.done.length=a.a.bl.length
noncomputable def Km(a:A8):=OW (aM a.a) (a.a.bl.length - a.i.toNat) a.done a.b
noncomputable def CD(κ:Kp)(a:A8):Out (Exit×S):= .aq (Km a) (.one (.ret,sp 38 [] (EL κ a.a a.ws true .done (some .ret)))) (.all (fun _=>True) fun e=> .aq e (.one (.ret,sp 38 [] (EL κ a.a a.ws false .ready none))) (.one (.exit 0,sp 38 [] (EL κ a.a a.ws false .ready none))))
theorem JL r n done b:OW r (n+1) done b=
  bif decide (aF r done b<0) then false else Lc r b (aF r done b).toNat||OW r n (done.set (aF r done b).toNat true) (b++cI r (aF r done b).toNat):=rfl
theorem l8 κ:aR (Qz κ) 12 169 3 (aG 6 (Qn κ) Fh (CD κ)):=by
 refine aD (fun a=>a.a.bl.length - a.i.toNat) ?_;rintro⟨a,ws,done,b,i⟩ K ⟨h1,h2,h3,h4,h5⟩ ho;simp only at h1 h2 h3 h4 h5;rw[show(Qz κ).P=Pr κ from rfl];refine Eq.mpr (x8 κ a ws (bU b) (b9 done) i _ _ K) ?_;simp only[CD,Out.run,ae,Km] at ho;simp only;have hbl:=jH done;have hl:=h2.2;rw[ae,an2,an4];refine⟨fun hi=>⟨⟨a,done,b,0,0⟩,rfl,⟨h1,h2,h5⟩,?_⟩,fun hi=>?_⟩
 ·have hw:=JL (aM a) (a.bl.length - (i.toNat+1)) done b
  rw[show a.bl.length - (i.toNat+1)+1=a.bl.length - i.toNat by omega] at hw;rw[ae,an2,an4];refine⟨fun e=>?_,fun e=>?_⟩
  ·rw[hw,an8 e] at ho
   exact(ho.2 rfl true trivial).1 rfl
  ·rw[hw,an6 e,an7] at ho
   rcases qF (aM a) done b with e0|⟨e1,e2,e3,_⟩
   ·rw[e0] at e;omega
   have e2':=e2;rw[gM] at e2';have hg:=tP h2 e2';have hlit:=kW h2 e2';have e2i:aF (aM a) done b<a.bl.length:=by omega
   have hsd:bq (strs (cI (aM a) (aF (aM a) done b).toNat),bU b):=by simp only[bq,bc,aU];omega
   have hbnd:(decide (0<=aF (aM a) done b)&&decide (aF (aM a) done b<(a.bl.length:Int)))=true:=by simp[e1,e2i]
   have hbnd2:(decide (0<=aF (aM a) done b)&&decide (aF (aM a) done b<((b9 done).length:Int)))=true:=by rw[hbl,h5];exact hbnd
   have hlc:jZ (cX (nth a.bl (aF (aM a) done b).toNat))=bj [cE (af (nth a.bl (aF (aM a) done b).toNat) 2),cE (af (nth a.bl (aF (aM a) done b).toNat) 3)]+bj (aa (ag (af (af (nth a.bl (aF (aM a) done b).toNat) 1) 1))):=rfl;have hcx:bj [cE (af (nth a.bl (aF (aM a) done b).toNat) 2)]<=100000/\bj [cE (af (nth a.bl (aF (aM a) done b).toNat) 3)]<=100000:=by
    simp only[bj] at hlc⊢;omega
   have hx1:jf (l9 (af (nth a.bl (aF (aM a) done b).toNat) 2) (af (nth a.bl (aF (aM a) done b).toNat) 3) (bU b)):=by unfold jf l9;rw[oP];exact hcx.2
   have hx2:jf (l9 (af (nth a.bl (aF (aM a) done b).toNat) 3) (af (nth a.bl (aF (aM a) done b).toNat) 2) (bU b)):=by unfold jf l9;rw[oP];exact hcx.1
   have ta1:mb (l9 (af (nth a.bl (aF (aM a) done b).toNat) 2) (af (nth a.bl (aF (aM a) done b).toNat) 3) (bU b)).es (l9 (af (nth a.bl (aF (aM a) done b).toNat) 2) (af (nth a.bl (aF (aM a) done b).toNat) 3) (bU b)).x (l9 (af (nth a.bl (aF (aM a) done b).toNat) 2) (af (nth a.bl (aF (aM a) done b).toNat) 3) (bU b)).y=ma b (cE (af (nth a.bl (aF (aM a) done b).toNat) 2)) (cE (af (nth a.bl (aF (aM a) done b).toNat) 3)):=by
    unfold l9;rw[AJ,oP,pS]
   have ta2:mb (l9 (af (nth a.bl (aF (aM a) done b).toNat) 3) (af (nth a.bl (aF (aM a) done b).toNat) 2) (bU b)).es (l9 (af (nth a.bl (aF (aM a) done b).toNat) 3) (af (nth a.bl (aF (aM a) done b).toNat) 2) (bU b)).x (l9 (af (nth a.bl (aF (aM a) done b).toNat) 3) (af (nth a.bl (aF (aM a) done b).toNat) 2) (bU b)).y=ma b (cE (af (nth a.bl (aF (aM a) done b).toNat) 3)) (cE (af (nth a.bl (aF (aM a) done b).toNat) 2)):=by
    unfold l9;rw[AJ,oP,pS]
   have hinv:Lc (aM a) b (aF (aM a) done b).toNat=((decide (toInt (af (nth a.bl (aF (aM a) done b).toNat) 0)=3)&&(ma b (cE (af (nth a.bl (aF (aM a) done b).toNat) 2)) (cE (af (nth a.bl (aF (aM a) done b).toNat) 3))&&decide (toInt (af (af (nth a.bl (aF (aM a) done b).toNat) 3) 0)>=5)||ma b (cE (af (nth a.bl (aF (aM a) done b).toNat) 3)) (cE (af (nth a.bl (aF (aM a) done b).toNat) 2))&&decide (toInt (af (af (nth a.bl (aF (aM a) done b).toNat) 2) 0)>=5)))||decide (7<=toInt (af (nth a.bl (aF (aM a) done b).toNat) 0))):=by
    have o1:(cE (af (nth a.bl (aF (aM a) done b).toNat) 2)).op=toInt (af (af (nth a.bl (aF (aM a) done b).toNat) 2) 0):=by rw[da];rfl
    have o2:(cE (af (nth a.bl (aF (aM a) done b).toNat) 3)).op=toInt (af (af (nth a.bl (aF (aM a) done b).toNat) 3) 0):=by rw[da];rfl
    unfold Lc;rw[show(aM a).body=dv a.bl from rfl,kF _ e2',show(cX (nth a.bl (aF (aM a) done b).toNat)).op=toInt (af (nth a.bl (aF (aM a) done b).toNat) 0) from rfl,show(cX (nth a.bl (aF (aM a) done b).toNat)).x=cE (af (nth a.bl (aF (aM a) done b).toNat) 2) from rfl,show(cX (nth a.bl (aF (aM a) done b).toNat)).y=cE (af (nth a.bl (aF (aM a) done b).toNat) 3) from rfl,o1,o2]
   have h3t:(toInt (af (nth a.bl (aF (aM a) done b).toNat) 0)==3)=true->decide (toInt (af (nth a.bl (aF (aM a) done b).toNat) 0)=3)=true:=fun e=>by simpa using e
   have h3f:(toInt (af (nth a.bl (aF (aM a) done b).toNat) 0)==3)=false->decide (toInt (af (nth a.bl (aF (aM a) done b).toNat) 0)=3)=false:=fun e=>by simpa using e
   have ho1:Lc (aM a) b (aF (aM a) done b).toNat=true->K .ret (sp 38 [] (EL κ a ws true .done (some .ret))):=fun e=>ho.1 (by rw[e];rfl)
   have nx:Lc (aM a) b (aF (aM a) done b).toNat=false->∃m,m<a.bl.length - i.toNat/\ei (Qn κ) Fh (CD κ) (fun a=>a.a.bl.length - a.i.toNat) K m (sp 38 [(0, .cf 5),(1, .ptr 4 0 [] 0),(3, .mp 6),(4, .ak 7 0 (b9 done).length),(13, .int a.bl.length),(14, .int (IntKind.wrap .i64 (i+1)))] (EL κ a ws false .ready none++[.map 9 4 (fK (bU b) (strs (cI (aM a) (aF (aM a) done b).toNat))), .row 4 (bM (b9 done) (0+(aF (aM a) done b).toNat) (.lit (.bool true)))])):=by
    intro e;rw[e,Bool.false_or] at ho;rw[az (n:=i+1) (by omega) (by omega)];refine⟨_,?_,⟨a,ws,done.set (aF (aM a) done b).toNat true,b++cI (aM a) (aF (aM a) done b).toNat,i+1⟩,?_,⟨h1,h2,by simp only;omega,by simp only;omega,by simpa using h5⟩,rfl,?_⟩
    ·simp only;omega
    ·simp only[Qn,Nat.zero_add,qC,mx,jH,List.length_set]
    ·simp only[CD,Out.run,ae,Km,show(i+1).toNat=i.toNat+1 by omega]
     exact ho
   rw[ai];refine⟨hbnd,?_⟩;rw[ae];exact⟨fun f3=>⟨l9 (af (nth a.bl (aF (aM a) done b).toNat) 2) (af (nth a.bl (aF (aM a) done b).toNat) 3) (bU b),rfl,hx1,by
   rw[ta1];exact ae.2 ⟨fun g1=>ae.2 ⟨fun g4=>ho1 (by rw[hinv,h3t f3,g1,g4];simp),fun g4=>⟨l9 (af (nth a.bl (aF (aM a) done b).toNat) 3) (af (nth a.bl (aF (aM a) done b).toNat) 2) (bU b),rfl,hx2,by
   rw[ta2];exact ae.2 ⟨fun g2=>ae.2 ⟨fun g3=>ho1 (by rw[hinv,h3t f3,g1,g4,g2,g3];simp),fun g3=>ae.2 ⟨fun f7=>ho1 (by rw[hinv,h3t f3,g1,g4,g2,g3,f7];simp),fun f7=>ai.2 ⟨hbnd2,(a,(aF (aM a) done b)),rfl,⟨h1,h2,e1,e2i⟩,(strs (cI (aM a) (aF (aM a) done b).toNat),bU b),rfl,hsd,nx (by rw[hinv,h3t f3,g1,g4,g2,g3,f7];simp)⟩⟩⟩,fun g2=>ae.2 ⟨fun f7=>ho1 (by rw[hinv,h3t f3,g1,g4,g2,f7];simp),fun f7=>ai.2 ⟨hbnd2,(a,(aF (aM a) done b)),rfl,⟨h1,h2,e1,e2i⟩,(strs (cI (aM a) (aF (aM a) done b).toNat),bU b),rfl,hsd,nx (by rw[hinv,h3t f3,g1,g4,g2,f7];simp)⟩⟩⟩⟩⟩,fun g1=>⟨l9 (af (nth a.bl (aF (aM a) done b).toNat) 3) (af (nth a.bl (aF (aM a) done b).toNat) 2) (bU b),rfl,hx2,by
   rw[ta2];exact ae.2 ⟨fun g2=>ae.2 ⟨fun g3=>ho1 (by rw[hinv,h3t f3,g1,g2,g3];simp),fun g3=>ae.2 ⟨fun f7=>ho1 (by rw[hinv,h3t f3,g1,g2,g3,f7];simp),fun f7=>ai.2 ⟨hbnd2,(a,(aF (aM a) done b)),rfl,⟨h1,h2,e1,e2i⟩,(strs (cI (aM a) (aF (aM a) done b).toNat),bU b),rfl,hsd,nx (by rw[hinv,h3t f3,g1,g2,g3,f7];simp)⟩⟩⟩,fun g2=>ae.2 ⟨fun f7=>ho1 (by rw[hinv,h3t f3,g1,g2,f7];simp),fun f7=>ai.2 ⟨hbnd2,(a,(aF (aM a) done b)),rfl,⟨h1,h2,e1,e2i⟩,(strs (cI (aM a) (aF (aM a) done b).toNat),bU b),rfl,hsd,nx (by rw[hinv,h3t f3,g1,g2,f7];simp)⟩⟩⟩⟩⟩⟩,fun f3=>ae.2 ⟨fun f7=>ho1 (by rw[hinv,h3f f3,f7];simp),fun f7=>ai.2 ⟨hbnd2,(a,(aF (aM a) done b)),rfl,⟨h1,h2,e1,e2i⟩,(strs (cI (aM a) (aF (aM a) done b).toNat),bU b),rfl,hsd,nx (by rw[hinv,h3f f3,f7];simp)⟩⟩⟩
 ·rw[show a.bl.length - i.toNat=0 by omega] at ho
  exact(ho.2 rfl false trivial).2 rfl
noncomputable def Yy κ:=(Qz κ).an 169 3 (aG 6 (Qn κ) Fh (CD κ))
theorem e8l κ:aE (Yy κ):=(e10 _).an (m10 _) (l8 _)
theorem m8l κ:aj (Yy κ):=(m10 _).an aI
theorem y8 κ a K:(a7 (Yy κ) 12 89 [au a] [] K)=(
 letI b:=AV.int
 letI c:=AV.ptr
 letI d:=AV.bool
 letI e:=Obj.box
 letI f:=Obj.row
 letI g:=AV.aJ
 letI h:=AV.ak
 letI i:=a.bl.length
 letI l:=K (g [d false,b 0]) []
 letI m:=Pg.toProgram (Env.P (Qz κ))
 letI k:=d false
 letI n:=Int.toNat (↑i:Int)
 ∃(e2:dh),letI j:=List.length (cW (aM e2));([au a],aL)=([au e2],aL)/\(bj (aa (bn 38 e2.hl e2.bl))<=100000/\e2.bl.length<=100000)/\aq (a9 (aM e2)) (aq (jW (aM e2)) (aW (true&&decide ((↑i:Int)<=(↑i:Int))&&decide ((Int.toNat (↑i:Int)+1)*2<=70368744177664)&&true) (ad m 169 3=ad m 169 3/\∃(e1:A8),letI o:=[h 3 0 e1.ws.length,b 0];sp 38 [(0,AV.cf 5),(1,c 4 0 [] 0),(3,AV.mp 6),(4,h 7 0 n),(13,b (↑i:Int)),(14,b 0)] [e 48 (au a),e 4 k,e 32 (b 0),f 3 (ints (cW (aM e2))),e 48 (au a),Dn.Obj.loop (iO Tryz.prog 89 5 LoopState.ready none (ik (bO 63) [(0,au a),(1,c 0 0 [] 0),(2,c 1 0 [] 0),(3,c 2 0 [] 0),(4,h 3 0 j),(5,b 0),(10,g [h 3 0 j,b 0]),(11,au a),(12,g [h 3 0 j,b 0]),(13,h 3 0 j),(14,b 0),(15,b 0),(16,d false),(18,au a),(19,AV.bm 169 [c 4 0 [] 0])])),Dn.Obj.map 9 4 [],f 4 (fO k n)]=sp 38 [(0,AV.cf 5),(1,c 4 0 [] 0),(3,AV.mp 6),(4,h 7 0 (List.length (b9 e1.done))),(13,b (↑(List.length e1.a.bl):Int)),(14,b e1.i)] [e 48 (au e1.a),e 4 k,e 32 (b 0),f 3 e1.ws,e 48 (au e1.a),Dn.Obj.loop (iO Tryz.prog 89 5 LoopState.ready none (ik (bO 63) [(0,au e1.a),(1,c 0 0 [] 0),(2,c 1 0 [] 0),(3,c 2 0 [] 0),(4,h 3 0 e1.ws.length),(5,b 0),(10,g o),(11,au e1.a),(12,g o),(13,h 3 0 e1.ws.length),(14,b 0),(15,b 0),(16,d false),(18,au e1.a),(19,AV.bm 169 [c 4 0 [] 0])])),Dn.Obj.map 9 4 (bU e1.b),f 4 (b9 e1.done)]/\(a9 (aM e1.a)=true/\(bj (aa (bn 38 e1.a.hl e1.a.bl))<=100000/\List.length e1.a.bl<=100000)/\(0:Int)<=e1.i/\e1.i<=(↑(List.length e1.a.bl):Int)/\e1.done.length=List.length e1.a.bl)/\aq (Km e1) (K (g [d true,b 0]) []) (∀(e0:Bool),True->aq e0 l l))) (K (g [d false,b 60]) [])) (K (g [d false,b 30]) [])):=by kernel_rfl
def U3(a:dh):Out (AV×List Dn.Obj):= .aq (a9 (aM a)) (.aq (jW (aM a)) (.one (.aJ [.bool (N5 (aM a)), .int 0],[])) (.one (.aJ [.bool false, .int 60],[]))) (.one (.aJ [.bool false, .int 30],[]))
theorem c8 κ:bg (Yy κ) 12 89 (aO D3 c9 U3):=by
 refine aQ ?_;rintro a K h2 ho;refine Eq.mpr (y8 κ a K) ?_;simp only[U3,Out.run,ae] at ho;have hl:=h2.2;refine⟨a,rfl,h2,?_⟩;rw[ae];refine⟨fun e1=>?_,fun e1=>ho.2 e1⟩;rw[ae];refine⟨fun e2=>?_,fun e2=>(ho.1 e1).2 e2⟩;have hw:=tn e2;have ho1:=(ho.1 e1).1 e2;simp only[ai,an3,an2,Int.toNat_natCast];have hi:Km ⟨a,ints (cW (aM a)),List.replicate a.bl.length false,[],0⟩=N5 (aM a):=by
  unfold Km N5;rw[gM];rfl
 refine⟨by grind,trivial,⟨a,ints (cW (aM a)),List.replicate a.bl.length false,[],0⟩,?_,⟨e1,h2,by simp only;omega,by simp only;omega,by simp⟩,?_⟩
 ·simp only[uE,jH,sq,List.length_replicate];rfl
 grind [ae]
noncomputable def E8 κ:=(Yy κ).aw 89 (aO D3 c9 U3)
theorem e8 κ:aE (E8 κ):=(e8l _).aw (m8l _) (c8 _)
theorem m8 κ:aj (E8 κ):=(m8l _).aw aH
def WS:List AV->Option (Bool×AV)
 |[.agg [.lit (.int .i64 op), .lit (.string s), .lit (.int .i64 n), .ah 38 l], .lit (.int .i64 left)]=>some (decide (0<=left)&&decide (left<=100000), .int ((Tm.mk op s n (aa l)).size left))
 |_=>none
def J2:List AV->Nat
 |[.agg [_,_,_, .ah _ l],_]=>bj (aa l)
 |_=>0
noncomputable def EW κ n:=(E8 κ).aK 105 (below WS J2 n)
structure A54 where
 op:Int
 s:ByteArray
 n:Int
 l:List AV
 left:Int
 i:Int
abbrev Ob(a:A54):=sp 31 [(1, .int a.left),(2, .ptr 0 0 [] 0),(5, .int a.i)] [.box 38 (.agg [.int a.op, .lit (.string a.s), .int a.n, .ah 38 a.l])]
theorem x54 κ r a I n K:(vc (EW κ r) 12 105 none 0 (ad (Pr κ).toProgram 105 5) (Ob a) (bh (EW κ r) 105 5 0 I n K))=(
 letI b:=AV.int
 letI c:=nth a.l a.i.toNat
 letI d:=K (Exit.exit 0) (sp 31 [(1,b a.left)] [])
 letI e:=a.i<(↑(a.l.length):Int)
 aq (decide e) (aq (decide (a.left>=(0:Int))) (aW (decide ((0:Int)<=a.i)&&decide e) (aW (decide ((0:Int)<=a.left)&&decide (a.left<=(100000:
 Int))&&Nat.blt (J2 [AV.agg [b (toInt (af c 0)),AV.str (toStr (af c 1)),b (toInt (af c 2)),AV.ah 38 (ag (af c 3))],b a.left]) r) (∃(e0
 :Nat),e0<n/\I e0 (sp 31 [(1,b (Tm.size (Tm.mk (toInt (af c 0)) (toStr (af c 1)) (toInt (af c 2)) (aa (ag (af c 3)))) a.left)),(2,AV.ptr 0 0 []
 0),(5,b (IntKind.wrap IntKind.i64 (a.i+(1:Int))))] [Obj.box 38 (AV.agg [b a.op,AV.str a.s,b a.n,AV.ah 38 a.l])])))) d) d):=by kernel_rfl
def Hu r(a:A54):= -1<=a.left/\a.i+a.left<=100000/\0<=a.i/\a.i<=a.l.length/\bj (aa (a.l.drop a.i.toNat))<=r
def B8(a:A54):Out (Exit×S):= .one (.exit 0,sp 31 [(1, .int (jg (aa (a.l.drop a.i.toNat)) a.left))] [])
theorem l54 κ r:aR (EW κ r) 12 105 5 (aG 0 Ob (Hu r) B8):=by
 refine aD (fun a=>a.l.length - a.i.toNat) ?_;rintro⟨op,s,n,l,left,i⟩ K ⟨h1,h2,h3,h4,h5⟩ ho;simp only at h1 h2 h3 h4 h5;rw[show(EW κ r).P=Pr κ from rfl];refine Eq.mpr (x54 κ r ⟨op,s,n,l,left,i⟩ _ _ K) ?_;simp only[B8,Out.run] at ho;simp only[ae,ai,an2,an4,an3,Nat.blt_eq,←da];refine⟨fun hi=>⟨fun hl=>⟨⟨h3,hi⟩,?_⟩,fun hl=>?_⟩,fun hi=>?_⟩
 ·have hc:=vV l i.toNat (by omega)
  have hz:=Tm.size_le (cE (nth l i.toNat)) left hl;have hp:(cE (nth l i.toNat)).mS=1+bj (aa (ag (af (nth l i.toNat) 3))):=by rw[da,Tm.mS]
  rw[eR l i.toNat (by omega),jg,an8 hl,an9] at ho;rw[az (n:=i+1) (by omega) (by omega)];refine⟨⟨⟨hl,by omega⟩,by simp only[J2];omega⟩,_,?_,⟨op,s,n,l,(cE (nth l i.toNat)).size left,i+1⟩,rfl,⟨by simp only;omega,by simp only;omega,by simp only;omega,by simp only;omega,?_⟩,rfl,?_⟩
  ·simp only;omega
  ·simp only[show(i+1).toNat=i.toNat+1 by omega];omega
  ·simp only[B8,Out.run,show(i+1).toNat=i.toNat+1 by omega]
   exact ho
 ·rw[eR l i.toNat (by omega),jg,an6 (show ¬ 0<=left from hl),an7] at ho
  exact ho
 ·rw[ao0 (by omega)] at ho
  exact ho
noncomputable def PG κ r:=(EW κ r).an 105 5 (aG 0 Ob (Hu r) B8)
theorem y54 κ r op s n l left K:(a7 (PG κ r) 12 105 [.agg [.int op, .lit (.string s), .int n, .ah 38 l], .int left] [] K)=(
 letI b:=AV.int
 aq (decide ((↑(ByteArray.size s):Int)>(1000:Int))) (K (b (-1)) []) (ad (Pg.toProgram (Env.P (EW κ r))) 105 5=ad (Pg.toProgram (Env.P (EW κ r))) 105 5/\∃(a:A54),letI c:=aa (List.drop a.i.toNat a.l);sp 31 [(1,b (IntKind.wrap IntKind.i64 (left - (1:Int)))),(2,AV.ptr 0 0 [] 0),(5,b 0)] [Obj.box 38 (AV.agg [b op,AV.str s,b n,AV.ah 38 l])]=sp 31 [(1,b a.left),(2,AV.ptr 0 0 [] 0),(5,b a.i)] [Obj.box 38 (AV.agg [b a.op,AV.str a.s,b a.n,AV.ah 38 a.l])]/\((-1:Int)<=a.left/\a.i+a.left<=(100000:Int)/\(0:Int)<=a.i/\a.i<=(↑(a.l.length):Int)/\bj c<=r)/\K (b (jg c a.left)) [])):=by kernel_rfl
theorem ai2 κ r(hp:gy (Pr κ) 105 (below WS J2 r)):aE (PG κ r)/\aj (PG κ r)/\(PG κ r).P=Pr κ:=
 have h:=(e8 _).eQ hp;have hm:=(m8 _).aK
 ⟨h.an hm (l54 _ r),hm.an aI,rfl⟩
theorem p54 κ r:cj (PG κ r) 12 105 fun xs=>bif Nat.beq (J2 xs) r then WS xs else none:=by
 intro args x hh;cases hb:Nat.beq (J2 args) r with
 |false=>simp only[hb] at hh;cases hh
 | true=>
  simp only[hb,an9] at hh;unfold WS at hh;split at hh
  ·rename_i op s n l left
   simp only[an5,ao1,an3,an2] at hh;obtain⟨⟨h1,h2⟩,rfl⟩:=hh;have hr:bj (aa l)=r:=Nat.eq_of_beq_eq_true hb;refine⟨_,rfl,rfl,?_⟩;refine Eq.mpr (y54 κ r op s n l left _) ?_;rw[ae,an2,an4];refine⟨fun e=>?_,fun e=>?_⟩
   ·unfold Tm.size;rw[an8 (show(1000:Int)<s.size from e)];rfl
   ·rw[az (n:=left - 1) (by omega) (by omega)]
    refine⟨rfl,⟨op,s,n,l,left - 1,0⟩,rfl,⟨by simp only;omega,by simp only;omega,by simp only;omega,by simp only;omega,?_⟩,?_⟩
    ·simp only[Int.toNat_zero,ao2];omega
    ·unfold Tm.size;rw[an6 (show ¬ (1000:Int)<s.size from e)];rfl
  ·cases hh
theorem q54 κ:gy (Pr κ) 105 WS:=aE.xl _ _ _ (ai2 _) (p54 _)
noncomputable def Se κ:=(E8 κ).aK 105 WS
theorem e54 κ:aE (Se κ):=(e8 _).eQ (q54 _)
theorem m54 κ:aj (Se κ):=(m8 _).aK
structure A53 where
 s:ByteArray
 l:List AV
 left:Int
 i:Int
abbrev NP(a:A53):=sp 29 [(1, .int a.left),(2, .ptr 0 0 [] 0),(5, .int a.i)] [.box 45 (.agg [.lit (.string a.s), .ah 38 a.l])]
theorem x53 κ a I n K:(vc (Se κ) 12 104 none 0 (ad (Pr κ).toProgram 104 4) (NP a) (bh (Se κ) 104 4 0 I n K))=(
 letI b:=nth a.l a.i.toNat
 letI c:=K (Exit.exit 0) (sp 29 [(1,AV.int a.left)] [])
 letI d:=a.i<(↑(a.l.length):Int)
 aq (decide d) (aq (decide (a.left>=(0:Int))) (aW (decide ((0:Int)<=a.i)&&decide d) (aW (decide ((0:Int)<=a.left)&&decide (a.left<=(100000:
 Int))) (∃(e0:Nat),e0<n/\I e0 (sp 29 [(1,AV.int (Tm.size (Tm.mk (toInt (af b 0)) (toStr (af b 1)) (toInt (af b 2)) (aa (ag (af b 3)))) a.left)),(2,
 AV.ptr 0 0 [] 0),(5,AV.int (IntKind.wrap IntKind.i64 (a.i+(1:Int))))] [Obj.box 45 (AV.agg [AV.str a.s,AV.ah 38 a.l])])))) c) c):=by kernel_rfl
def Hb(a:A53):= -1<=a.left/\a.i+a.left<=100000/\0<=a.i/\a.i<=a.l.length
def BP(a:A53):Out (Exit×S):= .one (.exit 0,sp 29 [(1, .int (jg (aa (a.l.drop a.i.toNat)) a.left))] [])
theorem l53 κ:aR (Se κ) 12 104 4 (aG 0 NP Hb BP):=by
 refine aD (fun a=>a.l.length - a.i.toNat) ?_;rintro⟨s,l,left,i⟩ K ⟨h1,h2,h3,h4⟩ ho;simp only at h1 h2 h3 h4;rw[show(Se κ).P=Pr κ from rfl];refine Eq.mpr (x53 κ ⟨s,l,left,i⟩ _ _ K) ?_;simp only[BP,Out.run] at ho;simp only[ae,ai,an2,an4,an3,←da];refine⟨fun hi=>⟨fun hl=>⟨⟨h3,hi⟩,?_⟩,fun hl=>?_⟩,fun hi=>?_⟩
 ·have hz:=Tm.size_le (cE (nth l i.toNat)) left hl
  rw[eR l i.toNat (by omega),jg,an8 hl,an9] at ho;rw[az (n:=i+1) (by omega) (by omega)];refine⟨⟨hl,by omega⟩,_,?_,⟨s,l,(cE (nth l i.toNat)).size left,i+1⟩,rfl,⟨by simp only;omega,by simp only;omega,by simp only;omega,by simp only;omega⟩,rfl,?_⟩
  ·simp only;omega
  ·simp only[BP,Out.run,show(i+1).toNat=i.toNat+1 by omega]
   exact ho
 ·rw[eR l i.toNat (by omega),jg,an6 (show ¬ 0<=left from hl),an7] at ho
  exact ho
 ·rw[ao0 (by omega)] at ho
  exact ho
noncomputable def M3 κ:=(Se κ).an 104 4 (aG 0 NP Hb BP)
theorem ai4 κ:aE (M3 κ):=(e54 _).an (m54 _) (l53 _)
theorem Zt κ:aj (M3 κ):=(m54 _).an aI
theorem y53 κ s l left K:(a7 (M3 κ) 12 104 [.agg [.lit (.string s), .ah 38 l], .int left] [] K)=(
 letI a:=AV.int
 letI b:=Pg.toProgram (Env.P (Se κ))
 aq (decide ((↑(ByteArray.size s):Int)>(1000:Int))) (K (a (-1)) []) (ad b 104 4=ad b 104 4/\∃(e0:A53),sp 29 [(1,a left),(2,AV.ptr 0 0
 [] 0),(5,a 0)] [Obj.box 45 (AV.agg [AV.str s,AV.ah 38 l])]=sp 29 [(1,a e0.left),(2,AV.ptr 0 0 [] 0),(5,a e0.i)] [Obj.box 45 (AV.agg
 [AV.str e0.s,AV.ah 38 e0.l])]/\((-1:Int)<=e0.left/\e0.i+e0.left<=(100000:Int)/\(0:Int)<=e0.i/\e0.i<=(↑(e0.l.length):Int))/\K (a (jg (aa
 (List.drop e0.i.toNat e0.l)) e0.left)) [])):=by kernel_rfl
def g53:List AV->Option (Bool×AV)
 |[.agg [.lit (.string s), .ah 38 l], .lit (.int .i64 left)]=>some (decide (-1<=left)&&decide (left<=100000), .int (du ⟨s,aa l⟩ left))
 |_=>none
theorem p53 κ:cj (M3 κ) 12 104 g53:=by
 intro args x hh;unfold g53 at hh;split at hh
 ·rename_i s l left
  simp only[an5,ao1,an3,an2] at hh;obtain⟨⟨h1,h2⟩,rfl⟩:=hh;refine⟨_,rfl,rfl,?_⟩;refine Eq.mpr (y53 κ s l left _) ?_;rw[ae,an2,an4];refine⟨fun e=>?_,fun e=>?_⟩
  ·unfold du;rw[an8 (show(1000:Int)<s.size from e)];rfl
  ·refine⟨rfl,⟨s,l,left,0⟩,rfl,by grind,?_⟩
   unfold du;grind
 ·cases hh
noncomputable def RG κ:=(M3 κ).aK 104 g53
theorem e53 κ:aE (RG κ):=(ai4 _).aK (Zt _) (p53 _)
theorem m53 κ:aj (RG κ):=(Zt _).aK
structure YH where
 a:dh
 left:Int
 i:Int
abbrev CZ(a:YH):=sp 52 [(1, .int a.left),(2, .ptr 0 0 [] 0),(5, .int a.i)] [.box 48 (au a.a)]
theorem x38(κ:Kp)(a:YH) I(n:Nat) K:(vc (RG κ) 12 60 none 0 (ad (Pr κ).toProgram 60 3) (CZ a) (bh (RG κ) 60 3 0 I n K))=(
 letI b:=IntKind.wrap IntKind.i64
 letI c:=AV.ptr 0 0 []
 letI d:=AV.int
 letI e:=Obj.box
 letI f:=nth a.a.bl a.i.toNat
 letI p:=Tm.mk (toInt (af (af f 2) 0)) (toStr (af (af f 2) 1)) (toInt (af (af f 2) 2)) (aa (ag (af (af f 2) 3)))
 letI t:=AV.agg [AV.agg [AV.str a.a.rel,AV.ah 38 a.a.hl],AV.ah 80 a.a.bl,d a.a.line]
 letI k:=ag (af (af f 1) 1)
 letI m:=af (af f 1) 0
 letI u:=b (a.i+(1:Int))
 letI q:=Tm.mk (toInt (af (af f 3) 0)) (toStr (af (af f 3) 1)) (toInt (af (af f 3) 2)) (aa (ag (af (af f 3) 3)))
 letI r:=K (Exit.exit 0) (sp 52 [(1,d a.left)] [])
 letI s:=a.i<(↑(List.length a.a.bl):Int)
 letI v:=decide ((0:Int)<=a.i)&&decide s
 letI h:=a.left - (1:Int)
 letI o:=b h
 letI g:=du {rel:=toStr m,l:=aa k} o
 letI i:=du {rel:=toStr m,l:=aa k} o
 letI j:=(100000:Int)
 letI w:=decide ((0:Int)<=du {rel:=toStr m,l:=aa k} o)&&decide (du {rel:=toStr m,l:=aa k} o<=j)
 aq (decide s) (aq (decide (a.left>=(0:Int))) (aW v (aW (decide ((-1:Int)<=b h)&&decide (b h<=j)) (aq (decide (du {rel:=toStr m,l:=aa k} o>=(0:Int))) (aW v (aW w (aq (decide (Tm.size p g>=(0:Int))) (aW v (aW (decide ((0:Int)<=Tm.size p i)&&decide (Tm.size p g<=j)) (∃(e0:Nat),e0<n/\I e0 (sp 52 [(1,AV.lit (Value.int IntKind.i64 (Tm.size q (Tm.size p g)))),(2,c 0),(5,d u)] [e 48 t])))) (∃(e0:Nat),e0<n/\I e0 (sp 52 [(1,AV.lit (Value.int IntKind.i64 (Tm.size p i))),(2,c 0),(5,d u)] [e 48 t]))))) (aq (decide (du {rel:=toStr m,l:=aa k} o>=(0:Int))) (aW v (aW w (∃(e0:Nat),e0<n/\I e0 (sp 52 [(1,AV.lit (Value.int IntKind.i64 (Tm.size q i))),(2,c 0),(5,d u)] [e 48 t])))) (∃(e0:Nat),e0<n/\I e0 (sp 52 [(1,AV.lit (Value.int IntKind.i64 g)),(2,c 0),(5,d u)] [e 48 t])))))) r) r):=by kernel_rfl
def Bt(a:YH):= -1<=a.left/\a.i+a.left<=100000/\0<=a.i/\a.i<=a.a.bl.length
def xx(a:YH):Out (Exit×S):= .one (.exit 0,sp 52 [(1, .int (lR (dv (a.a.bl.drop a.i.toNat)) a.left))] [])
theorem l38 κ:aR (RG κ) 12 60 3 (aG 0 CZ Bt xx):=by
 refine aD (fun a=>a.a.bl.length - a.i.toNat) ?_;rintro⟨a,left,i⟩ K ⟨h1,h2,h3,h4⟩ ho;simp only at h1 h2 h3 h4;rw[show(RG κ).P=Pr κ from rfl];refine Eq.mpr (x38 κ ⟨a,left,i⟩ _ _ K) ?_;simp only[xx,Out.run] at ho;by_cases hi:i<a.bl.length
 ·by_cases hl:left>=0
  ·have hk:i.toNat<a.bl.length:=by omega
   rw[o5 a.bl i.toNat hk,lR,an8 hl,an9] at ho;have hA:(⟨toStr (af (af (nth a.bl i.toNat) 1) 0),aa (ag (af (af (nth a.bl i.toNat) 1) 1))⟩:At)=(cX (nth a.bl i.toNat)).a:=rfl;have hX:cE (af (nth a.bl i.toNat) 2)=(cX (nth a.bl i.toNat)).x:=rfl;have hY:cE (af (nth a.bl i.toNat) 3)=(cX (nth a.bl i.toNat)).y:=rfl;have hz:=tW (cX (nth a.bl i.toNat)) left hl;have hz1:=o6 (cX (nth a.bl i.toNat)).a (left - 1) (by omega);have hz2:=Tm.size_le (cX (nth a.bl i.toNat)).x (du (cX (nth a.bl i.toNat)).a (left - 1));have go: ∀z,sizeLt (cX (nth a.bl i.toNat)) left=z->∃m,m<a.bl.length - i.toNat/\ei CZ Bt xx (fun a=>a.a.bl.length - a.i.toNat) K m (CZ ⟨a,z,i+1⟩):=by
    rintro z rfl;refine⟨_,?_,⟨a,sizeLt (cX (nth a.bl i.toNat)) left,i+1⟩,rfl,⟨by simp only;omega,by simp only;omega,by simp only;omega,by simp only;omega⟩,rfl,?_⟩
    ·simp only;omega
    ·simp only[xx,Out.run,show(i+1).toNat=i.toNat+1 by omega]
     exact ho
   simp only[az (n:=i+1) (by omega) (by omega),az (n:=left - 1) (by omega) (by omega),hA,←da,hX,hY];simp only[ae,ai,an2,an4,an3];refine⟨fun _=>⟨fun _=>⟨⟨h3,hi⟩,⟨by omega,by omega⟩,fun e1=>⟨⟨h3,hi⟩,⟨e1,by omega⟩,fun e2=>⟨⟨h3,hi⟩,⟨e2,by have:=hz2 e1;omega⟩,go _ ?_⟩,fun e2=>go _ ?_⟩,fun e1=>⟨fun e=>absurd e e1,fun _=>go _ ?_⟩⟩,fun e=>absurd hl e⟩,fun e=>absurd hi e⟩
   ·unfold sizeLt;rw[an8 (show 0<=du (cX (nth a.bl i.toNat)).a (left - 1) from e1),an9,an8 (show 0<=(cX (nth a.bl i.toNat)).x.size _ from e2),an9]
   ·unfold sizeLt;rw[an8 (show 0<=du (cX (nth a.bl i.toNat)).a (left - 1) from e1),an9,an6 (show ¬ 0<=(cX (nth a.bl i.toNat)).x.size _ from e2),an7]
   ·unfold sizeLt;rw[an6 (show ¬ 0<=du (cX (nth a.bl i.toNat)).a (left - 1) from e1),an7];rfl
  ·rw[o5 a.bl i.toNat (by omega),lR,an6 (show ¬ 0<=left from hl),an7] at ho
   rw[an8 (show i<(a.bl.length:Int) from hi),an6 hl];exact ho
 ·rw[ao0 (by omega)] at ho
  rw[an6 (show ¬ i<(a.bl.length:Int) from hi)];exact ho
noncomputable def LG κ:=(RG κ).an 60 3 (aG 0 CZ Bt xx)
theorem ak4 κ:aE (LG κ):=(e53 _).an (m53 _) (l38 _)
theorem Yx κ:aj (LG κ):=(m53 _).an aI
theorem y38 κ a left K:(a7 (LG κ) 12 60 [au a, .int left] [] K)=(
 letI b:=IntKind.wrap IntKind.i64
 letI c:=AV.int
 letI d:=left - (1:Int)
 letI e:=Pg.toProgram (Env.P (RG κ))
 aW (decide ((-1:Int)<=b d)&&decide (b d<=(100000:Int))) (ad e 60 3=ad e 60 3/\∃(e0:YH),sp 52 [(1,AV.lit (Value.int IntKind.i64 (du {rel:=a.rel,l:=aa a.hl} (b d)))),(2,AV.ptr 0 0 [] 0),(5,c 0)] [Obj.box 48 (AV.agg [AV.agg [AV.str a.rel,AV.ah 38 a.hl],AV.ah 80 a.bl,c a.line])]=sp 52 [(1,c e0.left),(2,AV.ptr 0 0 [] 0),(5,c e0.i)] [Obj.box 48 (AV.agg [AV.agg [AV.str e0.a.rel,AV.ah 38 e0.a.hl],AV.ah 80 e0.a.bl,c e0.a.line])]/\((-1:Int)<=e0.left/\e0.i+e0.left<=(100000:Int)/\(0:Int)<=e0.i/\e0.i<=(↑(List.length e0.a.bl):Int))/\K (AV.lit (Value.int IntKind.i64 (lR (dv (List.drop e0.i.toNat e0.a.bl)) e0.left))) [])):=by kernel_rfl
def g38:List AV->Option (Bool×AV)
 |[.agg [.agg [.lit (.string rel), .ah 38 hl], .ah 80 bl, .lit (.int .i64 _)], .lit (.int .i64 left)]=>some (decide (0<=left)&&decide (left<=100000), .int (nR ⟨⟨rel,aa hl⟩,dv bl⟩ left))
 |_=>none
theorem p38 κ:cj (LG κ) 12 60 g38:=by
 intro args x hh;unfold g38 at hh;split at hh
 ·rename_i rel hl bl line left
  simp only[an5,ao1,an3,an2] at hh;obtain⟨⟨h1,h2⟩,rfl⟩:=hh;refine⟨_,rfl,rfl,?_⟩;refine Eq.mpr (y38 κ ⟨[],[],rel,hl,bl,line,0⟩ left _) ?_;have hz1:=o6 ⟨rel,aa hl⟩ (left - 1) (by omega);simp only[az (n:=left - 1) (by omega) (by omega)];rw[ai,an3,an2,an2];exact⟨⟨by omega,by omega⟩,trivial,⟨⟨[],[],rel,hl,bl,line,0⟩,du ⟨rel,aa hl⟩ (left - 1),0⟩,rfl,by grind,rfl⟩
 ·cases hh
noncomputable def P1 κ:=(LG κ).aK 60 g38
theorem e38 κ:aE (P1 κ):=(ak4 _).aK (Yx _) (p38 _)
theorem m38 κ:aj (P1 κ):=(Yx _).aK
abbrev Mx(a:List _×Int):=sp 16 [(0, .ah 9 a.1),(3, .int a.2)] []
theorem x37 κ l i I n K:(vc (P1 κ) 12 59 none 0 (ad (Pr κ).toProgram 59 2) (Mx (l,i)) (bh (P1 κ) 59 2 0 I n K))=(
 letI a:=i<(↑(l.length):Int)
 aq (decide a) (aW (decide ((0:Int)<=i)&&decide a) (aq (decide ((↑(ByteArray.size (toStr (nth l i.toNat))):Int)>(1000:Int))) (K Exit.ret (sp 16 [(2,
 AV.bool true)] [])) (∃(e0:Nat),e0<n/\I e0 (sp 16 [(0,AV.ah 9 l),(3,AV.int (IntKind.wrap IntKind.i64 (i+(1:Int))))] [])))) (K (Exit.exit 0) (sp 16
 [] []))):=by kernel_rfl
def Is(a:List AV×Int):=a.1.length<=aU/\0<=a.2/\a.2<=a.1.length
def AN(a:List AV×Int):Out (Exit×S):= .aq (zn (a.1.drop a.2.toNat)) (.one (.ret,sp 16 [(2, .bool true)] [])) (.one (.exit 0,sp 16 [] []))
theorem l37 κ:aR (P1 κ) 12 59 2 (aG 0 Mx Is AN):=by
 refine aD (fun a=>a.1.length - a.2.toNat) ?_;rintro⟨l,i⟩ K ⟨h1,h2,h3⟩ ho;simp only at h1 h2 h3;rw[show(P1 κ).P=Pr κ from rfl];refine Eq.mpr (x37 κ l i _ _ K) ?_;simp only[aU] at h1;simp only[AN,Out.run,ae] at ho;simp only[ae,ai,an2,an4,an3];refine⟨fun hi=>⟨⟨h2,hi⟩,?_⟩,fun hi=>?_⟩
 ·rw[ao3 (show i.toNat<l.length by omega),←aX l i.toNat (by omega)] at ho
  simp only[zn,List.any_cons] at ho;refine⟨by grind,fun e=>?_⟩;rw[an6 (show ¬ (1000:Int)<_ from e),Bool.false_or] at ho;rw[az (n:=i+1) (by omega) (by omega)];refine⟨_,?_,(l,i+1),rfl,⟨by simpa[aU] using h1,by simp only;omega,by simp only;omega⟩,rfl,?_⟩
  ·simp only;omega
  ·simp only[AN,Out.run,ae,show(i+1).toNat=i.toNat+1 by omega]
   exact ho
 ·rw[ao0 (by omega)] at ho
  exact ho.2 rfl
noncomputable def LF κ:=(P1 κ).an 59 2 (aG 0 Mx Is AN)
theorem am5 κ:aE (LF κ):=(e38 _).an (m38 _) (l37 _)
theorem Zh κ:aj (LF κ):=(m38 _).an aI
theorem y37 κ l K:(a7 (LF κ) 12 59 [.ah 9 l] [] K)=(
 letI a:=Pg.toProgram (Env.P (P1 κ))
 ad a 59 2=ad a 59 2/\∃(e0:List AV×Int),sp 16 [(0,AV.ah 9 l),(3,AV.int 0)] []=sp 16 [(0,AV.ah 9 e0.1),(3,AV.int e0.2)] []/\(e0.1.length<=
 9223372036854775807/\(0:Int)<=e0.2/\e0.2<=(↑(e0.1.length):Int))/\aq (zn (List.drop e0.2.toNat e0.1)) (K (AV.bool true) []) (K (AV.bool false) [])):=by kernel_rfl
def g37:List AV->Option (Bool×AV)
 |[.ah 9 l]=>some (decide (l.length<=aU), .bool (zn l))
 |_=>none
theorem p37 κ:cj (LF κ) 12 59 g37:=by
 intro args x hh;unfold g37 at hh;split at hh
 ·rename_i l
  simp only[an5,ao1,an2] at hh;obtain⟨h1,rfl⟩:=hh;refine⟨_,rfl,rfl,?_⟩;refine Eq.mpr (y37 κ l _) ?_;refine⟨rfl,(l,0),rfl,⟨h1,by simp only;omega,by simp only;omega⟩,?_⟩;rw[ae];simp
 ·cases hh
noncomputable def Rp κ:=(LF κ).aK 59 g37
theorem e37 κ:aE (Rp κ):=(am5 _).aK (Zh _) (p37 _)
theorem m37 κ:aj (Rp κ):=(Zh _).aK
structure UG where
 ds:List AV
 rs:List AV
 left:Int
 i:Int
abbrev K0(a:UG):AV:= .agg [.ah 43 a.ds, .ah 48 a.rs]
abbrev G9 a:=sp 62 [(1, .ptr 0 0 [] 0),(3, .int a.left),(4, .int a.i)] [.box 25 (K0 a)]
theorem ai8 κ a I n K:(vc (Rp κ) 12 29 none 0 (ad (Pr κ).toProgram 29 3) (G9 a) (bh (Rp κ) 29 3 0 I n K))=(
 letI c:=K Exit.ret (sp 62 [(2,AV.int 0)] [])
 letI d:=AV.agg [AV.ah 43 a.ds,AV.ah 48 a.rs]
 letI b:=nth a.ds a.i.toNat
 letI e:=a.i<(↑(a.ds.length):Int)
 letI f:=decide ((0:Int)<=a.i)&&decide e
 aq (decide e) (aW f (aq (decide ((↑(ByteArray.size (toStr (af b 0))):Int)>(1000:Int))) c (aW f (aW (decide (List.length (ag (af b 1))<=
 9223372036854775807)) (aq (zn (ag (af b 1))) c (∃(e0:Nat),e0<n/\I e0 (sp 62 [(1,AV.ptr 0 0 [] 0),(3,AV.int a.left),(4,AV.int (IntKind.wrap
 IntKind.i64 (a.i+(1:Int))))] [Obj.box 25 d]))))))) (K (Exit.exit 0) (sp 62 [(1,AV.ptr 0 0 [] 0),(3,AV.int a.left)] [Obj.box 25 d]))):=by kernel_rfl
def By(a:UG):=a.ds.length<=aU/\(∀d,d∈a.ds->(ag (af d 1)).length<=aU)/\0<=a.i/\a.i<=a.ds.length
def w8(a:UG):Out (Exit×S):= .aq ((a.ds.drop a.i.toNat).any Jv) (.one (.ret,sp 62 [(2, .int 0)] [])) (.one (.exit 0,sp 62 [(1, .ptr 0 0 [] 0),(3, .int a.left)] [.box 25 (K0 a)]))
theorem ah3 κ:aR (Rp κ) 12 29 3 (aG 0 G9 By w8):=by
 refine aD (fun a=>a.ds.length - a.i.toNat) ?_;rintro⟨ds,rs,left,i⟩ K ⟨h1,h1',h2,h3⟩ ho;simp only at h1 h1' h2 h3;rw[show(Rp κ).P=Pr κ from rfl];refine Eq.mpr (ai8 κ ⟨ds,rs,left,i⟩ _ _ K) ?_;simp only[aU] at h1;simp only[w8,Out.run,ae] at ho;simp only[ae,ai,an3,an2,an4];refine⟨fun hi=>⟨⟨h2,hi⟩,?_⟩,fun hi=>?_⟩
 ·have hi':i.toNat<ds.length:=by omega
  have hm:nth ds i.toNat∈ds:=by rw[aX ds _ hi'];exact List.getElem_mem _
  rw[ao3 hi',←aX ds i.toNat hi'] at ho;simp only[List.any_cons,Jv] at ho;have go:(∀h:((ds.drop (i.toNat+1)).any Jv=true->K .ret (sp 62 [(2, .int 0)] []))/\((ds.drop (i.toNat+1)).any Jv=false->K (.exit 0) (sp 62 [(1, .ptr 0 0 [] 0),(3, .int left)] [.box 25 (K0 ⟨ds,rs,left,i⟩)])),∃m,m<ds.length - i.toNat/\ei G9 By w8 (fun a=>a.ds.length - a.i.toNat) K m (sp 62 [(1, .ptr 0 0 [] 0),(3, .int left),(4, .int (IntKind.wrap .i64 (i+1)))] [.box 25 (K0 ⟨ds,rs,left,i⟩)])):=by
   intro h;rw[az (n:=i+1) (by omega) (by omega)];refine⟨_,?_,⟨ds,rs,left,i+1⟩,rfl,⟨by simpa[aU] using h1,h1',by simp only;omega,by simp only;omega⟩,rfl,?_⟩
   ·simp only;omega
   ·simp only[w8,Out.run,ae,show(i+1).toNat=i.toNat+1 by omega]
    exact h
  refine⟨fun e1=>ho.1 (by rw[an8 (show(1000:Int)<_ from e1)];rfl),fun e1=>⟨⟨h2,hi⟩,h1' _ hm,fun e2=>ho.1 (by rw[e2];simp),fun e2=>go ?_⟩⟩;rw[an6 (show ¬ (1000:Int)<_ from e1),e2] at ho;exact ho
 ·rw[ao0 (by omega)] at ho
  exact ho.2 rfl
noncomputable def Cf κ:=(Rp κ).an 29 3 (aG 0 G9 By w8)
theorem ag5 κ:aE (Cf κ):=(e37 _).an (m37 _) (ah3 _)
theorem Xi κ:aj (Cf κ):=(m37 _).an aI
abbrev Ma a:=sp 62 [(1, .ptr 0 0 [] 0),(3, .int a.left),(5, .int a.i)] [.box 25 (K0 a)]
theorem ad4 κ a I n K:(vc (Cf κ) 12 29 none 0 (ad (Pr κ).toProgram 29 8) (Ma a) (bh (Cf κ) 29 8 0 I n K))=(
 letI c:=AV.agg [AV.ah 43 a.ds,AV.ah 48 a.rs]
 letI d:=K (Exit.exit 2) (sp 62 [(1,AV.ptr 0 0 [] 0),(3,AV.int a.left)] [Obj.box 25 c])
 letI b:=nth a.rs a.i.toNat
 letI e:=a.i<(↑(a.rs.length):Int)
 aq (decide e) (aq (decide (a.left>=(0:Int))) (aW (decide ((0:Int)<=a.i)&&decide e) (aW (decide ((0:Int)<=a.left)&&decide (a.left<=(100000:Int))) (∃(e0:Nat),e0<n/\I e0 (sp 62 [(1,AV.ptr 0 0 [] 0),(3,AV.lit (Value.int IntKind.i64 (nR {head:={rel:=toStr (af (af b 0) 0),l:=aa (ag (af (af b 0) 1))},body:=dv (ag (af b 1))} a.left))),(5,AV.int (IntKind.wrap IntKind.i64 (a.i+(1:Int))))] [Obj.box 25 c])))) d) d):=by kernel_rfl
def Io(a:UG):= -1<=a.left/\a.i+a.left<=100000/\0<=a.i/\a.i<=a.rs.length
def Ak(a:UG):Out (Exit×S):= .one (.exit 2,sp 62 [(1, .ptr 0 0 [] 0),(3, .int (nV ((a.rs.drop a.i.toNat).map wN) a.left))] [.box 25 (K0 a)])
theorem ah6 κ:aR (Cf κ) 12 29 8 (aG 0 Ma Io Ak):=by
 refine aD (fun a=>a.rs.length - a.i.toNat) ?_;rintro⟨ds,rs,left,i⟩ K ⟨h1,h2,h3,h4⟩ ho;simp only at h1 h2 h3 h4;rw[show(Cf κ).P=Pr κ from rfl];refine Eq.mpr (ad4 κ ⟨ds,rs,left,i⟩ _ _ K) ?_;simp only[Ak,Out.run] at ho;by_cases hi:i<rs.length
 ·have hi':i.toNat<rs.length:=by omega
  rw[ao3 hi',←aX rs i.toNat hi',ao9,nV] at ho;by_cases hl:left>=0
  ·have hz:=wL (wN (nth rs i.toNat)) left hl
   rw[an8 (show 0<=left from hl),an9] at ho;rw[an8 (show i<(rs.length:Int) from hi),an8 hl,az (n:=i+1) (by omega) (by omega)];simp only[aq,ai,an3,an2];refine⟨⟨h3,trivial⟩,⟨trivial,by omega⟩,_,?_,⟨ds,rs,nR (wN (nth rs i.toNat)) left,i+1⟩,rfl,⟨by simp only;omega,by simp only;omega,by simp only;omega,by simp only;omega⟩,rfl,?_⟩
   ·simp only;omega
   ·simp only[Ak,Out.run,show(i+1).toNat=i.toNat+1 by omega]
    exact ho
  ·rw[an6 (show ¬ 0<=left from hl),an7] at ho
   rw[an8 (show i<(rs.length:Int) from hi),an6 hl];exact ho
 ·rw[ao0 (by omega)] at ho
  rw[an6 (show ¬ i<(rs.length:Int) from hi)];exact ho
noncomputable def My κ:=(Cf κ).an 29 8 (aG 0 Ma Io Ak)
theorem ad0 κ:aE (My κ):=(ag5 _).an (Xi _) (ah6 _)
theorem Zv κ:aj (My κ):=(Xi _).an aI
theorem y22 κ ds rs K:(a7 (My κ) 12 29 [.agg [.ah 43 ds, .ah 48 rs]] [] K)=(
 letI a:=AV.ptr 0 0 []
 letI b:=AV.int
 letI c:=AV.ah
 letI d:=K (b 0) []
 letI e:=Pg.toProgram (Env.P (Rp κ))
 letI f:=Pg.toProgram (Env.P (Cf κ))
 ad e 29 3=ad e 29 3/\∃(e1:UG),letI g:=[Obj.box 25 (AV.agg [c 43 e1.ds,c 48 e1.rs])];sp 62 [(1,a 0),(3,b 2000),(4,b 0)] [Obj.box 25 (AV.agg [c 43 ds,c 48 rs])]=sp 62 [(1,a 0),(3,b e1.left),(4,b e1.i)] g/\(e1.ds.length<=9223372036854775807/\(∀(e0:AV),List.Mem e0 e1.ds->List.length (ag (af e0 1))<=9223372036854775807)/\(0:Int)<=e1.i/\e1.i<=(↑(e1.ds.length):Int))/\aq (List.any (List.drop e1.i.toNat e1.ds) Jv) d (ad f 29 8=ad f 29 8/\∃(e0:UG),sp 62 [(1,a 0),(3,b e1.left),(5,b 0)] g=sp 62 [(1,a 0),(3,b e0.left),(5,b e0.i)] [Obj.box 25 (AV.agg [c 43 e0.ds,c 48 e0.rs])]/\((-1:Int)<=e0.left/\e0.i+e0.left<=(100000:Int)/\(0:Int)<=e0.i/\e0.i<=(↑(e0.rs.length):Int))/\aq (decide (nV (List.map wN (List.drop e0.i.toNat e0.rs)) e0.left<(0:Int))) d (aq (decide ((↑(e0.ds.length):Int)>(100:Int))) d (aq (decide ((↑(e0.rs.length):Int)>(300:Int))) d (K (b 1) []))))):=by kernel_rfl
def g22:List AV->Option (Bool×AV)
 |[.agg [.ah 43 ds, .ah 48 rs]]=>some (decide (ds.length<=aU)&&ds.all fun d=>decide ((ag (af d 1)).length<=aU), .int (bif nr ds rs then 1 else 0))
 |_=>none
theorem p22 κ:cj (My κ) 12 29 g22:=by
 intro args x hh;unfold g22 at hh;split at hh
 ·rename_i ds rs
  simp only[an5,ao1,an3,an2,List.all_eq_true] at hh;obtain⟨⟨h1,h2⟩,rfl⟩:=hh;refine⟨_,rfl,rfl,?_⟩;refine Eq.mpr (y22 κ ds rs _) ?_;refine⟨rfl,⟨ds,rs,2000,0⟩,rfl,⟨h1,h2,by simp only;omega,by simp only;omega⟩,?_⟩;simp only[Int.toNat_zero,ao2,ae];refine⟨fun e=>?_,fun e=>⟨trivial,⟨ds,rs,2000,0⟩,rfl,⟨by simp only;omega,by simp only;omega,by simp only;omega,by simp only;omega⟩,?_⟩⟩
  ·unfold nr;rw[e];rfl
  ·simp only[Int.toNat_zero,ao2,an2,an4]
   grind [nr,decide_eq_false,nV,wN,decide_eq_true]
 ·cases hh
noncomputable def E22 κ:=(My κ).aK 29 g22
theorem e22 κ:aE (E22 κ):=(ad0 _).aK (Zv _) (p22 _)
theorem m22 κ:aj (E22 κ):=(Zv _).aK
end Go.Proofs.YtioeffnadipbaaaGreatDoor
namespace Go.Proofs.YtioeffnadipbaaaGreatDoor
open Go Go.Dn Go.Rl Go.Proofs
noncomputable abbrev E15(κ:Kp):Env:=E22 κ
theorem e15(κ:Kp):aE (E15 κ):=e22 κ
theorem m15(κ:Kp):aj (E15 κ):=m22 κ
theorem oZ{b c}(h:b=c):AV.bool b= .lit (.bool c):=by grind
theorem W2(a b:Int):(a==b)=decide (a=b):=rfl
theorem Px(a b:Int):(a != b)= !decide (a=b):=rfl
structure AT where
 op:Int
 s:ByteArray
 n:Int
 l:List AV
def AT.tm(a:AT):Tm:= .mk a.op a.s a.n (aa a.l)
def eE(x:AV):AT:=⟨toInt (af x 0),toStr (af x 1),toInt (af x 2),ag (af x 3)⟩
theorem iI x:(eE x).tm=cE x:=by rw[da];rfl
abbrev dn(a:AT):AV:= .agg [.int a.op, .lit (.string a.s), .int a.n, .ah 38 a.l]
theorem Ka{a}(h:c9 a):(de (aM a)).length<=100000:=by
 have h6:=cF (aa (bn 38 a.hl a.bl));rw[iM _ _ _ _] at h6;have h7:=kM (fB (aM a)) [];unfold de;cases a9 _
 ·simp
 ·exact Nat.le_trans h7 (Nat.le_trans h6 h.1)
end Go.Proofs.YtioeffnadipbaaaGreatDoor
