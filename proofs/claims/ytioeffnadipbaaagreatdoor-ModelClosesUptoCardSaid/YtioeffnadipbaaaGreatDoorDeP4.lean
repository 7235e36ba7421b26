import Derived.Test.YtioeffnadipbaaaGreatDoorDeP3
import Derived.Test.YtioeffnadipbaaaGreatDoorDeP1
namespace Go.Proofs.YtioeffnadipbaaaGreatDoor
open Go Go.Dn Go.Rl Go.Proofs
attribute [local irreducible] a8 vc
set_option maxRecDepth 20000
theorem x65 κ l s i I n K:(vc (Sv κ) 12 189 none 0 (ad (Pr κ).toProgram 189 2) (sp 19 [(0, .ah 9 l),(1, .lit (.string s)),(7, .int l.length),(8, .int i)] []) (bg (Sv κ) 189 2 0 I n K))=(
 letI a:=i<↑(l.length)
 aq (decide a) (aW (decide (0<=i)&&decide a) (aq (ByteArray.toList s==ByteArray.toList (toStr (nth l i.toNat))) (K .ret (sp 19 [(4,AV.int i)]
 [])) (∃e0,e0<n/\I e0 (sp 19 [(0,.ah 9 l),(1,AV.str s),(7,AV.int ↑(l.length)),(8,AV.int (IntKind.wrap .i64 (i+1)))] [])))) (K (.exit 0) (sp 19 [] []))):=by kernel_rfl
abbrev an7(a:List _×ByteArray×Int):=sp 19 [(0, .ah 9 a.1),(1, .lit (.string a.2.1)),(7, .int a.1.length),(8, .int a.2.2)] []
def Qx(a:List AV×ByteArray×Int):=a.1.length<=aX/\0<=a.2.2/\a.2.2<=a.1.length
def JS(a:List AV×ByteArray×Int):Out (Exit×S):= .aq (decide (gu a.2.1 (a.1.drop a.2.2.toNat) a.2.2>=0)) (.one (.ret,sp 19 [(4, .int (gu a.2.1 (a.1.drop a.2.2.toNat) a.2.2))] [])) (.one (.exit 0,sp 19 [] []))
theorem l65 κ:aU (Sv κ) 12 189 2 (aG 0 an7 Qx JS):=by
 refine aC (fun a=>a.1.length - a.2.2.toNat) ?_;rintro⟨l,s,i⟩ K ⟨d,c,g⟩ b;simp only at d c g;rw[show(Sv κ).P=Pr κ from rfl];refine Eq.mpr (x65 κ l s i _ _ K) ?_;simp only[aX] at d;simp only[JS,Out.run,ae] at b;simp only[ae,ai,at3,aC7,aC6];refine⟨fun f=>⟨⟨c,f⟩,fun e=>?_,fun e=>?_⟩,fun f=>?_⟩
 ·rw[aD6 (show i.toNat<l.length by omega),←aV l i.toNat (by omega),gu,show oT s (toStr (nth l i.toNat))=true from e,aD2,aD1 (show i>=0 from c)] at b
  exact b.1 rfl
 ·rw[az (n:=i+1) (by omega) (by omega)]
  refine⟨_,?_,(l,s,i+1),rfl,⟨by simpa[aX] using d,by simp only;omega,by simp only;omega⟩,rfl,?_⟩
  ·simp only;omega
  ·rw[aD6 (show i.toNat<l.length by omega),←aV l i.toNat (by omega),gu,show oT s (toStr (nth l i.toNat))=false from e,aD0] at b
   simp only[JS,Out.run,ae,show(i+1).toNat=i.toNat+1 by omega];exact b
 ·rw[aD3 (by omega)] at b
  exact b.2 rfl
noncomputable def NP κ:=(Sv κ).an 189 2 (aG 0 an7 Qx JS)
theorem aw1 κ:aE (NP κ):=(e39 _).an (m39 _) (l65 _)
theorem ag2 κ:aj (NP κ):=(m39 _).an aK
theorem y65 κ l s K:(a8 (NP κ) 12 189 [.ah 9 l, .lit (.string s)] [] K)=(
 letI b:=AV.int
 ad (Pg.toProgram (Env.P (Sv κ))) 189 2=ad (Pg.toProgram (Env.P (Sv κ))) 189 2/\∃(a:List AV×ByteArray×Int),letI c:=List.drop (Int.toNat a.2.2) a.1;sp 19 [(0,.ah 9 l),(1,AV.str s),(7,b ↑(l.length)),(8,b 0)] []=sp 19 [(0,.ah 9 a.1),(1,AV.str a.2.1),(7,b ↑(a.1.length)),(8,b a.2.2)] []/\(a.1.length<=9223372036854775807/\0<=a.2.2/\a.2.2<=↑(a.1.length))/\aq (decide (gu a.2.1 c a.2.2>=0)) (K (b (gu a.2.1 c a.2.2)) []) (K (b (-1)) [])):=by kernel_rfl
def g65:List AV->Option (Bool×AV)
 |[.ah 9 l, .lit (.string s)]=>some (decide (l.length<=aX), .int (gu s l 0))
 |_=>none
theorem yN s: ∀l i,¬ gu s l i>=0->0<=i->gu s l i= -1
 |[],_,_,_=>rfl
 |a::l,i,h,b=>by
  simp only[gu] at h⊢;cases e:oT s _ with
  |true=>grind
  |false=>rw[e] at h;exact yN s l _ h (by omega)
theorem p65 κ:cm (NP κ) 12 189 g65:=by
 intro b x a;unfold g65 at a;split at a
 ·rename_i l s
  simp only[aC8,aD4,at3] at a;obtain⟨c,rfl⟩:=a;refine⟨_,rfl,rfl,?_⟩;refine Eq.mpr (y65 κ l s _) ?_;refine⟨rfl,(l,s,0),rfl,⟨c,by simp only;omega,by simp only;omega⟩,?_⟩
  simp_all[Int.toNat_zero,aD5,ae,at3,trivial,yN]
 ·cases a
noncomputable def E65 κ:=(NP κ).aO 189 g65
theorem e65 κ:aE (E65 κ):=(aw1 _).aO (ag2 _) (p65 _)
theorem m65 κ:aj (E65 κ):=(ag2 _).aO
theorem y63 κ l s K:(a8 (E65 κ) 12 164 [.ah 9 l, .lit (.string s)] [] K)=(
 aW (decide (l.length<=9223372036854775807)) (K (AV.bool (decide (gu s l 0>=0))) [])):=by kernel_rfl
def g63:List AV->Option (Bool×AV)
 |[.ah 9 l, .lit (.string s)]=>some (decide (l.length<=aX), .bool (decide (gu s l 0>=0)))
 |_=>none
theorem p63 κ:cm (E65 κ) 12 164 g63:=by
 intro b x a;unfold g63 at a;split at a
 ·rename_i l s
  simp   at a;obtain⟨c,rfl⟩:=a;refine⟨_,rfl,rfl,?_⟩;refine Eq.mpr (y63 _ l s _) ?_;rw[ai,at3];exact⟨c,rfl⟩
 grind
noncomputable def E63 κ:=(E65 κ).aO 164 g63
theorem e63 κ:aE (E63 κ):=(e65 _).aO (m65 _) (p63 _)
theorem m63 κ:aj (E63 κ):=(m65 _).aO
theorem y24 κ a k K:(a8 (E63 κ) 12 113 [aw a, .int k] [] K)=(
 letI b:=AV.int
 letI c:=AV.agg
 letI d:=AV.str
 letI e:=AV.ah
 letI f:=nth a.bl k.toNat
 letI h:=∃e1,letI g:=ar (aa e1);([e 38 [c [b (toInt (af (af f 2) 0)),d (toStr (af (af f 2) 1)),b (toInt (af (af f 2) 2)),e 38 (ag (af (af f 2) 3))]]],aR)=([e 38 e1],aR)/\bH e1/\∃(e0:dx×Int),letI i:=eI (aL e0.1) e0.2.toNat;([aw a,b k],aR)=([aw e0.1,b e0.2],aR)/\(ba (aL e0.1)=true/\(bn (aa (bp 38 e0.1.hl e0.1.bl))<=100000/\e0.1.bl.length<=100000)/\0<=e0.2/\e0.2<↑(e0.1.bl.length))/\aW (decide ((List.length g+List.length (strs i)+1)*17<=70368744177664)) (K (e 9 (List.take (List.length g+List.length (strs i)) (List.drop 0 (List.take (List.length g) (strs g)++strs i)))) [])
 aW (decide (0<=k)&&decide (k<↑(a.bl.length))) (aq (decide (7<=toInt (af f 0))) ((h/\h)/\h) (∃e0,([c [b
 (toInt (af f 0)),c [d (toStr (af (af f 1) 0)),e 38 (ag (af (af f 1) 1))],c [b (toInt (af (af f 2) 0)),d (toStr (af (af f
 2) 1)),b (toInt (af (af f 2) 2)),e 38 (ag (af (af f 2) 3))],c [b (toInt (af (af f 3) 0)),d (toStr (af (af f 3) 1)),b
 (toInt (af (af f 3) 2)),e 38 (ag (af (af f 3) 3))]]],aR)=([c [b e0.op,c [d e0.s,e 38 e0.l],c [b e0.o1,d
 e0.s1,b e0.n1,e 38 e0.l1],c [b e0.o2,d e0.s2,b e0.n2,e 38 e0.l2]]],aR)/\gV e0/\K (e 9 (List.take (List.length (dK
 (LA.lt e0))) (List.drop 0 (strs (dK (LA.lt e0)))))) []))):=by kernel_rfl
def VH(a:dx×Int):Out (AV×List Dn.Obj):= .one (.ah 9 (strs (cE (aL a.1) a.2.toNat)),[])
theorem K0 l:bn [l.x]<=kt l:=by
 grind [kt,bn]
theorem K1 x:aa [qV 38 (af x 2)]=[(bQ x).x]:=by
 simp[aa,tx];rfl
theorem uz{a}(h:du a) k:(eI (aL a) k).length<=100000:=by
 have d:(eL (aL a)).length<=100000:=by
  have b:=cZ (aa (bp 38 a.hl a.bl));rw[jw _ _ _ _] at b;exact Nat.le_trans b h.1
 have c:=lB (eL (aL a));refine Nat.le_trans (List.length_filter_le _ _) ?_
 grind [bK]
theorem c24 κ:bd (E63 κ) 12 113 (aM Uu Da VH):=by
 refine aQ ?_;rintro⟨a,k⟩ K ⟨h,d,f,g⟩ l;refine Eq.mpr (y24 κ a k K) ?_;simp only at h d f g;have i:k.toNat<a.bl.length:=by omega
 have c:=lU d i;have n:=cZ [(bQ (nth a.bl k.toNat)).x];have m:=K0 (bQ (nth a.bl k.toNat));have b:K (.ah 9 (strs (cE (aL a) k.toNat))) []:=l;unfold cE at b;rw[show(aL a).body=dI a.bl from rfl,j7 _ i,show(bQ (nth a.bl k.toNat)).op=toInt (af (nth a.bl k.toNat) 0) from rfl] at b;simp only[and_self];rw[ai,aC6,at3,at3,ae,at3,aC7];refine⟨⟨f,g⟩,fun e=>?_,fun e=>?_⟩
 ·rw[aD1 e] at b
  refine⟨[qV 38 (af (nth a.bl k.toNat) 2)],rfl,by simp only[bH,K1];omega,(a,k),rfl,⟨h,d,f,g⟩,?_⟩;have j:=uz d k.toNat;simp only[K1,bf,aD5,db,ai,at3];refine⟨by omega,?_⟩;rw[←jQ,List.take_of_length_le (by simp[bf])];exact b
 ·rw[aC9 e] at b
  refine⟨ui (nth a.bl k.toNat),rfl,by rw[gV,e9];exact c,?_⟩;simp only[e9,aD5,db];exact b
noncomputable def Z5 κ:=(E63 κ).ax 113 (aM Uu Da VH)
theorem e24 κ:aE (Z5 κ):=(e63 _).ax (m63 _) (c24 _)
theorem m24 κ:aj (Z5 κ):=(m63 _).ax aJ
theorem y52(κ:Kp)(a:dx)(k:Int) es K:(a8 (Z5 κ) 12 191 [.mp 0,aw a, .int k] [.map 9 4 es] K)=(
 letI b:=AV.int
 letI c:=AV.agg
 letI d:=AV.bool
 letI e:=AV.str
 letI f:=Dn.Obj.map
 letI g:=AV.ah
 letI h:=AV.mp
 letI i:=nth a.bl k.toNat
 letI t:=toStr (af (af i 3) 1)
 letI u:=ag (af (af i 1) 1)
 letI x:=toStr (af (af i 1) 0)
 letI y:=toInt (af (af i 2) 0)
 letI z:=toStr (af (af i 2) 1)
 letI l:=toInt (af (af i 2) 2)
 letI m:=toInt (af (af i 3) 0)
 letI n:=toInt (af (af i 3) 2)
 letI o:=ag (af (af i 2) 3)
 letI p:=ag (af (af i 3) 3)
 letI j:=Value×AV
 letI v:=∃(e3:dx×Int),([aw a,b k],aR)=([aw e3.1,b e3.2],aR)/\(ba (aL e3.1)=true/\(bn (aa (bp 38 e3.1.hl e3.1.bl))<=100000/\e3.1.bl.length<=100000)/\(0:Int)<=e3.2/\e3.2<(↑(e3.1.bl.length):Int))/\∃(e2:List AV×List j),letI q:=[f 9 4 e2.2];([h 0,g 9 (strs (eI (aL e3.1) e3.2.toNat))],[f 9 4 es])=([h 0,g 9 e2.1],q)/\bt e2/\aq (gG e2.2 e2.1) (∃(e1:ByteArray×List AV),([c [e x,g 38 u]],aR)=([c [e e1.1,g 38 e1.2]],aR)/\kK e1/\∃(e0:List AV×List j),([h 0,g 9 (List.take (List.length (dV (aa e1.2))) (List.drop 0 (strs (dV (aa e1.2)))))],q)=([h 0,g 9 e0.1],[f 9 4 e0.2])/\bt e0/\K (d (gG e0.2 e0.1)) [f 9 4 e0.2]) (K (d false) q)
 letI A:=∃(e1:LA),([c [b (toInt (af i 0)),c [e x,g 38 u],c [b y,e z,b l,g 38 o],c
  [b m,e t,b n,g 38 p]]],aR)=([c [b e1.op,c [e e1.s,g 38 e1.l],c [b e1.o1,e e1.s1,
  b e1.n1,g 38 e1.l1],c [b e1.o2,e e1.s2,b e1.n2,g 38 e1.l2]]],aR)/\gV e1/\∃(e0:List AV×List j),([h 0,g
  9 (List.take (List.length (dK (LA.lt e1))) (List.drop 0 (strs (dK (LA.lt e1)))))],[f 9 4 es])=([h 0,g 9 e0.1],[f 9 4 e0.2])/\bt
  e0/\K (d (gG e0.2 e0.1)) [f 9 4 e0.2]
 letI B:=∃(e4:List AV),letI w:=List.take (List.length (ar (aa e4))) (List.drop 0 (strs (ar (aa e4))));([g 38 u],aR)=([g 38 e4],aR)/\bH e4/\aW (decide (List.length w<=9223372036854775807)) (aq (decide (gu t w (0:Int)>=(0:Int))) v (K (d false) [f 9 4 es]))
 aW (decide ((0:Int)<=k)&&decide (k<(↑(a.bl.length):Int))) (aq (toInt (af i 0)==(1:Int)) (∃(e1:ByteArray×List AV),([c [e x,g 38 u]],aR)=([c [e e1.1,g 38 e1.2]],aR)/\kK e1/\∃(e0:List AV×List j),([h 0,g 9 (List.take (List.length (dV (aa e1.2))) (List.drop 0 (strs (dV (aa e1.2)))))],[f 9 4 es])=([h 0,g 9 e0.1],[f 9 4 e0.2])/\bt e0/\K (d (gG e0.2 e0.1)) [f 9 4 e0.2]) (aq (toInt (af i 0)==(3:Int)) (∃(e3:TA),letI r:=[f 9 4 e3.es];([h 0,c [b y,e z,b l,g 38 o],c [b m,e t,b n,g 38 p]],[f 9 4 es])=([h 0,c [b e3.o1,e e3.s1,b e3.n1,g 38 e3.l1],c [b e3.o2,e e3.s2,b e3.n2,g 38 e3.l2]],r)/\jN e3/\aq (mI e3.es (TA.x e3) (TA.y e3)) (K (d true) r) (∃(e2:TA),letI s:=[f 9 4 e2.es];([h 0,c [b m,e t,b n,g 38 p],c [b y,e z,b l,g 38 o]],r)=([h 0,c [b e2.o1,e e2.s1,b e2.n1,g 38 e2.l1],c [b e2.o2,e e2.s2,b e2.n2,g 38 e2.l2]],s)/\jN e2/\aq (mI e2.es (TA.x e2) (TA.y e2)) (K (d true) s) (∃(e1:LA),([c [b (toInt (af i 0)),c [e x,g 38 u],c [b y,e z,b l,g 38 o],c [b m,e t,b n,g 38 p]]],aR)=([c [b e1.op,c [e e1.s,g 38 e1.l],c [b e1.o1,e e1.s1,b e1.n1,g 38 e1.l1],c [b e1.o2,e e1.s2,b e1.n2,g 38 e1.l2]]],aR)/\gV e1/\∃(e0:List AV×List j),([h 0,g 9 (List.take (List.length (dK (LA.lt e1))) (List.drop 0 (strs (dK (LA.lt e1)))))],s)=([h 0,g 9 e0.1],[f 9 4 e0.2])/\bt e0/\K (d (gG e0.2 e0.1)) [f 9 4 e0.2]))) (aq (toInt (af i 0)==(2:Int)) A (aq (toInt (af i 0)==(4:Int)) A (aq (toInt (af i 0)==(5:Int)) A (aq (toInt (af i 0)==(6:Int)) A (aq (toInt (af i 0)==(7:Int)) (v/\v/\v/\v) (B/\B/\B/\B))))))))):=by kernel_rfl
def an4(a:dx×Int×List ByteArray):List AV×List Dn.Obj:=([.mp 0,aw a.1, .int a.2.1],[.map 9 4 (b6 a.2.2)])
def Qv(a:dx×Int×List ByteArray):=ba (aL a.1)=true/\du a.1/\0<=a.2.1/\a.2.1<a.1.bl.length
def VK(a:dx×Int×List ByteArray):Out (AV×List Dn.Obj):= .one (.bool (mS a.2.2 (aL a.1) a.2.1.toNat),[.map 9 4 (b6 a.2.2)])
theorem Dz x y a:(TA.mk (toInt (af x 0)) (toStr (af x 1)) (toInt (af x 2)) (ag (af x 3)) (toInt (af y 0)) (toStr (af y 1)) (toInt (af y 2)) (ag (af y 3)) a).x=cx x:=by rw[cI];rfl
theorem pY x y a:(TA.mk (toInt (af x 0)) (toStr (af x 1)) (toInt (af x 2)) (ag (af x 3)) (toInt (af y 0)) (toStr (af y 1)) (toInt (af y 2)) (ag (af y 3)) a).y=cx y:=by rw[cI];rfl
def mV x y a:=TA.mk (toInt (af x 0)) (toStr (af x 1)) (toInt (af x 2)) (ag (af x 3)) (toInt (af y 0)) (toStr (af y 1)) (toInt (af y 2)) (ag (af y 3)) a
theorem c52 κ:bd (Z5 κ) 12 191 (aM an4 Qv VK):=by
 refine aQ ?_;rintro⟨a,k,b⟩ K ⟨r,h,i,n⟩ B;refine Eq.mpr (y52 κ a k (b6 b) K) ?_;simp only at r h i n;have A:k.toNat<a.bl.length:=by omega
 have d:=lU h A;have c:K (.bool (mS b (aL a) k.toNat)) [.map 9 4 (b6 b)]:=B;unfold mS at c;rw[show(aL a).body=dI a.bl from rfl,j7 _ A,show(bQ (nth a.bl k.toNat)).op=toInt (af (nth a.bl k.toNat) 0) from rfl,show(bQ (nth a.bl k.toNat)).a.l=aa (ag (af (af (nth a.bl k.toNat) 1) 1)) from rfl,
  show(bQ (nth a.bl k.toNat)).x=cx (af (nth a.bl k.toNat) 2) from rfl,show(bQ (nth a.bl k.toNat)).y=cx (af (nth a.bl k.toNat) 3) from rfl] at c
 have t:kt (bQ (nth a.bl k.toNat))=bn [cx (af (nth a.bl k.toNat) 2),cx (af (nth a.bl k.toNat) 3)]+bn (aa (ag (af (af (nth a.bl k.toNat) 1) 1))):=rfl;have f:bn (aa (ag (af (af (nth a.bl k.toNat) 1) 1)))<=100000:=by omega
 have g:bn [cx (af (nth a.bl k.toNat) 2)]<=100000/\bn [cx (af (nth a.bl k.toNat) 3)]<=100000:=by
  simp only[bn] at t⊢;omega
 have F:=cZ (aa (ag (af (af (nth a.bl k.toNat) 1) 1)));have C:=Fq (aa (ag (af (af (nth a.bl k.toNat) 1) 1)));have D:=uz h k.toNat;have E:(dK (bQ (nth a.bl k.toNat))).length<=100000:=by
  have m:=cZ [(bQ (nth a.bl k.toNat)).x,(bQ (nth a.bl k.toNat)).y];have j:=cZ (bQ (nth a.bl k.toNat)).a.l;simp only[dK,kt,aE1] at d⊢;omega
 simp only[and_self];rw[ai,aC6,at3,at3];refine⟨⟨i,n⟩,?_⟩;rw[ae,beq_iff_eq,beq_eq_false_iff_ne];refine⟨fun m=>?_,fun m=>?_⟩
 ·rw[aD1 m,aD2] at c
  refine⟨(toStr (af (af (nth a.bl k.toNat) 1) 0),ag (af (af (nth a.bl k.toNat) 1) 1)),rfl,f,(strs (dV (aa (ag (af (af (nth a.bl k.toNat) 1) 1)))),b6 b),by simp only[aD5,db],by simp only[bt,bf,aX];omega,?_⟩;simp only[fH];exact c
 rw[aC9 m,aD0] at c;rw[ae,beq_iff_eq,beq_eq_false_iff_ne];refine⟨fun j=>?_,fun j=>?_⟩
 ·rw[aD1 j,aD2] at c
  refine⟨mV (af (nth a.bl k.toNat) 2) (af (nth a.bl k.toNat) 3) (b6 b),rfl,by unfold jN mV;rw[pY];exact g.2,?_⟩;unfold mV;rw[Dz,pY,qj];rw[ae];refine⟨fun e=>by rw[e] at c;exact c,fun e=>?_⟩;rw[e,Bool.false_or] at c;refine⟨mV (af (nth a.bl k.toNat) 3) (af (nth a.bl k.toNat) 2) (b6 b),rfl,by unfold jN mV;rw[pY];exact g.1,?_⟩;unfold mV;rw[Dz,pY,qj,ae];refine⟨fun p=>by rw[p] at c;exact c,fun p=>?_⟩;rw[p,Bool.false_or] at c;exact⟨ui (nth a.bl k.toNat),rfl,by rw[gV,e9];exact d,(strs (dK (ui (nth a.bl k.toNat)).lt),b6 b),by simp only[aD5,db],by simp only[bt,bf,aX];rw[e9];omega,by simp only[fH,e9];exact c⟩
 rw[aC9 j,aD0] at c;rw[ae,beq_iff_eq,beq_eq_false_iff_ne];refine⟨fun u=>?_,fun u=>?_⟩
 ·rw[aD1 u] at c
  simp only[Bool.true_or,Bool.or_true,aD2] at c;exact⟨ui (nth a.bl k.toNat),rfl,by rw[gV,e9];exact d,(strs (dK (ui (nth a.bl k.toNat)).lt),b6 b),by simp only[aD5,db],by simp only[bt,bf,aX];rw[e9];omega,by simp only[fH,e9];exact c⟩
 rw[ae,beq_iff_eq,beq_eq_false_iff_ne];refine⟨fun q=>?_,fun q=>?_⟩
 ·rw[aD1 q] at c
  simp only[Bool.true_or,Bool.or_true,aD2] at c;exact⟨ui (nth a.bl k.toNat),rfl,by rw[gV,e9];exact d,(strs (dK (ui (nth a.bl k.toNat)).lt),b6 b),by simp only[aD5,db],by simp only[bt,bf,aX];rw[e9];omega,by simp only[fH,e9];exact c⟩
 rw[ae,beq_iff_eq,beq_eq_false_iff_ne];refine⟨fun w=>?_,fun w=>?_⟩
 ·rw[aD1 w] at c
  simp only[Bool.true_or,Bool.or_true,aD2] at c;exact⟨ui (nth a.bl k.toNat),rfl,by rw[gV,e9];exact d,(strs (dK (ui (nth a.bl k.toNat)).lt),b6 b),by simp only[aD5,db],by simp only[bt,bf,aX];rw[e9];omega,by simp only[fH,e9];exact c⟩
 rw[ae,beq_iff_eq,beq_eq_false_iff_ne];refine⟨fun v=>?_,fun v=>?_⟩
 ·rw[aD1 v] at c
  simp only[Bool.true_or,Bool.or_true,aD2] at c;exact⟨ui (nth a.bl k.toNat),rfl,by rw[gV,e9];exact d,(strs (dK (ui (nth a.bl k.toNat)).lt),b6 b),by simp only[aD5,db],by simp only[bt,bf,aX];rw[e9];omega,by simp only[fH,e9];exact c⟩
 rw[aC9 u,aC9 q,aC9 w,aC9 v] at c;simp only[Bool.false_or,aD0] at c;rw[ae,beq_iff_eq,beq_eq_false_iff_ne];refine⟨fun z=>?_,fun z=>?_⟩
 ·rw[aD1 z,Bool.true_or,aE2] at c
  refine⟨(a,k),rfl,⟨r,h,i,n⟩,(strs (eI (aL a) k.toNat),b6 b),rfl,by simp only[bt,bf,aX];omega,ae.2 ⟨fun e=>⟨(toStr (af (af (nth a.bl k.toNat) 1) 0),ag (af (af (nth a.bl k.toNat) 1) 1)),rfl,f,(strs (dV (aa (ag (af (af (nth a.bl k.toNat) 1) 1)))),b6 b),by simp only[aD5,db],by simp only[bt,bf,aX];omega,?_⟩,fun e=>?_⟩⟩
  ·rw[fH] at e
   simp only[fH];rw[e,aE2] at c;exact c
  ·rw[fH] at e
   rw[e,Bool.false_and] at c;exact c
 ·rw[aC9 z,Bool.false_or] at c
  refine⟨_,rfl,f,?_⟩;have H:=AZ (toStr (af (af (nth a.bl k.toNat) 3) 1)) (ar (aa (ag (af (af (nth a.bl k.toNat) 1) 1)))) 0 (by omega);have I:(cx (af (nth a.bl k.toNat) 3)).s=toStr (af (af (nth a.bl k.toNat) 3) 1):=by rw[cI];rfl
  simp only[aD5,db,bf,H];rw[ai,at3,ae];rw[I] at c;refine⟨by omega,fun o=>?_,fun o=>?_⟩
  ·rw[o,aE2] at c
   refine⟨(a,k),rfl,⟨r,h,i,n⟩,(strs (eI (aL a) k.toNat),b6 b),rfl,by simp only[bt,bf,aX];omega,ae.2 ⟨fun e=>⟨(toStr (af (af (nth a.bl k.toNat) 1) 0),ag (af (af (nth a.bl k.toNat) 1) 1)),rfl,f,(strs (dV (aa (ag (af (af (nth a.bl k.toNat) 1) 1)))),b6 b),by simp only[aD5,db],by simp only[bt,bf,aX];omega,?_⟩,fun e=>?_⟩⟩
   ·rw[fH] at e
    simp only[fH];rw[e,aE2] at c;exact c
   ·rw[fH] at e
    rw[e,Bool.false_and] at c;exact c
  ·rw[o,Bool.false_and] at c;exact c
noncomputable def Sz κ:=(Z5 κ).ax 191 (aM an4 Qv VK)
theorem e52 κ:aE (Sz κ):=(e24 _).ax (m24 _) (c52 _)
theorem m52 κ:aj (Sz κ):=(m24 _).ax aJ
def ck(l:List Bool):List AV:=l.map fun b=> .lit (.bool b)
theorem j2 l:(ck l).length=l.length:=by simp[ck]
theorem Lg l k:Dn.toBool (nth (ck l) k)=Rl.fN l k:=by
 unfold Rl.fN;induction l generalizing k with
 |nil=>rfl
 |cons a l b=>
  cases k with
  |zero=>rfl
  |succ k=>grind [ck,nth]
structure Nd where
 a:dx
 done:List Bool
 b:List ByteArray
 i:Int
 first:Int
abbrev KI(a:Nd):=sp 38 [(1, .ak 0 0 (ck a.done).length),(2, .mp 1),(3, .ptr 2 0 [] 0),(7, .int a.first),(11, .ah 80 a.a.bl),(12, .int a.a.bl.length),(13, .int a.i)] [.row 4 (ck a.done), .map 9 4 (b6 a.b), .box 48 (aw a.a)]
theorem x36(κ:Kp)(a:Nd) es I n K:(vc (Sz κ) 12 170 none 2 (ad (Pr κ).toProgram 170 3) (sp 38 [(1, .ak 0 0 (ck a.done).length),(2, .mp 1),(3, .ptr 2 0 [] 0),(7, .int a.first),(11, .ah 80 a.a.bl),(12, .int a.a.bl.length),(13, .int a.i)] [.row 4 (ck a.done), .map 9 4 es, .box 48 (aw a.a)]) (bg (Sz κ) 170 3 2 I n K))=(
 letI b:=AV.int
 letI c:=Obj.row
 letI d:=Dn.Obj.map
 letI g:=IntKind.wrap IntKind.i64 (a.i+(1:Int))
 letI f:=List.length (ck a.done)
 letI e:=List.length a.a.bl
 aq (decide (a.i<(↑e:Int))) (aW (decide ((0:Int)<=a.i)&&decide (a.i<(↑e:Int))) (aW (decide ((0:Int)<=a.i)&&decide (a.i<(↑f:Int))) (aq (Dn.toBool (nth (ck a.done) (0+a.i.toNat))) (∃(e0:Nat),e0<n/\I e0 (sp 38 [(1,AV.ak 0 0 f),(2,AV.mp 1),(3,AV.ptr 2 0 [] 0),(7,b a.first),(11,AV.ah 80 a.a.bl),(12,b (↑e:Int)),(13,b g)] [c 4 (ck a.done),d 9 4 es,Obj.box 48 (aw a.a)])) (∃(e1:dx×Int×List ByteArray),letI h:=[c 4 (ck a.done),d 9 4 (b6 e1.2.2),Obj.box 48 (aw a.a)];letI i:=∃(e0:Nat),e0<n/\I e0 (sp 38 [(1,AV.ak 0 0 f),(2,AV.mp 1),(3,AV.ptr 2 0 [] 0),(7,b a.first),(11,AV.ah 80 a.a.bl),(12,b (↑e:Int)),(13,b g)] h);([AV.mp 0,aw a.a,b a.i],[d 9 4 es])=([AV.mp 0,aw e1.1,b e1.2.1],[d 9 4 (b6 e1.2.2)])/\(ba (aL e1.1)=true/\(bn (aa (bp 38 e1.1.hl e1.1.bl))<=100000/\e1.1.bl.length<=100000)/\(0:Int)<=e1.2.1/\e1.2.1<(↑(e1.1.bl.length):Int))/\aq (!mS e1.2.2 (aL e1.1) e1.2.1.toNat) i (aq (toInt (af (nth a.a.bl a.i.toNat) 0) != (1:Int)) (K Exit.ret (sp 38 [(6,b a.i)] [c 4 (ck a.done),d 9 4 (b6 e1.2.2)])) (aq (decide (a.first<(0:Int))) (∃(e0:Nat),e0<n/\I e0 (sp 38 [(1,AV.ak 0 0 f),(2,AV.mp 1),(3,AV.ptr 2 0 [] 0),(7,b a.i),(11,AV.ah 80 a.a.bl),(12,b (↑e:Int)),(13,b g)] h)) i)))))) (K (Exit.exit 0) (sp 38 [(7,b a.first)] [c 4 (ck a.done),d 9 4 es]))):=by kernel_rfl
def C8(a:Nd):=ba (aL a.a)=true/\du a.a/\0<=a.i/\a.i<=a.a.bl.length/\a.done.length=a.a.bl.length
def A7(a:Nd):=nx (aL a.a) a.done a.b (a.a.bl.length - a.i.toNat) a.i.toNat a.first
def HG(a:Nd):Out (Exit×S):= .all (fun _=>True) fun e=> .aq e (.one (.ret,sp 38 [(6, .int (A7 a))] [.row 4 (ck a.done), .map 9 4 (b6 a.b)])) (.one (.exit 0,sp 38 [(7, .int (A7 a))] [.row 4 (ck a.done), .map 9 4 (b6 a.b)]))
theorem l36 κ:aU (Sz κ) 12 170 3 (aG 2 KI C8 HG):=by
 refine aC (fun a=>a.a.bl.length - a.i.toNat) ?_;rintro⟨a,done,b,i,c⟩ K ⟨p,j,l,v,r⟩ q;simp only at p j l v r;rw[show(Sz κ).P=Pr κ from rfl];refine Eq.mpr (x36 κ ⟨a,done,b,i,c⟩ (b6 b) _ _ K) ?_;have g:=q true trivial;have d:=q false trivial;simp only[Out.run,aq,A7] at g d;simp only[Nat.zero_add,Lg];have s:=j2 done;have x:=j.2;rw[ae,ai,ai,aC6,aC6,at3,at3,at3,aC7];have w:i<a.bl.length->∀f:Int,nx (aL a) done b (a.bl.length - i.toNat) i.toNat c=nx (aL a) done b (a.bl.length - (i.toNat+1)) (i.toNat+1) f->
   ∃m,m<a.bl.length - i.toNat/\eW KI C8 HG (fun a=>a.a.bl.length - a.i.toNat) K m (KI ⟨a,done,b,i+1,f⟩):=by
  intro h f t;refine⟨_,?_,⟨a,done,b,i+1,f⟩,rfl,⟨p,j,by simp only;omega,by simp only;omega,r⟩,rfl,?_⟩
  ·simp only;omega
  ·intro e _
   simp only[Out.run,A7,show(i+1).toNat=i.toNat+1 by omega,←t];cases e
   ·exact d
   ·exact g
 refine⟨fun h=>⟨⟨l,h⟩,⟨l,by omega⟩,?_⟩,fun h=>?_⟩
 ·have k:=Hy (aL a) done b (a.bl.length - (i.toNat+1)) i.toNat c
  rw[show a.bl.length - (i.toNat+1)+1=a.bl.length - i.toNat by omega] at k;have u:i.toNat<a.bl.length:=by omega
  have o:(ep (aL a).body i.toNat).op=toInt (af (nth a.bl i.toNat) 0):=by
   rw[show(aL a).body=dI a.bl from rfl,j7 _ u];rfl
  rw[o] at k;rw[az (n:=i+1) (by omega) (by omega),ae];refine⟨fun e=>w h c (by rw[k,e];rfl),fun e=>⟨(a,i,b),rfl,⟨p,j,l,h⟩,?_⟩⟩;rw[e,Bool.false_or] at k;simp only[ae,Bool.not_eq_true',aD7,bne_iff_ne,bne_eq_false_iff_eq,at3,aC7]
  grind
 ·rw[show a.bl.length - i.toNat=0 by omega] at d
  exact d
noncomputable def NA κ:=(Sz κ).an 170 3 (aG 2 KI C8 HG)
theorem au4 κ:aE (NA κ):=(e52 _).an (m52 _) (l36 _)
theorem ae7 κ:aj (NA κ):=(m52 _).an aK
theorem y36 κ(a:Nd) K:(a8 (NA κ) 12 170 [aw a.a, .ak 0 0 (ck a.done).length, .mp 1] [.row 4 (ck a.done), .map 9 4 (b6 a.b)] K)=(
 letI b:=AV.int
 letI c:=Dn.Obj.map
 letI d:=Pg.toProgram (Env.P (Sz κ))
 ad d 170 3=ad d 170 3/\∃e1,letI e:=K (b (A7 e1)) [.row 4 (ck e1.done),c 9 4 (b6 e1.b)];sp 38 [(1,.ak 0 0 (List.length (ck a.done))),(2,.mp 1),(3,.ptr 2 0 [] 0),(7,b (-1)),(11,.ah 80 a.a.bl),(12,b (↑(List.length a.a.bl))),(13,b 0)] [.row 4 (ck a.done),c 9 4 (b6 a.b),.box 48 (aw a.a)]=sp 38 [(1,.ak 0 0 (List.length (ck e1.done))),(2,.mp 1),(3,.ptr 2 0 [] 0),(7,b e1.first),(11,.ah 80 e1.a.bl),(12,b (↑(List.length e1.a.bl))),(13,b e1.i)] [.row 4 (ck e1.done),c 9 4 (b6 e1.b),.box 48 (aw e1.a)]/\(ba (aL e1.a)=true/\(bn (aa (bp 38 e1.a.hl e1.a.bl))<=100000/\List.length e1.a.bl<=100000)/\0<=e1.i/\e1.i<=(↑(List.length e1.a.bl))/\e1.done.length=List.length e1.a.bl)/\∀e0,True->aq e0 e e):=by kernel_rfl
def an1(a:Nd):List AV×List Dn.Obj:=([aw a.a, .ak 0 0 (ck a.done).length, .mp 1],[.row 4 (ck a.done), .map 9 4 (b6 a.b)])
def Qt(a:Nd):=ba (aL a.a)=true/\du a.a/\a.done.length=a.a.bl.length
def VI(a:Nd):Out (AV×List Dn.Obj):= .one (.int (aF (aL a.a) a.done a.b),[.row 4 (ck a.done), .map 9 4 (b6 a.b)])
theorem fR a:(aL a).body.length=a.bl.length:=Cl _
theorem c36 κ:bd (NA κ) 12 170 (aM an1 Qt VI):=by
 refine aQ ?_;rintro⟨a,done,b,i,d⟩ K ⟨f,g,h⟩ j;refine Eq.mpr (y36 κ _ K) ?_;have c:K _ _:=j;unfold aF at c;rw[fR] at c;refine⟨rfl,⟨a,done,b,0, -1⟩,rfl,⟨f,g,by simp only;omega,by simp only;omega,h⟩,?_⟩;intro e _;cases e
 ·exact c
 ·exact c
noncomputable def Ss κ:=(NA κ).ax 170 (aM an1 Qt VI)
theorem e36 κ:aE (Ss κ):=(au4 _).ax (ae7 _) (c36 _)
theorem m36 κ:aj (Ss κ):=(ae7 _).ax aJ
def ints(l:List _):=l.map fun(k:Nat)=>AV.lit (.int .i64 k)
theorem sE l:(ints l).length=l.length:=by simp[ints]
theorem OR l m:ints (l++m)=ints l++ints m:=by simp[ints]
structure ZL where
 a:dx
 ks:List Nat
 done:List Bool
 b:List ByteArray
 i:Int
noncomputable abbrev ad7(a:dx)(κ:Kp):Dn.Obj:=
 .loop (jq (Pr κ).toProgram 107 4 .ready none (iO (bR 40) [(0,aw a),(1, .ptr 0 0 [] 0),(2, .nil),(3, .lit .nilIface),(4, .ptr 1 0 [] 0),(5, .ptr 3 0 [] 0),(7, .mp 2),(8,aw a),(9, .bo 169 [.ptr 4 0 [] 0])]))
noncomputable abbrev KN κ a c b:=[.box 48 (aw a), .box 35 (.ak 6 0 (ints c).length), .map 9 4 (b6 b), .box 178 (.mp 2), .box 48 (aw a),ad7 a κ, .row 3 (ints c)]
noncomputable abbrev Re κ(a:ZL):=sp 38 [(0, .cn 5),(1, .ptr 4 0 [] 0),(3, .mp 7),(4, .ak 8 0 (ck a.done).length),(13, .int a.a.bl.length),(14, .int a.i)] (KN κ a.a a.ks a.b++[.map 9 4 (b6 a.b), .row 4 (ck a.done)])
theorem x17(κ:Kp)(a:dx) ks es es' done i I n K:(vc (Ss κ) 12 169 none 6 (ad (Pr κ).toProgram 169 3) (sp 38 [(0, .cn 5),(1, .ptr 4 0 [] 0),(3, .mp 7),(4, .ak 8 0 done.length),(13, .int a.bl.length),(14, .int i)] [.box 48 (aw a), .box 35 (.ak 6 0 ks.length), .map 9 4 es, .box 178 (.mp 2), .box 48 (aw a),ad7 a κ, .row 3 ks, .map 9 4 es', .row 4 done]) (bg (Ss κ) 169 3 6 I n K))=(
 letI b:=AV.int
 letI c:=AV.ptr
 letI d:=Obj.box
 letI e:=Obj.row
 letI f:=Dn.Obj.map
 letI g:=AV.ah
 letI h:=AV.ak
 letI j:=AV.mp
 letI o:=jq Tryz.prog 107 4 LoopState.ready none (iO (bR 40) [(0,aw a),(1,c 0 0 [] 0),(2,AV.nil),(3,AV.lit Value.nilIface),(4,c 1 0 [] 0),
  (5,c 3 0 [] 0),(7,j 2),(8,aw a),(9,AV.bo 169 [c 4 0 [] 0])])
 letI p:=sp 38 [] [d 48 (aw a),d 35 (h 6 0 ks.length),f 9 4 es,d 178 (j 2),d 48 (aw a),Dn.Obj.loop o,e 3
  ks]
 letI q:=IntKind.wrap IntKind.i64 (i+(1:Int))
 letI m:=Value×AV
 letI r:=h 6 0 (ks.length+1)
 aq (decide (i<(↑(a.bl.length):Int))) (∃(e5:Nd),letI k:=aF (aL e5.a) e5.done e5.b;letI s:=decide ((0:Int)<=aF (aL e5.a) e5.done e5.b)&&decide (aF (aL e5.a) e5.done e5.b<(↑(done.length):Int));letI t:=bP (ck e5.done) (0+Int.toNat k) (AV.bool true);letI u:=List.take ks.length ks++[b k];letI l:=[f 9 4 (b6 e5.b)];([aw a,h 0 0 done.length,j 1],[e 4 done,f 9 4 es'])=([aw e5.a,h 0 0 (List.length (ck e5.done)),j 1],[e 4 (ck e5.done),f 9 4 (b6 e5.b)])/\(ba (aL e5.a)=true/\(bn (aa (bp 38 e5.a.hl e5.a.bl))<=100000/\List.length e5.a.bl<=100000)/\e5.done.length=List.length e5.a.bl)/\aq (decide (aF (aL e5.a) e5.done e5.b<(0:Int))) (K Exit.ret p) (aW (decide ((ks.length+1+1)*9<=70368744177664)) ((∃(e4:dx×Int),([aw a,b k],aR)=([aw e4.1,b e4.2],aR)/\(ba (aL e4.1)=true/\(bn (aa (bp 38 e4.1.hl e4.1.bl))<=100000/\e4.1.bl.length<=100000)/\(0:Int)<=e4.2/\e4.2<(↑(e4.1.bl.length):Int))/\∃(e3:List AV×List m),([j 0,g 9 (strs (cE (aL e4.1) e4.2.toNat))],[f 9 4 es])=([j 0,g 9 e3.1],[f 9 4 e3.2])/\bt e3/\aW s (∃(e2:dx×Int),([aw a,b k],aR)=([aw e2.1,b e2.2],aR)/\(ba (aL e2.1)=true/\(bn (aa (bp 38 e2.1.hl e2.1.bl))<=100000/\e2.1.bl.length<=100000)/\(0:Int)<=e2.2/\e2.2<(↑(e2.1.bl.length):Int))/\∃(e1:List AV×List m),([j 0,g 9 (strs (cE (aL e2.1) e2.2.toNat))],l)=([j 0,g 9 e1.1],[f 9 4 e1.2])/\bt e1/\∃(e0:Nat),e0<n/\I e0 (sp 38 [(0,AV.cn 5),(1,c 4 0 [] 0),(3,j 7),(4,h 8 0 done.length),(13,b (↑(a.bl.length):Int)),(14,b q)] [d 48 (aw a),d 35 r,f 9 4 (fZ e3.2 e3.1),d 178 (j 2),d 48 (aw a),Dn.Obj.loop o,e 3 u,f 9 4 (fZ e1.2 e1.1),e 4 t])))/\∃(e4:dx×Int),([aw a,b k],aR)=([aw e4.1,b e4.2],aR)/\(ba (aL e4.1)=true/\(bn (aa (bp 38 e4.1.hl e4.1.bl))<=100000/\e4.1.bl.length<=100000)/\(0:Int)<=e4.2/\e4.2<(↑(e4.1.bl.length):Int))/\∃(e3:List AV×List m),([j 0,g 9 (strs (cE (aL e4.1) e4.2.toNat))],[f 9 4 es])=([j 0,g 9 e3.1],[f 9 4 e3.2])/\bt e3/\aW s (∃(e2:dx×Int),([aw a,b k],aR)=([aw e2.1,b e2.2],aR)/\(ba (aL e2.1)=true/\(bn (aa (bp 38 e2.1.hl e2.1.bl))<=100000/\e2.1.bl.length<=100000)/\(0:Int)<=e2.2/\e2.2<(↑(e2.1.bl.length):Int))/\∃(e1:List AV×List m),([j 0,g 9 (strs (cE (aL e2.1) e2.2.toNat))],l)=([j 0,g 9 e1.1],[f 9 4 e1.2])/\bt e1/\∃(e0:Nat),e0<n/\I e0 (sp 38 [(0,AV.cn 5),(1,c 4 0 [] 0),(3,j 7),(4,h 8 0 done.length),(13,b (↑(a.bl.length):Int)),(14,b q)] [d 48 (aw a),d 35 r,f 9 4 (fZ e3.2 e3.1),d 178 (j 2),d 48 (aw a),Dn.Obj.loop o,e 3 u,f 9 4 (fZ e1.2 e1.1),e 4 t]))))) (K (Exit.exit 0) p)):=by kernel_rfl
theorem rR: ∀l k,bP (ck l) k (.lit (.bool true))=ck (l.set k true)
 |[],_=>rfl
 |_::_,0=>rfl
 |a::l,k+1=>by
  have:=rR l k
  grind [ck,bP]
noncomputable def fC(a:ZL):=lX (aL a.a) (a.a.bl.length - a.i.toNat) a.done a.b
def Kg(a:ZL):=ba (aL a.a)=true/\du a.a/\0<=a.i/\a.i<=a.a.bl.length/\a.done.length=a.a.bl.length/\a.ks.length<=a.i.toNat
noncomputable def PI(κ:Kp)(a:ZL):Out (Exit×S):= .all (fun _=>True) fun e=> .aq e (.one (.ret,sp 38 [] (KN κ a.a (a.ks++fC a) (a.b++eG (aL a.a) (fC a)))))
 (.one (.exit 0,sp 38 [] (KN κ a.a (a.ks++fC a) (a.b++eG (aL a.a) (fC a)))))
theorem tZ{a}(h:du a){k}(c:k<a.bl.length):(cE (aL a) k).length<=200000:=by
 have b:=lU h c;have d:=uz h k;have e:=K0 (bQ (nth a.bl k))
 grind [cZ,cE,aL,j7,bQ,nth,dK,kt]
theorem l17 κ:aU (Ss κ) 12 169 3 (aG 6 (Re κ) Kg (PI κ)):=by
 refine aC (fun a=>a.a.bl.length - a.i.toNat) ?_;rintro⟨a,h,done,b,i⟩ K ⟨j,g,t,w,q,x⟩ s;simp only at j g t w q x;rw[show(Ss κ).P=Pr κ from rfl];refine Eq.mpr (x17 κ a (ints h) (b6 b) (b6 b) (ck done) i _ _ K) ?_;have c:=s true trivial;have d:=s false trivial;simp only[Out.run,aq,fC] at c d;simp only[and_self];have v:=j2 done;have z:=sE h;have C:=g.2;rw[ae,at3,aC7];refine⟨fun u=>⟨⟨a,done,b,0,0⟩,rfl,⟨j,g,q⟩,?_⟩,fun u=>?_⟩
 ·have p:=II (aL a) (a.bl.length - (i.toNat+1)) done b
  rw[show a.bl.length - (i.toNat+1)+1=a.bl.length - i.toNat by omega] at p;rw[ae,at3,aC7];refine⟨fun e=>?_,fun e=>?_⟩
  ·rw[p,aD1 e] at c
   simp only[aD2,List.append_nil,eG,List.flatMap_nil] at c;exact c
  ·rw[p,aC9 e,aD0] at c d
   rcases oh (aL a) done b with e0|⟨m,y,A,_⟩
   ·rw[e0] at e;omega
   have k:=y;rw[fR] at k;have B:=tZ g k;rw[ai,at3];refine⟨by omega,(a,aF (aL a) done b),rfl,⟨j,g,m,by simp only;omega⟩,(strs (cE (aL a) (aF (aL a) done b).toNat),b6 b),rfl,by simp only[bt,bf,aX];omega,?_⟩;rw[ai,aC6,at3,at3];refine⟨⟨m,by show aF (aL a) done b<_;omega⟩,(a,aF (aL a) done b),rfl,⟨j,g,m,by simp only;omega⟩,(strs (cE (aL a) (aF (aL a) done b).toNat),b6 b),rfl,by simp only[bt,bf,aX];omega,?_⟩;rw[az (n:=i+1) (by omega) (by omega)];refine⟨_,?_,⟨a,h++[(aF (aL a) done b).toNat],done.set (aF (aL a) done b).toNat true,b++cE (aL a) (aF (aL a) done b).toNat,i+1⟩,?_,⟨j,g,by simp only;omega,by simp only;omega,by simpa using q,by simp only[aE1,List.length_singleton];omega⟩,rfl,?_⟩
   ·simp only;omega
   ·simp only[List.take_length]
    simp only[Re,KN,List.cons_append,List.nil_append,Nat.zero_add,rR,nH,j2,List.length_set,OR,sE,aE1,List.length_singleton];simp only[ints,aE4,List.map_nil,Int.toNat_of_nonneg m,List.length_singleton]
   ·have r: ∀l,b++eG (aL a) ((aF (aL a) done b).toNat::l)=(b++cE (aL a) (aF (aL a) done b).toNat)++eG (aL a) l:=fun l=>by
     simp only[eG,List.flatMap_cons,List.append_assoc]
    have o: ∀l,h++(aF (aL a) done b).toNat::l=(h++[(aF (aL a) done b).toNat])++l:=fun l=>by simp
    rw[r,o] at c d;intro f _;simp only[Out.run,fC,show(i+1).toNat=i.toNat+1 by omega];cases f
    ·exact d
    ·exact c
 ·rw[show a.bl.length - i.toNat=0 by omega] at d
  simp only[lX,List.append_nil,eG,List.flatMap_nil] at d;exact d
noncomputable def K8 κ:=(Ss κ).an 169 3 (aG 6 (Re κ) Kg (PI κ))
theorem at6 κ:aE (K8 κ):=(e36 _).an (m36 _) (l17 _)
theorem TR κ:aj (K8 κ):=(m36 _).an aK
end Go.Proofs.YtioeffnadipbaaaGreatDoor
namespace Go.Proofs.YtioeffnadipbaaaGreatDoor
open Go Go.Dn Go.Rl Go.Proofs Go.RowKit Go.Extern.Stop Go.Stop Go.Extern
theorem ah0 v a w:(Instr.typeAssert (.iface 253 v) a 259 true).run Tryz.prog w= .ok (.tuple #[.nilIface, .bool false]) w:=run_typeAssert_lacksB Tryz.underlying259 (by kernel_rfl) (by kernel_rfl) v _ w
theorem Mc v a w:(Instr.typeAssert (.iface 253 v) a 261 true).run Tryz.prog w= .ok (.tuple #[.nilIface, .bool false]) w:=run_typeAssert_lacksB Tryz.underlying261 (by kernel_rfl) (by kernel_rfl) v _ w
theorem Eo v a w:(Instr.typeAssert (.iface 253 v) a 263 true).run Tryz.prog w= .ok (.tuple #[.iface 253 v, .bool true]) w:=run_typeAssert_hasB Tryz.underlying263 (by kernel_rfl) v _ w
theorem zN v w:(Go.method 411 253 v "Unwrap").run Tryz.prog w= .ok (218,v) w:=by kernel_rfl
set_option maxRecDepth 4000 in
theorem LS(a:Addr)(w:World):
  Calls Tryz.prog 158 #[.iface 273 (.pointer (some a)), .iface 273 (.pointer (some a)), .bool true] w fun e w'=>e= .returned (.bool true)/\w'=w:=by
 obtain⟨i,hi,hcmp⟩:=Option.map_eq_some_iff.1 Hh;obtain⟨j,hj,hjs⟩:=Option.map_eq_some_iff.1 Hj;have heq:=run_eql_iface_ptr_same (P:=Tryz.prog) w a Tryz.underlying171 Tryz.underlying273 hi hcmp hj
 go_enter Tryz.func158,Tryz.ntmps158
 go_wp2
 refine wp_loop_rounds 1 ?_;rw[rounds_succ]
 go_wp2
 go_ret
 exact⟨rfl,rfl⟩
set_option maxRecDepth 8000 in
theorem TJ(ja ra b:Addr)(cap:Nat)(w:World)(h1:w.cell? ja=some (.slice (some ra) 1 cap))(h2:w.cell? ra=some (.iface 273 (.pointer (some b)))):
  Calls Tryz.prog 108 #[.iface 253 (.pointer (some ja)), .iface 273 (.pointer (some b))] w fun e w'=>e= .returned (.bool true)/\w'=w:=by
 have h8:= @run_callFunc_extern Tryz.prog 157 _ Extern.ReflectliteType.typeOf Tryz.func157 (by kernel_rfl) (by kernel_rfl) (by kernel_rfl) (by kernel_rfl);have h32:= @run_callFunc_extern Tryz.prog 222 _ (Extern.ReflectliteType.method fun t=>do Go.Extern.Rtype.noPackHeld "Comparable" t;pure (.bool (←typeInfo t).comparable)) Tryz.func222 (by kernel_rfl) (by kernel_rfl) (by kernel_rfl) (by kernel_rfl);have tT:=x1;have cT:=nY;have mR:=jo;have hne:=run_eql_iface_types (P:=Tryz.prog) 253 273 (.pointer (some ja)) (.pointer (some b)) Tryz.underlying171 (by decide);have n1:=ah0;have n2:=Mc;have n3:=Eo;have mU:=zN
 go_enter Tryz.func108,Tryz.ntmps108
 go_wp2
 refine wp_loop_rounds 1 ?_;rw[rounds_succ]
 go_wp2
 refine wp_loop_rounds 1 ?_;rw[rounds_succ]
 go_wp2_with (first|(go_at_call 158;refine(LS b _).mono ?_;rintro e w' ⟨rfl,rfl⟩))
 all_goals (go_ret;exact⟨rfl,rfl⟩)
end Go.Proofs.YtioeffnadipbaaaGreatDoor
namespace Go.Proofs.YtioeffnadipbaaaGreatDoor
open Go Go.Dn Go.Rl Go.Proofs
attribute [local irreducible] a8 vc
set_option maxRecDepth 20000
noncomputable def Zz κ:=(K8 κ).an 156 3 (lW (K8 κ) 12 156 3 3)
noncomputable def EJ2 κ:=(Zz κ).an 156 12 (lW (Zz κ) 12 156 12 3)
theorem eJ1 κ:aE (Zz κ):=(at6 _).an (TR _) (u5 (TR _) 3)
theorem mJ1 κ:aj (Zz κ):=(TR _).an (mE (TR _) 3)
theorem eJ2 κ:aE (EJ2 κ):=(eJ1 _).an (mJ1 _) (u5 (mJ1 _) 3)
theorem mJ2 κ:aj (EJ2 κ):=(mJ1 _).an (mE (mJ1 _) 3)
theorem yJ κ K:(a8 (EJ2 κ) 12 156 [.ah 171 [.lit (ni κ)]] [] K)=(
 letI a:=Pg.toProgram (Env.P (K8 κ))
 letI b:=Pg.toProgram (Env.P (Zz κ))
 ad a 156 3=ad a 156 3/\ad b 156 12=ad b 156 12/\K (.jT 253 (.ptr 0 0 [] 0)) [.box 255 (.agg [.ak 1 0 1]),.row 171 [.lit (.iface
 273 (.pointer (some (Kp.stuck κ))))]]):=by kernel_rfl
abbrev B8:AV:= .jT 253 (.ptr 0 0 [] 0)
abbrev B7(κ:Kp):List Dn.Obj:=[.box 255 (.agg [.ak 1 0 1]), .row 171 [.lit (ni κ)]]
def stJ(κ:Kp)(_:Unit):List AV×List Dn.Obj:=([.ah 171 [.lit (ni κ)]],[])
def Ku(_:Unit):Prop:=True
def ai6(κ:Kp)(_:Unit):Out (AV×List Dn.Obj):= .one (B8,B7 κ)
theorem cJ κ:bd (EJ2 κ) 12 156 (aM (stJ κ) Ku (ai6 κ)):=by
 refine aQ ?_;rintro⟨⟩ K _ a;refine Eq.mpr (yJ _ K) ?_;exact⟨rfl,rfl,a⟩
def stI κ(_:Unit):=([B8, .lit (ni κ)],B7 κ)
def ai2(κ:Kp)(_:Unit):Out (AV×List Dn.Obj):= .one (.bool true,B7 κ)
theorem qI κ: ∀b st K,aM (stI κ) Ku (ai2 κ) b st K->cf (Pr κ) 108 b st K:=by
 rintro b st K ⟨_,J,_,A⟩;obtain⟨rfl,rfl⟩:=Prod.mk.inj J;refine⟨⟨_,Tryz.func108,rfl⟩,fun C p V j a d=>?_⟩;obtain⟨p⟩:=p;match p,d with
 | [r,E],d=>
  simp only[MT] at d;obtain⟨F,I,o,N,O,z,_⟩:=d;have n:E=ni κ:=a0 (C:=C) ⟨N,O,z⟩;have L:Rel C B8 r:=⟨F,I,o⟩
  obtain⟨Q,_⟩:=ir L rfl (by simp);simp only[M,Q] at o;obtain⟨u,T,y,u3,Z,v,h,x,D⟩:=o;have k:r= .iface 253 u:=by simpa using T
  have H:u.cells= #[u]:=iy (by rw[y];rfl);have l:v=u:=by rw[H] at h;simpa using h.symm
  subst l;have m:=j.obj 0 (by rw[a];simp);have g:=j.obj 1 (by rw[a];simp);rw[a] at m g;simp only[ay,kL] at m g;obtain⟨_,_,c,e,U,_,t⟩:=m;simp only[M,ML] at t;obtain⟨⟨_,s,s1,_,s2⟩,_⟩:=t;have f:=s2.1 171 [.lit (ni κ)] (by rw[a];rfl);obtain⟨_,f⟩:=f;rcases f with⟨_,_,_,f⟩|⟨B,cap,q,rfl,f,s4,_⟩
  ·cases f
  have P:q=⟨(C.ι 1).block,0,none⟩:=by
   rcases f with f|⟨f,W⟩
   ·rw[f,Nat.zero_mul]
   ·omega
  subst P;obtain⟨_,g⟩:=g;rcases g with⟨g,_⟩|⟨_,_,X,Y,_,_,_,i⟩
  ·rw[B] at g;cases g
  simp only[MR,M] at i;obtain⟨⟨i,_⟩,_⟩:=i;have R:v= .pointer (some ⟨(C.ι 0).block,0,none⟩):=(D.2.1 255 _ (by rw[a];rfl)).2;subst R;subst k n;refine(callsIn_wide.2 (TJ ⟨(C.ι 0).block,0,none⟩ ⟨(C.ι 1).block,0,none⟩ κ.stuck cap C.w s1 i)).mono ?_;rintro e' w' ⟨rfl,rfl⟩;exact⟨_, .bool true,C,rfl,rfl,rfl,j,a9 rfl,Ext.refl _ (by rw[a];exact Nat.le_refl _),by rw[a];exact A⟩
 |[],d=>simp[MT] at d
 |[_],d=>simp[MT] at d
 |_::_::_::_,d=>simp[MT] at d
noncomputable def EJ κ:=((EJ2 κ).ax 156 (aM (stJ κ) Ku (ai6 κ))).ax 108 (aM (stI κ) Ku (ai2 κ))
theorem eJ κ:aE (EJ κ):=((eJ2 _).ax (mJ2 _) (cJ _)).fQ (qI _)
theorem mJ κ:aj (EJ κ):=((mJ2 _).ax aJ).ax aJ
theorem y17 κ a K:(a8 (EJ κ) 12 107 [aw a] [] K)=(
 letI b:=AV.ptr 0 0 []
 letI c:=AV.ptr
 letI d:=AV.lit
 letI e:=Obj.box
 letI f:=Obj.row
 letI g:=Dn.Obj.map
 letI h:=AV.ah
 letI i:=AV.ak
 letI j:=AV.mp
 letI o:=.iface 273 (.pointer (some (Kp.stuck κ)))
 letI n:=∃(e0:Unit),([h 171 [d o]],aR)=([h 171 [d o]],aR)/\True/\K (.aH [AV.nil,.jT 253 (b 0)]) [e 255
  (.agg [i 1 0 1]),f 171 [d o]]
 letI m:=a.bl.length
 letI p:=Value×AV
 letI q:=Pg.toProgram (Env.P (Ss κ))
 letI r:=Int.toNat ↑m
 aW (true&&decide (↑m<=(↑m:Int))&&decide ((Int.toNat ↑m+1)*2<=70368744177664)&&true) (ad q 169 3=ad q 169 3/\∃e4,letI k:=ints (e4.ks++fC e4);letI s:=K (.aH [i 0 0 (List.length k),d .nilIface]) [f 3 k];letI t:=[g 9 4 (b6 (e4.b++eG (aL e4.a) (fC e4)))];letI l:=List.length e4.a.bl;letI u:=aq (decide ((↑(List.length k))<(↑l:Int))) (n/\n) ((∃e2,([h 38 e4.a.hl],aR)=([h 38 e2],aR)/\bH e2/\∃e1,([j 0,h 9 (List.take (List.length (ar (aa e2))) (List.drop 0 (strs (ar (aa e2)))))],t)=([j 0,h 9 e1.1],[g 9 4 e1.2])/\bt e1/\aq (!gG e1.2 e1.1) n s)/\∃e2,([h 38 e4.a.hl],aR)=([h 38 e2],aR)/\bH e2/\∃e1,([j 0,h 9 (List.take (List.length (ar (aa e2))) (List.drop 0 (strs (ar (aa e2)))))],t)=([j 0,h 9 e1.1],[g 9 4 e1.2])/\bt e1/\aq (!gG e1.2 e1.1) n s);sp 38 [(0,.cn 5),(1,c 4 0 [] 0),(3,j 7),(4,i 8 0 r),(13,AV.int ↑m),(14,AV.int 0)] [e 48 (aw a),e 35 (i 6 0 0),g 9 4 [],e 178 (j 2),e 48 (aw a),.loop (jq Tryz.prog 107 4 .ready none (iO (bR 40) [(0,aw a),(1,b 0),(2,AV.nil),(3,d .nilIface),(4,c 1 0 [] 0),(5,c 3 0 [] 0),(7,j 2),(8,aw a),(9,.bo 169 [c 4 0 [] 0])])),f 3 [],g 9 4 [],f 4 (gA (AV.bool false) r)]=sp 38 [(0,.cn 5),(1,c 4 0 [] 0),(3,j 7),(4,i 8 0 (List.length (ck e4.done))),(13,AV.int ↑l),(14,AV.int e4.i)] [e 48 (aw e4.a),e 35 (i 6 0 (List.length (ints e4.ks))),g 9 4 (b6 e4.b),e 178 (j 2),e 48 (aw e4.a),.loop (jq Tryz.prog 107 4 .ready none (iO (bR 40) [(0,aw e4.a),(1,b 0),(2,AV.nil),(3,d .nilIface),(4,c 1 0 [] 0),(5,c 3 0 [] 0),(7,j 2),(8,aw e4.a),(9,.bo 169 [c 4 0 [] 0])])),f 3 (ints e4.ks),g 9 4 (b6 e4.b),f 4 (ck e4.done)]/\(ba (aL e4.a)=true/\(bn (aa (bp 38 e4.a.hl e4.a.bl))<=100000/\List.length e4.a.bl<=100000)/\0<=e4.i/\e4.i<=↑l/\e4.done.length=List.length e4.a.bl/\e4.ks.length<=e4.i.toNat)/\∀e3,True->aq e3 u u)):=by kernel_rfl
def FM(a:dx):List AV×List Dn.Obj:=([aw a],[])
def Qs a:=ba (aL a)=true/\du a
noncomputable def PH(κ:Kp)(a:dx):Out (AV×List Dn.Obj):= .aq (jZ (aL a)) (.one (.aH [.ak 0 0 (c6 (aL a)).length, .lit .nilIface],[.row 3 (ints (c6 (aL a)))])) (.one (.aH [.nil,B8],B7 κ))
theorem vK n:gA (.lit (.bool false)) n=ck (List.replicate n false):=by simp[gA,ck]
theorem c17 κ:bd (EJ κ) 12 107 (aM FM Qs (PH κ)):=by
 refine aQ ?_;rintro a K ⟨f,d⟩ b;refine Eq.mpr (y17 κ a K) ?_;simp only[and_self];simp only[PH,Out.run,ae] at b;have k:=d.2;have g:fC ⟨a,[],List.replicate a.bl.length false,[],0⟩=c6 (aL a):=by
  unfold fC c6;rw[fR];rfl
 have h:=qF d;have j:=cZ (aa a.hl);have i:jZ (aL a)=(decide (a.bl.length<=(c6 (aL a)).length)&&hasB (eG (aL a) (c6 (aL a))) (ar (aa a.hl))):=by
  unfold jZ;rw[fR];rfl
 rw[i] at b;simp only[ai,aC6,at3,Int.toNat_natCast];refine⟨⟨⟨⟨trivial,by omega⟩,by omega⟩,trivial⟩,trivial,⟨a,[],List.replicate a.bl.length false,[],0⟩,?_,⟨f,d,by simp only;omega,by simp only;omega,by simp,by simp⟩,?_⟩
 ·simp only[vK,j2,List.length_replicate];rfl
 ·intro y _
  rw[g];cases y<;>
  ·simp only[sE,List.nil_append,ae,at3,aC7,Bool.not_eq_true',aD7,reduceCtorEq,false_implies,true_implies,and_true,true_and]
   refine⟨fun e=>?_,fun e=>?_⟩
   ·rw[aC9 (show ¬ a.bl.length<=(c6 (aL a)).length by omega),Bool.false_and] at b
    exact⟨(),b.2 rfl⟩
   ·rw[aD1 (show a.bl.length<=(c6 (aL a)).length by omega),aE2] at b
    refine⟨a.hl,rfl,h,(strs (ar (aa a.hl)),b6 (eG (aL a) (c6 (aL a)))),?_,?_,?_⟩
    ·simp only[aD5,db]
    ·simp only[bt,bf,aX];omega
    ·simp only[fH]
     exact⟨fun c=>⟨(),b.2 c⟩,fun c=>b.1 c⟩
noncomputable def Z3 κ:=(EJ κ).ax 107 (aM FM Qs (PH κ))
theorem e17 κ:aE (Z3 κ):=(eJ _).ax (mJ _) (c17 _)
theorem m17 κ:aj (Z3 κ):=(mJ _).ax aJ
theorem y7 κ a K:(a8 (Z3 κ) 12 62 [aw a] [] K)=(
 letI b:=AV.int
 letI c:=AV.agg
 letI d:=.iface 273 (.pointer (some (Kp.stuck κ)))
 aW (decide (a.hl.length<=9223372036854775807)&&decide (a.bl.length<=9223372036854775807)) (aq (!ba {head:={rel:=a.rel,l:=aa a.hl},body:=dI a.bl}) (K (.aH [AV.nil,b 30]) []) (∃e1,([c [c [AV.str a.rel,.ah 38 a.hl],.ah 80 a.bl,b a.line]],aR)=([c [c [AV.str e1.rel,.ah 38 e1.hl],.ah 80 e1.bl,b e1.line]],aR)/\(ba (aL e1)=true/\bn (aa (bp 38 e1.hl e1.bl))<=100000/\e1.bl.length<=100000)/\aq (jZ (aL e1)) (K (.aH [.ak 0 0 (List.length (c6 (aL e1))),b 0]) [.row 3 (ints (c6 (aL e1)))]) (∃(e0:Unit),([.jT 253 (.ptr 0 0 [] 0),.lit d],[.box 255 (c [.ak 1 0 1]),.row 171 [.lit d]])=([.jT 253 (.ptr 0 0 [] 0),AV.lit d],[.box 255 (c [.ak 1 0 1]),Obj.row 171 [.lit d]])/\True/\K (.aH [AV.nil,b 60]) [])))):=by kernel_rfl
def Ml(a:dx):Out (AV×List Dn.Obj):= .aq (ba (aL a)) (.aq (jZ (aL a)) (.one (.aH [.ak 0 0 (c6 (aL a)).length, .int 0],[.row 3 (ints (c6 (aL a)))])) (.one (.aH [.nil, .int 60],[]))) (.one (.aH [.nil, .int 30],[]))
theorem c7 κ:bd (Z3 κ) 12 62 (aM FM du Ml):=by
 refine aQ ?_;rintro a K c d;refine Eq.mpr (y7 κ a K) ?_;simp only[Ml,Out.run,ae] at d;have h:=qF c;have b:=im (aa a.hl);rw[eS] at b;have i:=c.2;rw[ai,aC6,at3,at3];refine⟨⟨by omega,by omega⟩,?_⟩;have g:ba ⟨_,dI a.bl⟩=ba (aL a):=rfl;rw[g];simp only[ae,Bool.not_eq_true',aD7];refine⟨fun e=>d.2 e,fun e=>⟨a,rfl,⟨e,c⟩,fun f=>(d.1 e).1 f,by simp_all⟩⟩
noncomputable def E7 κ:=(Z3 κ).ax 62 (aM FM du Ml)
theorem e7 κ:aE (E7 κ):=(e17 _).ax (m17 _) (c7 _)
theorem m7 κ:aj (E7 κ):=(m17 _).ax aJ
def fj es s:=zH es s
structure DB where
 vs:List ByteArray
 i:Int
 es:List (Value×AV)
abbrev F0(R:List AV)(a:List (Value×AV)):List Dn.Obj:=[.row 9 R, .box 178 (.mp 2), .map 9 4 a]
abbrev Tc:AV:= .bo 116 [.ptr 1 0 [] 0]
abbrev MV(a:DB):=sp 19 [(0, .ak 0 0 (strs a.vs).length),(1,Tc),(7, .int (strs a.vs).length),(8, .int a.i)] (F0 (strs a.vs) a.es)
theorem xFB κ a I n K:(vc (oY κ) 12 161 none 3 (ad (Pr κ).toProgram 161 2) (MV a) (bg (oY κ) 161 2 3 I n K))=(
 letI b:=Dn.Obj.map
 letI c:=List.length (strs a.vs)
 aq (decide (a.i<↑c)) (aW (decide (0<=a.i)&&decide (a.i<↑c)) (aq (!Dn.toBool (dj a.es (.string (toStr (nth (strs a.vs) (0+
 a.i.toNat)))) (AV.bool false))) (K .ret (sp 19 [(4,AV.int a.i)] [.row 9 (strs a.vs),.box 178 (.mp 2),b 9 4 a.es])) (∃e0,e0<n
 /\I e0 (sp 19 [(0,.ak 0 0 c),(1,.bo 116 [.ptr 1 0 [] 0]),(7,AV.int ↑c),(8,AV.int (IntKind.wrap .i64 (a.i+1)))] [.row
 9 (strs a.vs),.box 178 (.mp 2),b 9 4 a.es])))) (K (.exit 0) (sp 19 [] [.row 9 (strs a.vs),.box 178 (.mp 2),b 9 4 a.es]))):=by kernel_rfl
def Ic(a:DB):=a.vs.length<=aX/\0<=a.i/\a.i<=a.vs.length/\∀s,s∈a.vs.take a.i.toNat->fj a.es s=true
def E3(a:DB):Out (Exit×S):=
 .aq (a.vs.all (fj a.es)) (.one (.exit 0,sp 19 [] (F0 (strs a.vs) a.es)))
  (.all (fun j=>xx (fj a.es) a.vs j) fun j=> .one (.ret,sp 19 [(4, .int j)] (F0 (strs a.vs) a.es)))
theorem lFB κ:aU (oY κ) 12 161 2 (aG 3 MV Ic E3):=by
 refine aC (fun a=>a.vs.length - a.i.toNat) ?_;rintro⟨b,i,f⟩ K ⟨l,p,r,j⟩ k;simp only at l p r j;rw[show(oY κ).P=Pr κ from rfl];refine Eq.mpr (xFB κ ⟨b,i,f⟩ _ _ K) ?_;simp only[aX] at l;simp only[E3,Out.run,ae] at k;have v:=bf b;simp only[bf,Nat.zero_add];have o:i<b.length->∀(d:i.toNat<b.length),(fj f b[i.toNat]=false->K .ret (sp 19 [(4, .int i)] (F0 (strs b) f)))/\
   (fj f b[i.toNat]=true->∃m,m<b.length - i.toNat/\eW MV Ic E3 (fun a=>a.vs.length - a.i.toNat) K m (MV ⟨b,i+1,f⟩)):=by
  intro t d;refine⟨fun e=>k.2 ?_ i ⟨p,d,j,e⟩,fun e=>⟨_,?_,⟨b,i+1,f⟩,rfl,⟨by simpa[aX] using l,by simp only;omega,by simp only;omega,?_⟩,rfl,?_⟩⟩
  ·rw[Bool.eq_false_iff]
   intro g;rw[List.all_eq_true.1 g _ (List.getElem_mem d)] at e;cases e
  ·simp only;omega
  ·intro s c
   simp only at c;rw[show(i+1).toNat=i.toNat+1 by omega,List.take_succ_eq_append_getElem d,List.mem_append,List.mem_singleton] at c;rcases c with c|c
   ·exact j s c
   ·rw[c];exact e
  ·simp only[E3,Out.run,ae]
   exact k
 simp only[ae,ai,at3,aC7,aC6,Bool.not_eq_true',aD7];refine⟨fun d=>⟨⟨p,d⟩,?_⟩,fun d=>?_⟩
 ·have h:i.toNat<b.length:=by omega
  have u:toStr (nth (strs b) i.toNat)=b[i.toNat]:=by rw[zk b _ h];rfl
  rw[az (n:=i+1) (by omega) (by omega),u];have q:=o d h;simp only[MV,bf] at q;exact⟨fun e=>q.1 e,fun e=>q.2 e⟩
 ·refine k.1 (List.all_eq_true.2 fun s c=>j s ?_)
  rw[List.take_of_length_le (by omega)];exact c
noncomputable def SI κ:=(oY κ).an 161 2 (aG 3 MV Ic E3)
theorem eFB κ:aE (SI κ):=(XU _).an (Pf _) (lFB _)
theorem mFB κ:aj (SI κ):=(Pf _).an aK
structure GB where
 R:List AV
 i:Int
 j:Int
 es:List (Value×AV)
 P:List ByteArray
 ws:List ByteArray
abbrev FQ(a:GB):=sp 42 [(0, .ak 0 0 a.R.length),(1,Tc),(5, .int a.i),(6, .int a.j)] (F0 a.R a.es)
theorem xGB κ a I n K:(vc (SI κ) 12 114 none 3 (ad (Pr κ).toProgram 114 5) (FQ a) (bg (SI κ) 114 5 3 I n K))=(
 letI b:=AV.int
 letI c:=Dn.Obj.map
 letI d:=IntKind.wrap .i64 (a.j+1)
 letI e:=toStr (nth a.R (0+a.j.toNat))
 letI f:=a.j<↑(a.R.length)
 aq (decide f) (aW (decide (0<=a.j)&&decide f) (aq (!!Dn.toBool (dj a.es (.string e) (AV.bool false))) (aW (decide (0<=a.i)&&decide
 (a.i<↑(a.R.length))) (∃e0,e0<n/\I e0 (sp 42 [(0,.ak 0 0 a.R.length),(1,.bo 116 [.ptr 1 0 [] 0]),(5,b (IntKind.wrap
 .i64 (a.i+1))),(6,b d)] [.row 9 (bP a.R (0+a.i.toNat) (AV.str e)),.box 178 (.mp 2),c 9 4 a.es]))) (∃e0,
 e0<n/\I e0 (sp 42 [(0,.ak 0 0 a.R.length),(1,.bo 116 [.ptr 1 0 [] 0]),(5,b a.i),(6,b d)] [.row 9 a.R,.box 178 (.mp 2),
 c 9 4 a.es])))) (K (.exit 0) (sp 42 [(0,.ak 0 0 a.R.length),(5,b a.i)] [.row 9 a.R,.box 178 (.mp 2),c 9 4 a.es]))):=by kernel_rfl
def Dg(a:GB):=a.R.length<=aX/\0<=a.i/\a.i<a.j/\a.j<=a.R.length/\a.R.take a.i.toNat=strs a.P/\a.R.drop a.j.toNat=strs a.ws
def E5(a:GB):Out (Exit×S):= .all (fun R=>R.length=a.R.length/\R.take (a.P++a.ws.filter (fj a.es)).length=strs (a.P++a.ws.filter (fj a.es)))
 fun R=> .one (.exit 0,sp 42 [(0, .ak 0 0 a.R.length),(5, .int (a.P++a.ws.filter (fj a.es)).length)] (F0 R a.es))
theorem lGB κ:aU (SI κ) 12 114 5 (aG 3 FQ Dg E5):=by
 refine aC (fun a=>a.R.length - a.j.toNat) ?_;rintro⟨R,i,j,b,P,g⟩ K ⟨k,q,z,x,c,f⟩ h;simp only at k q z x c f;rw[show(SI κ).P=Pr κ from rfl];refine Eq.mpr (xGB κ ⟨R,i,j,b,P,g⟩ _ _ K) ?_;simp only[aX] at k;simp only[E5,Out.run] at h;simp only[Nat.zero_add];have v:P.length=i.toNat:=by
  have:=congrArg List.length c
  rw[List.length_take,bf] at this;omega
 have p: ∀(s:ByteArray) (l:List ByteArray),g=s::l->j<R.length->nth R j.toNat= .lit (.string s)->
   (fj b s=false->∃m,m<R.length - j.toNat/\eW FQ Dg E5 (fun a=>a.R.length - a.j.toNat) K m (FQ ⟨R,i,j+1,b,P,l⟩))/\
   (fj b s=true->∃m,m<R.length - j.toNat/\eW FQ Dg E5 (fun a=>a.R.length - a.j.toNat) K m (FQ ⟨bP R i.toNat (.lit (.string s)),i+1,j+1,b,P++[s],l⟩)):=by
  rintro s l rfl o r;obtain⟨_,_,w⟩:=kg (l:=strs l) f;refine⟨fun e=>⟨_,?_,_,rfl,⟨by simpa[aX] using k,q,by simp only;omega,by simp only;omega,c,?_⟩,rfl,?_⟩,fun e=>⟨_,?_,_,rfl,⟨by simpa[aX,iv] using k,by simp only;omega,by simp only;omega,by simp only[iv];omega,?_,?_⟩,rfl,?_⟩⟩
  ·simp only;omega
  ·simp only[show(j+1).toNat=j.toNat+1 by omega];exact w
  ·intro y d
   have:=h y
   simp only[List.filter_cons,e,Bool.false_eq_true,if_false] at d this⊢;exact this d
  ·simp only[iv];omega
  ·simp only[show(i+1).toNat=i.toNat+1 by omega]
   rw[uL _ _ _ (by omega),c,jQ];rfl
  ·simp only[show(j+1).toNat=j.toNat+1 by omega]
   rw[uK _ _ _ _ (by omega)];exact w
  ·intro y d
   have:=h y
   simp only[List.filter_cons,e,if_true,iv,List.append_assoc,List.singleton_append] at d this⊢;exact this d
 simp only[ae,ai,at3,aC7,aC6,Bool.not_eq_true',aD7];refine⟨fun o=>⟨⟨by omega,o⟩,?_⟩,fun o=>?_⟩
 ·cases g with
  |nil=>
   have:=congrArg List.length f
   rw[List.length_drop,bf] at this;simp at this;omega
  |cons s l=>
   obtain⟨_,r,_⟩:=kg (l:=strs l) f;have t:toStr (nth R j.toNat)=s:=by rw[r];rfl
   have u:=p s l rfl o r;simp only[FQ,iv] at u;rw[az (n:=i+1) (by omega) (by omega),az (n:=j+1) (by omega) (by omega),t];exact⟨fun e=>⟨⟨by omega,by omega⟩,u.2 e⟩,fun e=>u.1 e⟩
 ·have A:g=[]:=by
   have:=congrArg List.length f
   rw[List.length_drop,bf] at this;cases g with
   |nil=>rfl
   |cons=>simp at this;omega
  subst A;have:=h R ⟨rfl,by simp only[List.filter_nil,List.append_nil,v];exact c⟩
  simp only[List.filter_nil,List.append_nil,v,Int.toNat_of_nonneg q] at this;exact this
noncomputable def EGB κ:=(SI κ).an 114 5 (aG 3 FQ Dg E5)
theorem eGB κ:aE (EGB κ):=(eFB _).an (mFB _) (lGB _)
theorem mGB κ:aj (EGB κ):=(mFB _).an aK
theorem yGB κ(a:DB) K:(a8 (EGB κ) 12 114 [.ak 0 0 (strs a.vs).length,Tc] (F0 (strs a.vs) a.es) K)=(
 letI b:=AV.int
 letI c:=Obj.box
 letI d:=Dn.Obj.map
 letI j:=List.length (strs a.vs)
 letI k:=Pg.toProgram (Env.P (oY κ))
 letI l:=Pg.toProgram (Env.P (SI κ))
 ad k 161 2=ad k 161 2/\∃(e3:DB),letI f:=strs e3.vs;letI m:=K (AV.ah 9 (List.take j (List.drop 0 f))) [Obj.l3 9 f,c 178 (AV.mp 2),d 9 4 e3.es];letI n:=[Obj.row 9 f,c 178 (AV.mp 2),d 9 4 e3.es];sp 19 [(0,AV.ak 0 0 j),(1,AV.bo 116 [AV.ptr 1 0 [] 0]),(7,b (↑j:Int)),(8,b 0)] [Obj.row 9 (strs a.vs),c 178 (AV.mp 2),d 9 4 a.es]=sp 19 [(0,AV.ak 0 0 (List.length f)),(1,AV.bo 116 [AV.ptr 1 0 [] 0]),(7,b (↑(List.length f):Int)),(8,b e3.i)] n/\(e3.vs.length<=9223372036854775807/\(0:Int)<=e3.i/\e3.i<=(↑(e3.vs.length):Int)/\∀(e0:ByteArray),List.Mem e0 (List.take e3.i.toNat e3.vs)->fj e3.es e0=true)/\aq (List.all e3.vs (fj e3.es)) m (∀(e2:Int),((0:Int)<=e2/\∃(e1:e2.toNat<e3.vs.length),(∀(e0:ByteArray),List.Mem e0 (List.take e2.toNat e3.vs)->fj e3.es e0=true)/\fj e3.es e3.vs[e2.toNat]=false)->aq (e2==(-1:Int)) m (ad l 114 5=ad l 114 5/\∃(e1:GB),letI o:=e1.P++List.filter (fj e1.es) e1.ws;letI e:=List.length o;letI g:=e1.R.length;sp 42 [(0,AV.ak 0 0 j),(1,AV.bo 116 [AV.ptr 1 0 [] 0]),(5,b e2),(6,b (IntKind.wrap IntKind.i64 (e2+(1:Int))))] n=sp 42 [(0,AV.ak 0 0 e1.R.length),(1,AV.bo 116 [AV.ptr 1 0 [] 0]),(5,b e1.i),(6,b e1.j)] [Obj.row 9 e1.R,c 178 (AV.mp 2),d 9 4 e1.es]/\(e1.R.length<=9223372036854775807/\(0:Int)<=e1.i/\e1.i<e1.j/\e1.j<=(↑g:Int)/\List.take e1.i.toNat e1.R=strs e1.P/\List.drop e1.j.toNat e1.R=strs e1.ws)/\∀(e0:List AV),letI h:=Int.toNat ((↑g:Int) - (↑e:Int));letI i:=(↑e:Int)<=(↑g:Int);e0.length=e1.R.length/\List.take e e0=strs o->aW (true&&decide i&&decide ((↑g:Int)<=(↑g:Int))) (aW (true&&decide i) (K (AV.ah 9 (List.take (Int.toNat ((↑e:Int) - (0:Int))) (List.drop 0 (dt e0 (0+Int.toNat (↑e:Int)) h (AV.str {data:= #[]}))))) [Obj.l3 9 (dt e0 (0+Int.toNat (↑e:Int)) h (AV.str {data:= #[]})),c 178 (AV.mp 2),d 9 4 e1.es]))))):=by kernel_rfl
def KF(a:DB):=([.ak 0 0 a.vs.length,Tc],F0 (strs a.vs) a.es)
def qD(a:DB):=a.vs.length<=aX
def HE(a:DB):Out (AV×List Dn.Obj):= .all (fun _=>True) fun R=> .one (.ah 9 (strs (a.vs.filter (fj a.es))),[.l3 9 R, .box 178 (.mp 2), .map 9 4 a.es])
theorem ar9 κ:bd (EGB κ) 12 114 (aM KF qD HE):=by
 refine aQ ?_;rintro⟨a,i,b⟩ K d h;simp only[qD] at d;simp only[KF];rw[←bf a];refine Eq.mpr (yGB κ ⟨a,i,b⟩ K) ?_;refine⟨rfl,⟨a,0,b⟩,rfl,⟨d,by simp only;omega,by simp only;omega,fun s p=>nomatch p⟩,?_⟩;rw[ae];refine⟨fun e=>?_,fun e y g=>?_⟩
 ·have k:a.filter (fj b)=a:=List.filter_eq_self.2 (List.all_eq_true.1 e)
  have:=h (strs a) trivial
  simp only[k] at this;rw[aD5,List.take_length];exact this
 ·have o:=so g
  obtain⟨j,m,t,q⟩:=g;simp only at j m;simp only[aX] at d;rw[ae,beq_iff_eq,beq_eq_false_iff_ne];refine⟨fun r=>by omega,fun _=>⟨rfl,⟨strs a,y,y+1,b,a.take y.toNat,a.drop (y.toNat+1)⟩,?_,⟨by simp only[bf];omega,j,by simp only;omega,by simp only[bf];omega,?_,?_⟩,?_⟩⟩
  ·rw[az (n:=y+1) (by omega) (by omega)]
  ·simp only[strs,List.map_take]
  ·simp only[strs,List.map_drop,show(y+1).toNat=y.toNat+1 by omega]
  ·rintro R ⟨l,f⟩
   simp only at l f;rw[←o] at f⊢;have c:(a.filter (fj b)).length<=a.length:=List.length_filter_le _ _;rw[ai,ai];refine⟨by simp[bf,c],by simp[bf,c],?_⟩;have:=h (dt R (0+Int.toNat ((a.filter (fj b)).length:Int)) (Int.toNat (((strs a).length:Int) - ((a.filter (fj b)).length:Int))) (.lit (.string (ByteArray.mk #[])))) trivial
   simp only[Int.toNat_natCast,Nat.zero_add,Int.sub_zero,aD5,pc,f] at this⊢;exact this
theorem as8 κ: ∀a st K,aM KF qD HE a st K->cf (Pr κ) 114 a st K:=fun a st K h=>gO (eGB _) (mGB _) (ar9 _ _ _ K h)
structure ZK where
 a:dx
 ws:List Nat
 n:Nat
 i:Int
 vs:List ByteArray
abbrev Wd(a:ZK):=sp 48 [(2, .ptr 0 0 [] 0),(8, .ptr 1 0 [] 0),(32, .ak 3 0 a.n),(33, .int a.n),(34, .int a.i)] [.box 48 (aw a.a), .box 178 (.mp 2), .map 9 4 (b6 a.vs), .row 3 (ints a.ws)]
theorem x10(κ:Kp)(a:ZK) ws es I n K:(vc (E7 κ) 12 65 none 0 (ad (Pr κ).toProgram 65 8) (sp 48 [(2, .ptr 0 0 [] 0),(8, .ptr 1 0 [] 0),(32, .ak 3 0 a.n),(33, .int a.n),(34, .int a.i)] [.box 48 (aw a.a), .box 178 (.mp 2), .map 9 4 es, .row 3 ws]) (bg (E7 κ) 65 8 0 I n K))=(
 letI b:=Obj.box
 letI c:=Dn.Obj.map
 letI d:=∃(e2:dx×Int),([aw a.a,AV.int (toInt (nth ws (0+a.i.toNat)))],aR)=([aw e2.1,AV.int e2.2],aR)/\(ba (aL e2.1)=true/\(bn (aa (bp 38
  e2.1.hl e2.1.bl))<=100000/\e2.1.bl.length<=100000)/\(0:Int)<=e2.2/\e2.2<(↑(e2.1.bl.length):Int))/\∃(e1:List AV×List (Value×AV)),([AV.mp 0,
  AV.ah 9 (strs (cE (aL e2.1) e2.2.toNat))],[c 9 4 es])=([AV.mp 0,AV.ah 9 e1.1],[c 9 4 e1.2])/\bt e1/\∃(e0:Nat),e0<n/\I e0 (sp 48
  [(2,AV.ptr 0 0 [] 0),(8,AV.ptr 1 0 [] 0),(32,AV.ak 3 0 a.n),(33,AV.int (↑(a.n):Int)),(34,AV.int (IntKind.wrap IntKind.i64 (a.i+(1:Int))))]
  [b 48 (aw a.a),b 178 (AV.mp 2),c 9 4 (fZ e1.2 e1.1),Obj.row 3 ws])
 aq (decide (a.i<(↑(a.n):Int))) (aW (decide ((0:Int)<=a.i)&&decide (a.i<(↑(a.n):Int))) (d/\d)) (K (Exit.exit 1) (sp 48 [(2,AV.ptr 0 0 [] 0),(8,
 AV.ptr 1 0 [] 0)] [b 48 (aw a.a),b 178 (AV.mp 2),c 9 4 es]))):=by kernel_rfl
def Kf(a:ZK):=ba (aL a.a)=true/\du a.a/\0<=a.i/\a.i<=a.n/\a.n<=a.ws.length/\a.ws.length<=a.a.bl.length/\∀k,k∈a.ws->k<a.a.bl.length
def CI(a:ZK):Out (Exit×S):= .one (.exit 1,sp 48 [(2, .ptr 0 0 [] 0),(8, .ptr 1 0 [] 0)] [.box 48 (aw a.a), .box 178 (.mp 2), .map 9 4 (b6 (a.vs++eG (aL a.a) ((a.ws.take a.n).drop a.i.toNat)))])
theorem xZ l i h:toInt (nth (ints l) i)=l[i]:=by
 grind [aV,ints,toInt]
theorem l10 κ:aU (E7 κ) 12 65 8 (aG 0 Wd Kf CI):=by
 refine aC (fun a=>a.n - a.i.toNat) ?_;rintro⟨a,b,n,i,f⟩ K ⟨g,e,m,p,j,l,h⟩ c;simp only at g e m p j l h;rw[show(E7 κ).P=Pr κ from rfl];refine Eq.mpr (x10 κ ⟨a,b,n,i,f⟩ (ints b) (b6 f) _ _ K) ?_;simp only[CI,Out.run] at c;simp only[and_self,Nat.zero_add];have q:=e.2;rw[ae,ai,aC6,at3,at3,aC7];refine⟨fun k=>⟨⟨m,k⟩,?_⟩,fun k=>?_⟩
 ·have d:i.toNat<b.length:=by omega
  have o:=h _ (List.getElem_mem d);have r:=tZ e o;have hd:(b.take n).drop i.toNat=b[i.toNat]::(b.take n).drop (i.toNat+1):=by
   rw[aD6 (by rw[List.length_take];omega)];simp
  rw[hd] at c;rw[az (n:=i+1) (by omega) (by omega),xZ b _ d];refine⟨(a,(b[i.toNat]:Int)),rfl,⟨g,e,by simp only;omega,by simp only;omega⟩,(strs (cE (aL a) b[i.toNat]),b6 f),rfl,by simp only[bt,bf,aX];omega,_,?_,⟨a,b,n,i+1,f++cE (aL a) b[i.toNat]⟩,?_,⟨g,e,by simp only;omega,by simp only;omega,j,l,h⟩,rfl,?_⟩
  ·simp only;omega
  ·simp only[nH]
  ·simp only[CI,Out.run,show(i+1).toNat=i.toNat+1 by omega]
   simpa only[eG,List.flatMap_cons,List.append_assoc] using c
 ·rw[aD3 (by rw[List.length_take];omega)] at c
  simpa[eG] using c
noncomputable def Nt κ:=((E7 κ).an 65 8 (aG 0 Wd Kf CI)).ax 114 (aM KF qD HE)
theorem at2 κ:aE (Nt κ):=((e7 _).an (m7 _) (l10 _)).fQ (as8 _)
theorem ae1 κ:aj (Nt κ):=((m7 _).an aK).ax aJ
theorem y10 κ a k K:(a8 (Nt κ) 12 65 [aw a, .int k] [] K)=(
 letI b:=AV.int
 letI c:=AV.ptr
 letI d:=Obj.box
 letI e:=Obj.row
 letI f:=Dn.Obj.map
 letI g:=K (.aH [AV.nil,b 2]) []
 letI h:=Pg.toProgram (Env.P (E7 κ))
 letI i:=Int.toNat (k - 0)
 ∃e4,letI j:=List.length (c6 (aL e4));([aw a],aR)=([aw e4],aR)/\(bn (aa (bp 38 e4.hl e4.bl))<=100000/\e4.bl.length<=100000)/\aq (ba (aL e4)) (aq (jZ (aL e4)) (aq (decide (k<0)) g (aq (decide (k>(↑j:Int))) g (aW (true&&decide ((0:Int)<=k)&&decide (k<=(↑j:Int))) (ad h 65 8=ad h 65 8/\∃(e3:ZK),sp 48 [(2,c 0 0 [] 0),(8,c 1 0 [] 0),(32,AV.ak 3 0 i),(33,b (↑i:Int)),(34,b 0)] [d 48 (aw a),d 178 (AV.mp 2),f 9 4 [],e 3 (ints (c6 (aL e4)))]=sp 48 [(2,c 0 0 [] 0),(8,c 1 0 [] 0),(32,AV.ak 3 0 e3.n),(33,b (↑(e3.n):Int)),(34,b e3.i)] [d 48 (aw e3.a),d 178 (AV.mp 2),f 9 4 (b6 e3.vs),e 3 (ints e3.ws)]/\(ba (aL e3.a)=true/\(bn (aa (bp 38 e3.a.hl e3.a.bl))<=100000/\List.length e3.a.bl<=100000)/\(0:Int)<=e3.i/\e3.i<=(↑(e3.n):Int)/\e3.n<=e3.ws.length/\e3.ws.length<=List.length e3.a.bl/\∀(e0:Nat),List.Mem e0 e3.ws->e0<List.length e3.a.bl)/\∃(e2:dx),([aw e3.a],aR)=([aw e2],aR)/\(ba (aL e2)=true/\bn (aa (bp 38 e2.hl e2.bl))<=100000/\e2.bl.length<=100000)/\∃(e1:DB),([AV.ak 0 0 (List.length (bK (aL e2))),AV.bo 116 [c 1 0 [] 0]],[e 9 (strs (bK (aL e2))),d 178 (AV.mp 2),f 9 4 (b6 (e3.vs++eG (aL e3.a) (List.drop e3.i.toNat (List.take e3.n e3.ws))))])=([AV.ak 0 0 e1.vs.length,AV.bo 116 [c 1 0 [] 0]],[e 9 (strs e1.vs),d 178 (AV.mp 2),f 9 4 e1.es])/\qD e1/\∀(e0:List AV),True->K (AV.aH [AV.ah 9 (strs (List.filter (fj e1.es) e1.vs)),b 0]) [])))) (K (AV.aH [AV.nil,b 60]) [])) (K (AV.aH [AV.nil,b 30]) [])):=by kernel_rfl
def am8(a:dx×Int):List AV×List Dn.Obj:=([aw a.1, .int a.2],[])
def Qq(a:dx×Int):Prop:=du a.1
def PF(a:dx×Int):Out (AV×List Dn.Obj):= .aq (ba (aL a.1)) (.aq (jZ (aL a.1)) (.aq (decide (a.2<0)||decide (a.1.bl.length<a.2)) (.one (.aH [.nil, .int 2],[]))
 (.one (.aH [.ah 9 (strs (GQ (aL a.1) a.2.toNat)), .int 0],[]))) (.one (.aH [.nil, .int 60],[]))) (.one (.aH [.nil, .int 30],[]))
theorem u9{a}(h:jZ (aL a)=true):(c6 (aL a)).length=a.bl.length:=by
 grind [M9,fR,jZ]
theorem c10 κ:bd (Nt κ) 12 65 (aM am8 Qq PF):=by
 refine aQ ?_;rintro⟨a,k⟩ K d e;refine Eq.mpr (y10 κ a k K) ?_;simp only[PF,Out.run,ae] at e;have d:du a:=d;have q:=d.2;refine⟨a,rfl,d,?_⟩;rw[ae];refine⟨fun c=>?_,fun c=>e.2 c⟩;rw[ae];refine⟨fun f=>?_,fun f=>(e.1 c).2 f⟩;have o:=u9 f;have b:=(e.1 c).1 f;rw[ae,at3,aC7];refine⟨fun i=>b.1 (by rw[aD1 i];rfl),fun i=>?_⟩;rw[ae,at3,aC7,o];refine⟨fun h=>b.1 (by rw[aD1 (show(a.bl.length:Int)<k from h)];simp),fun h=>?_⟩;have l:=b.2 (by rw[aC9 i,aC9 (show ¬ (a.bl.length:Int)<k from h)];rfl);simp only[ai,aC6,at3,Int.sub_zero];have p:(eL (aL a)).length<=100000:=by
  have m:=cZ (aa (bp 38 a.hl a.bl));rw[jw 38 a.rel a.hl a.bl] at m;exact Nat.le_trans m d.1
 have r:=lB (eL (aL a)) [];refine⟨⟨⟨trivial,by omega⟩,by omega⟩,trivial,⟨a,c6 (aL a),k.toNat,0,[]⟩,rfl,⟨c,d,by simp only;omega,by simp only;omega,by simp only;omega,by simp only;omega,fun j n=>by have:=tF n;rwa [fR] at this⟩,a,rfl,⟨c,d⟩,⟨bK (aL a),0,b6 ([]++eG (aL a) (((c6 (aL a)).take k.toNat).drop (Int.toNat 0)))⟩,rfl,?_,?_⟩
 ·simp only[qD,bK,c,aD2,aX];omega
 ·intro R _
  have g:List.filter (fj (b6 ([]++eG (aL a) (((c6 (aL a)).take k.toNat).drop (Int.toNat 0))))) (bK (aL a))=GQ (aL a) k.toNat:=by
   unfold GQ;refine congrFun (congrArg _ ?_) _;funext s
   unfold fj;rw[qq];rfl
  simp only[g];exact l
noncomputable def Sm κ:=(Nt κ).ax 65 (aM am8 Qq PF)
theorem e10 κ:aE (Sm κ):=(at2 _).ax (ae1 _) (c10 _)
theorem m10 κ:aj (Sm κ):=(ae1 _).ax aJ
end Go.Proofs.YtioeffnadipbaaaGreatDoor
namespace Go.Proofs.YtioeffnadipbaaaGreatDoor
open Go Go.Dn Go.Rl Go.Proofs
attribute [local irreducible] a8 vc
set_option maxRecDepth 20000
noncomputable abbrev lp8(a:dx)(b:List AV)(κ:Kp)(st:LoopState)(p:Option Code):Dn.Obj:=
 .loop (jq (Pr κ).toProgram 89 5 st p (iO (bR 63) [(0,aw a),(1, .ptr 0 0 [] 0),(2, .ptr 1 0 [] 0),(3, .ptr 2 0 [] 0),(4, .ak 3 0 b.length),(5, .int 0),(10, .aH [.ak 3 0 b.length, .int 0]),(11,aw a),(12, .aH [.ak 3 0 b.length, .int 0]),(13, .ak 3 0 b.length),(14, .int 0),(15, .int 0),(16, .bool false),(18,aw a),(19, .bo 169 [.ptr 4 0 [] 0])]))
noncomputable abbrev ID κ a c b st p:=[.box 48 (aw a), .box 4 (.bool b), .box 32 (.int 0), .row 3 c, .box 48 (aw a),lp8 a c κ st p]
theorem x8(κ:Kp)(a:dx) ws es done(i:Int) I(n:Nat) K:(vc (Sm κ) 12 169 none 6 (ad (Pr κ).toProgram 169 3) (sp 38 [(0, .cn 5),(1, .ptr 4 0 [] 0),(3, .mp 6),(4, .ak 7 0 done.length),(13, .int a.bl.length),(14, .int i)] (ID κ a ws false .ready none++[.map 9 4 es, .row 4 done])) (bg (Sm κ) 169 3 6 I n K))=(
 letI b:=AV.int
 letI c:=AV.ptr
 letI d:=AV.agg
 letI e:=AV.str
 letI f:=Obj.box
 letI g:=Obj.row
 letI h:=Dn.Obj.map
 letI j:=AV.ah
 letI k:=AV.ak
 letI l:=AV.mp
 letI C:=iO (bR 63) [(0,aw a),(1,c 0 0 [] 0),(2,c 1 0 [] 0),(3,c 2 0 [] 0),(4,k 3 0 ws.length),(5,b 0),(10,AV.aH [k 3
  0 ws.length,b 0]),(11,aw a),(12,AV.aH [k 3 0 ws.length,b 0]),(13,k 3 0 ws.length),(14,b 0),(15,b 0),(16,AV.bool
  false),(18,aw a),(19,AV.bo 169 [c 4 0 [] 0])]
 letI z:=jq Tryz.prog 89 5 LoopState.ready none C
 letI D:=IntKind.wrap IntKind.i64 (i+(1:Int))
 letI x:=a.bl.length
 letI A:=AV.bool false
 letI E:=sp 38 [] [f 48 (aw a),f 4 A,f 32 (b 0),g 3 ws,f 48 (aw a),Dn.Obj.loop z]
 letI F:=AV.bool true
 letI y:=K Exit.ret (sp 38 [] [f 48 (aw a),f 4 F,f 32 (b 0),g 3 ws,f 48 (aw a),Dn.Obj.loop (jq Tryz.prog 89 5
  LoopState.done (some Code.ret) C)])
 letI G:=done.length
 letI p:=Value×AV
 aq (decide (i<(↑x:Int))) (∃(e5:Nd),letI o:=aF (aL e5.a) e5.done e5.b;letI m:=nth a.bl (Int.toNat o);letI q:=(0:Int)<=aF (aL e5.a) e5.done e5.b;letI r:=decide q&&decide (aF (aL e5.a) e5.done e5.b<(↑G:Int));letI B:=[l 0,d [b (toInt (af (af m 3) 0)),e (toStr (af (af m 3) 1)),b (toInt (af (af m 3) 2)),j 38 (ag (af (af m 3) 3))],d [b (toInt (af (af m 2) 0)),e (toStr (af (af m 2) 1)),b (toInt (af (af m 2) 2)),j 38 (ag (af (af m 2) 3))]];letI s:=bP (ck e5.done) (0+Int.toNat o) F;letI t:=decide ((7:Int)<=toInt (af m 0));letI u:=[h 9 4 (b6 e5.b)];([aw a,k 0 0 done.length,l 1],[g 4 done,h 9 4 es])=([aw e5.a,k 0 0 (List.length (ck e5.done)),l 1],[g 4 (ck e5.done),h 9 4 (b6 e5.b)])/\(ba (aL e5.a)=true/\(bn (aa (bp 38 e5.a.hl e5.a.bl))<=100000/\List.length e5.a.bl<=100000)/\e5.done.length=List.length e5.a.bl)/\aq (decide (aF (aL e5.a) e5.done e5.b<(0:Int))) (K Exit.ret E) (aW (decide q&&decide (aF (aL e5.a) e5.done e5.b<(↑x:Int))) (aq (toInt (af m 0)==(3:Int)) (∃(e4:TA),letI v:=∃(e3:TA),letI w:=aq t y (aW r (∃(e2:dx×Int),([aw a,b o],aR)=([aw e2.1,b e2.2],aR)/\(ba (aL e2.1)=true/\(bn (aa (bp 38 e2.1.hl e2.1.bl))<=100000/\e2.1.bl.length<=100000)/\(0:Int)<=e2.2/\e2.2<(↑(e2.1.bl.length):Int))/\∃(e1:List AV×List p),([l 0,j 9 (strs (cE (aL e2.1) e2.2.toNat))],[h 9 4 e3.es])=([l 0,j 9 e1.1],[h 9 4 e1.2])/\bt e1/\∃(e0:Nat),e0<n/\I e0 (sp 38 [(0,AV.cn 5),(1,c 4 0 [] 0),(3,l 6),(4,k 7 0 done.length),(13,b (↑x:Int)),(14,b D)] [f 48 (aw a),f 4 A,f 32 (b 0),g 3 ws,f 48 (aw a),Dn.Obj.loop z,h 9 4 (fZ e1.2 e1.1),g 4 s])));(B,[h 9 4 e4.es])=([l 0,d [b e3.o1,e e3.s1,b e3.n1,j 38 e3.l1],d [b e3.o2,e e3.s2,b e3.n2,j 38 e3.l2]],[h 9 4 e3.es])/\jN e3/\aq (mI e3.es (TA.x e3) (TA.y e3)) (aq (decide (toInt (af (af m 2) 0)>=(5:Int))) y w) w;([l 0,d [b (toInt (af (af m 2) 0)),e (toStr (af (af m 2) 1)),b (toInt (af (af m 2) 2)),j 38 (ag (af (af m 2) 3))],d [b (toInt (af (af m 3) 0)),e (toStr (af (af m 3) 1)),b (toInt (af (af m 3) 2)),j 38 (ag (af (af m 3) 3))]],u)=([l 0,d [b e4.o1,e e4.s1,b e4.n1,j 38 e4.l1],d [b e4.o2,e e4.s2,b e4.n2,j 38 e4.l2]],[h 9 4 e4.es])/\jN e4/\aq (mI e4.es (TA.x e4) (TA.y e4)) (aq (decide (toInt (af (af m 3) 0)>=(5:Int))) y v) v) (aq t y (aW r (∃(e2:dx×Int),([aw a,b o],aR)=([aw e2.1,b e2.2],aR)/\(ba (aL e2.1)=true/\(bn (aa (bp 38 e2.1.hl e2.1.bl))<=100000/\e2.1.bl.length<=100000)/\(0:Int)<=e2.2/\e2.2<(↑(e2.1.bl.length):Int))/\∃(e1:List AV×List p),([l 0,j 9 (strs (cE (aL e2.1) e2.2.toNat))],u)=([l 0,j 9 e1.1],[h 9 4 e1.2])/\bt e1/\∃(e0:Nat),e0<n/\I e0 (sp 38 [(0,AV.cn 5),(1,c 4 0 [] 0),(3,l 6),(4,k 7 0 done.length),(13,b (↑x:Int)),(14,b D)] [f 48 (aw a),f 4 A,f 32 (b 0),g 3 ws,f 48 (aw a),Dn.Obj.loop z,h 9 4 (fZ e1.2 e1.1),g 4 s]))))))) (K (Exit.exit 0) E)):=by kernel_rfl
structure A8 where
 a:dx
 ws:List AV
 done:List Bool
 b:List ByteArray
 i:Int
noncomputable abbrev Uw κ(a:A8):=sp 38 [(0, .cn 5),(1, .ptr 4 0 [] 0),(3, .mp 6),(4, .ak 7 0 (ck a.done).length),(13, .int a.a.bl.length),(14, .int a.i)] (ID κ a.a a.ws false .ready none++[.map 9 4 (b6 a.b), .row 4 (ck a.done)])
def H9(a:A8):=ba (aL a.a)=true/\du a.a/\0<=a.i/\a.i<=a.a.bl.length/\a.done.length=a.a.bl.length
noncomputable def LP(a:A8):=OS (aL a.a) (a.a.bl.length - a.i.toNat) a.done a.b
noncomputable def EX(κ:Kp)(a:A8):Out (Exit×S):= .aq (LP a) (.one (.ret,sp 38 [] (ID κ a.a a.ws true .done (some .ret)))) (.all (fun _=>True) fun e=> .aq e (.one (.ret,sp 38 [] (ID κ a.a a.ws false .ready none))) (.one (.exit 0,sp 38 [] (ID κ a.a a.ws false .ready none))))
theorem LR r n done b:OS r (n+1) done b=
  bif decide (aF r done b<0) then false else LQ r b (aF r done b).toNat||OS r n (done.set (aF r done b).toNat true) (b++cE r (aF r done b).toNat):=rfl
theorem l8 κ:aU (Sm κ) 12 169 3 (aG 6 (Uw κ) H9 (EX κ)):=by
 refine aC (fun a=>a.a.bl.length - a.i.toNat) ?_;rintro⟨a,F,done,b,i⟩ K ⟨v,p,W,U,H⟩ s;simp only at v p W U H;rw[show(Sm κ).P=Pr κ from rfl];refine Eq.mpr (x8 κ a F (b6 b) (ck done) i _ _ K) ?_;simp only[EX,Out.run,ae,LP] at s;simp only[and_self];have I:=j2 done;have hl:=p.2;rw[ae,at3,aC7];refine⟨fun V=>⟨⟨a,done,b,0,0⟩,rfl,⟨v,p,H⟩,?_⟩,fun V=>?_⟩
 ·have N:=LR (aL a) (a.bl.length - (i.toNat+1)) done b
  rw[show a.bl.length - (i.toNat+1)+1=a.bl.length - i.toNat by omega] at N;rw[ae,at3,aC7];refine⟨fun e=>?_,fun e=>?_⟩
  ·rw[N,aD1 e] at s
   exact(s.2 rfl true trivial).1 rfl
  ·rw[N,aC9 e,aD0] at s
   rcases oh (aL a) done b with e0|⟨z,X,Y,_⟩
   ·rw[e0] at e;omega
   have r:=X;rw[fR] at r;have Z:=tZ p r;have Q:=lU p r;have l:aF (aL a) done b<a.bl.length:=by omega
   have q:bt (strs (cE (aL a) (aF (aL a) done b).toNat),b6 b):=by simp only[bt,bf,aX];omega
   have u:(decide (0<=aF (aL a) done b)&&decide (aF (aL a) done b<(a.bl.length:Int)))=true:=by simp[z,l]
   have d:(decide (0<=aF (aL a) done b)&&decide (aF (aL a) done b<((ck done).length:Int)))=true:=by rw[I,H];exact u
   have O:kt (bQ (nth a.bl (aF (aL a) done b).toNat))=bn [cx (af (nth a.bl (aF (aL a) done b).toNat) 2),cx (af (nth a.bl (aF (aL a) done b).toNat) 3)]+bn (aa (ag (af (af (nth a.bl (aF (aL a) done b).toNat) 1) 1))):=rfl;have A:bn [cx (af (nth a.bl (aF (aL a) done b).toNat) 2)]<=100000/\bn [cx (af (nth a.bl (aF (aL a) done b).toNat) 3)]<=100000:=by
    simp only[bn] at O⊢;omega
   have L:jN (mV (af (nth a.bl (aF (aL a) done b).toNat) 2) (af (nth a.bl (aF (aL a) done b).toNat) 3) (b6 b)):=by unfold jN mV;rw[pY];exact A.2
   have C:jN (mV (af (nth a.bl (aF (aL a) done b).toNat) 3) (af (nth a.bl (aF (aL a) done b).toNat) 2) (b6 b)):=by unfold jN mV;rw[pY];exact A.1
   have J:mI (mV (af (nth a.bl (aF (aL a) done b).toNat) 2) (af (nth a.bl (aF (aL a) done b).toNat) 3) (b6 b)).es (mV (af (nth a.bl (aF (aL a) done b).toNat) 2) (af (nth a.bl (aF (aL a) done b).toNat) 3) (b6 b)).x (mV (af (nth a.bl (aF (aL a) done b).toNat) 2) (af (nth a.bl (aF (aL a) done b).toNat) 3) (b6 b)).y=gR b (cx (af (nth a.bl (aF (aL a) done b).toNat) 2)) (cx (af (nth a.bl (aF (aL a) done b).toNat) 3)):=by
    unfold mV;rw[Dz,pY,qj]
   have B:mI (mV (af (nth a.bl (aF (aL a) done b).toNat) 3) (af (nth a.bl (aF (aL a) done b).toNat) 2) (b6 b)).es (mV (af (nth a.bl (aF (aL a) done b).toNat) 3) (af (nth a.bl (aF (aL a) done b).toNat) 2) (b6 b)).x (mV (af (nth a.bl (aF (aL a) done b).toNat) 3) (af (nth a.bl (aF (aL a) done b).toNat) 2) (b6 b)).y=gR b (cx (af (nth a.bl (aF (aL a) done b).toNat) 3)) (cx (af (nth a.bl (aF (aL a) done b).toNat) 2)):=by
    unfold mV;rw[Dz,pY,qj]
   have c:LQ (aL a) b (aF (aL a) done b).toNat=((decide (toInt (af (nth a.bl (aF (aL a) done b).toNat) 0)=3)&&(gR b (cx (af (nth a.bl (aF (aL a) done b).toNat) 2)) (cx (af (nth a.bl (aF (aL a) done b).toNat) 3))&&decide (toInt (af (af (nth a.bl (aF (aL a) done b).toNat) 3) 0)>=5)||gR b (cx (af (nth a.bl (aF (aL a) done b).toNat) 3)) (cx (af (nth a.bl (aF (aL a) done b).toNat) 2))&&decide (toInt (af (af (nth a.bl (aF (aL a) done b).toNat) 2) 0)>=5)))||decide (7<=toInt (af (nth a.bl (aF (aL a) done b).toNat) 0))):=by
    have T:(cx (af (nth a.bl (aF (aL a) done b).toNat) 2)).op=toInt (af (af (nth a.bl (aF (aL a) done b).toNat) 2) 0):=by rw[cI];rfl
    have R:(cx (af (nth a.bl (aF (aL a) done b).toNat) 3)).op=toInt (af (af (nth a.bl (aF (aL a) done b).toNat) 3) 0):=by rw[cI];rfl
    unfold LQ;rw[show(aL a).body=dI a.bl from rfl,j7 _ r,show(bQ (nth a.bl (aF (aL a) done b).toNat)).op=toInt (af (nth a.bl (aF (aL a) done b).toNat) 0) from rfl,show(bQ (nth a.bl (aF (aL a) done b).toNat)).x=cx (af (nth a.bl (aF (aL a) done b).toNat) 2) from rfl,show(bQ (nth a.bl (aF (aL a) done b).toNat)).y=cx (af (nth a.bl (aF (aL a) done b).toNat) 3) from rfl,T,R]
   have f:(toInt (af (nth a.bl (aF (aL a) done b).toNat) 0)==3)=true->decide (toInt (af (nth a.bl (aF (aL a) done b).toNat) 0)=3)=true:=fun e=>by simpa using e
   have D:(toInt (af (nth a.bl (aF (aL a) done b).toNat) 0)==3)=false->decide (toInt (af (nth a.bl (aF (aL a) done b).toNat) 0)=3)=false:=fun e=>by simpa using e
   have h:LQ (aL a) b (aF (aL a) done b).toNat=true->K .ret (sp 38 [] (ID κ a F true .done (some .ret))):=fun e=>s.1 (by rw[e];rfl)
   have E:LQ (aL a) b (aF (aL a) done b).toNat=false->∃m,m<a.bl.length - i.toNat/\eW (Uw κ) H9 (EX κ) (fun a=>a.a.bl.length - a.i.toNat) K m (sp 38 [(0, .cn 5),(1, .ptr 4 0 [] 0),(3, .mp 6),(4, .ak 7 0 (ck done).length),(13, .int a.bl.length),(14, .int (IntKind.wrap .i64 (i+1)))] (ID κ a F false .ready none++[.map 9 4 (fZ (b6 b) (strs (cE (aL a) (aF (aL a) done b).toNat))), .row 4 (bP (ck done) (0+(aF (aL a) done b).toNat) (.lit (.bool true)))])):=by
    intro e;rw[e,Bool.false_or] at s;rw[az (n:=i+1) (by omega) (by omega)];refine⟨_,?_,⟨a,F,done.set (aF (aL a) done b).toNat true,b++cE (aL a) (aF (aL a) done b).toNat,i+1⟩,?_,⟨v,p,by simp only;omega,by simp only;omega,by simpa using H⟩,rfl,?_⟩
    ·simp only;omega
    ·simp only[Uw,Nat.zero_add,rR,nH,j2,List.length_set]
    ·simp only[EX,Out.run,ae,LP,show(i+1).toNat=i.toNat+1 by omega]
     exact s
   rw[ai];refine⟨u,?_⟩;rw[ae];exact⟨fun j=>⟨mV (af (nth a.bl (aF (aL a) done b).toNat) 2) (af (nth a.bl (aF (aL a) done b).toNat) 3) (b6 b),rfl,L,by
   rw[J];exact ae.2 ⟨fun o=>ae.2 ⟨fun w=>h (by rw[c,f j,o,w];simp),fun w=>⟨mV (af (nth a.bl (aF (aL a) done b).toNat) 3) (af (nth a.bl (aF (aL a) done b).toNat) 2) (b6 b),rfl,C,by
   rw[B];exact ae.2 ⟨fun k=>ae.2 ⟨fun t=>h (by rw[c,f j,o,w,k,t];simp),fun t=>ae.2 ⟨fun g=>h (by rw[c,f j,o,w,k,t,g];simp),fun g=>ai.2 ⟨d,(a,(aF (aL a) done b)),rfl,⟨v,p,z,l⟩,(strs (cE (aL a) (aF (aL a) done b).toNat),b6 b),rfl,q,E (by rw[c,f j,o,w,k,t,g];simp)⟩⟩⟩,fun k=>ae.2 ⟨fun g=>h (by rw[c,f j,o,w,k,g];simp),fun g=>ai.2 ⟨d,(a,(aF (aL a) done b)),rfl,⟨v,p,z,l⟩,(strs (cE (aL a) (aF (aL a) done b).toNat),b6 b),rfl,q,E (by rw[c,f j,o,w,k,g];simp)⟩⟩⟩⟩⟩,fun o=>⟨mV (af (nth a.bl (aF (aL a) done b).toNat) 3) (af (nth a.bl (aF (aL a) done b).toNat) 2) (b6 b),rfl,C,by
   rw[B];exact ae.2 ⟨fun k=>ae.2 ⟨fun t=>h (by rw[c,f j,o,k,t];simp),fun t=>ae.2 ⟨fun g=>h (by rw[c,f j,o,k,t,g];simp),fun g=>ai.2 ⟨d,(a,(aF (aL a) done b)),rfl,⟨v,p,z,l⟩,(strs (cE (aL a) (aF (aL a) done b).toNat),b6 b),rfl,q,E (by rw[c,f j,o,k,t,g];simp)⟩⟩⟩,fun k=>ae.2 ⟨fun g=>h (by rw[c,f j,o,k,g];simp),fun g=>ai.2 ⟨d,(a,(aF (aL a) done b)),rfl,⟨v,p,z,l⟩,(strs (cE (aL a) (aF (aL a) done b).toNat),b6 b),rfl,q,E (by rw[c,f j,o,k,g];simp)⟩⟩⟩⟩⟩⟩,fun j=>ae.2 ⟨fun g=>h (by rw[c,D j,g];simp),fun g=>ai.2 ⟨d,(a,(aF (aL a) done b)),rfl,⟨v,p,z,l⟩,(strs (cE (aL a) (aF (aL a) done b).toNat),b6 b),rfl,q,E (by rw[c,D j,g];simp)⟩⟩⟩
 ·rw[show a.bl.length - i.toNat=0 by omega] at s
  exact(s.2 rfl false trivial).2 rfl
noncomputable def E8l κ:=(Sm κ).an 169 3 (aG 6 (Uw κ) H9 (EX κ))
theorem e8l κ:aE (E8l κ):=(e10 _).an (m10 _) (l8 _)
theorem m8l κ:aj (E8l κ):=(m10 _).an aK
theorem y8 κ a K:(a8 (E8l κ) 12 89 [aw a] [] K)=(
 letI b:=AV.int
 letI c:=AV.ptr
 letI d:=AV.bool
 letI e:=Obj.box
 letI f:=Obj.row
 letI g:=AV.aH
 letI h:=AV.ak
 letI i:=a.bl.length
 letI l:=K (g [d false,b 0]) []
 letI m:=Pg.toProgram (Env.P (Sm κ))
 letI k:=d false
 letI n:=Int.toNat ↑i
 ∃e2,letI j:=List.length (c6 (aL e2));([aw a],aR)=([aw e2],aR)/\(bn (aa (bp 38 e2.hl e2.bl))<=100000/\e2.bl.length<=100000)/\aq (ba (aL e2)) (aq (jZ (aL e2)) (aW (true&&decide (↑i<=(↑i:Int))&&decide ((Int.toNat ↑i+1)*2<=70368744177664)&&true) (ad m 169 3=ad m 169 3/\∃e1,letI o:=[h 3 0 e1.ws.length,b 0];sp 38 [(0,.cn 5),(1,c 4 0 [] 0),(3,.mp 6),(4,h 7 0 n),(13,b ↑i),(14,b 0)] [e 48 (aw a),e 4 k,e 32 (b 0),f 3 (ints (c6 (aL e2))),e 48 (aw a),.loop (jq Tryz.prog 89 5 .ready none (iO (bR 63) [(0,aw a),(1,c 0 0 [] 0),(2,c 1 0 [] 0),(3,c 2 0 [] 0),(4,h 3 0 j),(5,b 0),(10,g [h 3 0 j,b 0]),(11,aw a),(12,g [h 3 0 j,b 0]),(13,h 3 0 j),(14,b 0),(15,b 0),(16,d false),(18,aw a),(19,.bo 169 [c 4 0 [] 0])])),.map 9 4 [],f 4 (gA k n)]=sp 38 [(0,.cn 5),(1,c 4 0 [] 0),(3,.mp 6),(4,h 7 0 (List.length (ck e1.done))),(13,b (↑(List.length e1.a.bl))),(14,b e1.i)] [e 48 (aw e1.a),e 4 k,e 32 (b 0),f 3 e1.ws,e 48 (aw e1.a),.loop (jq Tryz.prog 89 5 .ready none (iO (bR 63) [(0,aw e1.a),(1,c 0 0 [] 0),(2,c 1 0 [] 0),(3,c 2 0 [] 0),(4,h 3 0 e1.ws.length),(5,b 0),(10,g o),(11,aw e1.a),(12,g o),(13,h 3 0 e1.ws.length),(14,b 0),(15,b 0),(16,d false),(18,aw e1.a),(19,.bo 169 [c 4 0 [] 0])])),.map 9 4 (b6 e1.b),f 4 (ck e1.done)]/\(ba (aL e1.a)=true/\(bn (aa (bp 38 e1.a.hl e1.a.bl))<=100000/\List.length e1.a.bl<=100000)/\0<=e1.i/\e1.i<=(↑(List.length e1.a.bl))/\e1.done.length=List.length e1.a.bl)/\aq (LP e1) (K (g [d true,b 0]) []) (∀e0,True->aq e0 l l))) (K (g [d false,b 60]) [])) (K (g [d false,b 30]) [])):=by kernel_rfl
def Yr(a:dx):Out (AV×List Dn.Obj):= .aq (ba (aL a)) (.aq (jZ (aL a)) (.one (.aH [.bool (OT (aL a)), .int 0],[])) (.one (.aH [.bool false, .int 60],[]))) (.one (.aH [.bool false, .int 30],[]))
theorem c8 κ:bd (E8l κ) 12 89 (aM FM du Yr):=by
 refine aQ ?_;rintro a K e c;refine Eq.mpr (y8 κ a K) ?_;simp only[Yr,Out.run,ae] at c;have i:=e.2;refine⟨a,rfl,e,?_⟩;rw[ae];refine⟨fun b=>?_,fun b=>c.2 b⟩;rw[ae];refine⟨fun d=>?_,fun d=>(c.1 b).2 d⟩;have h:=u9 d;have f:=(c.1 b).1 d;simp only[ai,aC6,at3,Int.toNat_natCast];have g:LP ⟨a,ints (c6 (aL a)),List.replicate a.bl.length false,[],0⟩=OT (aL a):=by
  unfold LP OT;rw[fR];rfl
 refine⟨by grind,trivial,⟨a,ints (c6 (aL a)),List.replicate a.bl.length false,[],0⟩,?_,⟨b,e,by simp only;omega,by simp only;omega,by simp⟩,?_⟩
 ·simp only[vK,j2,sE,List.length_replicate];rfl
 grind [ae]
noncomputable def E8 κ:=(E8l κ).ax 89 (aM FM du Yr)
theorem e8 κ:aE (E8 κ):=(e8l _).ax (m8l _) (c8 _)
theorem m8 κ:aj (E8 κ):=(m8l _).ax aJ
def ZE:List AV->Option (Bool×AV)
 |[.agg [.lit (.int .i64 b), .lit (.string s), .lit (.int .i64 n), .ah 38 l], .lit (.int .i64 a)]=>some (decide (0<=a)&&decide (a<=100000), .int ((Tm.mk b s n (aa l)).size a))
 |_=>none
def Nb:List AV->Nat
 |[.agg [_,_,_, .ah _ l],_]=>bn (aa l)
 |_=>0
noncomputable def Gu κ n:=(E8 κ).aO 105 (below ZE Nb n)
structure A54 where
 op:Int
 s:ByteArray
 n:Int
 l:List AV
 left:Int
 i:Int
abbrev Rk(a:A54):=sp 31 [(1, .int a.left),(2, .ptr 0 0 [] 0),(5, .int a.i)] [.box 38 (.agg [.int a.op, .lit (.string a.s), .int a.n, .ah 38 a.l])]
theorem x54 κ r a I n K:(vc (Gu κ r) 12 105 none 0 (ad (Pr κ).toProgram 105 5) (Rk a) (bg (Gu κ r) 105 5 0 I n K))=(
 letI b:=AV.int
 letI c:=nth a.l a.i.toNat
 letI d:=K (.exit 0) (sp 31 [(1,b a.left)] [])
 letI e:=a.i<↑(a.l.length)
 aq (decide e) (aq (decide (a.left>=0)) (aW (decide (0<=a.i)&&decide e) (aW (decide (0<=a.left)&&decide (a.left<=100000)&&Nat.blt (Nb [.agg [b (toInt (af c 0)),AV.str (toStr (af c 1)),b (toInt (af c 2)),.ah 38 (ag (af c 3))],b a.left]) r) (∃e0,e0<n/\I e0 (sp 31 [(1,b (Tm.size (.mk (toInt (af c 0)) (toStr (af c 1)) (toInt (af c 2)) (aa (ag (af c 3)))) a.left)),(2,.ptr 0 0 []
 0),(5,b (IntKind.wrap .i64 (a.i+1)))] [.box 38 (.agg [b a.op,AV.str a.s,b a.n,.ah 38 a.l])])))) d) d):=by kernel_rfl
def Ko r(a:A54):= -1<=a.left/\a.i+a.left<=100000/\0<=a.i/\a.i<=a.l.length/\bn (aa (a.l.drop a.i.toNat))<=r
def CP(a:A54):Out (Exit×S):= .one (.exit 0,sp 31 [(1, .int (jO (aa (a.l.drop a.i.toNat)) a.left))] [])
theorem l54 κ r:aU (Gu κ r) 12 105 5 (aG 0 Rk (Ko r) CP):=by
 refine aC (fun a=>a.l.length - a.i.toNat) ?_;rintro⟨f,s,n,l,b,i⟩ K ⟨j,k,g,h,m⟩ c;simp only at j k g h m;rw[show(Gu κ r).P=Pr κ from rfl];refine Eq.mpr (x54 κ r ⟨f,s,n,l,b,i⟩ _ _ K) ?_;simp only[CP,Out.run] at c;simp only[ae,ai,at3,aC7,aC6,Nat.blt_eq,←cI];refine⟨fun e=>⟨fun d=>⟨⟨g,e⟩,?_⟩,fun d=>?_⟩,fun e=>?_⟩
 ·have o:=xn l i.toNat (by omega)
  have p:=Tm.size_le (cx (nth l i.toNat)) b d;have q:(cx (nth l i.toNat)).nK=1+bn (aa (ag (af (nth l i.toNat) 3))):=by rw[cI,Tm.nK]
  rw[fo l i.toNat (by omega),jO,aD1 d,aD2] at c;rw[az (n:=i+1) (by omega) (by omega)];refine⟨⟨⟨d,by omega⟩,by simp only[Nb];omega⟩,_,?_,⟨f,s,n,l,(cx (nth l i.toNat)).size b,i+1⟩,rfl,⟨by simp only;omega,by simp only;omega,by simp only;omega,by simp only;omega,?_⟩,rfl,?_⟩
  ·simp only;omega
  ·simp only[show(i+1).toNat=i.toNat+1 by omega];omega
  ·simp only[CP,Out.run,show(i+1).toNat=i.toNat+1 by omega]
   exact c
 ·rw[fo l i.toNat (by omega),jO,aC9 (show ¬ 0<=b from d),aD0] at c
  exact c
 ·rw[aD3 (by omega)] at c
  exact c
noncomputable def NJ κ r:=(Gu κ r).an 105 5 (aG 0 Rk (Ko r) CP)
theorem y54 κ r op s n l left K:(a8 (NJ κ r) 12 105 [.agg [.int op, .lit (.string s), .int n, .ah 38 l], .int left] [] K)=(
 letI b:=AV.int
 aq (decide ((↑(ByteArray.size s))>(1000:Int))) (K (b (-1)) []) (ad (Pg.toProgram (Env.P (Gu κ r))) 105 5=ad (Pg.toProgram (Env.P (Gu κ r))) 105 5/\∃(a:A54),letI c:=aa (List.drop a.i.toNat a.l);sp 31 [(1,b (IntKind.wrap IntKind.i64 (left - (1:Int)))),(2,AV.ptr 0 0 [] 0),(5,b 0)] [Obj.box 38 (AV.agg [b op,AV.str s,b n,AV.ah 38 l])]=sp 31 [(1,b a.left),(2,AV.ptr 0 0 [] 0),(5,b a.i)] [Obj.box 38 (AV.agg [b a.op,AV.str a.s,b a.n,AV.ah 38 a.l])]/\((-1:Int)<=a.left/\a.i+a.left<=(100000:Int)/\(0:Int)<=a.i/\a.i<=(↑(a.l.length):Int)/\bn c<=r)/\K (b (jO c a.left)) [])):=by kernel_rfl
theorem av5 κ r(b:gW (Pr κ) 105 (below ZE Nb r)):aE (NJ κ r)/\aj (NJ κ r)/\(NJ κ r).P=Pr κ:=
 have h:=(e8 _).fg b;have a:=(m8 _).aO
 ⟨h.an a (l54 _ r),a.an aK,rfl⟩
theorem p54 κ r:cm (NJ κ r) 12 105 fun xs=>bif Nat.beq (Nb xs) r then ZE xs else none:=by
 intro c x b;cases d:Nat.beq (Nb c) r with
 |false=>simp only[d] at b;cases b
 | true=>
  simp only[d,aD2] at b;unfold ZE at b;split at b
  ·rename_i f s n l a
   simp only[aC8,aD4,aC6,at3] at b;obtain⟨⟨h,i⟩,rfl⟩:=b;have g:bn (aa l)=r:=Nat.eq_of_beq_eq_true d;refine⟨_,rfl,rfl,?_⟩;refine Eq.mpr (y54 κ r f s n l a _) ?_;rw[ae,at3,aC7];refine⟨fun e=>?_,fun e=>?_⟩
   ·unfold Tm.size;rw[aD1 (show(1000:Int)<s.size from e)];rfl
   ·rw[az (n:=a - 1) (by omega) (by omega)]
    refine⟨rfl,⟨f,s,n,l,a - 1,0⟩,rfl,⟨by simp only;omega,by simp only;omega,by simp only;omega,by simp only;omega,?_⟩,?_⟩
    ·simp only[Int.toNat_zero,aD5];omega
    ·unfold Tm.size;rw[aC9 (show ¬ (1000:Int)<s.size from e)];rfl
  ·cases b
theorem q54 κ:gW (Pr κ) 105 ZE:=aE.w7 _ _ _ (av5 _) (p54 _)
noncomputable def SB κ:=(E8 κ).aO 105 ZE
theorem e54 κ:aE (SB κ):=(e8 _).fg (q54 _)
theorem m54 κ:aj (SB κ):=(m8 _).aO
structure A53 where
 s:ByteArray
 l:List AV
 left:Int
 i:Int
abbrev Rj(a:A53):=sp 29 [(1, .int a.left),(2, .ptr 0 0 [] 0),(5, .int a.i)] [.box 45 (.agg [.lit (.string a.s), .ah 38 a.l])]
theorem x53 κ a I n K:(vc (SB κ) 12 104 none 0 (ad (Pr κ).toProgram 104 4) (Rj a) (bg (SB κ) 104 4 0 I n K))=(
 letI b:=nth a.l a.i.toNat
 letI c:=K (.exit 0) (sp 29 [(1,AV.int a.left)] [])
 letI d:=a.i<↑(a.l.length)
 aq (decide d) (aq (decide (a.left>=0)) (aW (decide (0<=a.i)&&decide d) (aW (decide (0<=a.left)&&decide (a.left<=100000)) (∃e0,e0<n/\I e0 (sp 29 [(1,AV.int (Tm.size (.mk (toInt (af b 0)) (toStr (af b 1)) (toInt (af b 2)) (aa (ag (af b 3)))) a.left)),(2,
 .ptr 0 0 [] 0),(5,AV.int (IntKind.wrap .i64 (a.i+1)))] [.box 45 (.agg [AV.str a.s,.ah 38 a.l])])))) c) c):=by kernel_rfl
def Kn(a:A53):= -1<=a.left/\a.i+a.left<=100000/\0<=a.i/\a.i<=a.l.length
def CO(a:A53):Out (Exit×S):= .one (.exit 0,sp 29 [(1, .int (jO (aa (a.l.drop a.i.toNat)) a.left))] [])
theorem l53 κ:aU (SB κ) 12 104 4 (aG 0 Rj Kn CO):=by
 refine aC (fun a=>a.l.length - a.i.toNat) ?_;rintro⟨s,l,b,i⟩ K ⟨g,j,f,h⟩ c;simp only at g j f h;rw[show(SB κ).P=Pr κ from rfl];refine Eq.mpr (x53 κ ⟨s,l,b,i⟩ _ _ K) ?_;simp only[CO,Out.run] at c;simp only[ae,ai,at3,aC7,aC6,←cI];refine⟨fun e=>⟨fun d=>⟨⟨f,e⟩,?_⟩,fun d=>?_⟩,fun e=>?_⟩
 ·have k:=Tm.size_le (cx (nth l i.toNat)) b d
  rw[fo l i.toNat (by omega),jO,aD1 d,aD2] at c;rw[az (n:=i+1) (by omega) (by omega)];refine⟨⟨d,by omega⟩,_,?_,⟨s,l,(cx (nth l i.toNat)).size b,i+1⟩,rfl,⟨by simp only;omega,by simp only;omega,by simp only;omega,by simp only;omega⟩,rfl,?_⟩
  ·simp only;omega
  ·simp only[CO,Out.run,show(i+1).toNat=i.toNat+1 by omega]
   exact c
 ·rw[fo l i.toNat (by omega),jO,aC9 (show ¬ 0<=b from d),aD0] at c
  exact c
 ·rw[aD3 (by omega)] at c
  exact c
noncomputable def NI κ:=(SB κ).an 104 4 (aG 0 Rj Kn CO)
theorem av4 κ:aE (NI κ):=(e54 _).an (m54 _) (l53 _)
theorem af7 κ:aj (NI κ):=(m54 _).an aK
theorem y53 κ s l left K:(a8 (NI κ) 12 104 [.agg [.lit (.string s), .ah 38 l], .int left] [] K)=(
 letI a:=AV.int
 letI b:=Pg.toProgram (Env.P (SB κ))
 aq (decide ((↑(ByteArray.size s))>(1000:Int))) (K (a (-1)) []) (ad b 104 4=ad b 104 4/\∃(e0:A53),sp 29 [(1,a left),(2,.ptr 0 0
 [] 0),(5,a 0)] [.box 45 (.agg [AV.str s,.ah 38 l])]=sp 29 [(1,a e0.left),(2,.ptr 0 0 [] 0),(5,a e0.i)] [.box 45 (.agg
 [AV.str e0.s,.ah 38 e0.l])]/\((-1)<=e0.left/\e0.i+e0.left<=100000/\0<=e0.i/\e0.i<=↑(e0.l.length))/\K (a (jO (aa
 (List.drop e0.i.toNat e0.l)) e0.left)) [])):=by kernel_rfl
def g53:List AV->Option (Bool×AV)
 |[.agg [.lit (.string s), .ah 38 l], .lit (.int .i64 a)]=>some (decide (-1<=a)&&decide (a<=100000), .int (dJ ⟨s,aa l⟩ a))
 |_=>none
theorem p53 κ:cm (NI κ) 12 104 g53:=by
 intro c x b;unfold g53 at b;split at b
 ·rename_i s l a
  simp only[aC8,aD4,aC6,at3] at b;obtain⟨⟨f,d⟩,rfl⟩:=b;refine⟨_,rfl,rfl,?_⟩;refine Eq.mpr (y53 κ s l a _) ?_;rw[ae,at3,aC7];refine⟨fun e=>?_,fun e=>?_⟩
  ·unfold dJ;rw[aD1 (show(1000:Int)<s.size from e)];rfl
  ·refine⟨rfl,⟨s,l,a,0⟩,rfl,by grind,?_⟩
   unfold dJ;grind
 ·cases b
noncomputable def SA κ:=(NI κ).aO 104 g53
theorem e53 κ:aE (SA κ):=(av4 _).aO (af7 _) (p53 _)
theorem m53 κ:aj (SA κ):=(af7 _).aO
structure ZM where
 a:dx
 left:Int
 i:Int
abbrev FN(a:ZM):=sp 52 [(1, .int a.left),(2, .ptr 0 0 [] 0),(5, .int a.i)] [.box 48 (aw a.a)]
theorem x38(κ:Kp)(a:ZM) I(n:Nat) K:(vc (SA κ) 12 60 none 0 (ad (Pr κ).toProgram 60 3) (FN a) (bg (SA κ) 60 3 0 I n K))=(
 letI b:=IntKind.wrap IntKind.i64
 letI c:=AV.ptr 0 0 []
 letI d:=AV.int
 letI e:=Obj.box
 letI f:=nth a.a.bl a.i.toNat
 letI p:=Tm.mk (toInt (af (af f 2) 0)) (toStr (af (af f 2) 1)) (toInt (af (af f 2) 2)) (aa (ag (af (af f 2) 3)))
 letI t:=AV.agg [AV.agg [AV.str a.a.rel,AV.ah 38 a.a.hl],AV.ah 80 a.a.bl,d a.a.line]
 letI k:=ag (af (af f 1) 1)
 letI m:=af (af f 1) 0
 letI u:=b (a.i+(1:Int))
 letI q:=Tm.mk (toInt (af (af f 3) 0)) (toStr (af (af f 3) 1)) (toInt (af (af f 3) 2)) (aa (ag (af (af f 3) 3)))
 letI r:=K (Exit.exit 0) (sp 52 [(1,d a.left)] [])
 letI s:=a.i<(↑(List.length a.a.bl):Int)
 letI v:=decide ((0:Int)<=a.i)&&decide s
 letI h:=a.left - (1:Int)
 letI o:=b h
 letI g:=dJ {rel:=toStr m,l:=aa k} o
 letI i:=dJ {rel:=toStr m,l:=aa k} o
 letI j:=(100000:Int)
 letI w:=decide ((0:Int)<=dJ {rel:=toStr m,l:=aa k} o)&&decide (dJ {rel:=toStr m,l:=aa k} o<=j)
 aq (decide s) (aq (decide (a.left>=(0:Int))) (aW v (aW (decide ((-1:Int)<=b h)&&decide (b h<=j)) (aq (decide (dJ {rel:=toStr m,l:=aa k} o>=(0:Int))) (aW v (aW w (aq (decide (Tm.size p g>=(0:Int))) (aW v (aW (decide ((0:Int)<=Tm.size p i)&&decide (Tm.size p g<=j)) (∃(e0:Nat),e0<n/\I e0 (sp 52 [(1,AV.lit (Value.int IntKind.i64 (Tm.size q (Tm.size p g)))),(2,c 0),(5,d u)] [e 48 t])))) (∃(e0:Nat),e0<n/\I e0 (sp 52 [(1,AV.lit (Value.int IntKind.i64 (Tm.size p i))),(2,c 0),(5,d u)] [e 48 t]))))) (aq (decide (dJ {rel:=toStr m,l:=aa k} o>=(0:Int))) (aW v (aW w (∃(e0:Nat),e0<n/\I e0 (sp 52 [(1,AV.lit (Value.int IntKind.i64 (Tm.size q i))),(2,c 0),(5,d u)] [e 48 t])))) (∃(e0:Nat),e0<n/\I e0 (sp 52 [(1,AV.lit (Value.int IntKind.i64 g)),(2,c 0),(5,d u)] [e 48 t])))))) r) r):=by kernel_rfl
def C9(a:ZM):= -1<=a.left/\a.i+a.left<=100000/\0<=a.i/\a.i<=a.a.bl.length
def yD(a:ZM):Out (Exit×S):= .one (.exit 0,sp 52 [(1, .int (mB (dI (a.a.bl.drop a.i.toNat)) a.left))] [])
theorem l38 κ:aU (SA κ) 12 60 3 (aG 0 FN C9 yD):=by
 refine aC (fun a=>a.a.bl.length - a.i.toNat) ?_;rintro⟨a,b,i⟩ K ⟨o,t,j,v⟩ c;simp only at o t j v;rw[show(SA κ).P=Pr κ from rfl];refine Eq.mpr (x38 κ ⟨a,b,i⟩ _ _ K) ?_;simp only[yD,Out.run] at c;by_cases f:i<a.bl.length
 ·by_cases g:b>=0
  ·have r:i.toNat<a.bl.length:=by omega
   rw[pC a.bl i.toNat r,mB,aD1 g,aD2] at c;have u:(⟨toStr (af (af (nth a.bl i.toNat) 1) 0),aa (ag (af (af (nth a.bl i.toNat) 1) 1))⟩:At)=(bQ (nth a.bl i.toNat)).a:=rfl;have p:cx (af (nth a.bl i.toNat) 2)=(bQ (nth a.bl i.toNat)).x:=rfl;have q:cx (af (nth a.bl i.toNat) 3)=(bQ (nth a.bl i.toNat)).y:=rfl;have w:=uR (bQ (nth a.bl i.toNat)) b g;have s:=pU (bQ (nth a.bl i.toNat)).a (b - 1) (by omega);have l:=Tm.size_le (bQ (nth a.bl i.toNat)).x (dJ (bQ (nth a.bl i.toNat)).a (b - 1));have k: ∀z,sizeLt (bQ (nth a.bl i.toNat)) b=z->∃m,m<a.bl.length - i.toNat/\eW FN C9 yD (fun a=>a.a.bl.length - a.i.toNat) K m (FN ⟨a,z,i+1⟩):=by
    rintro z rfl;refine⟨_,?_,⟨a,sizeLt (bQ (nth a.bl i.toNat)) b,i+1⟩,rfl,⟨by simp only;omega,by simp only;omega,by simp only;omega,by simp only;omega⟩,rfl,?_⟩
    ·simp only;omega
    ·simp only[yD,Out.run,show(i+1).toNat=i.toNat+1 by omega]
     exact c
   simp only[az (n:=i+1) (by omega) (by omega),az (n:=b - 1) (by omega) (by omega),u,←cI,p,q];simp only[ae,ai,at3,aC7,aC6];refine⟨fun _=>⟨fun _=>⟨⟨j,f⟩,⟨by omega,by omega⟩,fun d=>⟨⟨j,f⟩,⟨d,by omega⟩,fun h=>⟨⟨j,f⟩,⟨h,by have:=l d;omega⟩,k _ ?_⟩,fun h=>k _ ?_⟩,fun d=>⟨fun e=>absurd e d,fun _=>k _ ?_⟩⟩,fun e=>absurd g e⟩,fun e=>absurd f e⟩
   ·unfold sizeLt;rw[aD1 (show 0<=dJ (bQ (nth a.bl i.toNat)).a (b - 1) from d),aD2,aD1 (show 0<=(bQ (nth a.bl i.toNat)).x.size _ from h),aD2]
   ·unfold sizeLt;rw[aD1 (show 0<=dJ (bQ (nth a.bl i.toNat)).a (b - 1) from d),aD2,aC9 (show ¬ 0<=(bQ (nth a.bl i.toNat)).x.size _ from h),aD0]
   ·unfold sizeLt;rw[aC9 (show ¬ 0<=dJ (bQ (nth a.bl i.toNat)).a (b - 1) from d),aD0];rfl
  ·rw[pC a.bl i.toNat (by omega),mB,aC9 (show ¬ 0<=b from g),aD0] at c
   rw[aD1 (show i<(a.bl.length:Int) from f),aC9 g];exact c
 ·rw[aD3 (by omega)] at c
  rw[aC9 (show ¬ i<(a.bl.length:Int) from f)];exact c
noncomputable def NC κ:=(SA κ).an 60 3 (aG 0 FN C9 yD)
theorem au6 κ:aE (NC κ):=(e53 _).an (m53 _) (l38 _)
theorem ae9 κ:aj (NC κ):=(m53 _).an aK
theorem y38 κ a left K:(a8 (NC κ) 12 60 [aw a, .int left] [] K)=(
 letI b:=IntKind.wrap .i64
 letI c:=AV.int
 letI d:=left - 1
 letI e:=Pg.toProgram (Env.P (SA κ))
 aW (decide ((-1)<=b d)&&decide (b d<=100000)) (ad e 60 3=ad e 60 3/\∃(e0:ZM),sp 52 [(1,.lit (.int .i64 (dJ {rel:=a.rel,l:=aa a.hl} (b d)))),(2,.ptr 0 0 [] 0),(5,c 0)] [.box 48 (.agg [.agg [AV.str a.rel,.ah 38 a.hl],.ah 80 a.bl,c a.line])]=sp 52 [(1,c e0.left),(2,.ptr 0 0 [] 0),(5,c e0.i)] [.box 48 (.agg [.agg [AV.str e0.a.rel,.ah 38 e0.a.hl],.ah 80 e0.a.bl,c e0.a.line])]/\((-1)<=e0.left/\e0.i+e0.left<=100000/\0<=e0.i/\e0.i<=(↑(List.length e0.a.bl)))/\K (.lit (.int .i64 (mB (dI (List.drop e0.i.toNat e0.a.bl)) e0.left))) [])):=by kernel_rfl
def g38:List AV->Option (Bool×AV)
 |[.agg [.agg [.lit (.string b), .ah 38 d], .ah 80 c, .lit (.int .i64 _)], .lit (.int .i64 a)]=>some (decide (0<=a)&&decide (a<=100000), .int (oP ⟨⟨b,aa d⟩,dI c⟩ a))
 |_=>none
theorem p38 κ:cm (NC κ) 12 60 g38:=by
 intro g x d;unfold g38 at d;split at d
 ·rename_i b e f c a
  simp only[aC8,aD4,aC6,at3] at d;obtain⟨⟨i,j⟩,rfl⟩:=d;refine⟨_,rfl,rfl,?_⟩;refine Eq.mpr (y38 κ ⟨[],[],b,e,f,c,0⟩ a _) ?_;have h:=pU ⟨b,aa e⟩ (a - 1) (by omega);simp only[az (n:=a - 1) (by omega) (by omega)];rw[ai,aC6,at3,at3];exact⟨⟨by omega,by omega⟩,trivial,⟨⟨[],[],b,e,f,c,0⟩,dJ ⟨b,aa e⟩ (a - 1),0⟩,rfl,by grind,rfl⟩
 ·cases d
noncomputable def Su κ:=(NC κ).aO 60 g38
theorem e38 κ:aE (Su κ):=(au6 _).aO (ae9 _) (p38 _)
theorem m38 κ:aj (Su κ):=(ae9 _).aO
abbrev Rg(a:List _×Int):=sp 16 [(0, .ah 9 a.1),(3, .int a.2)] []
theorem x37 κ l i I n K:(vc (Su κ) 12 59 none 0 (ad (Pr κ).toProgram 59 2) (Rg (l,i)) (bg (Su κ) 59 2 0 I n K))=(
 letI a:=i<↑(l.length)
 aq (decide a) (aW (decide (0<=i)&&decide a) (aq (decide ((↑(ByteArray.size (toStr (nth l i.toNat))))>(1000:Int))) (K .ret (sp 16 [(2,
 AV.bool true)] [])) (∃e0,e0<n/\I e0 (sp 16 [(0,.ah 9 l),(3,AV.int (IntKind.wrap .i64 (i+1)))] [])))) (K (.exit 0) (sp 16
 [] []))):=by kernel_rfl
def Kj(a:List AV×Int):=a.1.length<=aX/\0<=a.2/\a.2<=a.1.length
def CL(a:List AV×Int):Out (Exit×S):= .aq (AD (a.1.drop a.2.toNat)) (.one (.ret,sp 16 [(2, .bool true)] [])) (.one (.exit 0,sp 16 [] []))
theorem l37 κ:aU (Su κ) 12 59 2 (aG 0 Rg Kj CL):=by
 refine aC (fun a=>a.1.length - a.2.toNat) ?_;rintro⟨l,i⟩ K ⟨c,f,g⟩ b;simp only at c f g;rw[show(Su κ).P=Pr κ from rfl];refine Eq.mpr (x37 κ l i _ _ K) ?_;simp only[aX] at c;simp only[CL,Out.run,ae] at b;simp only[ae,ai,at3,aC7,aC6];refine⟨fun d=>⟨⟨f,d⟩,?_⟩,fun d=>?_⟩
 ·rw[aD6 (show i.toNat<l.length by omega),←aV l i.toNat (by omega)] at b
  simp only[AD,List.any_cons] at b;refine⟨by grind,fun e=>?_⟩;rw[aC9 (show ¬ (1000:Int)<_ from e),Bool.false_or] at b;rw[az (n:=i+1) (by omega) (by omega)];refine⟨_,?_,(l,i+1),rfl,⟨by simpa[aX] using c,by simp only;omega,by simp only;omega⟩,rfl,?_⟩
  ·simp only;omega
  ·simp only[CL,Out.run,ae,show(i+1).toNat=i.toNat+1 by omega]
   exact b
 ·rw[aD3 (by omega)] at b
  exact b.2 rfl
noncomputable def NB κ:=(Su κ).an 59 2 (aG 0 Rg Kj CL)
theorem au5 κ:aE (NB κ):=(e38 _).an (m38 _) (l37 _)
theorem ae8 κ:aj (NB κ):=(m38 _).an aK
theorem y37 κ l K:(a8 (NB κ) 12 59 [.ah 9 l] [] K)=(
 letI a:=Pg.toProgram (Env.P (Su κ))
 ad a 59 2=ad a 59 2/\∃(e0:List AV×Int),sp 16 [(0,.ah 9 l),(3,AV.int 0)] []=sp 16 [(0,.ah 9 e0.1),(3,AV.int e0.2)] []/\(e0.1.length<=
 9223372036854775807/\0<=e0.2/\e0.2<=↑(e0.1.length))/\aq (AD (List.drop e0.2.toNat e0.1)) (K (AV.bool true) []) (K (AV.bool false) [])):=by kernel_rfl
def g37:List AV->Option (Bool×AV)
 |[.ah 9 l]=>some (decide (l.length<=aX), .bool (AD l))
 |_=>none
theorem p37 κ:cm (NB κ) 12 59 g37:=by
 intro b x a;unfold g37 at a;split at a
 ·rename_i l
  simp only[aC8,aD4,at3] at a;obtain⟨c,rfl⟩:=a;refine⟨_,rfl,rfl,?_⟩;refine Eq.mpr (y37 κ l _) ?_;refine⟨rfl,(l,0),rfl,⟨c,by simp only;omega,by simp only;omega⟩,?_⟩;rw[ae];simp
 ·cases a
noncomputable def St κ:=(NB κ).aO 59 g37
theorem e37 κ:aE (St κ):=(au5 _).aO (ae8 _) (p37 _)
theorem m37 κ:aj (St κ):=(ae8 _).aO
structure WB where
 ds:List AV
 rs:List AV
 left:Int
 i:Int
abbrev Mo(a:WB):AV:= .agg [.ah 43 a.ds, .ah 48 a.rs]
abbrev KE a:=sp 62 [(1, .ptr 0 0 [] 0),(3, .int a.left),(4, .int a.i)] [.box 25 (Mo a)]
theorem aA3 κ a I n K:(vc (St κ) 12 29 none 0 (ad (Pr κ).toProgram 29 3) (KE a) (bg (St κ) 29 3 0 I n K))=(
 letI c:=K .ret (sp 62 [(2,AV.int 0)] [])
 letI d:=.agg [.ah 43 a.ds,.ah 48 a.rs]
 letI b:=nth a.ds a.i.toNat
 letI e:=a.i<↑(a.ds.length)
 letI f:=decide (0<=a.i)&&decide e
 aq (decide e) (aW f (aq (decide ((↑(ByteArray.size (toStr (af b 0))))>(1000:Int))) c (aW f (aW (decide (List.length (ag (af b 1))<=
 9223372036854775807)) (aq (AD (ag (af b 1))) c (∃e0,e0<n/\I e0 (sp 62 [(1,.ptr 0 0 [] 0),(3,AV.int a.left),(4,AV.int (IntKind.wrap
 .i64 (a.i+1)))] [.box 25 d]))))))) (K (.exit 0) (sp 62 [(1,.ptr 0 0 [] 0),(3,AV.int a.left)] [.box 25 d]))):=by kernel_rfl
def C7(a:WB):=a.ds.length<=aX/\(∀d,d∈a.ds->(ag (af d 1)).length<=aX)/\0<=a.i/\a.i<=a.ds.length
def yB(a:WB):Out (Exit×S):= .aq ((a.ds.drop a.i.toNat).any Ld) (.one (.ret,sp 62 [(2, .int 0)] [])) (.one (.exit 0,sp 62 [(1, .ptr 0 0 [] 0),(3, .int a.left)] [.box 25 (Mo a)]))
theorem ax3 κ:aU (St κ) 12 29 3 (aG 0 KE C7 yB):=by
 refine aC (fun a=>a.ds.length - a.i.toNat) ?_;rintro⟨ds,f,b,i⟩ K ⟨j,d,l,q⟩ c;simp only at j d l q;rw[show(St κ).P=Pr κ from rfl];refine Eq.mpr (aA3 κ ⟨ds,f,b,i⟩ _ _ K) ?_;simp only[aX] at j;simp only[yB,Out.run,ae] at c;simp only[ae,ai,aC6,at3,aC7];refine⟨fun k=>⟨⟨l,k⟩,?_⟩,fun k=>?_⟩
 ·have e:i.toNat<ds.length:=by omega
  have r:nth ds i.toNat∈ds:=by rw[aV ds _ e];exact List.getElem_mem _
  rw[aD6 e,←aV ds i.toNat e] at c;simp only[List.any_cons,Ld] at c;have p:(∀h:((ds.drop (i.toNat+1)).any Ld=true->K .ret (sp 62 [(2, .int 0)] []))/\((ds.drop (i.toNat+1)).any Ld=false->K (.exit 0) (sp 62 [(1, .ptr 0 0 [] 0),(3, .int b)] [.box 25 (Mo ⟨ds,f,b,i⟩)])),∃m,m<ds.length - i.toNat/\eW KE C7 yB (fun a=>a.ds.length - a.i.toNat) K m (sp 62 [(1, .ptr 0 0 [] 0),(3, .int b),(4, .int (IntKind.wrap .i64 (i+1)))] [.box 25 (Mo ⟨ds,f,b,i⟩)])):=by
   intro h;rw[az (n:=i+1) (by omega) (by omega)];refine⟨_,?_,⟨ds,f,b,i+1⟩,rfl,⟨by simpa[aX] using j,d,by simp only;omega,by simp only;omega⟩,rfl,?_⟩
   ·simp only;omega
   ·simp only[yB,Out.run,ae,show(i+1).toNat=i.toNat+1 by omega]
    exact h
  refine⟨fun o=>c.1 (by rw[aD1 (show(1000:Int)<_ from o)];rfl),fun o=>⟨⟨l,k⟩,d _ r,fun g=>c.1 (by rw[g];simp),fun g=>p ?_⟩⟩;rw[aC9 (show ¬ (1000:Int)<_ from o),g] at c;exact c
 ·rw[aD3 (by omega)] at c
  exact c.2 rfl
noncomputable def Br κ:=(St κ).an 29 3 (aG 0 KE C7 yB)
theorem at7 κ:aE (Br κ):=(e37 _).an (m37 _) (ax3 _)
theorem ae3 κ:aj (Br κ):=(m37 _).an aK
abbrev Rf a:=sp 62 [(1, .ptr 0 0 [] 0),(3, .int a.left),(5, .int a.i)] [.box 25 (Mo a)]
theorem aA4 κ a I n K:(vc (Br κ) 12 29 none 0 (ad (Pr κ).toProgram 29 8) (Rf a) (bg (Br κ) 29 8 0 I n K))=(
 letI c:=.agg [.ah 43 a.ds,.ah 48 a.rs]
 letI d:=K (.exit 2) (sp 62 [(1,.ptr 0 0 [] 0),(3,AV.int a.left)] [.box 25 c])
 letI b:=nth a.rs a.i.toNat
 letI e:=a.i<↑(a.rs.length)
 aq (decide e) (aq (decide (a.left>=0)) (aW (decide (0<=a.i)&&decide e) (aW (decide (0<=a.left)&&decide (a.left<=100000)) (∃e0,e0<n/\I e0 (sp 62 [(1,.ptr 0 0 [] 0),(3,.lit (.int .i64 (oP {head:={rel:=toStr (af (af b 0) 0),l:=aa (ag (af (af b 0) 1))},body:=dI (ag (af b 1))} a.left))),(5,AV.int (IntKind.wrap .i64 (a.i+1)))] [.box 25 c])))) d) d):=by kernel_rfl
def Kh(a:WB):= -1<=a.left/\a.i+a.left<=100000/\0<=a.i/\a.i<=a.rs.length
def CJ(a:WB):Out (Exit×S):= .one (.exit 2,sp 62 [(1, .ptr 0 0 [] 0),(3, .int (oO ((a.rs.drop a.i.toNat).map y1) a.left))] [.box 25 (Mo a)])
theorem ax4 κ:aU (Br κ) 12 29 8 (aG 0 Rf Kh CJ):=by
 refine aC (fun a=>a.rs.length - a.i.toNat) ?_;rintro⟨ds,c,b,i⟩ K ⟨l,k,h,j⟩ d;simp only at l k h j;rw[show(Br κ).P=Pr κ from rfl];refine Eq.mpr (aA4 κ ⟨ds,c,b,i⟩ _ _ K) ?_;simp only[CJ,Out.run] at d;by_cases g:i<c.length
 ·have f:i.toNat<c.length:=by omega
  rw[aD6 f,←aV c i.toNat f,aE4,oO] at d;by_cases e:b>=0
  ·have m:=zb (y1 (nth c i.toNat)) b e
   rw[aD1 (show 0<=b from e),aD2] at d;rw[aD1 (show i<(c.length:Int) from g),aD1 e,az (n:=i+1) (by omega) (by omega)];simp only[aq,ai,aC6,at3];refine⟨⟨h,trivial⟩,⟨trivial,by omega⟩,_,?_,⟨ds,c,oP (y1 (nth c i.toNat)) b,i+1⟩,rfl,⟨by simp only;omega,by simp only;omega,by simp only;omega,by simp only;omega⟩,rfl,?_⟩
   ·simp only;omega
   ·simp only[CJ,Out.run,show(i+1).toNat=i.toNat+1 by omega]
    exact d
  ·rw[aC9 (show ¬ 0<=b from e),aD0] at d
   rw[aD1 (show i<(c.length:Int) from g),aC9 e];exact d
 ·rw[aD3 (by omega)] at d
  rw[aC9 (show ¬ i<(c.length:Int) from g)];exact d
noncomputable def Nw κ:=(Br κ).an 29 8 (aG 0 Rf Kh CJ)
theorem au0 κ:aE (Nw κ):=(at7 _).an (ae3 _) (ax4 _)
theorem ae4 κ:aj (Nw κ):=(ae3 _).an aK
theorem y22 κ ds rs K:(a8 (Nw κ) 12 29 [.agg [.ah 43 ds, .ah 48 rs]] [] K)=(
 letI a:=AV.ptr 0 0 []
 letI b:=AV.int
 letI c:=AV.ah
 letI d:=K (b 0) []
 letI e:=Pg.toProgram (Env.P (St κ))
 letI f:=Pg.toProgram (Env.P (Br κ))
 ad e 29 3=ad e 29 3/\∃(e1:WB),letI g:=[Obj.box 25 (AV.agg [c 43 e1.ds,c 48 e1.rs])];sp 62 [(1,a 0),(3,b 2000),(4,b 0)] [Obj.box 25 (AV.agg [c 43 ds,c 48 rs])]=sp 62 [(1,a 0),(3,b e1.left),(4,b e1.i)] g/\(e1.ds.length<=9223372036854775807/\(∀(e0:AV),List.Mem e0 e1.ds->List.length (ag (af e0 1))<=9223372036854775807)/\(0:Int)<=e1.i/\e1.i<=(↑(e1.ds.length):Int))/\aq (List.any (List.drop e1.i.toNat e1.ds) Ld) d (ad f 29 8=ad f 29 8/\∃(e0:WB),sp 62 [(1,a 0),(3,b e1.left),(5,b 0)] g=sp 62 [(1,a 0),(3,b e0.left),(5,b e0.i)] [Obj.box 25 (AV.agg [c 43 e0.ds,c 48 e0.rs])]/\((-1:Int)<=e0.left/\e0.i+e0.left<=(100000:Int)/\(0:Int)<=e0.i/\e0.i<=(↑(e0.rs.length):Int))/\aq (decide (oO (List.map y1 (List.drop e0.i.toNat e0.rs)) e0.left<(0:Int))) d (aq (decide ((↑(e0.ds.length):Int)>(100:Int))) d (aq (decide ((↑(e0.rs.length):Int)>(300:Int))) d (K (b 1) []))))):=by kernel_rfl
def g22:List AV->Option (Bool×AV)
 |[.agg [.ah 43 ds, .ah 48 a]]=>some (decide (ds.length<=aX)&&ds.all fun d=>decide ((ag (af d 1)).length<=aX), .int (bif oA ds a then 1 else 0))
 |_=>none
theorem p22 κ:cm (Nw κ) 12 29 g22:=by
 intro c x a;unfold g22 at a;split at a
 ·rename_i ds b
  simp only[aC8,aD4,aC6,at3,List.all_eq_true] at a;obtain⟨⟨f,d⟩,rfl⟩:=a;refine⟨_,rfl,rfl,?_⟩;refine Eq.mpr (y22 κ ds b _) ?_;refine⟨rfl,⟨ds,b,2000,0⟩,rfl,⟨f,d,by simp only;omega,by simp only;omega⟩,?_⟩;simp only[Int.toNat_zero,aD5,ae];refine⟨fun e=>?_,fun e=>⟨trivial,⟨ds,b,2000,0⟩,rfl,⟨by simp only;omega,by simp only;omega,by simp only;omega,by simp only;omega⟩,?_⟩⟩
  ·unfold oA;rw[e];rfl
  ·simp only[Int.toNat_zero,aD5,at3,aC7]
   grind [oA,decide_eq_false,oO,y1,decide_eq_true]
 ·cases a
noncomputable def E22 κ:=(Nw κ).aO 29 g22
theorem e22 κ:aE (E22 κ):=(au0 _).aO (ae4 _) (p22 _)
theorem m22 κ:aj (E22 κ):=(ae4 _).aO
end Go.Proofs.YtioeffnadipbaaaGreatDoor
namespace Go.Proofs.YtioeffnadipbaaaGreatDoor
open Go Go.Dn Go.Rl Go.Proofs
noncomputable abbrev E15(κ:Kp):Env:=E22 κ
theorem e15(κ:Kp):aE (E15 κ):=e22 κ
theorem m15(κ:Kp):aj (E15 κ):=m22 κ
theorem o6{b c}(h:b=c):AV.bool b= .lit (.bool c):=by grind
theorem ZB(a b:Int):(a==b)=decide (a=b):=rfl
theorem Od(a b:Int):(a != b)= !decide (a=b):=rfl
structure AT where
 op:Int
 s:ByteArray
 n:Int
 l:List AV
def AT.tm(a:AT):Tm:= .mk a.op a.s a.n (aa a.l)
def dQ(x:AV):AT:=⟨toInt (af x 0),toStr (af x 1),toInt (af x 2),ag (af x 3)⟩
theorem gn x:(dQ x).tm=cx x:=by rw[cI];rfl
abbrev dA(a:AT):AV:= .agg [.int a.op, .lit (.string a.s), .int a.n, .ah 38 a.l]
theorem M8{a}(h:du a):(bK (aL a)).length<=100000:=by
 have b:=cZ (aa (bp 38 a.hl a.bl));rw[jw _ _ _ _] at b;have c:=lB (eL (aL a)) [];unfold bK;cases ba _
 ·simp
 ·exact Nat.le_trans c (Nat.le_trans b h.1)
end Go.Proofs.YtioeffnadipbaaaGreatDoor
