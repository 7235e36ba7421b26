import Derived.Test.YtioeffnadipbaaaGreatDoorDeP3
import Derived.Test.YtioeffnadipbaaaGreatDoorDeP1
namespace Go.Proofs.YtioeffnadipbaaaGreatDoor
open Go Go.Dn Go.Rl Go.Proofs
attribute [local irreducible] a8 vc
set_option maxRecDepth 20000
theorem x65 κ l s i I n K:(vc (Pd κ) 12 189 none 0 (ah (Pr κ).toProgram 189 2) (sp 19 [(0, .ad 9 l),(1, .lit (.string s)),(7, .int l.length),(8, .int i)] []) (bh (Pd κ) 189 2 0 I n K))=(
 letI a:=i<(↑(l.length):Int)
 an (decide a) (aG (decide ((0:Int)<=i)&&decide a) (an (ByteArray.toList s==ByteArray.toList (toStr (nth l i.toNat))) (K Exit.ret (sp 19 [(4,AV.int i)]
 [])) (∃(e0:Nat),e0<n/\I e0 (sp 19 [(0,AV.ad 9 l),(1,AV.str s),(7,AV.int (↑(l.length):Int)),(8,AV.int (IntKind.wrap IntKind.i64 (i+(1:
 Int))))] [])))) (K (Exit.exit 0) (sp 19 [] []))):=by kernel_rfl
abbrev YM(a:List _×ByteArray×Int):=sp 19 [(0, .ad 9 a.1),(1, .lit (.string a.2.1)),(7, .int a.1.length),(8, .int a.2.2)] []
def NC(a:List AV×ByteArray×Int):=a.1.length<=aU/\0<=a.2.2/\a.2.2<=a.1.length
def Hj(a:List AV×ByteArray×Int):Out (Exit×S):= .an (decide (ee a.2.1 (a.1.drop a.2.2.toNat) a.2.2>=0)) (.one (.ret,sp 19 [(4, .int (ee a.2.1 (a.1.drop a.2.2.toNat) a.2.2))] [])) (.one (.exit 0,sp 19 [] []))
theorem l65 κ:aP (Pd κ) 12 189 2 (aI 0 YM NC Hj):=by
 refine aD (fun a=>a.1.length - a.2.2.toNat) ?_;rintro⟨l,s,i⟩ K ⟨d,c,g⟩ b;simp only at d c g;rw[show(Pd κ).P=Pr κ from rfl];refine Eq.mpr (x65 κ l s i _ _ K) ?_;simp only[aU] at d;simp only[Hj,Out.run,ag] at b;simp only[ag,ai,an2,an4,an3];refine⟨fun f=>⟨⟨c,f⟩,fun e=>?_,fun e=>?_⟩,fun f=>?_⟩
 ·rw[ao3 (show i.toNat<l.length by omega),←aJ l i.toNat (by omega),ee,show oh s (toStr (nth l i.toNat))=true from e,an9,an8 (show i>=0 from c)] at b
  exact b.1 rfl
 ·rw[ay (n:=i+1) (by omega) (by omega)]
  refine⟨_,?_,(l,s,i+1),rfl,⟨by simpa[aU] using d,by simp only;omega,by simp only;omega⟩,rfl,?_⟩
  ·simp only;omega
  ·rw[ao3 (show i.toNat<l.length by omega),←aJ l i.toNat (by omega),ee,show oh s (toStr (nth l i.toNat))=false from e,an7] at b
   simp only[Hj,Out.run,ag,show(i+1).toNat=i.toNat+1 by omega];exact b
 ·rw[ao0 (by omega)] at b
  exact b.2 rfl
noncomputable def La κ:=(Pd κ).aq 189 2 (aI 0 YM NC Hj)
theorem ae3 κ:aF (La κ):=(e39 _).aq (m39 _) (l65 _)
theorem Xo κ:aj (La κ):=(m39 _).aq a0
theorem y65 κ l s K:(a8 (La κ) 12 189 [.ad 9 l, .lit (.string s)] [] K)=(
 letI b:=AV.int
 ah (Pg.toProgram (Env.P (Pd κ))) 189 2=ah (Pg.toProgram (Env.P (Pd κ))) 189 2/\∃(a:List AV×ByteArray×Int),letI c:=List.drop (Int.toNat a.2.2) a.1;sp 19 [(0,AV.ad 9 l),(1,AV.str s),(7,b (↑(l.length):Int)),(8,b 0)] []=sp 19 [(0,AV.ad 9 a.1),(1,AV.str a.2.1),(7,b (↑(a.1.length):Int)),(8,b a.2.2)] []/\(a.1.length<=9223372036854775807/\(0:Int)<=a.2.2/\a.2.2<=(↑(a.1.length):Int))/\an (decide (ee a.2.1 c a.2.2>=(0:Int))) (K (b (ee a.2.1 c a.2.2)) []) (K (b (-1)) [])):=by kernel_rfl
def g65:List AV->Option (Bool×AV)
 |[.ad 9 l, .lit (.string s)]=>some (decide (l.length<=aU), .int (ee s l 0))
 |_=>none
theorem xB s: ∀l i,¬ ee s l i>=0->0<=i->ee s l i= -1
 |[],_,_,_=>rfl
 |a::l,i,h,b=>by
  simp only[ee] at h⊢;cases e:oh s _ with
  |true=>grind
  |false=>rw[e] at h;exact xB s l _ h (by omega)
theorem p65 κ:cg (La κ) 12 189 g65:=by
 intro b x a;unfold g65 at a;split at a
 ·rename_i l s
  simp only[an5,ao1,an2] at a;obtain⟨c,rfl⟩:=a;refine⟨_,rfl,rfl,?_⟩;refine Eq.mpr (y65 κ l s _) ?_;refine⟨rfl,(l,s,0),rfl,⟨c,by simp only;omega,by simp only;omega⟩,?_⟩
  simp_all[Int.toNat_zero,ao2,ag,an2,trivial,xB]
 ·cases a
noncomputable def V5 κ:=(La κ).aV 189 g65
theorem e65 κ:aF (V5 κ):=(ae3 _).aV (Xo _) (p65 _)
theorem m65 κ:aj (V5 κ):=(Xo _).aV
theorem y63 κ l s K:(a8 (V5 κ) 12 164 [.ad 9 l, .lit (.string s)] [] K)=(
 aG (decide (l.length<=9223372036854775807)) (K (AV.bool (decide (ee s l (0:Int)>=(0:Int)))) [])):=by kernel_rfl
def g63:List AV->Option (Bool×AV)
 |[.ad 9 l, .lit (.string s)]=>some (decide (l.length<=aU), .bool (decide (ee s l 0>=0)))
 |_=>none
theorem p63 κ:cg (V5 κ) 12 164 g63:=by
 intro b x a;unfold g63 at a;split at a
 ·rename_i l s
  simp   at a;obtain⟨c,rfl⟩:=a;refine⟨_,rfl,rfl,?_⟩;refine Eq.mpr (y63 _ l s _) ?_;rw[ai,an2];exact⟨c,rfl⟩
 grind
noncomputable def V4 κ:=(V5 κ).aV 164 g63
theorem e63 κ:aF (V4 κ):=(e65 _).aV (m65 _) (p63 _)
theorem m63 κ:aj (V4 κ):=(m65 _).aV
theorem y24 κ a k K:(a8 (V4 κ) 12 113 [aw a, .int k] [] K)=(
 letI b:=AV.int
 letI c:=AV.agg
 letI d:=AV.str
 letI e:=AV.ad
 letI f:=nth a.bl k.toNat
 letI h:=∃(e1:List AV),letI g:=ar (ae e1);([e 38 [c [b (toInt (af (af f 2) 0)),d (toStr (af (af f 2) 1)),b (toInt (af (af f 2) 2)),e 38 (aa (af (af f 2) 3))]]],aO)=([e 38 e1],aO)/\bE e1/\∃(e0:dt×Int),letI i:=ep (aH e0.1) e0.2.toNat;([aw a,b k],aO)=([aw e0.1,b e0.2],aO)/\(ba (aH e0.1)=true/\(aM (ae (bk 38 e0.1.hl e0.1.bl))<=100000/\e0.1.bl.length<=100000)/\(0:Int)<=e0.2/\e0.2<(↑(e0.1.bl.length):Int))/\aG (decide ((List.length g+List.length (strs i)+1)*17<=70368744177664)) (K (e 9 (List.take (List.length g+List.length (strs i)) (List.drop 0 (List.take (List.length g) (strs g)++strs i)))) [])
 aG (decide ((0:Int)<=k)&&decide (k<(↑(a.bl.length):Int))) (an (decide ((7:Int)<=toInt (af f 0))) ((h/\h)/\h) (∃(e0:LA),([c [b
 (toInt (af f 0)),c [d (toStr (af (af f 1) 0)),e 38 (aa (af (af f 1) 1))],c [b (toInt (af (af f 2) 0)),d (toStr (af (af f
 2) 1)),b (toInt (af (af f 2) 2)),e 38 (aa (af (af f 2) 3))],c [b (toInt (af (af f 3) 0)),d (toStr (af (af f 3) 1)),b
 (toInt (af (af f 3) 2)),e 38 (aa (af (af f 3) 3))]]],aO)=([c [b e0.op,c [d e0.s,e 38 e0.l],c [b e0.o1,d
 e0.s1,b e0.n1,e 38 e0.l1],c [b e0.o2,d e0.s2,b e0.n2,e 38 e0.l2]]],aO)/\gE e0/\K (e 9 (List.take (List.length (ew
 (LA.lt e0))) (List.drop 0 (strs (ew (LA.lt e0)))))) []))):=by kernel_rfl
def RV(a:dt×Int):Out (AV×List Dn.Obj):= .one (.ad 9 (strs (cW (aH a.1) a.2.toNat)),[])
theorem Iy l:aM [l.x]<=jh l:=by
 grind [jh,aM]
theorem Iz x:ae [qo 38 (af x 2)]=[(c9 x).x]:=by
 simp[ae,sV];rfl
theorem tH{a}(h:dk a) k:(ep (aH a) k).length<=100000:=by
 have d:(fS (aH a)).length<=100000:=by
  have b:=cU (ae (bk 38 a.hl a.bl));rw[iU _ _ _ _] at b;exact Nat.le_trans b h.1
 have c:=kU (fS (aH a));refine Nat.le_trans (List.length_filter_le _ _) ?_
 grind [dm]
theorem c24 κ:bq (V4 κ) 12 113 (aX QZ BF RV):=by
 refine a7 ?_;rintro⟨a,k⟩ K ⟨h,d,f,g⟩ l;refine Eq.mpr (y24 κ a k K) ?_;simp only at h d f g;have i:k.toNat<a.bl.length:=by omega
 have c:=ly d i;have n:=cU [(c9 (nth a.bl k.toNat)).x];have m:=Iy (c9 (nth a.bl k.toNat));have b:K (.ad 9 (strs (cW (aH a) k.toNat))) []:=l;unfold cW at b;rw[show(aH a).body=dB a.bl from rfl,kJ _ i,show(c9 (nth a.bl k.toNat)).op=toInt (af (nth a.bl k.toNat) 0) from rfl] at b;simp only[and_self];rw[ai,an3,an2,an2,ag,an2,an4];refine⟨⟨f,g⟩,fun e=>?_,fun e=>?_⟩
 ·rw[an8 e] at b
  refine⟨[qo 38 (af (nth a.bl k.toNat) 2)],rfl,by simp only[bE,Iz];omega,(a,k),rfl,⟨h,d,f,g⟩,?_⟩;have j:=tH d k.toNat;simp only[Iz,aR,ao2,c6,ai,an2];refine⟨by omega,?_⟩;rw[←iz,List.take_of_length_le (by simp[aR])];exact b
 ·rw[an6 e] at b
  refine⟨tv (nth a.bl k.toNat),rfl,by rw[gE,eG];exact c,?_⟩;simp only[eG,ao2,c6];exact b
noncomputable def VZ κ:=(V4 κ).aB 113 (aX QZ BF RV)
theorem e24 κ:aF (VZ κ):=(e63 _).aB (m63 _) (c24 _)
theorem m24 κ:aj (VZ κ):=(m63 _).aB aZ
theorem y52(κ:Kp)(a:dt)(k:Int) es K:(a8 (VZ κ) 12 191 [.mp 0,aw a, .int k] [.map 9 4 es] K)=(
 letI b:=AV.int
 letI c:=AV.agg
 letI d:=AV.bool
 letI e:=AV.str
 letI f:=Dn.Obj.map
 letI g:=AV.ad
 letI h:=AV.mp
 letI i:=nth a.bl k.toNat
 letI t:=toStr (af (af i 3) 1)
 letI u:=aa (af (af i 1) 1)
 letI x:=toStr (af (af i 1) 0)
 letI y:=toInt (af (af i 2) 0)
 letI z:=toStr (af (af i 2) 1)
 letI l:=toInt (af (af i 2) 2)
 letI m:=toInt (af (af i 3) 0)
 letI n:=toInt (af (af i 3) 2)
 letI o:=aa (af (af i 2) 3)
 letI p:=aa (af (af i 3) 3)
 letI j:=Value×AV
 letI v:=∃(e3:dt×Int),([aw a,b k],aO)=([aw e3.1,b e3.2],aO)/\(ba (aH e3.1)=true/\(aM (ae (bk 38 e3.1.hl e3.1.bl))<=100000/\e3.1.bl.length<=100000)/\(0:Int)<=e3.2/\e3.2<(↑(e3.1.bl.length):Int))/\∃(e2:List AV×List j),letI q:=[f 9 4 e2.2];([h 0,g 9 (strs (ep (aH e3.1) e3.2.toNat))],[f 9 4 es])=([h 0,g 9 e2.1],q)/\bm e2/\an (gB e2.2 e2.1) (∃(e1:ByteArray×List AV),([c [e x,g 38 u]],aO)=([c [e e1.1,g 38 e1.2]],aO)/\kk e1/\∃(e0:List AV×List j),([h 0,g 9 (List.take (List.length (dQ (ae e1.2))) (List.drop 0 (strs (dQ (ae e1.2)))))],q)=([h 0,g 9 e0.1],[f 9 4 e0.2])/\bm e0/\K (d (gB e0.2 e0.1)) [f 9 4 e0.2]) (K (d false) q)
 letI A:=∃(e1:LA),([c [b (toInt (af i 0)),c [e x,g 38 u],c [b y,e z,b l,g 38 o],c
  [b m,e t,b n,g 38 p]]],aO)=([c [b e1.op,c [e e1.s,g 38 e1.l],c [b e1.o1,e e1.s1,
  b e1.n1,g 38 e1.l1],c [b e1.o2,e e1.s2,b e1.n2,g 38 e1.l2]]],aO)/\gE e1/\∃(e0:List AV×List j),([h 0,g
  9 (List.take (List.length (ew (LA.lt e1))) (List.drop 0 (strs (ew (LA.lt e1)))))],[f 9 4 es])=([h 0,g 9 e0.1],[f 9 4 e0.2])/\bm
  e0/\K (d (gB e0.2 e0.1)) [f 9 4 e0.2]
 letI B:=∃(e4:List AV),letI w:=List.take (List.length (ar (ae e4))) (List.drop 0 (strs (ar (ae e4))));([g 38 u],aO)=([g 38 e4],aO)/\bE e4/\aG (decide (List.length w<=9223372036854775807)) (an (decide (ee t w (0:Int)>=(0:Int))) v (K (d false) [f 9 4 es]))
 aG (decide ((0:Int)<=k)&&decide (k<(↑(a.bl.length):Int))) (an (toInt (af i 0)==(1:Int)) (∃(e1:ByteArray×List AV),([c [e x,g 38 u]],aO)=([c [e e1.1,g 38 e1.2]],aO)/\kk e1/\∃(e0:List AV×List j),([h 0,g 9 (List.take (List.length (dQ (ae e1.2))) (List.drop 0 (strs (dQ (ae e1.2)))))],[f 9 4 es])=([h 0,g 9 e0.1],[f 9 4 e0.2])/\bm e0/\K (d (gB e0.2 e0.1)) [f 9 4 e0.2]) (an (toInt (af i 0)==(3:Int)) (∃(e3:TA),letI r:=[f 9 4 e3.es];([h 0,c [b y,e z,b l,g 38 o],c [b m,e t,b n,g 38 p]],[f 9 4 es])=([h 0,c [b e3.o1,e e3.s1,b e3.n1,g 38 e3.l1],c [b e3.o2,e e3.s2,b e3.n2,g 38 e3.l2]],r)/\jr e3/\an (mi e3.es (TA.x e3) (TA.y e3)) (K (d true) r) (∃(e2:TA),letI s:=[f 9 4 e2.es];([h 0,c [b m,e t,b n,g 38 p],c [b y,e z,b l,g 38 o]],r)=([h 0,c [b e2.o1,e e2.s1,b e2.n1,g 38 e2.l1],c [b e2.o2,e e2.s2,b e2.n2,g 38 e2.l2]],s)/\jr e2/\an (mi e2.es (TA.x e2) (TA.y e2)) (K (d true) s) (∃(e1:LA),([c [b (toInt (af i 0)),c [e x,g 38 u],c [b y,e z,b l,g 38 o],c [b m,e t,b n,g 38 p]]],aO)=([c [b e1.op,c [e e1.s,g 38 e1.l],c [b e1.o1,e e1.s1,b e1.n1,g 38 e1.l1],c [b e1.o2,e e1.s2,b e1.n2,g 38 e1.l2]]],aO)/\gE e1/\∃(e0:List AV×List j),([h 0,g 9 (List.take (List.length (ew (LA.lt e1))) (List.drop 0 (strs (ew (LA.lt e1)))))],s)=([h 0,g 9 e0.1],[f 9 4 e0.2])/\bm e0/\K (d (gB e0.2 e0.1)) [f 9 4 e0.2]))) (an (toInt (af i 0)==(2:Int)) A (an (toInt (af i 0)==(4:Int)) A (an (toInt (af i 0)==(5:Int)) A (an (toInt (af i 0)==(6:Int)) A (an (toInt (af i 0)==(7:Int)) (v/\v/\v/\v) (B/\B/\B/\B))))))))):=by kernel_rfl
def YJ(a:dt×Int×List ByteArray):List AV×List Dn.Obj:=([.mp 0,aw a.1, .int a.2.1],[.map 9 4 (bP a.2.2)])
def NA(a:dt×Int×List ByteArray):=ba (aH a.1)=true/\dk a.1/\0<=a.2.1/\a.2.1<a.1.bl.length
def RY(a:dt×Int×List ByteArray):Out (AV×List Dn.Obj):= .one (.bool (o8 a.2.2 (aH a.1) a.2.1.toNat),[.map 9 4 (bP a.2.2)])
theorem B0 x y a:(TA.mk (toInt (af x 0)) (toStr (af x 1)) (toInt (af x 2)) (aa (af x 3)) (toInt (af y 0)) (toStr (af y 1)) (toInt (af y 2)) (aa (af y 3)) a).x=bX x:=by rw[cF];rfl
theorem px x y a:(TA.mk (toInt (af x 0)) (toStr (af x 1)) (toInt (af x 2)) (aa (af x 3)) (toInt (af y 0)) (toStr (af y 1)) (toInt (af y 2)) (aa (af y 3)) a).y=bX y:=by rw[cF];rfl
def mr x y a:=TA.mk (toInt (af x 0)) (toStr (af x 1)) (toInt (af x 2)) (aa (af x 3)) (toInt (af y 0)) (toStr (af y 1)) (toInt (af y 2)) (aa (af y 3)) a
theorem c52 κ:bq (VZ κ) 12 191 (aX YJ NA RY):=by
 refine a7 ?_;rintro⟨a,k,b⟩ K ⟨r,h,i,n⟩ B;refine Eq.mpr (y52 κ a k (bP b) K) ?_;simp only at r h i n;have A:k.toNat<a.bl.length:=by omega
 have d:=ly h A;have c:K (.bool (o8 b (aH a) k.toNat)) [.map 9 4 (bP b)]:=B;unfold o8 at c;rw[show(aH a).body=dB a.bl from rfl,kJ _ A,show(c9 (nth a.bl k.toNat)).op=toInt (af (nth a.bl k.toNat) 0) from rfl,show(c9 (nth a.bl k.toNat)).a.l=ae (aa (af (af (nth a.bl k.toNat) 1) 1)) from rfl,
  show(c9 (nth a.bl k.toNat)).x=bX (af (nth a.bl k.toNat) 2) from rfl,show(c9 (nth a.bl k.toNat)).y=bX (af (nth a.bl k.toNat) 3) from rfl] at c
 have t:jh (c9 (nth a.bl k.toNat))=aM [bX (af (nth a.bl k.toNat) 2),bX (af (nth a.bl k.toNat) 3)]+aM (ae (aa (af (af (nth a.bl k.toNat) 1) 1))):=rfl;have f:aM (ae (aa (af (af (nth a.bl k.toNat) 1) 1)))<=100000:=by omega
 have g:aM [bX (af (nth a.bl k.toNat) 2)]<=100000/\aM [bX (af (nth a.bl k.toNat) 3)]<=100000:=by
  simp only[aM] at t⊢;omega
 have F:=cU (ae (aa (af (af (nth a.bl k.toNat) 1) 1)));have C:=Dm (ae (aa (af (af (nth a.bl k.toNat) 1) 1)));have D:=tH h k.toNat;have E:(ew (c9 (nth a.bl k.toNat))).length<=100000:=by
  have m:=cU [(c9 (nth a.bl k.toNat)).x,(c9 (nth a.bl k.toNat)).y];have j:=cU (c9 (nth a.bl k.toNat)).a.l;simp only[ew,jh,ao6] at d⊢;omega
 simp only[and_self];rw[ai,an3,an2,an2];refine⟨⟨i,n⟩,?_⟩;rw[ag,beq_iff_eq,beq_eq_false_iff_ne];refine⟨fun m=>?_,fun m=>?_⟩
 ·rw[an8 m,an9] at c
  refine⟨(toStr (af (af (nth a.bl k.toNat) 1) 0),aa (af (af (nth a.bl k.toNat) 1) 1)),rfl,f,(strs (dQ (ae (aa (af (af (nth a.bl k.toNat) 1) 1)))),bP b),by simp only[ao2,c6],by simp only[bm,aR,aU];omega,?_⟩;simp only[fm];exact c
 rw[an6 m,an7] at c;rw[ag,beq_iff_eq,beq_eq_false_iff_ne];refine⟨fun j=>?_,fun j=>?_⟩
 ·rw[an8 j,an9] at c
  refine⟨mr (af (nth a.bl k.toNat) 2) (af (nth a.bl k.toNat) 3) (bP b),rfl,by unfold jr mr;rw[px];exact g.2,?_⟩;unfold mr;rw[B0,px,pM];rw[ag];refine⟨fun e=>by rw[e] at c;exact c,fun e=>?_⟩;rw[e,Bool.false_or] at c;refine⟨mr (af (nth a.bl k.toNat) 3) (af (nth a.bl k.toNat) 2) (bP b),rfl,by unfold jr mr;rw[px];exact g.1,?_⟩;unfold mr;rw[B0,px,pM,ag];refine⟨fun p=>by rw[p] at c;exact c,fun p=>?_⟩;rw[p,Bool.false_or] at c;exact⟨tv (nth a.bl k.toNat),rfl,by rw[gE,eG];exact d,(strs (ew (tv (nth a.bl k.toNat)).lt),bP b),by simp only[ao2,c6],by simp only[bm,aR,aU];rw[eG];omega,by simp only[fm,eG];exact c⟩
 rw[an6 j,an7] at c;rw[ag,beq_iff_eq,beq_eq_false_iff_ne];refine⟨fun u=>?_,fun u=>?_⟩
 ·rw[an8 u] at c
  simp only[Bool.true_or,Bool.or_true,an9] at c;exact⟨tv (nth a.bl k.toNat),rfl,by rw[gE,eG];exact d,(strs (ew (tv (nth a.bl k.toNat)).lt),bP b),by simp only[ao2,c6],by simp only[bm,aR,aU];rw[eG];omega,by simp only[fm,eG];exact c⟩
 rw[ag,beq_iff_eq,beq_eq_false_iff_ne];refine⟨fun q=>?_,fun q=>?_⟩
 ·rw[an8 q] at c
  simp only[Bool.true_or,Bool.or_true,an9] at c;exact⟨tv (nth a.bl k.toNat),rfl,by rw[gE,eG];exact d,(strs (ew (tv (nth a.bl k.toNat)).lt),bP b),by simp only[ao2,c6],by simp only[bm,aR,aU];rw[eG];omega,by simp only[fm,eG];exact c⟩
 rw[ag,beq_iff_eq,beq_eq_false_iff_ne];refine⟨fun w=>?_,fun w=>?_⟩
 ·rw[an8 w] at c
  simp only[Bool.true_or,Bool.or_true,an9] at c;exact⟨tv (nth a.bl k.toNat),rfl,by rw[gE,eG];exact d,(strs (ew (tv (nth a.bl k.toNat)).lt),bP b),by simp only[ao2,c6],by simp only[bm,aR,aU];rw[eG];omega,by simp only[fm,eG];exact c⟩
 rw[ag,beq_iff_eq,beq_eq_false_iff_ne];refine⟨fun v=>?_,fun v=>?_⟩
 ·rw[an8 v] at c
  simp only[Bool.true_or,Bool.or_true,an9] at c;exact⟨tv (nth a.bl k.toNat),rfl,by rw[gE,eG];exact d,(strs (ew (tv (nth a.bl k.toNat)).lt),bP b),by simp only[ao2,c6],by simp only[bm,aR,aU];rw[eG];omega,by simp only[fm,eG];exact c⟩
 rw[an6 u,an6 q,an6 w,an6 v] at c;simp only[Bool.false_or,an7] at c;rw[ag,beq_iff_eq,beq_eq_false_iff_ne];refine⟨fun z=>?_,fun z=>?_⟩
 ·rw[an8 z,Bool.true_or,ao7] at c
  refine⟨(a,k),rfl,⟨r,h,i,n⟩,(strs (ep (aH a) k.toNat),bP b),rfl,by simp only[bm,aR,aU];omega,ag.2 ⟨fun e=>⟨(toStr (af (af (nth a.bl k.toNat) 1) 0),aa (af (af (nth a.bl k.toNat) 1) 1)),rfl,f,(strs (dQ (ae (aa (af (af (nth a.bl k.toNat) 1) 1)))),bP b),by simp only[ao2,c6],by simp only[bm,aR,aU];omega,?_⟩,fun e=>?_⟩⟩
  ·rw[fm] at e
   simp only[fm];rw[e,ao7] at c;exact c
  ·rw[fm] at e
   rw[e,Bool.false_and] at c;exact c
 ·rw[an6 z,Bool.false_or] at c
  refine⟨_,rfl,f,?_⟩;have H:=zA (toStr (af (af (nth a.bl k.toNat) 3) 1)) (ar (ae (aa (af (af (nth a.bl k.toNat) 1) 1)))) 0 (by omega);have I:(bX (af (nth a.bl k.toNat) 3)).s=toStr (af (af (nth a.bl k.toNat) 3) 1):=by rw[cF];rfl
  simp only[ao2,c6,aR,H];rw[ai,an2,ag];rw[I] at c;refine⟨by omega,fun o=>?_,fun o=>?_⟩
  ·rw[o,ao7] at c
   refine⟨(a,k),rfl,⟨r,h,i,n⟩,(strs (ep (aH a) k.toNat),bP b),rfl,by simp only[bm,aR,aU];omega,ag.2 ⟨fun e=>⟨(toStr (af (af (nth a.bl k.toNat) 1) 0),aa (af (af (nth a.bl k.toNat) 1) 1)),rfl,f,(strs (dQ (ae (aa (af (af (nth a.bl k.toNat) 1) 1)))),bP b),by simp only[ao2,c6],by simp only[bm,aR,aU];omega,?_⟩,fun e=>?_⟩⟩
   ·rw[fm] at e
    simp only[fm];rw[e,ao7] at c;exact c
   ·rw[fm] at e
    rw[e,Bool.false_and] at c;exact c
  ·rw[o,Bool.false_and] at c;exact c
noncomputable def Ph κ:=(VZ κ).aB 191 (aX YJ NA RY)
theorem e52 κ:aF (Ph κ):=(e24 _).aB (m24 _) (c52 _)
theorem m52 κ:aj (Ph κ):=(m24 _).aB aZ
def bZ(l:List Bool):List AV:=l.map fun b=> .lit (.bool b)
theorem jF l:(bZ l).length=l.length:=by simp[bZ]
theorem IQ l k:Dn.toBool (nth (bZ l) k)=Rl.fF l k:=by
 unfold Rl.fF;induction l generalizing k with
 |nil=>rfl
 |cons a l b=>
  cases k with
  |zero=>rfl
  |succ k=>grind [bZ,nth]
structure KC where
 a:dt
 done:List Bool
 b:List ByteArray
 i:Int
 first:Int
abbrev H2(a:KC):=sp 38 [(1, .ax 0 0 (bZ a.done).length),(2, .mp 1),(3, .ptr 2 0 [] 0),(7, .int a.first),(11, .ad 80 a.a.bl),(12, .int a.a.bl.length),(13, .int a.i)] [.row 4 (bZ a.done), .map 9 4 (bP a.b), .box 48 (aw a.a)]
theorem x36(κ:Kp)(a:KC) es I n K:(vc (Ph κ) 12 170 none 2 (ah (Pr κ).toProgram 170 3) (sp 38 [(1, .ax 0 0 (bZ a.done).length),(2, .mp 1),(3, .ptr 2 0 [] 0),(7, .int a.first),(11, .ad 80 a.a.bl),(12, .int a.a.bl.length),(13, .int a.i)] [.row 4 (bZ a.done), .map 9 4 es, .box 48 (aw a.a)]) (bh (Ph κ) 170 3 2 I n K))=(
 letI b:=AV.int
 letI c:=Obj.row
 letI d:=Dn.Obj.map
 letI g:=IntKind.wrap IntKind.i64 (a.i+(1:Int))
 letI f:=List.length (bZ a.done)
 letI e:=List.length a.a.bl
 an (decide (a.i<(↑e:Int))) (aG (decide ((0:Int)<=a.i)&&decide (a.i<(↑e:Int))) (aG (decide ((0:Int)<=a.i)&&decide (a.i<(↑f:Int))) (an (Dn.toBool (nth (bZ a.done) (0+a.i.toNat))) (∃(e0:Nat),e0<n/\I e0 (sp 38 [(1,AV.ax 0 0 f),(2,AV.mp 1),(3,AV.ptr 2 0 [] 0),(7,b a.first),(11,AV.ad 80 a.a.bl),(12,b (↑e:Int)),(13,b g)] [c 4 (bZ a.done),d 9 4 es,Obj.box 48 (aw a.a)])) (∃(e1:dt×Int×List ByteArray),letI h:=[c 4 (bZ a.done),d 9 4 (bP e1.2.2),Obj.box 48 (aw a.a)];letI i:=∃(e0:Nat),e0<n/\I e0 (sp 38 [(1,AV.ax 0 0 f),(2,AV.mp 1),(3,AV.ptr 2 0 [] 0),(7,b a.first),(11,AV.ad 80 a.a.bl),(12,b (↑e:Int)),(13,b g)] h);([AV.mp 0,aw a.a,b a.i],[d 9 4 es])=([AV.mp 0,aw e1.1,b e1.2.1],[d 9 4 (bP e1.2.2)])/\(ba (aH e1.1)=true/\(aM (ae (bk 38 e1.1.hl e1.1.bl))<=100000/\e1.1.bl.length<=100000)/\(0:Int)<=e1.2.1/\e1.2.1<(↑(e1.1.bl.length):Int))/\an (!o8 e1.2.2 (aH e1.1) e1.2.1.toNat) i (an (toInt (af (nth a.a.bl a.i.toNat) 0) != (1:Int)) (K Exit.ret (sp 38 [(6,b a.i)] [c 4 (bZ a.done),d 9 4 (bP e1.2.2)])) (an (decide (a.first<(0:Int))) (∃(e0:Nat),e0<n/\I e0 (sp 38 [(1,AV.ax 0 0 f),(2,AV.mp 1),(3,AV.ptr 2 0 [] 0),(7,b a.i),(11,AV.ad 80 a.a.bl),(12,b (↑e:Int)),(13,b g)] h)) i)))))) (K (Exit.exit 0) (sp 38 [(7,b a.first)] [c 4 (bZ a.done),d 9 4 es]))):=by kernel_rfl
def BD(a:KC):=ba (aH a.a)=true/\dk a.a/\0<=a.i/\a.i<=a.a.bl.length/\a.done.length=a.a.bl.length
def zH(a:KC):=mM (aH a.a) a.done a.b (a.a.bl.length - a.i.toNat) a.i.toNat a.first
def Fv(a:KC):Out (Exit×S):= .all (fun _=>True) fun e=> .an e (.one (.ret,sp 38 [(6, .int (zH a))] [.row 4 (bZ a.done), .map 9 4 (bP a.b)])) (.one (.exit 0,sp 38 [(7, .int (zH a))] [.row 4 (bZ a.done), .map 9 4 (bP a.b)]))
theorem l36 κ:aP (Ph κ) 12 170 3 (aI 2 H2 BD Fv):=by
 refine aD (fun a=>a.a.bl.length - a.i.toNat) ?_;rintro⟨a,done,b,i,c⟩ K ⟨p,j,l,v,r⟩ q;simp only at p j l v r;rw[show(Ph κ).P=Pr κ from rfl];refine Eq.mpr (x36 κ ⟨a,done,b,i,c⟩ (bP b) _ _ K) ?_;have g:=q true trivial;have d:=q false trivial;simp only[Out.run,an,zH] at g d;simp only[Nat.zero_add,IQ];have s:=jF done;have x:=j.2;rw[ag,ai,ai,an3,an3,an2,an2,an2,an4];have w:i<a.bl.length->∀f:Int,mM (aH a) done b (a.bl.length - i.toNat) i.toNat c=mM (aH a) done b (a.bl.length - (i.toNat+1)) (i.toNat+1) f->
   ∃m,m<a.bl.length - i.toNat/\gq H2 BD Fv (fun a=>a.a.bl.length - a.i.toNat) K m (H2 ⟨a,done,b,i+1,f⟩):=by
  intro h f t;refine⟨_,?_,⟨a,done,b,i+1,f⟩,rfl,⟨p,j,by simp only;omega,by simp only;omega,r⟩,rfl,?_⟩
  ·simp only;omega
  ·intro e _
   simp only[Out.run,zH,show(i+1).toNat=i.toNat+1 by omega,←t];cases e
   ·exact d
   ·exact g
 refine⟨fun h=>⟨⟨l,h⟩,⟨l,by omega⟩,?_⟩,fun h=>?_⟩
 ·have k:=Fj (aH a) done b (a.bl.length - (i.toNat+1)) i.toNat c
  rw[show a.bl.length - (i.toNat+1)+1=a.bl.length - i.toNat by omega] at k;have u:i.toNat<a.bl.length:=by omega
  have o:(dZ (aH a).body i.toNat).op=toInt (af (nth a.bl i.toNat) 0):=by
   rw[show(aH a).body=dB a.bl from rfl,kJ _ u];rfl
  rw[o] at k;rw[ay (n:=i+1) (by omega) (by omega),ag];refine⟨fun e=>w h c (by rw[k,e];rfl),fun e=>⟨(a,i,b),rfl,⟨p,j,l,h⟩,?_⟩⟩;rw[e,Bool.false_or] at k;simp only[ag,Bool.not_eq_true',ao4,bne_iff_ne,bne_eq_false_iff_eq,an2,an4]
  grind
 ·rw[show a.bl.length - i.toNat=0 by omega] at d
  exact d
noncomputable def KV κ:=(Ph κ).aq 170 3 (aI 2 H2 BD Fv)
theorem ac6 κ:aF (KV κ):=(e52 _).aq (m52 _) (l36 _)
theorem W9 κ:aj (KV κ):=(m52 _).aq a0
theorem y36 κ(a:KC) K:(a8 (KV κ) 12 170 [aw a.a, .ax 0 0 (bZ a.done).length, .mp 1] [.row 4 (bZ a.done), .map 9 4 (bP a.b)] K)=(
 letI b:=AV.int
 letI c:=Dn.Obj.map
 letI d:=Pg.toProgram (Env.P (Ph κ))
 ah d 170 3=ah d 170 3/\∃(e1:KC),letI e:=K (b (zH e1)) [Obj.row 4 (bZ e1.done),c 9 4 (bP e1.b)];sp 38 [(1,AV.ax 0 0 (List.length (bZ a.done))),(2,AV.mp 1),(3,AV.ptr 2 0 [] 0),(7,b (-1)),(11,AV.ad 80 a.a.bl),(12,b (↑(List.length a.a.bl):Int)),(13,b 0)] [Obj.row 4 (bZ a.done),c 9 4 (bP a.b),Obj.box 48 (aw a.a)]=sp 38 [(1,AV.ax 0 0 (List.length (bZ e1.done))),(2,AV.mp 1),(3,AV.ptr 2 0 [] 0),(7,b e1.first),(11,AV.ad 80 e1.a.bl),(12,b (↑(List.length e1.a.bl):Int)),(13,b e1.i)] [Obj.row 4 (bZ e1.done),c 9 4 (bP e1.b),Obj.box 48 (aw e1.a)]/\(ba (aH e1.a)=true/\(aM (ae (bk 38 e1.a.hl e1.a.bl))<=100000/\List.length e1.a.bl<=100000)/\(0:Int)<=e1.i/\e1.i<=(↑(List.length e1.a.bl):Int)/\e1.done.length=List.length e1.a.bl)/\∀(e0:Bool),True->an e0 e e):=by kernel_rfl
def YG(a:KC):List AV×List Dn.Obj:=([aw a.a, .ax 0 0 (bZ a.done).length, .mp 1],[.row 4 (bZ a.done), .map 9 4 (bP a.b)])
def Ny(a:KC):=ba (aH a.a)=true/\dk a.a/\a.done.length=a.a.bl.length
def RW(a:KC):Out (AV×List Dn.Obj):= .one (.int (aE (aH a.a) a.done a.b),[.row 4 (bZ a.done), .map 9 4 (bP a.b)])
theorem fK a:(aH a).body.length=a.bl.length:=AZ _
theorem c36 κ:bq (KV κ) 12 170 (aX YG Ny RW):=by
 refine a7 ?_;rintro⟨a,done,b,i,d⟩ K ⟨f,g,h⟩ j;refine Eq.mpr (y36 κ _ K) ?_;have c:K _ _:=j;unfold aE at c;rw[fK] at c;refine⟨rfl,⟨a,done,b,0, -1⟩,rfl,⟨f,g,by simp only;omega,by simp only;omega,h⟩,?_⟩;intro e _;cases e
 ·exact c
 ·exact c
noncomputable def Pa κ:=(KV κ).aB 170 (aX YG Ny RW)
theorem e36 κ:aF (Pa κ):=(ac6 _).aB (W9 _) (c36 _)
theorem m36 κ:aj (Pa κ):=(W9 _).aB aZ
def ints(l:List _):=l.map fun(k:Nat)=>AV.lit (.int .i64 k)
theorem sb l:(ints l).length=l.length:=by simp[ints]
theorem L4 l m:ints (l++m)=ints l++ints m:=by simp[ints]
structure VG where
 a:dt
 ks:List Nat
 done:List Bool
 b:List ByteArray
 i:Int
noncomputable abbrev W0(a:dt)(κ:Kp):Dn.Obj:=
 .loop (iE (Pr κ).toProgram 107 4 .ready none (ig (bL 40) [(0,aw a),(1, .ptr 0 0 [] 0),(2, .nil),(3, .lit .nilIface),(4, .ptr 1 0 [] 0),(5, .ptr 3 0 [] 0),(7, .mp 2),(8,aw a),(9, .bp 169 [.ptr 4 0 [] 0])]))
noncomputable abbrev Ii κ a c b:=[.box 48 (aw a), .box 35 (.ax 6 0 (ints c).length), .map 9 4 (bP b), .box 178 (.mp 2), .box 48 (aw a),W0 a κ, .row 3 (ints c)]
noncomputable abbrev N9 κ(a:VG):=sp 38 [(0, .bJ 5),(1, .ptr 4 0 [] 0),(3, .mp 7),(4, .ax 8 0 (bZ a.done).length),(13, .int a.a.bl.length),(14, .int a.i)] (Ii κ a.a a.ks a.b++[.map 9 4 (bP a.b), .row 4 (bZ a.done)])
theorem x17(κ:Kp)(a:dt) ks es es' done i I n K:(vc (Pa κ) 12 169 none 6 (ah (Pr κ).toProgram 169 3) (sp 38 [(0, .bJ 5),(1, .ptr 4 0 [] 0),(3, .mp 7),(4, .ax 8 0 done.length),(13, .int a.bl.length),(14, .int i)] [.box 48 (aw a), .box 35 (.ax 6 0 ks.length), .map 9 4 es, .box 178 (.mp 2), .box 48 (aw a),W0 a κ, .row 3 ks, .map 9 4 es', .row 4 done]) (bh (Pa κ) 169 3 6 I n K))=(
 letI b:=AV.int
 letI c:=AV.ptr
 letI d:=Obj.box
 letI e:=Obj.row
 letI f:=Dn.Obj.map
 letI g:=AV.ad
 letI h:=AV.ax
 letI j:=AV.mp
 letI o:=iE Tryz.prog 107 4 LoopState.ready none (ig (bL 40) [(0,aw a),(1,c 0 0 [] 0),(2,AV.nil),(3,AV.lit Value.nilIface),(4,c 1 0 [] 0),
  (5,c 3 0 [] 0),(7,j 2),(8,aw a),(9,AV.bp 169 [c 4 0 [] 0])])
 letI p:=sp 38 [] [d 48 (aw a),d 35 (h 6 0 ks.length),f 9 4 es,d 178 (j 2),d 48 (aw a),Dn.Obj.loop o,e 3
  ks]
 letI q:=IntKind.wrap IntKind.i64 (i+(1:Int))
 letI m:=Value×AV
 letI r:=h 6 0 (ks.length+1)
 an (decide (i<(↑(a.bl.length):Int))) (∃(e5:KC),letI k:=aE (aH e5.a) e5.done e5.b;letI s:=decide ((0:Int)<=aE (aH e5.a) e5.done e5.b)&&decide (aE (aH e5.a) e5.done e5.b<(↑(done.length):Int));letI t:=bQ (bZ e5.done) (0+Int.toNat k) (AV.bool true);letI u:=List.take ks.length ks++[b k];letI l:=[f 9 4 (bP e5.b)];([aw a,h 0 0 done.length,j 1],[e 4 done,f 9 4 es'])=([aw e5.a,h 0 0 (List.length (bZ e5.done)),j 1],[e 4 (bZ e5.done),f 9 4 (bP e5.b)])/\(ba (aH e5.a)=true/\(aM (ae (bk 38 e5.a.hl e5.a.bl))<=100000/\List.length e5.a.bl<=100000)/\e5.done.length=List.length e5.a.bl)/\an (decide (aE (aH e5.a) e5.done e5.b<(0:Int))) (K Exit.ret p) (aG (decide ((ks.length+1+1)*9<=70368744177664)) ((∃(e4:dt×Int),([aw a,b k],aO)=([aw e4.1,b e4.2],aO)/\(ba (aH e4.1)=true/\(aM (ae (bk 38 e4.1.hl e4.1.bl))<=100000/\e4.1.bl.length<=100000)/\(0:Int)<=e4.2/\e4.2<(↑(e4.1.bl.length):Int))/\∃(e3:List AV×List m),([j 0,g 9 (strs (cW (aH e4.1) e4.2.toNat))],[f 9 4 es])=([j 0,g 9 e3.1],[f 9 4 e3.2])/\bm e3/\aG s (∃(e2:dt×Int),([aw a,b k],aO)=([aw e2.1,b e2.2],aO)/\(ba (aH e2.1)=true/\(aM (ae (bk 38 e2.1.hl e2.1.bl))<=100000/\e2.1.bl.length<=100000)/\(0:Int)<=e2.2/\e2.2<(↑(e2.1.bl.length):Int))/\∃(e1:List AV×List m),([j 0,g 9 (strs (cW (aH e2.1) e2.2.toNat))],l)=([j 0,g 9 e1.1],[f 9 4 e1.2])/\bm e1/\∃(e0:Nat),e0<n/\I e0 (sp 38 [(0,AV.bJ 5),(1,c 4 0 [] 0),(3,j 7),(4,h 8 0 done.length),(13,b (↑(a.bl.length):Int)),(14,b q)] [d 48 (aw a),d 35 r,f 9 4 (fU e3.2 e3.1),d 178 (j 2),d 48 (aw a),Dn.Obj.loop o,e 3 u,f 9 4 (fU e1.2 e1.1),e 4 t])))/\∃(e4:dt×Int),([aw a,b k],aO)=([aw e4.1,b e4.2],aO)/\(ba (aH e4.1)=true/\(aM (ae (bk 38 e4.1.hl e4.1.bl))<=100000/\e4.1.bl.length<=100000)/\(0:Int)<=e4.2/\e4.2<(↑(e4.1.bl.length):Int))/\∃(e3:List AV×List m),([j 0,g 9 (strs (cW (aH e4.1) e4.2.toNat))],[f 9 4 es])=([j 0,g 9 e3.1],[f 9 4 e3.2])/\bm e3/\aG s (∃(e2:dt×Int),([aw a,b k],aO)=([aw e2.1,b e2.2],aO)/\(ba (aH e2.1)=true/\(aM (ae (bk 38 e2.1.hl e2.1.bl))<=100000/\e2.1.bl.length<=100000)/\(0:Int)<=e2.2/\e2.2<(↑(e2.1.bl.length):Int))/\∃(e1:List AV×List m),([j 0,g 9 (strs (cW (aH e2.1) e2.2.toNat))],l)=([j 0,g 9 e1.1],[f 9 4 e1.2])/\bm e1/\∃(e0:Nat),e0<n/\I e0 (sp 38 [(0,AV.bJ 5),(1,c 4 0 [] 0),(3,j 7),(4,h 8 0 done.length),(13,b (↑(a.bl.length):Int)),(14,b q)] [d 48 (aw a),d 35 r,f 9 4 (fU e3.2 e3.1),d 178 (j 2),d 48 (aw a),Dn.Obj.loop o,e 3 u,f 9 4 (fU e1.2 e1.1),e 4 t]))))) (K (Exit.exit 0) p)):=by kernel_rfl
theorem rm: ∀l k,bQ (bZ l) k (.lit (.bool true))=bZ (l.set k true)
 |[],_=>rfl
 |_::_,0=>rfl
 |a::l,k+1=>by
  have:=rm l k
  grind [bZ,bQ]
noncomputable def fc(a:VG):=pE (aH a.a) (a.a.bl.length - a.i.toNat) a.done a.b
def HC(a:VG):=ba (aH a.a)=true/\dk a.a/\0<=a.i/\a.i<=a.a.bl.length/\a.done.length=a.a.bl.length/\a.ks.length<=a.i.toNat
noncomputable def MG(κ:Kp)(a:VG):Out (Exit×S):= .all (fun _=>True) fun e=> .an e (.one (.ret,sp 38 [] (Ii κ a.a (a.ks++fc a) (a.b++e6 (aH a.a) (fc a)))))
 (.one (.exit 0,sp 38 [] (Ii κ a.a (a.ks++fc a) (a.b++e6 (aH a.a) (fc a)))))
theorem th{a}(h:dk a){k}(c:k<a.bl.length):(cW (aH a) k).length<=200000:=by
 have b:=ly h c;have d:=tH h k;have e:=Iy (c9 (nth a.bl k))
 grind [cU,cW,aH,kJ,c9,nth,ew,jh]
theorem l17 κ:aP (Pa κ) 12 169 3 (aI 6 (N9 κ) HC (MG κ)):=by
 refine aD (fun a=>a.a.bl.length - a.i.toNat) ?_;rintro⟨a,h,done,b,i⟩ K ⟨j,g,t,w,q,x⟩ s;simp only at j g t w q x;rw[show(Pa κ).P=Pr κ from rfl];refine Eq.mpr (x17 κ a (ints h) (bP b) (bP b) (bZ done) i _ _ K) ?_;have c:=s true trivial;have d:=s false trivial;simp only[Out.run,an,fc] at c d;simp only[and_self];have v:=jF done;have z:=sb h;have C:=g.2;rw[ag,an2,an4];refine⟨fun u=>⟨⟨a,done,b,0,0⟩,rfl,⟨j,g,q⟩,?_⟩,fun u=>?_⟩
 ·have p:=Gj (aH a) (a.bl.length - (i.toNat+1)) done b
  rw[show a.bl.length - (i.toNat+1)+1=a.bl.length - i.toNat by omega] at p;rw[ag,an2,an4];refine⟨fun e=>?_,fun e=>?_⟩
  ·rw[p,an8 e] at c
   simp only[an9,List.append_nil,e6,List.flatMap_nil] at c;exact c
  ·rw[p,an6 e,an7] at c d
   rcases qX (aH a) done b with e0|⟨m,y,A,_⟩
   ·rw[e0] at e;omega
   have k:=y;rw[fK] at k;have B:=th g k;rw[ai,an2];refine⟨by omega,(a,aE (aH a) done b),rfl,⟨j,g,m,by simp only;omega⟩,(strs (cW (aH a) (aE (aH a) done b).toNat),bP b),rfl,by simp only[bm,aR,aU];omega,?_⟩;rw[ai,an3,an2,an2];refine⟨⟨m,by show aE (aH a) done b<_;omega⟩,(a,aE (aH a) done b),rfl,⟨j,g,m,by simp only;omega⟩,(strs (cW (aH a) (aE (aH a) done b).toNat),bP b),rfl,by simp only[bm,aR,aU];omega,?_⟩;rw[ay (n:=i+1) (by omega) (by omega)];refine⟨_,?_,⟨a,h++[(aE (aH a) done b).toNat],done.set (aE (aH a) done b).toNat true,b++cW (aH a) (aE (aH a) done b).toNat,i+1⟩,?_,⟨j,g,by simp only;omega,by simp only;omega,by simpa using q,by simp only[ao6,List.length_singleton];omega⟩,rfl,?_⟩
   ·simp only;omega
   ·simp only[List.take_length]
    simp only[N9,Ii,List.cons_append,List.nil_append,Nat.zero_add,rm,mS,jF,List.length_set,L4,sb,ao6,List.length_singleton];simp only[ints,ao9,List.map_nil,Int.toNat_of_nonneg m,List.length_singleton]
   ·have r: ∀l,b++e6 (aH a) ((aE (aH a) done b).toNat::l)=(b++cW (aH a) (aE (aH a) done b).toNat)++e6 (aH a) l:=fun l=>by
     simp only[e6,List.flatMap_cons,List.append_assoc]
    have o: ∀l,h++(aE (aH a) done b).toNat::l=(h++[(aE (aH a) done b).toNat])++l:=fun l=>by simp
    rw[r,o] at c d;intro f _;simp only[Out.run,fc,show(i+1).toNat=i.toNat+1 by omega];cases f
    ·exact d
    ·exact c
 ·rw[show a.bl.length - i.toNat=0 by omega] at d
  simp only[pE,List.append_nil,e6,List.flatMap_nil] at d;exact d
noncomputable def IE κ:=(Pa κ).aq 169 3 (aI 6 (N9 κ) HC (MG κ))
theorem ac0 κ:aF (IE κ):=(e36 _).aq (m36 _) (l17 _)
theorem Ql κ:aj (IE κ):=(m36 _).aq a0
end Go.Proofs.YtioeffnadipbaaaGreatDoor
namespace Go.Proofs.YtioeffnadipbaaaGreatDoor
open Go Go.Dn Go.Rl Go.Proofs Go.RowKit Go.Extern.Stop Go.Stop Go.Extern
theorem Xy v a w:(Instr.typeAssert (.iface 253 v) a 259 true).run Tryz.prog w= .ok (.tuple #[.nilIface, .bool false]) w:=run_typeAssert_lacksB Tryz.underlying259 (by kernel_rfl) (by kernel_rfl) v _ w
theorem JF v a w:(Instr.typeAssert (.iface 253 v) a 261 true).run Tryz.prog w= .ok (.tuple #[.nilIface, .bool false]) w:=run_typeAssert_lacksB Tryz.underlying261 (by kernel_rfl) (by kernel_rfl) v _ w
theorem CE v a w:(Instr.typeAssert (.iface 253 v) a 263 true).run Tryz.prog w= .ok (.tuple #[.iface 253 v, .bool true]) w:=run_typeAssert_hasB Tryz.underlying263 (by kernel_rfl) v _ w
theorem yz v w:(Go.method 411 253 v "Unwrap").run Tryz.prog w= .ok (218,v) w:=by kernel_rfl
set_option maxRecDepth 4000 in
theorem Jn(a:Addr)(w:World):
  Calls Tryz.prog 158 #[.iface 273 (.pointer (some a)), .iface 273 (.pointer (some a)), .bool true] w fun e w'=>e= .returned (.bool true)/\w'=w:=by
 obtain⟨i,hi,hcmp⟩:=Option.map_eq_some_iff.1 E3;obtain⟨j,hj,hjs⟩:=Option.map_eq_some_iff.1 E5;have heq:=run_eql_iface_ptr_same (P:=Tryz.prog) w a Tryz.underlying171 Tryz.underlying273 hi hcmp hj
 go_enter Tryz.func158,Tryz.ntmps158
 go_wp2
 refine wp_loop_rounds 1 ?_;rw[rounds_succ]
 go_wp2
 go_ret
 exact⟨rfl,rfl⟩
set_option maxRecDepth 8000 in
theorem Qd(ja ra b:Addr)(cap:Nat)(w:World)(h1:w.cell? ja=some (.slice (some ra) 1 cap))(h2:w.cell? ra=some (.iface 273 (.pointer (some b)))):
  Calls Tryz.prog 108 #[.iface 253 (.pointer (some ja)), .iface 273 (.pointer (some b))] w fun e w'=>e= .returned (.bool true)/\w'=w:=by
 have h8:= @run_callFunc_extern Tryz.prog 157 _ Extern.ReflectliteType.typeOf Tryz.func157 (by kernel_rfl) (by kernel_rfl) (by kernel_rfl) (by kernel_rfl);have h32:= @run_callFunc_extern Tryz.prog 222 _ (Extern.ReflectliteType.method fun t=>do Go.Extern.Rtype.noPackHeld "Comparable" t;pure (.bool (←typeInfo t).comparable)) Tryz.func222 (by kernel_rfl) (by kernel_rfl) (by kernel_rfl) (by kernel_rfl);have tT:=wL;have cT:=nz;have mR:=iK;have hne:=run_eql_iface_types (P:=Tryz.prog) 253 273 (.pointer (some ja)) (.pointer (some b)) Tryz.underlying171 (by decide);have n1:=Xy;have n2:=JF;have n3:=CE;have mU:=yz
 go_enter Tryz.func108,Tryz.ntmps108
 go_wp2
 refine wp_loop_rounds 1 ?_;rw[rounds_succ]
 go_wp2
 refine wp_loop_rounds 1 ?_;rw[rounds_succ]
 go_wp2_with (first|(go_at_call 158;refine(Jn b _).mono ?_;rintro e w' ⟨rfl,rfl⟩))
 all_goals (go_ret;exact⟨rfl,rfl⟩)
end Go.Proofs.YtioeffnadipbaaaGreatDoor
namespace Go.Proofs.YtioeffnadipbaaaGreatDoor
open Go Go.Dn Go.Rl Go.Proofs
attribute [local irreducible] a8 vc
set_option maxRecDepth 20000
noncomputable def Vv κ:=(IE κ).aq 156 3 (lA (IE κ) 12 156 3 3)
noncomputable def Wd κ:=(Vv κ).aq 156 12 (lA (Vv κ) 12 156 12 3)
theorem eJ1 κ:aF (Vv κ):=(ac0 _).aq (Ql _) (uj (Ql _) 3)
theorem Z2 κ:aj (Vv κ):=(Ql _).aq (mc (Ql _) 3)
theorem eJ2 κ:aF (Wd κ):=(eJ1 _).aq (Z2 _) (uj (Z2 _) 3)
theorem mJ2 κ:aj (Wd κ):=(Z2 _).aq (mc (Z2 _) 3)
theorem yJ κ K:(a8 (Wd κ) 12 156 [.ad 171 [.lit (mF κ)]] [] K)=(
 letI a:=Pg.toProgram (Env.P (IE κ))
 letI b:=Pg.toProgram (Env.P (Vv κ))
 ah a 156 3=ah a 156 3/\ah b 156 12=ah b 156 12/\K (AV.jz 253 (AV.ptr 0 0 [] 0)) [Obj.box 255 (AV.agg [AV.ax 1 0 1]),Obj.row 171 [AV.lit (Value.iface
 273 (Value.pointer (some (Kp.stuck κ))))]]):=by kernel_rfl
abbrev AL:AV:= .jz 253 (.ptr 0 0 [] 0)
abbrev AK(κ:Kp):List Dn.Obj:=[.box 255 (.agg [.ax 1 0 1]), .row 171 [.lit (mF κ)]]
def stJ(κ:Kp)(_:Unit):List AV×List Dn.Obj:=([.ad 171 [.lit (mF κ)]],[])
def HO(_:Unit):Prop:=True
def XR(κ:Kp)(_:Unit):Out (AV×List Dn.Obj):= .one (AL,AK κ)
theorem cJ κ:bq (Wd κ) 12 156 (aX (stJ κ) HO (XR κ)):=by
 refine a7 ?_;rintro⟨⟩ K _ a;refine Eq.mpr (yJ _ K) ?_;exact⟨rfl,rfl,a⟩
def stI κ(_:Unit):=([AL, .lit (mF κ)],AK κ)
def XN(κ:Kp)(_:Unit):Out (AV×List Dn.Obj):= .one (.bool true,AK κ)
theorem qI κ: ∀b st K,aX (stI κ) HO (XN κ) b st K->bt (Pr κ) 108 b st K:=by
 rintro b st K ⟨_,J,_,A⟩;obtain⟨rfl,rfl⟩:=Prod.mk.inj J;refine⟨⟨_,Tryz.func108,rfl⟩,fun C p V j a d=>?_⟩;obtain⟨p⟩:=p;match p,d with
 | [r,E],d=>
  simp only[MT] at d;obtain⟨F,I,o,N,O,z,_⟩:=d;have n:E=mF κ:=aL (C:=C) ⟨N,O,z⟩;have L:Rel C AL r:=⟨F,I,o⟩
  obtain⟨Q,_⟩:=gU L rfl (by simp);simp only[M,Q] at o;obtain⟨u,T,y,u3,Z,v,h,x,D⟩:=o;have k:r= .iface 253 u:=by simpa using T
  have H:u.cells= #[u]:=gZ (by rw[y];rfl);have l:v=u:=by rw[H] at h;simpa using h.symm
  subst l;have m:=j.obj 0 (by rw[a];simp);have g:=j.obj 1 (by rw[a];simp);rw[a] at m g;simp only[au,kl] at m g;obtain⟨_,_,c,e,U,_,t⟩:=m;simp only[M,ML] at t;obtain⟨⟨_,s,s1,_,s2⟩,_⟩:=t;have f:=s2.1 171 [.lit (mF κ)] (by rw[a];rfl);obtain⟨_,f⟩:=f;rcases f with⟨_,_,_,f⟩|⟨B,cap,q,rfl,f,s4,_⟩
  ·cases f
  have P:q=⟨(C.ι 1).block,0,none⟩:=by
   rcases f with f|⟨f,W⟩
   ·rw[f,Nat.zero_mul]
   ·omega
  subst P;obtain⟨_,g⟩:=g;rcases g with⟨g,_⟩|⟨_,_,X,Y,_,_,_,i⟩
  ·rw[B] at g;cases g
  simp only[MR,M] at i;obtain⟨⟨i,_⟩,_⟩:=i;have R:v= .pointer (some ⟨(C.ι 0).block,0,none⟩):=(D.2.1 255 _ (by rw[a];rfl)).2;subst R;subst k n;refine(callsIn_wide.2 (Qd ⟨(C.ι 0).block,0,none⟩ ⟨(C.ι 1).block,0,none⟩ κ.stuck cap C.w s1 i)).mono ?_;rintro e' w' ⟨rfl,rfl⟩;exact⟨_, .bool true,C,rfl,rfl,rfl,j,aW rfl,Ext.refl _ (by rw[a];exact Nat.le_refl _),by rw[a];exact A⟩
 |[],d=>simp[MT] at d
 |[_],d=>simp[MT] at d
 |_::_::_::_,d=>simp[MT] at d
noncomputable def EJ κ:=((Wd κ).aB 156 (aX (stJ κ) HO (XR κ))).aB 108 (aX (stI κ) HO (XN κ))
theorem eJ κ:aF (EJ κ):=((eJ2 _).aB (mJ2 _) (cJ _)).eX (qI _)
theorem mJ κ:aj (EJ κ):=((mJ2 _).aB aZ).aB aZ
theorem y17 κ a K:(a8 (EJ κ) 12 107 [aw a] [] K)=(
 letI b:=AV.ptr 0 0 []
 letI c:=AV.ptr
 letI d:=AV.lit
 letI e:=Obj.box
 letI f:=Obj.row
 letI g:=Dn.Obj.map
 letI h:=AV.ad
 letI i:=AV.ax
 letI j:=AV.mp
 letI o:=Value.iface 273 (Value.pointer (some (Kp.stuck κ)))
 letI n:=∃(v0:Unit),([h 171 [d o]],aO)=([h 171 [d o]],aO)/\True/\K (AV.aK [AV.nil,AV.jz 253 (b 0)]) [e 255
  (AV.agg [i 1 0 1]),f 171 [d o]]
 letI m:=a.bl.length
 letI p:=Value×AV
 letI q:=Pg.toProgram (Env.P (Pa κ))
 letI r:=Int.toNat (↑m:Int)
 aG (true&&decide ((↑m:Int)<=(↑m:Int))&&decide ((Int.toNat (↑m:Int)+1)*2<=70368744177664)&&true) (ah q 169 3=ah q 169 3/\∃(v4:VG),letI k:=ints (v4.ks++fc v4);letI s:=K (AV.aK [i 0 0 (List.length k),d Value.nilIface]) [f 3 k];letI t:=[g 9 4 (bP (v4.b++e6 (aH v4.a) (fc v4)))];letI l:=List.length v4.a.bl;letI u:=an (decide ((↑(List.length k):Int)<(↑l:Int))) (n/\n) ((∃(v2:List AV),([h 38 v4.a.hl],aO)=([h 38 v2],aO)/\bE v2/\∃(v1:List AV×List p),([j 0,h 9 (List.take (List.length (ar (ae v2))) (List.drop 0 (strs (ar (ae v2)))))],t)=([j 0,h 9 v1.1],[g 9 4 v1.2])/\bm v1/\an (!gB v1.2 v1.1) n s)/\∃(v2:List AV),([h 38 v4.a.hl],aO)=([h 38 v2],aO)/\bE v2/\∃(v1:List AV×List p),([j 0,h 9 (List.take (List.length (ar (ae v2))) (List.drop 0 (strs (ar (ae v2)))))],t)=([j 0,h 9 v1.1],[g 9 4 v1.2])/\bm v1/\an (!gB v1.2 v1.1) n s);sp 38 [(0,AV.bJ 5),(1,c 4 0 [] 0),(3,j 7),(4,i 8 0 r),(13,AV.int (↑m:Int)),(14,AV.int 0)] [e 48 (aw a),e 35 (i 6 0 0),g 9 4 [],e 178 (j 2),e 48 (aw a),Dn.Obj.loop (iE Tryz.prog 107 4 LoopState.ready none (ig (bL 40) [(0,aw a),(1,b 0),(2,AV.nil),(3,d Value.nilIface),(4,c 1 0 [] 0),(5,c 3 0 [] 0),(7,j 2),(8,aw a),(9,AV.bp 169 [c 4 0 [] 0])])),f 3 [],g 9 4 [],f 4 (gm (AV.bool false) r)]=sp 38 [(0,AV.bJ 5),(1,c 4 0 [] 0),(3,j 7),(4,i 8 0 (List.length (bZ v4.done))),(13,AV.int (↑l:Int)),(14,AV.int v4.i)] [e 48 (aw v4.a),e 35 (i 6 0 (List.length (ints v4.ks))),g 9 4 (bP v4.b),e 178 (j 2),e 48 (aw v4.a),Dn.Obj.loop (iE Tryz.prog 107 4 LoopState.ready none (ig (bL 40) [(0,aw v4.a),(1,b 0),(2,AV.nil),(3,d Value.nilIface),(4,c 1 0 [] 0),(5,c 3 0 [] 0),(7,j 2),(8,aw v4.a),(9,AV.bp 169 [c 4 0 [] 0])])),f 3 (ints v4.ks),g 9 4 (bP v4.b),f 4 (bZ v4.done)]/\(ba (aH v4.a)=true/\(aM (ae (bk 38 v4.a.hl v4.a.bl))<=100000/\List.length v4.a.bl<=100000)/\(0:Int)<=v4.i/\v4.i<=(↑l:Int)/\v4.done.length=List.length v4.a.bl/\v4.ks.length<=v4.i.toNat)/\∀(v3:Bool),True->an v3 u u)):=by kernel_rfl
def DI(a:dt):List AV×List Dn.Obj:=([aw a],[])
def Nx a:=ba (aH a)=true/\dk a
noncomputable def MF(κ:Kp)(a:dt):Out (AV×List Dn.Obj):= .an (lv (aH a)) (.one (.aK [.ax 0 0 (bI (aH a)).length, .lit .nilIface],[.row 3 (ints (bI (aH a)))])) (.one (.aK [.nil,AL],AK κ))
theorem uV n:gm (.lit (.bool false)) n=bZ (List.replicate n false):=by simp[gm,bZ]
theorem c17 κ:bq (EJ κ) 12 107 (aX DI Nx (MF κ)):=by
 refine a7 ?_;rintro a K ⟨f,d⟩ b;refine Eq.mpr (y17 κ a K) ?_;simp only[and_self];simp only[MF,Out.run,ag] at b;have k:=d.2;have g:fc ⟨a,[],List.replicate a.bl.length false,[],0⟩=bI (aH a):=by
  unfold fc bI;rw[fK];rfl
 have h:=qb d;have j:=cU (ae a.hl);have i:lv (aH a)=(decide (a.bl.length<=(bI (aH a)).length)&&hasB (e6 (aH a) (bI (aH a))) (ar (ae a.hl))):=by
  unfold lv;rw[fK];rfl
 rw[i] at b;simp only[ai,an3,an2,Int.toNat_natCast];refine⟨⟨⟨⟨trivial,by omega⟩,by omega⟩,trivial⟩,trivial,⟨a,[],List.replicate a.bl.length false,[],0⟩,?_,⟨f,d,by simp only;omega,by simp only;omega,by simp,by simp⟩,?_⟩
 ·simp only[uV,jF,List.length_replicate];rfl
 ·intro y _
  rw[g];cases y<;>
  ·simp only[sb,List.nil_append,ag,an2,an4,Bool.not_eq_true',ao4,reduceCtorEq,false_implies,true_implies,and_true,true_and]
   refine⟨fun e=>?_,fun e=>?_⟩
   ·rw[an6 (show ¬ a.bl.length<=(bI (aH a)).length by omega),Bool.false_and] at b
    exact⟨(),b.2 rfl⟩
   ·rw[an8 (show a.bl.length<=(bI (aH a)).length by omega),ao7] at b
    refine⟨a.hl,rfl,h,(strs (ar (ae a.hl)),bP (e6 (aH a) (bI (aH a)))),?_,?_,?_⟩
    ·simp only[ao2,c6]
    ·simp only[bm,aR,aU];omega
    ·simp only[fm]
     exact⟨fun c=>⟨(),b.2 c⟩,fun c=>b.1 c⟩
noncomputable def VX κ:=(EJ κ).aB 107 (aX DI Nx (MF κ))
theorem e17 κ:aF (VX κ):=(eJ _).aB (mJ _) (c17 _)
theorem m17 κ:aj (VX κ):=(mJ _).aB aZ
theorem y7 κ a K:(a8 (VX κ) 12 62 [aw a] [] K)=(
 letI b:=AV.int
 letI c:=AV.agg
 letI d:=Value.iface 273 (Value.pointer (some (Kp.stuck κ)))
 aG (decide (a.hl.length<=9223372036854775807)&&decide (a.bl.length<=9223372036854775807)) (an (!ba {head:={rel:=a.rel,l:=ae a.hl},body:=dB a.bl}) (K (AV.aK [AV.nil,b 30]) []) (∃(e1:dt),([c [c [AV.str a.rel,AV.ad 38 a.hl],AV.ad 80 a.bl,b a.line]],aO)=([c [c [AV.str e1.rel,AV.ad 38 e1.hl],AV.ad 80 e1.bl,b e1.line]],aO)/\(ba (aH e1)=true/\aM (ae (bk 38 e1.hl e1.bl))<=100000/\e1.bl.length<=100000)/\an (lv (aH e1)) (K (AV.aK [AV.ax 0 0 (List.length (bI (aH e1))),b 0]) [Obj.row 3 (ints (bI (aH e1)))]) (∃(e0:Unit),([AV.jz 253 (AV.ptr 0 0 [] 0),AV.lit d],[Obj.box 255 (c [AV.ax 1 0 1]),Obj.row 171 [AV.lit d]])=([AV.jz 253 (AV.ptr 0 0 [] 0),AV.lit d],[Obj.box 255 (c [AV.ax 1 0 1]),Obj.row 171 [AV.lit d]])/\True/\K (AV.aK [AV.nil,b 60]) [])))):=by kernel_rfl
def JN(a:dt):Out (AV×List Dn.Obj):= .an (ba (aH a)) (.an (lv (aH a)) (.one (.aK [.ax 0 0 (bI (aH a)).length, .int 0],[.row 3 (ints (bI (aH a)))])) (.one (.aK [.nil, .int 60],[]))) (.one (.aK [.nil, .int 30],[]))
theorem c7 κ:bq (VX κ) 12 62 (aX DI dk JN):=by
 refine a7 ?_;rintro a K c d;refine Eq.mpr (y7 κ a K) ?_;simp only[JN,Out.run,ag] at d;have h:=qb c;have b:=eu (ae a.hl);rw[dz] at b;have i:=c.2;rw[ai,an3,an2,an2];refine⟨⟨by omega,by omega⟩,?_⟩;have g:ba ⟨_,dB a.bl⟩=ba (aH a):=rfl;rw[g];simp only[ag,Bool.not_eq_true',ao4];refine⟨fun e=>d.2 e,fun e=>⟨a,rfl,⟨e,c⟩,fun f=>(d.1 e).1 f,by simp_all⟩⟩
noncomputable def E7 κ:=(VX κ).aB 62 (aX DI dk JN)
theorem e7 κ:aF (E7 κ):=(e17 _).aB (m17 _) (c7 _)
theorem m7 κ:aj (E7 κ):=(m17 _).aB aZ
def eQ es s:=mu es s
structure DB where
 vs:List ByteArray
 i:Int
 es:List (Value×AV)
abbrev DX(R:List AV)(a:List (Value×AV)):List Dn.Obj:=[.row 9 R, .box 178 (.mp 2), .map 9 4 a]
abbrev PO:AV:= .bp 116 [.ptr 1 0 [] 0]
abbrev Kn(a:DB):=sp 19 [(0, .ax 0 0 (strs a.vs).length),(1,PO),(7, .int (strs a.vs).length),(8, .int a.i)] (DX (strs a.vs) a.es)
theorem xFB κ a I n K:(vc (ou κ) 12 161 none 3 (ah (Pr κ).toProgram 161 2) (Kn a) (bh (ou κ) 161 2 3 I n K))=(
 letI b:=Dn.Obj.map
 letI c:=List.length (strs a.vs)
 an (decide (a.i<(↑c:Int))) (aG (decide ((0:Int)<=a.i)&&decide (a.i<(↑c:Int))) (an (!Dn.toBool (de a.es (Value.string (toStr (nth (strs a.vs) (0+
 a.i.toNat)))) (AV.bool false))) (K Exit.ret (sp 19 [(4,AV.int a.i)] [Obj.row 9 (strs a.vs),Obj.box 178 (AV.mp 2),b 9 4 a.es])) (∃(e0:Nat),e0<n
 /\I e0 (sp 19 [(0,AV.ax 0 0 c),(1,AV.bp 116 [AV.ptr 1 0 [] 0]),(7,AV.int (↑c:Int)),(8,AV.int (IntKind.wrap IntKind.i64 (a.i+(1:Int))))] [Obj.row
 9 (strs a.vs),Obj.box 178 (AV.mp 2),b 9 4 a.es])))) (K (Exit.exit 0) (sp 19 [] [Obj.row 9 (strs a.vs),Obj.box 178 (AV.mp 2),b 9 4 a.es]))):=by kernel_rfl
def FZ(a:DB):=a.vs.length<=aU/\0<=a.i/\a.i<=a.vs.length/\∀s,s∈a.vs.take a.i.toNat->eQ a.es s=true
def C8(a:DB):Out (Exit×S):=
 .an (a.vs.all (eQ a.es)) (.one (.exit 0,sp 19 [] (DX (strs a.vs) a.es)))
  (.all (fun j=>wm (eQ a.es) a.vs j) fun j=> .one (.ret,sp 19 [(4, .int j)] (DX (strs a.vs) a.es)))
theorem lFB κ:aP (ou κ) 12 161 2 (aI 3 Kn FZ C8):=by
 refine aD (fun a=>a.vs.length - a.i.toNat) ?_;rintro⟨b,i,f⟩ K ⟨l,p,r,j⟩ k;simp only at l p r j;rw[show(ou κ).P=Pr κ from rfl];refine Eq.mpr (xFB κ ⟨b,i,f⟩ _ _ K) ?_;simp only[aU] at l;simp only[C8,Out.run,ag] at k;have v:=aR b;simp only[aR,Nat.zero_add];have o:i<b.length->∀(d:i.toNat<b.length),(eQ f b[i.toNat]=false->K .ret (sp 19 [(4, .int i)] (DX (strs b) f)))/\
   (eQ f b[i.toNat]=true->∃m,m<b.length - i.toNat/\gq Kn FZ C8 (fun a=>a.vs.length - a.i.toNat) K m (Kn ⟨b,i+1,f⟩)):=by
  intro t d;refine⟨fun e=>k.2 ?_ i ⟨p,d,j,e⟩,fun e=>⟨_,?_,⟨b,i+1,f⟩,rfl,⟨by simpa[aU] using l,by simp only;omega,by simp only;omega,?_⟩,rfl,?_⟩⟩
  ·rw[Bool.eq_false_iff]
   intro g;rw[List.all_eq_true.1 g _ (List.getElem_mem d)] at e;cases e
  ·simp only;omega
  ·intro s c
   simp only at c;rw[show(i+1).toNat=i.toNat+1 by omega,List.take_succ_eq_append_getElem d,List.mem_append,List.mem_singleton] at c;rcases c with c|c
   ·exact j s c
   ·rw[c];exact e
  ·simp only[C8,Out.run,ag]
   exact k
 simp only[ag,ai,an2,an4,an3,Bool.not_eq_true',ao4];refine⟨fun d=>⟨⟨p,d⟩,?_⟩,fun d=>?_⟩
 ·have h:i.toNat<b.length:=by omega
  have u:toStr (nth (strs b) i.toNat)=b[i.toNat]:=by rw[ya b _ h];rfl
  rw[ay (n:=i+1) (by omega) (by omega),u];have q:=o d h;simp only[Kn,aR] at q;exact⟨fun e=>q.1 e,fun e=>q.2 e⟩
 ·refine k.1 (List.all_eq_true.2 fun s c=>j s ?_)
  rw[List.take_of_length_le (by omega)];exact c
noncomputable def Ps κ:=(ou κ).aq 161 2 (aI 3 Kn FZ C8)
theorem eFB κ:aF (Ps κ):=(TL _).aq (Mm _) (lFB _)
theorem mFB κ:aj (Ps κ):=(Mm _).aq a0
structure GB where
 R:List AV
 i:Int
 j:Int
 es:List (Value×AV)
 P:List ByteArray
 ws:List ByteArray
abbrev DM(a:GB):=sp 42 [(0, .ax 0 0 a.R.length),(1,PO),(5, .int a.i),(6, .int a.j)] (DX a.R a.es)
theorem xGB κ a I n K:(vc (Ps κ) 12 114 none 3 (ah (Pr κ).toProgram 114 5) (DM a) (bh (Ps κ) 114 5 3 I n K))=(
 letI b:=AV.int
 letI c:=Dn.Obj.map
 letI d:=IntKind.wrap IntKind.i64 (a.j+(1:Int))
 letI e:=toStr (nth a.R (0+a.j.toNat))
 letI f:=a.j<(↑(a.R.length):Int)
 an (decide f) (aG (decide ((0:Int)<=a.j)&&decide f) (an (!!Dn.toBool (de a.es (Value.string e) (AV.bool false))) (aG (decide ((0:Int)<=a.i)&&decide
 (a.i<(↑(a.R.length):Int))) (∃(e0:Nat),e0<n/\I e0 (sp 42 [(0,AV.ax 0 0 a.R.length),(1,AV.bp 116 [AV.ptr 1 0 [] 0]),(5,b (IntKind.wrap
 IntKind.i64 (a.i+(1:Int)))),(6,b d)] [Obj.row 9 (bQ a.R (0+a.i.toNat) (AV.str e)),Obj.box 178 (AV.mp 2),c 9 4 a.es]))) (∃(e0:Nat),
 e0<n/\I e0 (sp 42 [(0,AV.ax 0 0 a.R.length),(1,AV.bp 116 [AV.ptr 1 0 [] 0]),(5,b a.i),(6,b d)] [Obj.row 9 a.R,Obj.box 178 (AV.mp 2),
 c 9 4 a.es])))) (K (Exit.exit 0) (sp 42 [(0,AV.ax 0 0 a.R.length),(5,b a.i)] [Obj.row 9 a.R,Obj.box 178 (AV.mp 2),c 9 4 a.es]))):=by kernel_rfl
def BN(a:GB):=a.R.length<=aU/\0<=a.i/\a.i<a.j/\a.j<=a.R.length/\a.R.take a.i.toNat=strs a.P/\a.R.drop a.j.toNat=strs a.ws
def Da(a:GB):Out (Exit×S):= .all (fun R=>R.length=a.R.length/\R.take (a.P++a.ws.filter (eQ a.es)).length=strs (a.P++a.ws.filter (eQ a.es)))
 fun R=> .one (.exit 0,sp 42 [(0, .ax 0 0 a.R.length),(5, .int (a.P++a.ws.filter (eQ a.es)).length)] (DX R a.es))
theorem lGB κ:aP (Ps κ) 12 114 5 (aI 3 DM BN Da):=by
 refine aD (fun a=>a.R.length - a.j.toNat) ?_;rintro⟨R,i,j,b,P,g⟩ K ⟨k,q,z,x,c,f⟩ h;simp only at k q z x c f;rw[show(Ps κ).P=Pr κ from rfl];refine Eq.mpr (xGB κ ⟨R,i,j,b,P,g⟩ _ _ K) ?_;simp only[aU] at k;simp only[Da,Out.run] at h;simp only[Nat.zero_add];have v:P.length=i.toNat:=by
  have:=congrArg List.length c
  rw[List.length_take,aR] at this;omega
 have p: ∀(s:ByteArray) (l:List ByteArray),g=s::l->j<R.length->nth R j.toNat= .lit (.string s)->
   (eQ b s=false->∃m,m<R.length - j.toNat/\gq DM BN Da (fun a=>a.R.length - a.j.toNat) K m (DM ⟨R,i,j+1,b,P,l⟩))/\
   (eQ b s=true->∃m,m<R.length - j.toNat/\gq DM BN Da (fun a=>a.R.length - a.j.toNat) K m (DM ⟨bQ R i.toNat (.lit (.string s)),i+1,j+1,b,P++[s],l⟩)):=by
  rintro s l rfl o r;obtain⟨_,_,w⟩:=jQ (l:=strs l) f;refine⟨fun e=>⟨_,?_,_,rfl,⟨by simpa[aU] using k,q,by simp only;omega,by simp only;omega,c,?_⟩,rfl,?_⟩,fun e=>⟨_,?_,_,rfl,⟨by simpa[aU,gW] using k,by simp only;omega,by simp only;omega,by simp only[gW];omega,?_,?_⟩,rfl,?_⟩⟩
  ·simp only;omega
  ·simp only[show(j+1).toNat=j.toNat+1 by omega];exact w
  ·intro y d
   have:=h y
   simp only[List.filter_cons,e,Bool.false_eq_true,if_false] at d this⊢;exact this d
  ·simp only[gW];omega
  ·simp only[show(i+1).toNat=i.toNat+1 by omega]
   rw[tV _ _ _ (by omega),c,iz];rfl
  ·simp only[show(j+1).toNat=j.toNat+1 by omega]
   rw[tU _ _ _ _ (by omega)];exact w
  ·intro y d
   have:=h y
   simp only[List.filter_cons,e,if_true,gW,List.append_assoc,List.singleton_append] at d this⊢;exact this d
 simp only[ag,ai,an2,an4,an3,Bool.not_eq_true',ao4];refine⟨fun o=>⟨⟨by omega,o⟩,?_⟩,fun o=>?_⟩
 ·cases g with
  |nil=>
   have:=congrArg List.length f
   rw[List.length_drop,aR] at this;simp at this;omega
  |cons s l=>
   obtain⟨_,r,_⟩:=jQ (l:=strs l) f;have t:toStr (nth R j.toNat)=s:=by rw[r];rfl
   have u:=p s l rfl o r;simp only[DM,gW] at u;rw[ay (n:=i+1) (by omega) (by omega),ay (n:=j+1) (by omega) (by omega),t];exact⟨fun e=>⟨⟨by omega,by omega⟩,u.2 e⟩,fun e=>u.1 e⟩
 ·have A:g=[]:=by
   have:=congrArg List.length f
   rw[List.length_drop,aR] at this;cases g with
   |nil=>rfl
   |cons=>simp at this;omega
  subst A;have:=h R ⟨rfl,by simp only[List.filter_nil,List.append_nil,v];exact c⟩
  simp only[List.filter_nil,List.append_nil,v,Int.toNat_of_nonneg q] at this;exact this
noncomputable def ZR κ:=(Ps κ).aq 114 5 (aI 3 DM BN Da)
theorem eGB κ:aF (ZR κ):=(eFB _).aq (mFB _) (lGB _)
theorem mGB κ:aj (ZR κ):=(mFB _).aq a0
theorem yGB κ(a:DB) K:(a8 (ZR κ) 12 114 [.ax 0 0 (strs a.vs).length,PO] (DX (strs a.vs) a.es) K)=(
 letI b:=AV.int
 letI c:=Obj.box
 letI d:=Dn.Obj.map
 letI j:=List.length (strs a.vs)
 letI k:=Pg.toProgram (Env.P (ou κ))
 letI l:=Pg.toProgram (Env.P (Ps κ))
 ah k 161 2=ah k 161 2/\∃(e3:DB),letI f:=strs e3.vs;letI m:=K (AV.ad 9 (List.take j (List.drop 0 f))) [Obj.lD 9 f,c 178 (AV.mp 2),d 9 4 e3.es];letI n:=[Obj.row 9 f,c 178 (AV.mp 2),d 9 4 e3.es];sp 19 [(0,AV.ax 0 0 j),(1,AV.bp 116 [AV.ptr 1 0 [] 0]),(7,b (↑j:Int)),(8,b 0)] [Obj.row 9 (strs a.vs),c 178 (AV.mp 2),d 9 4 a.es]=sp 19 [(0,AV.ax 0 0 (List.length f)),(1,AV.bp 116 [AV.ptr 1 0 [] 0]),(7,b (↑(List.length f):Int)),(8,b e3.i)] n/\(e3.vs.length<=9223372036854775807/\(0:Int)<=e3.i/\e3.i<=(↑(e3.vs.length):Int)/\∀(e0:ByteArray),List.Mem e0 (List.take e3.i.toNat e3.vs)->eQ e3.es e0=true)/\an (List.all e3.vs (eQ e3.es)) m (∀(e2:Int),((0:Int)<=e2/\∃(e1:e2.toNat<e3.vs.length),(∀(e0:ByteArray),List.Mem e0 (List.take e2.toNat e3.vs)->eQ e3.es e0=true)/\eQ e3.es e3.vs[e2.toNat]=false)->an (e2==(-1:Int)) m (ah l 114 5=ah l 114 5/\∃(e1:GB),letI o:=e1.P++List.filter (eQ e1.es) e1.ws;letI e:=List.length o;letI g:=e1.R.length;sp 42 [(0,AV.ax 0 0 j),(1,AV.bp 116 [AV.ptr 1 0 [] 0]),(5,b e2),(6,b (IntKind.wrap IntKind.i64 (e2+(1:Int))))] n=sp 42 [(0,AV.ax 0 0 e1.R.length),(1,AV.bp 116 [AV.ptr 1 0 [] 0]),(5,b e1.i),(6,b e1.j)] [Obj.row 9 e1.R,c 178 (AV.mp 2),d 9 4 e1.es]/\(e1.R.length<=9223372036854775807/\(0:Int)<=e1.i/\e1.i<e1.j/\e1.j<=(↑g:Int)/\List.take e1.i.toNat e1.R=strs e1.P/\List.drop e1.j.toNat e1.R=strs e1.ws)/\∀(e0:List AV),letI h:=Int.toNat ((↑g:Int) - (↑e:Int));letI i:=(↑e:Int)<=(↑g:Int);e0.length=e1.R.length/\List.take e e0=strs o->aG (true&&decide i&&decide ((↑g:Int)<=(↑g:Int))) (aG (true&&decide i) (K (AV.ad 9 (List.take (Int.toNat ((↑e:Int) - (0:Int))) (List.drop 0 (di e0 (0+Int.toNat (↑e:Int)) h (AV.str {data:= #[]}))))) [Obj.lD 9 (di e0 (0+Int.toNat (↑e:Int)) h (AV.str {data:= #[]})),c 178 (AV.mp 2),d 9 4 e1.es]))))):=by kernel_rfl
def HY(a:DB):=([.ax 0 0 a.vs.length,PO],DX (strs a.vs) a.es)
def p8(a:DB):=a.vs.length<=aU
def Ft(a:DB):Out (AV×List Dn.Obj):= .all (fun _=>True) fun R=> .one (.ad 9 (strs (a.vs.filter (eQ a.es))),[.lD 9 R, .box 178 (.mp 2), .map 9 4 a.es])
theorem aa7 κ:bq (ZR κ) 12 114 (aX HY p8 Ft):=by
 refine a7 ?_;rintro⟨a,i,b⟩ K d h;simp only[p8] at d;simp only[HY];rw[←aR a];refine Eq.mpr (yGB κ ⟨a,i,b⟩ K) ?_;refine⟨rfl,⟨a,0,b⟩,rfl,⟨d,by simp only;omega,by simp only;omega,fun s p=>nomatch p⟩,?_⟩;rw[ag];refine⟨fun e=>?_,fun e y g=>?_⟩
 ·have k:a.filter (eQ b)=a:=List.filter_eq_self.2 (List.all_eq_true.1 e)
  have:=h (strs a) trivial
  simp only[k] at this;rw[ao2,List.take_length];exact this
 ·have o:=rW g
  obtain⟨j,m,t,q⟩:=g;simp only at j m;simp only[aU] at d;rw[ag,beq_iff_eq,beq_eq_false_iff_ne];refine⟨fun r=>by omega,fun _=>⟨rfl,⟨strs a,y,y+1,b,a.take y.toNat,a.drop (y.toNat+1)⟩,?_,⟨by simp only[aR];omega,j,by simp only;omega,by simp only[aR];omega,?_,?_⟩,?_⟩⟩
  ·rw[ay (n:=y+1) (by omega) (by omega)]
  ·simp only[strs,List.map_take]
  ·simp only[strs,List.map_drop,show(y+1).toNat=y.toNat+1 by omega]
  ·rintro R ⟨l,f⟩
   simp only at l f;rw[←o] at f⊢;have c:(a.filter (eQ b)).length<=a.length:=List.length_filter_le _ _;rw[ai,ai];refine⟨by simp[aR,c],by simp[aR,c],?_⟩;have:=h (di R (0+Int.toNat ((a.filter (eQ b)).length:Int)) (Int.toNat (((strs a).length:Int) - ((a.filter (eQ b)).length:Int))) (.lit (.string (ByteArray.mk #[])))) trivial
   simp only[Int.toNat_natCast,Nat.zero_add,Int.sub_zero,ao2,oD,f] at this⊢;exact this
theorem ab5 κ: ∀a st K,aX HY p8 Ft a st K->bt (Pr κ) 114 a st K:=fun a st K h=>cZ (eGB _) (mGB _) (aa7 _ _ _ K h)
structure VF where
 a:dt
 ws:List Nat
 n:Nat
 i:Int
 vs:List ByteArray
abbrev Sf(a:VF):=sp 48 [(2, .ptr 0 0 [] 0),(8, .ptr 1 0 [] 0),(32, .ax 3 0 a.n),(33, .int a.n),(34, .int a.i)] [.box 48 (aw a.a), .box 178 (.mp 2), .map 9 4 (bP a.vs), .row 3 (ints a.ws)]
theorem x10(κ:Kp)(a:VF) ws es I n K:(vc (E7 κ) 12 65 none 0 (ah (Pr κ).toProgram 65 8) (sp 48 [(2, .ptr 0 0 [] 0),(8, .ptr 1 0 [] 0),(32, .ax 3 0 a.n),(33, .int a.n),(34, .int a.i)] [.box 48 (aw a.a), .box 178 (.mp 2), .map 9 4 es, .row 3 ws]) (bh (E7 κ) 65 8 0 I n K))=(
 letI b:=Obj.box
 letI c:=Dn.Obj.map
 letI d:=∃(e2:dt×Int),([aw a.a,AV.int (toInt (nth ws (0+a.i.toNat)))],aO)=([aw e2.1,AV.int e2.2],aO)/\(ba (aH e2.1)=true/\(aM (ae (bk 38
  e2.1.hl e2.1.bl))<=100000/\e2.1.bl.length<=100000)/\(0:Int)<=e2.2/\e2.2<(↑(e2.1.bl.length):Int))/\∃(e1:List AV×List (Value×AV)),([AV.mp 0,
  AV.ad 9 (strs (cW (aH e2.1) e2.2.toNat))],[c 9 4 es])=([AV.mp 0,AV.ad 9 e1.1],[c 9 4 e1.2])/\bm e1/\∃(e0:Nat),e0<n/\I e0 (sp 48
  [(2,AV.ptr 0 0 [] 0),(8,AV.ptr 1 0 [] 0),(32,AV.ax 3 0 a.n),(33,AV.int (↑(a.n):Int)),(34,AV.int (IntKind.wrap IntKind.i64 (a.i+(1:Int))))]
  [b 48 (aw a.a),b 178 (AV.mp 2),c 9 4 (fU e1.2 e1.1),Obj.row 3 ws])
 an (decide (a.i<(↑(a.n):Int))) (aG (decide ((0:Int)<=a.i)&&decide (a.i<(↑(a.n):Int))) (d/\d)) (K (Exit.exit 1) (sp 48 [(2,AV.ptr 0 0 [] 0),(8,
 AV.ptr 1 0 [] 0)] [b 48 (aw a.a),b 178 (AV.mp 2),c 9 4 es]))):=by kernel_rfl
def HB(a:VF):=ba (aH a.a)=true/\dk a.a/\0<=a.i/\a.i<=a.n/\a.n<=a.ws.length/\a.ws.length<=a.a.bl.length/\∀k,k∈a.ws->k<a.a.bl.length
def Bj(a:VF):Out (Exit×S):= .one (.exit 1,sp 48 [(2, .ptr 0 0 [] 0),(8, .ptr 1 0 [] 0)] [.box 48 (aw a.a), .box 178 (.mp 2), .map 9 4 (bP (a.vs++e6 (aH a.a) ((a.ws.take a.n).drop a.i.toNat)))])
theorem CG l i h:toInt (nth (ints l) i)=l[i]:=by
 grind [aJ,ints,toInt]
theorem l10 κ:aP (E7 κ) 12 65 8 (aI 0 Sf HB Bj):=by
 refine aD (fun a=>a.n - a.i.toNat) ?_;rintro⟨a,b,n,i,f⟩ K ⟨g,e,m,p,j,l,h⟩ c;simp only at g e m p j l h;rw[show(E7 κ).P=Pr κ from rfl];refine Eq.mpr (x10 κ ⟨a,b,n,i,f⟩ (ints b) (bP f) _ _ K) ?_;simp only[Bj,Out.run] at c;simp only[and_self,Nat.zero_add];have q:=e.2;rw[ag,ai,an3,an2,an2,an4];refine⟨fun k=>⟨⟨m,k⟩,?_⟩,fun k=>?_⟩
 ·have d:i.toNat<b.length:=by omega
  have o:=h _ (List.getElem_mem d);have r:=th e o;have hd:(b.take n).drop i.toNat=b[i.toNat]::(b.take n).drop (i.toNat+1):=by
   rw[ao3 (by rw[List.length_take];omega)];simp
  rw[hd] at c;rw[ay (n:=i+1) (by omega) (by omega),CG b _ d];refine⟨(a,(b[i.toNat]:Int)),rfl,⟨g,e,by simp only;omega,by simp only;omega⟩,(strs (cW (aH a) b[i.toNat]),bP f),rfl,by simp only[bm,aR,aU];omega,_,?_,⟨a,b,n,i+1,f++cW (aH a) b[i.toNat]⟩,?_,⟨g,e,by simp only;omega,by simp only;omega,j,l,h⟩,rfl,?_⟩
  ·simp only;omega
  ·simp only[mS]
  ·simp only[Bj,Out.run,show(i+1).toNat=i.toNat+1 by omega]
   simpa only[e6,List.flatMap_cons,List.append_assoc] using c
 ·rw[ao0 (by rw[List.length_take];omega)] at c
  simpa[e6] using c
noncomputable def KO κ:=((E7 κ).aq 65 8 (aI 0 Sf HB Bj)).aB 114 (aX HY p8 Ft)
theorem ab7 κ:aF (KO κ):=((e7 _).aq (m7 _) (l10 _)).eX (ab5 _)
theorem W3 κ:aj (KO κ):=((m7 _).aq a0).aB aZ
theorem y10 κ a k K:(a8 (KO κ) 12 65 [aw a, .int k] [] K)=(
 letI b:=AV.int
 letI c:=AV.ptr
 letI d:=Obj.box
 letI e:=Obj.row
 letI f:=Dn.Obj.map
 letI g:=K (AV.aK [AV.nil,b 2]) []
 letI h:=Pg.toProgram (Env.P (E7 κ))
 letI i:=Int.toNat (k - (0:Int))
 ∃(v4:dt),letI j:=List.length (bI (aH v4));([aw a],aO)=([aw v4],aO)/\(aM (ae (bk 38 v4.hl v4.bl))<=100000/\v4.bl.length<=100000)/\an (ba (aH v4)) (an (lv (aH v4)) (an (decide (k<(0:Int))) g (an (decide (k>(↑j:Int))) g (aG (true&&decide ((0:Int)<=k)&&decide (k<=(↑j:Int))) (ah h 65 8=ah h 65 8/\∃(v3:VF),sp 48 [(2,c 0 0 [] 0),(8,c 1 0 [] 0),(32,AV.ax 3 0 i),(33,b (↑i:Int)),(34,b 0)] [d 48 (aw a),d 178 (AV.mp 2),f 9 4 [],e 3 (ints (bI (aH v4)))]=sp 48 [(2,c 0 0 [] 0),(8,c 1 0 [] 0),(32,AV.ax 3 0 v3.n),(33,b (↑(v3.n):Int)),(34,b v3.i)] [d 48 (aw v3.a),d 178 (AV.mp 2),f 9 4 (bP v3.vs),e 3 (ints v3.ws)]/\(ba (aH v3.a)=true/\(aM (ae (bk 38 v3.a.hl v3.a.bl))<=100000/\List.length v3.a.bl<=100000)/\(0:Int)<=v3.i/\v3.i<=(↑(v3.n):Int)/\v3.n<=v3.ws.length/\v3.ws.length<=List.length v3.a.bl/\∀(v0:Nat),List.Mem v0 v3.ws->v0<List.length v3.a.bl)/\∃(v2:dt),([aw v3.a],aO)=([aw v2],aO)/\(ba (aH v2)=true/\aM (ae (bk 38 v2.hl v2.bl))<=100000/\v2.bl.length<=100000)/\∃(v1:DB),([AV.ax 0 0 (List.length (dm (aH v2))),AV.bp 116 [c 1 0 [] 0]],[e 9 (strs (dm (aH v2))),d 178 (AV.mp 2),f 9 4 (bP (v3.vs++e6 (aH v3.a) (List.drop v3.i.toNat (List.take v3.n v3.ws))))])=([AV.ax 0 0 v1.vs.length,AV.bp 116 [c 1 0 [] 0]],[e 9 (strs v1.vs),d 178 (AV.mp 2),f 9 4 v1.es])/\p8 v1/\∀(v0:List AV),True->K (AV.aK [AV.ad 9 (strs (List.filter (eQ v1.es) v1.vs)),b 0]) [])))) (K (AV.aK [AV.nil,b 60]) [])) (K (AV.aK [AV.nil,b 30]) [])):=by kernel_rfl
def QX(a:dt×Int):List AV×List Dn.Obj:=([aw a.1, .int a.2],[])
def BB(a:dt×Int):Prop:=dk a.1
def zx(a:dt×Int):Out (AV×List Dn.Obj):= .an (ba (aH a.1)) (.an (lv (aH a.1)) (.an (decide (a.2<0)||decide (a.1.bl.length<a.2)) (.one (.aK [.nil, .int 2],[]))
 (.one (.aK [.ad 9 (strs (j6 (aH a.1) a.2.toNat)), .int 0],[]))) (.one (.aK [.nil, .int 60],[]))) (.one (.aK [.nil, .int 30],[]))
theorem mX{a}(h:lv (aH a)=true):(bI (aH a)).length=a.bl.length:=by
 grind [Ky,fK,lv]
theorem c10 κ:bq (KO κ) 12 65 (aX QX BB zx):=by
 refine a7 ?_;rintro⟨a,k⟩ K d e;refine Eq.mpr (y10 κ a k K) ?_;simp only[zx,Out.run,ag] at e;have d:dk a:=d;have q:=d.2;refine⟨a,rfl,d,?_⟩;rw[ag];refine⟨fun c=>?_,fun c=>e.2 c⟩;rw[ag];refine⟨fun f=>?_,fun f=>(e.1 c).2 f⟩;have o:=mX f;have b:=(e.1 c).1 f;rw[ag,an2,an4];refine⟨fun i=>b.1 (by rw[an8 i];rfl),fun i=>?_⟩;rw[ag,an2,an4,o];refine⟨fun h=>b.1 (by rw[an8 (show(a.bl.length:Int)<k from h)];simp),fun h=>?_⟩;have l:=b.2 (by rw[an6 i,an6 (show ¬ (a.bl.length:Int)<k from h)];rfl);simp only[ai,an3,an2,Int.sub_zero];have p:(fS (aH a)).length<=100000:=by
  have m:=cU (ae (bk 38 a.hl a.bl));rw[iU 38 a.rel a.hl a.bl] at m;exact Nat.le_trans m d.1
 have r:=kU (fS (aH a)) [];refine⟨⟨⟨trivial,by omega⟩,by omega⟩,trivial,⟨a,bI (aH a),k.toNat,0,[]⟩,rfl,⟨c,d,by simp only;omega,by simp only;omega,by simp only;omega,by simp only;omega,fun j n=>by have:=pF n;rwa [fK] at this⟩,a,rfl,⟨c,d⟩,⟨dm (aH a),0,bP ([]++e6 (aH a) (((bI (aH a)).take k.toNat).drop (Int.toNat 0)))⟩,rfl,?_,?_⟩
 ·simp only[p8,dm,c,an9,aU];omega
 ·intro R _
  have g:List.filter (eQ (bP ([]++e6 (aH a) (((bI (aH a)).take k.toNat).drop (Int.toNat 0))))) (dm (aH a))=j6 (aH a) k.toNat:=by
   unfold j6;refine congrFun (congrArg _ ?_) _;funext s
   unfold eQ;rw[pS];rfl
  simp only[g];exact l
noncomputable def O6 κ:=(KO κ).aB 65 (aX QX BB zx)
theorem e10 κ:aF (O6 κ):=(ab7 _).aB (W3 _) (c10 _)
theorem m10 κ:aj (O6 κ):=(W3 _).aB aZ
end Go.Proofs.YtioeffnadipbaaaGreatDoor
