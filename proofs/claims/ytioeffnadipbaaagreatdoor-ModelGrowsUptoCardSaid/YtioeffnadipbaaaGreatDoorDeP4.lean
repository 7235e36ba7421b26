import Derived.Test.YtioeffnadipbaaaGreatDoorDeP3
import Derived.Test.YtioeffnadipbaaaGreatDoorDeP1
namespace Go.Proofs.YtioeffnadipbaaaGreatDoor
open Go Go.Dn Go.Rl Go.Proofs
attribute [local irreducible] a0 vc
set_option maxRecDepth 20000
theorem x65 κ l s i I n K:(vc (Sz κ) 12 189 none 0 (ad (Pr κ).toProgram 189 2) (sp 19 [(0, .ah 9 l),(1, .lit (.string s)),(7, .int l.length),(8, .int i)] []) (bj (Sz κ) 189 2 0 I n K))=(
 letI a:=i<(↑(l.length):Int)
 aq (decide a) (aV (decide ((0:Int)<=i)&&decide a) (aq (ByteArray.toList s==ByteArray.toList (toStr (nth l i.toNat))) (K Exit.ret (sp 19 [(4,AV.int i)]
 [])) (∃(e0:Nat),e0<n/\I e0 (sp 19 [(0,AV.ah 9 l),(1,AV.str s),(7,AV.int (↑(l.length):Int)),(8,AV.int (IntKind.wrap IntKind.i64 (i+(1:
 Int))))] [])))) (K (Exit.exit 0) (sp 19 [] []))):=by kernel_rfl
abbrev Z5(a:List _×ByteArray×Int):=sp 19 [(0, .ah 9 a.1),(1, .lit (.string a.2.1)),(7, .int a.1.length),(8, .int a.2.2)] []
def On(a:List AV×ByteArray×Int):=a.1.length<=aW/\0<=a.2.2/\a.2.2<=a.1.length
def Hy(a:List AV×ByteArray×Int):Out (Exit×S):= .aq (decide (fP a.2.1 (a.1.drop a.2.2.toNat) a.2.2>=0)) (.one (.ret,sp 19 [(4, .int (fP a.2.1 (a.1.drop a.2.2.toNat) a.2.2))] [])) (.one (.exit 0,sp 19 [] []))
theorem l65 κ:aU (Sz κ) 12 189 2 (aG 0 Z5 On Hy):=by
 refine aC (fun a=>a.1.length - a.2.2.toNat) ?_;rintro⟨l,s,i⟩ K ⟨d,c,g⟩ b;simp only at d c g;rw[show(Sz κ).P=Pr κ from rfl];refine Eq.mpr (x65 κ l s i _ _ K) ?_;simp only[aW] at d;simp only[Hy,Out.run,ae] at b;simp only[ae,ai,ap6,ap8,ap7];refine⟨fun f=>⟨⟨c,f⟩,fun e=>?_,fun e=>?_⟩,fun f=>?_⟩
 ·rw[aq7 (show i.toNat<l.length by omega),←aM l i.toNat (by omega),fP,show oQ s (toStr (nth l i.toNat))=true from e,aq3,aq2 (show i>=0 from c)] at b
  exact b.1 rfl
 ·rw[az (n:=i+1) (by omega) (by omega)]
  refine⟨_,?_,(l,s,i+1),rfl,⟨by simpa[aW] using d,by simp only;omega,by simp only;omega⟩,rfl,?_⟩
  ·simp only;omega
  ·rw[aq7 (show i.toNat<l.length by omega),←aM l i.toNat (by omega),fP,show oQ s (toStr (nth l i.toNat))=false from e,aq1] at b
   simp only[Hy,Out.run,ae,show(i+1).toNat=i.toNat+1 by omega];exact b
 ·rw[aq4 (by omega)] at b
  exact b.2 rfl
noncomputable def PS κ:=(Sz κ).an 189 2 (aG 0 Z5 On Hy)
theorem af4 κ:aE (PS κ):=(e39 _).an (m39 _) (l65 _)
theorem ZZ κ:aj (PS κ):=(m39 _).an aI
theorem y65 κ l s K:(a0 (PS κ) 12 189 [.ah 9 l, .lit (.string s)] [] K)=(
 letI b:=AV.int
 ad (Pg.toProgram (Env.P (Sz κ))) 189 2=ad (Pg.toProgram (Env.P (Sz κ))) 189 2/\∃(a:List AV×ByteArray×Int),letI c:=List.drop (Int.toNat a.2.2) a.1;sp 19 [(0,AV.ah 9 l),(1,AV.str s),(7,b (↑(l.length):Int)),(8,b 0)] []=sp 19 [(0,AV.ah 9 a.1),(1,AV.str a.2.1),(7,b (↑(a.1.length):Int)),(8,b a.2.2)] []/\(a.1.length<=9223372036854775807/\(0:Int)<=a.2.2/\a.2.2<=(↑(a.1.length):Int))/\aq (decide (fP a.2.1 c a.2.2>=(0:Int))) (K (b (fP a.2.1 c a.2.2)) []) (K (b (-1)) [])):=by kernel_rfl
def g65:List AV->Option (Bool×AV)
 |[.ah 9 l, .lit (.string s)]=>some (decide (l.length<=aW), .int (fP s l 0))
 |_=>none
theorem vu s: ∀l i,¬ fP s l i>=0->0<=i->fP s l i= -1
 |[],_,_,_=>rfl
 |a::l,i,h,b=>by
  simp only[fP] at h⊢;cases e:oQ s _ with
  |true=>grind
  |false=>rw[e] at h;exact vu s l _ h (by omega)
theorem p65 κ:cd (PS κ) 12 189 g65:=by
 intro b x a;unfold g65 at a;split at a
 ·rename_i l s
  simp only[ap9,aq5,ap6] at a;obtain⟨c,rfl⟩:=a;refine⟨_,rfl,rfl,?_⟩;refine Eq.mpr (y65 κ l s _) ?_;refine⟨rfl,(l,s,0),rfl,⟨c,by simp only;omega,by simp only;omega⟩,?_⟩
  simp_all[Int.toNat_zero,aq6,ae,ap6,trivial,vu]
 ·cases a
noncomputable def E65 κ:=(PS κ).aK 189 g65
theorem e65 κ:aE (E65 κ):=(af4 _).aK (ZZ _) (p65 _)
theorem m65 κ:aj (E65 κ):=(ZZ _).aK
theorem y63 κ l s K:(a0 (E65 κ) 12 164 [.ah 9 l, .lit (.string s)] [] K)=(
 aV (decide (l.length<=9223372036854775807)) (K (AV.bool (decide (fP s l (0:Int)>=(0:Int)))) [])):=by kernel_rfl
def g63:List AV->Option (Bool×AV)
 |[.ah 9 l, .lit (.string s)]=>some (decide (l.length<=aW), .bool (decide (fP s l 0>=0)))
 |_=>none
theorem p63 κ:cd (E65 κ) 12 164 g63:=by
 intro b x a;unfold g63 at a;split at a
 ·rename_i l s
  simp   at a;obtain⟨c,rfl⟩:=a;refine⟨_,rfl,rfl,?_⟩;refine Eq.mpr (y63 _ l s _) ?_;rw[ai,ap6];exact⟨c,rfl⟩
 grind
noncomputable def YZ κ:=(E65 κ).aK 164 g63
theorem e63 κ:aE (YZ κ):=(e65 _).aK (m65 _) (p63 _)
theorem m63 κ:aj (YZ κ):=(m65 _).aK
theorem y24 κ a k K:(a0 (YZ κ) 12 113 [au a, .int k] [] K)=(
 letI b:=AV.int
 letI c:=AV.agg
 letI d:=AV.str
 letI e:=AV.ah
 letI f:=nth a.bl k.toNat
 letI h:=∃(e1:List AV),letI g:=ax (aa e1);([e 38 [c [b (toInt (ag (ag f 2) 0)),d (toStr (ag (ag f 2) 1)),b (toInt (ag (ag f 2) 2)),e 38 (af (ag (ag f 2) 3))]]],aL)=([e 38 e1],aL)/\bE e1/\∃(e0:dk×Int),letI i:=ei (aQ e0.1) e0.2.toNat;([au a,b k],aL)=([au e0.1,b e0.2],aL)/\(a8 (aQ e0.1)=true/\(bk (aa (bo 38 e0.1.hl e0.1.bl))<=100000/\e0.1.bl.length<=100000)/\(0:Int)<=e0.2/\e0.2<(↑(e0.1.bl.length):Int))/\aV (decide ((List.length g+List.length (strs i)+1)*17<=70368744177664)) (K (e 9 (List.take (List.length g+List.length (strs i)) (List.drop 0 (List.take (List.length g) (strs g)++strs i)))) [])
 aV (decide ((0:Int)<=k)&&decide (k<(↑(a.bl.length):Int))) (aq (decide ((7:Int)<=toInt (ag f 0))) ((h/\h)/\h) (∃(e0:LA),([c [b
 (toInt (ag f 0)),c [d (toStr (ag (ag f 1) 0)),e 38 (af (ag (ag f 1) 1))],c [b (toInt (ag (ag f 2) 0)),d (toStr (ag (ag f
 2) 1)),b (toInt (ag (ag f 2) 2)),e 38 (af (ag (ag f 2) 3))],c [b (toInt (ag (ag f 3) 0)),d (toStr (ag (ag f 3) 1)),b
 (toInt (ag (ag f 3) 2)),e 38 (af (ag (ag f 3) 3))]]],aL)=([c [b e0.op,c [d e0.s,e 38 e0.l],c [b e0.o1,d
 e0.s1,b e0.n1,e 38 e0.l1],c [b e0.o2,d e0.s2,b e0.n2,e 38 e0.l2]]],aL)/\gp e0/\K (e 9 (List.take (List.length (ep
 (LA.lt e0))) (List.drop 0 (strs (ep (LA.lt e0)))))) []))):=by kernel_rfl
def TH(a:dk×Int):Out (AV×List Dn.Obj):= .one (.ah 9 (strs (cM (aQ a.1) a.2.toNat)),[])
theorem HK l:bk [l.x]<=jR l:=by
 grind [jR,bk]
theorem Io x:aa [pT 38 (ag x 2)]=[(da x).x]:=by
 simp[aa,qY];rfl
theorem sL{a}(h:dc a) k:(ei (aQ a) k).length<=100000:=by
 have d:(fx (aQ a)).length<=100000:=by
  have b:=cF (aa (bo 38 a.hl a.bl));rw[iJ _ _ _ _] at b;exact Nat.le_trans b h.1
 have c:=k8 (fx (aQ a));refine Nat.le_trans (List.length_filter_le _ _) ?_
 grind [dg]
theorem c24 κ:bd (YZ κ) 12 113 (aO Qe An TH):=by
 refine aR ?_;rintro⟨a,k⟩ K ⟨h,d,f,g⟩ l;refine Eq.mpr (y24 κ a k K) ?_;simp only at h d f g;have i:k.toNat<a.bl.length:=by omega
 have c:=kG d i;have n:=cF [(da (nth a.bl k.toNat)).x];have m:=HK (da (nth a.bl k.toNat));have b:K (.ah 9 (strs (cM (aQ a) k.toNat))) []:=l;unfold cM at b;rw[show(aQ a).body=dx a.bl from rfl,ky _ i,show(da (nth a.bl k.toNat)).op=toInt (ag (nth a.bl k.toNat) 0) from rfl] at b;simp only[and_self];rw[ai,ap7,ap6,ap6,ae,ap6,ap8];refine⟨⟨f,g⟩,fun e=>?_,fun e=>?_⟩
 ·rw[aq2 e] at b
  refine⟨[pT 38 (ag (nth a.bl k.toNat) 2)],rfl,by simp only[bE,Io];omega,(a,k),rfl,⟨h,d,f,g⟩,?_⟩;have j:=sL d k.toNat;simp only[Io,ba,aq6,cO,ai,ap6];refine⟨by omega,?_⟩;rw[←jk,List.take_of_length_le (by simp[ba])];exact b
 ·rw[aq0 e] at b
  refine⟨s7 (nth a.bl k.toNat),rfl,by rw[gp,eB];exact c,?_⟩;simp only[eB,aq6,cO];exact b
noncomputable def YF κ:=(YZ κ).aw 113 (aO Qe An TH)
theorem e24 κ:aE (YF κ):=(e63 _).aw (m63 _) (c24 _)
theorem m24 κ:aj (YF κ):=(m63 _).aw aJ
theorem y52(κ:Kp)(a:dk)(k:Int) es K:(a0 (YF κ) 12 191 [.mp 0,au a, .int k] [.map 9 4 es] K)=(
 letI b:=AV.int
 letI c:=AV.agg
 letI d:=AV.bool
 letI e:=AV.str
 letI f:=Dn.Obj.map
 letI g:=AV.ah
 letI h:=AV.mp
 letI i:=nth a.bl k.toNat
 letI t:=toStr (ag (ag i 3) 1)
 letI u:=af (ag (ag i 1) 1)
 letI x:=toStr (ag (ag i 1) 0)
 letI y:=toInt (ag (ag i 2) 0)
 letI z:=toStr (ag (ag i 2) 1)
 letI l:=toInt (ag (ag i 2) 2)
 letI m:=toInt (ag (ag i 3) 0)
 letI n:=toInt (ag (ag i 3) 2)
 letI o:=af (ag (ag i 2) 3)
 letI p:=af (ag (ag i 3) 3)
 letI j:=Value×AV
 letI v:=∃(e3:dk×Int),([au a,b k],aL)=([au e3.1,b e3.2],aL)/\(a8 (aQ e3.1)=true/\(bk (aa (bo 38 e3.1.hl e3.1.bl))<=100000/\e3.1.bl.length<=100000)/\(0:Int)<=e3.2/\e3.2<(↑(e3.1.bl.length):Int))/\∃(e2:List AV×List j),letI q:=[f 9 4 e2.2];([h 0,g 9 (strs (ei (aQ e3.1) e3.2.toNat))],[f 9 4 es])=([h 0,g 9 e2.1],q)/\bq e2/\aq (gi e2.2 e2.1) (∃(e1:ByteArray×List AV),([c [e x,g 38 u]],aL)=([c [e e1.1,g 38 e1.2]],aL)/\j8 e1/\∃(e0:List AV×List j),([h 0,g 9 (List.take (List.length (dN (aa e1.2))) (List.drop 0 (strs (dN (aa e1.2)))))],q)=([h 0,g 9 e0.1],[f 9 4 e0.2])/\bq e0/\K (d (gi e0.2 e0.1)) [f 9 4 e0.2]) (K (d false) q)
 letI A:=∃(e1:LA),([c [b (toInt (ag i 0)),c [e x,g 38 u],c [b y,e z,b l,g 38 o],c
  [b m,e t,b n,g 38 p]]],aL)=([c [b e1.op,c [e e1.s,g 38 e1.l],c [b e1.o1,e e1.s1,
  b e1.n1,g 38 e1.l1],c [b e1.o2,e e1.s2,b e1.n2,g 38 e1.l2]]],aL)/\gp e1/\∃(e0:List AV×List j),([h 0,g
  9 (List.take (List.length (ep (LA.lt e1))) (List.drop 0 (strs (ep (LA.lt e1)))))],[f 9 4 es])=([h 0,g 9 e0.1],[f 9 4 e0.2])/\bq
  e0/\K (d (gi e0.2 e0.1)) [f 9 4 e0.2]
 letI B:=∃(e4:List AV),letI w:=List.take (List.length (ax (aa e4))) (List.drop 0 (strs (ax (aa e4))));([g 38 u],aL)=([g 38 e4],aL)/\bE e4/\aV (decide (List.length w<=9223372036854775807)) (aq (decide (fP t w (0:Int)>=(0:Int))) v (K (d false) [f 9 4 es]))
 aV (decide ((0:Int)<=k)&&decide (k<(↑(a.bl.length):Int))) (aq (toInt (ag i 0)==(1:Int)) (∃(e1:ByteArray×List AV),([c [e x,g 38 u]],aL)=([c [e e1.1,g 38 e1.2]],aL)/\j8 e1/\∃(e0:List AV×List j),([h 0,g 9 (List.take (List.length (dN (aa e1.2))) (List.drop 0 (strs (dN (aa e1.2)))))],[f 9 4 es])=([h 0,g 9 e0.1],[f 9 4 e0.2])/\bq e0/\K (d (gi e0.2 e0.1)) [f 9 4 e0.2]) (aq (toInt (ag i 0)==(3:Int)) (∃(e3:TA),letI r:=[f 9 4 e3.es];([h 0,c [b y,e z,b l,g 38 o],c [b m,e t,b n,g 38 p]],[f 9 4 es])=([h 0,c [b e3.o1,e e3.s1,b e3.n1,g 38 e3.l1],c [b e3.o2,e e3.s2,b e3.n2,g 38 e3.l2]],r)/\jn e3/\aq (mb e3.es (TA.x e3) (TA.y e3)) (K (d true) r) (∃(e2:TA),letI s:=[f 9 4 e2.es];([h 0,c [b m,e t,b n,g 38 p],c [b y,e z,b l,g 38 o]],r)=([h 0,c [b e2.o1,e e2.s1,b e2.n1,g 38 e2.l1],c [b e2.o2,e e2.s2,b e2.n2,g 38 e2.l2]],s)/\jn e2/\aq (mb e2.es (TA.x e2) (TA.y e2)) (K (d true) s) (∃(e1:LA),([c [b (toInt (ag i 0)),c [e x,g 38 u],c [b y,e z,b l,g 38 o],c [b m,e t,b n,g 38 p]]],aL)=([c [b e1.op,c [e e1.s,g 38 e1.l],c [b e1.o1,e e1.s1,b e1.n1,g 38 e1.l1],c [b e1.o2,e e1.s2,b e1.n2,g 38 e1.l2]]],aL)/\gp e1/\∃(e0:List AV×List j),([h 0,g 9 (List.take (List.length (ep (LA.lt e1))) (List.drop 0 (strs (ep (LA.lt e1)))))],s)=([h 0,g 9 e0.1],[f 9 4 e0.2])/\bq e0/\K (d (gi e0.2 e0.1)) [f 9 4 e0.2]))) (aq (toInt (ag i 0)==(2:Int)) A (aq (toInt (ag i 0)==(4:Int)) A (aq (toInt (ag i 0)==(5:Int)) A (aq (toInt (ag i 0)==(6:Int)) A (aq (toInt (ag i 0)==(7:Int)) (v/\v/\v/\v) (B/\B/\B/\B))))))))):=by kernel_rfl
def Y1(a:dk×Int×List ByteArray):List AV×List Dn.Obj:=([.mp 0,au a.1, .int a.2.1],[.map 9 4 (bU a.2.2)])
def OV(a:dk×Int×List ByteArray):=a8 (aQ a.1)=true/\dc a.1/\0<=a.2.1/\a.2.1<a.1.bl.length
def S5(a:dk×Int×List ByteArray):Out (AV×List Dn.Obj):= .one (.bool (n9 a.2.2 (aQ a.1) a.2.1.toNat),[.map 9 4 (bU a.2.2)])
theorem BG x y a:(TA.mk (toInt (ag x 0)) (toStr (ag x 1)) (toInt (ag x 2)) (af (ag x 3)) (toInt (ag y 0)) (toStr (ag y 1)) (toInt (ag y 2)) (af (ag y 3)) a).x=cI x:=by rw[de];rfl
theorem oc x y a:(TA.mk (toInt (ag x 0)) (toStr (ag x 1)) (toInt (ag x 2)) (af (ag x 3)) (toInt (ag y 0)) (toStr (ag y 1)) (toInt (ag y 2)) (af (ag y 3)) a).y=cI y:=by rw[de];rfl
def l9 x y a:=TA.mk (toInt (ag x 0)) (toStr (ag x 1)) (toInt (ag x 2)) (af (ag x 3)) (toInt (ag y 0)) (toStr (ag y 1)) (toInt (ag y 2)) (af (ag y 3)) a
theorem c52 κ:bd (YF κ) 12 191 (aO Y1 OV S5):=by
 refine aR ?_;rintro⟨a,k,b⟩ K ⟨r,h,i,n⟩ B;refine Eq.mpr (y52 κ a k (bU b) K) ?_;simp only at r h i n;have A:k.toNat<a.bl.length:=by omega
 have d:=kG h A;have c:K (.bool (n9 b (aQ a) k.toNat)) [.map 9 4 (bU b)]:=B;unfold n9 at c;rw[show(aQ a).body=dx a.bl from rfl,ky _ A,show(da (nth a.bl k.toNat)).op=toInt (ag (nth a.bl k.toNat) 0) from rfl,show(da (nth a.bl k.toNat)).a.l=aa (af (ag (ag (nth a.bl k.toNat) 1) 1)) from rfl,
  show(da (nth a.bl k.toNat)).x=cI (ag (nth a.bl k.toNat) 2) from rfl,show(da (nth a.bl k.toNat)).y=cI (ag (nth a.bl k.toNat) 3) from rfl] at c
 have t:jR (da (nth a.bl k.toNat))=bk [cI (ag (nth a.bl k.toNat) 2),cI (ag (nth a.bl k.toNat) 3)]+bk (aa (af (ag (ag (nth a.bl k.toNat) 1) 1))):=rfl;have f:bk (aa (af (ag (ag (nth a.bl k.toNat) 1) 1)))<=100000:=by omega
 have g:bk [cI (ag (nth a.bl k.toNat) 2)]<=100000/\bk [cI (ag (nth a.bl k.toNat) 3)]<=100000:=by
  simp only[bk] at t⊢;omega
 have F:=cF (aa (af (ag (ag (nth a.bl k.toNat) 1) 1)));have C:=Cs (aa (af (ag (ag (nth a.bl k.toNat) 1) 1)));have D:=sL h k.toNat;have E:(ep (da (nth a.bl k.toNat))).length<=100000:=by
  have m:=cF [(da (nth a.bl k.toNat)).x,(da (nth a.bl k.toNat)).y];have j:=cF (da (nth a.bl k.toNat)).a.l;simp only[ep,jR,ar1] at d⊢;omega
 simp only[and_self];rw[ai,ap7,ap6,ap6];refine⟨⟨i,n⟩,?_⟩;rw[ae,beq_iff_eq,beq_eq_false_iff_ne];refine⟨fun m=>?_,fun m=>?_⟩
 ·rw[aq2 m,aq3] at c
  refine⟨(toStr (ag (ag (nth a.bl k.toNat) 1) 0),af (ag (ag (nth a.bl k.toNat) 1) 1)),rfl,f,(strs (dN (aa (af (ag (ag (nth a.bl k.toNat) 1) 1)))),bU b),by simp only[aq6,cO],by simp only[bq,ba,aW];omega,?_⟩;simp only[fk];exact c
 rw[aq0 m,aq1] at c;rw[ae,beq_iff_eq,beq_eq_false_iff_ne];refine⟨fun j=>?_,fun j=>?_⟩
 ·rw[aq2 j,aq3] at c
  refine⟨l9 (ag (nth a.bl k.toNat) 2) (ag (nth a.bl k.toNat) 3) (bU b),rfl,by unfold jn l9;rw[oc];exact g.2,?_⟩;unfold l9;rw[BG,oc,pB];rw[ae];refine⟨fun e=>by rw[e] at c;exact c,fun e=>?_⟩;rw[e,Bool.false_or] at c;refine⟨l9 (ag (nth a.bl k.toNat) 3) (ag (nth a.bl k.toNat) 2) (bU b),rfl,by unfold jn l9;rw[oc];exact g.1,?_⟩;unfold l9;rw[BG,oc,pB,ae];refine⟨fun p=>by rw[p] at c;exact c,fun p=>?_⟩;rw[p,Bool.false_or] at c;exact⟨s7 (nth a.bl k.toNat),rfl,by rw[gp,eB];exact d,(strs (ep (s7 (nth a.bl k.toNat)).lt),bU b),by simp only[aq6,cO],by simp only[bq,ba,aW];rw[eB];omega,by simp only[fk,eB];exact c⟩
 rw[aq0 j,aq1] at c;rw[ae,beq_iff_eq,beq_eq_false_iff_ne];refine⟨fun u=>?_,fun u=>?_⟩
 ·rw[aq2 u] at c
  simp only[Bool.true_or,Bool.or_true,aq3] at c;exact⟨s7 (nth a.bl k.toNat),rfl,by rw[gp,eB];exact d,(strs (ep (s7 (nth a.bl k.toNat)).lt),bU b),by simp only[aq6,cO],by simp only[bq,ba,aW];rw[eB];omega,by simp only[fk,eB];exact c⟩
 rw[ae,beq_iff_eq,beq_eq_false_iff_ne];refine⟨fun q=>?_,fun q=>?_⟩
 ·rw[aq2 q] at c
  simp only[Bool.true_or,Bool.or_true,aq3] at c;exact⟨s7 (nth a.bl k.toNat),rfl,by rw[gp,eB];exact d,(strs (ep (s7 (nth a.bl k.toNat)).lt),bU b),by simp only[aq6,cO],by simp only[bq,ba,aW];rw[eB];omega,by simp only[fk,eB];exact c⟩
 rw[ae,beq_iff_eq,beq_eq_false_iff_ne];refine⟨fun w=>?_,fun w=>?_⟩
 ·rw[aq2 w] at c
  simp only[Bool.true_or,Bool.or_true,aq3] at c;exact⟨s7 (nth a.bl k.toNat),rfl,by rw[gp,eB];exact d,(strs (ep (s7 (nth a.bl k.toNat)).lt),bU b),by simp only[aq6,cO],by simp only[bq,ba,aW];rw[eB];omega,by simp only[fk,eB];exact c⟩
 rw[ae,beq_iff_eq,beq_eq_false_iff_ne];refine⟨fun v=>?_,fun v=>?_⟩
 ·rw[aq2 v] at c
  simp only[Bool.true_or,Bool.or_true,aq3] at c;exact⟨s7 (nth a.bl k.toNat),rfl,by rw[gp,eB];exact d,(strs (ep (s7 (nth a.bl k.toNat)).lt),bU b),by simp only[aq6,cO],by simp only[bq,ba,aW];rw[eB];omega,by simp only[fk,eB];exact c⟩
 rw[aq0 u,aq0 q,aq0 w,aq0 v] at c;simp only[Bool.false_or,aq1] at c;rw[ae,beq_iff_eq,beq_eq_false_iff_ne];refine⟨fun z=>?_,fun z=>?_⟩
 ·rw[aq2 z,Bool.true_or,ar2] at c
  refine⟨(a,k),rfl,⟨r,h,i,n⟩,(strs (ei (aQ a) k.toNat),bU b),rfl,by simp only[bq,ba,aW];omega,ae.2 ⟨fun e=>⟨(toStr (ag (ag (nth a.bl k.toNat) 1) 0),af (ag (ag (nth a.bl k.toNat) 1) 1)),rfl,f,(strs (dN (aa (af (ag (ag (nth a.bl k.toNat) 1) 1)))),bU b),by simp only[aq6,cO],by simp only[bq,ba,aW];omega,?_⟩,fun e=>?_⟩⟩
  ·rw[fk] at e
   simp only[fk];rw[e,ar2] at c;exact c
  ·rw[fk] at e
   rw[e,Bool.false_and] at c;exact c
 ·rw[aq0 z,Bool.false_or] at c
  refine⟨_,rfl,f,?_⟩;have H:=zu (toStr (ag (ag (nth a.bl k.toNat) 3) 1)) (ax (aa (af (ag (ag (nth a.bl k.toNat) 1) 1)))) 0 (by omega);have I:(cI (ag (nth a.bl k.toNat) 3)).s=toStr (ag (ag (nth a.bl k.toNat) 3) 1):=by rw[de];rfl
  simp only[aq6,cO,ba,H];rw[ai,ap6,ae];rw[I] at c;refine⟨by omega,fun o=>?_,fun o=>?_⟩
  ·rw[o,ar2] at c
   refine⟨(a,k),rfl,⟨r,h,i,n⟩,(strs (ei (aQ a) k.toNat),bU b),rfl,by simp only[bq,ba,aW];omega,ae.2 ⟨fun e=>⟨(toStr (ag (ag (nth a.bl k.toNat) 1) 0),af (ag (ag (nth a.bl k.toNat) 1) 1)),rfl,f,(strs (dN (aa (af (ag (ag (nth a.bl k.toNat) 1) 1)))),bU b),by simp only[aq6,cO],by simp only[bq,ba,aW];omega,?_⟩,fun e=>?_⟩⟩
   ·rw[fk] at e
    simp only[fk];rw[e,ar2] at c;exact c
   ·rw[fk] at e
    rw[e,Bool.false_and] at c;exact c
  ·rw[o,Bool.false_and] at c;exact c
noncomputable def Si κ:=(YF κ).aw 191 (aO Y1 OV S5)
theorem e52 κ:aE (Si κ):=(e24 _).aw (m24 _) (c52 _)
theorem m52 κ:aj (Si κ):=(m24 _).aw aJ
def b9(l:List Bool):List AV:=l.map fun b=> .lit (.bool b)
theorem jG l:(b9 l).length=l.length:=by simp[b9]
theorem KJ l k:Dn.toBool (nth (b9 l) k)=Rl.fv l k:=by
 unfold Rl.fv;induction l generalizing k with
 |nil=>rfl
 |cons a l b=>
  cases k with
  |zero=>rfl
  |succ k=>grind [b9,nth]
structure Lh where
 a:dk
 done:List Bool
 b:List ByteArray
 i:Int
 first:Int
abbrev G3(a:Lh):=sp 38 [(1, .ak 0 0 (b9 a.done).length),(2, .mp 1),(3, .ptr 2 0 [] 0),(7, .int a.first),(11, .ah 80 a.a.bl),(12, .int a.a.bl.length),(13, .int a.i)] [.row 4 (b9 a.done), .map 9 4 (bU a.b), .box 48 (au a.a)]
theorem x36(κ:Kp)(a:Lh) es I n K:(vc (Si κ) 12 170 none 2 (ad (Pr κ).toProgram 170 3) (sp 38 [(1, .ak 0 0 (b9 a.done).length),(2, .mp 1),(3, .ptr 2 0 [] 0),(7, .int a.first),(11, .ah 80 a.a.bl),(12, .int a.a.bl.length),(13, .int a.i)] [.row 4 (b9 a.done), .map 9 4 es, .box 48 (au a.a)]) (bj (Si κ) 170 3 2 I n K))=(
 letI b:=AV.int
 letI c:=Obj.row
 letI d:=Dn.Obj.map
 letI g:=IntKind.wrap IntKind.i64 (a.i+(1:Int))
 letI f:=List.length (b9 a.done)
 letI e:=List.length a.a.bl
 aq (decide (a.i<(↑e:Int))) (aV (decide ((0:Int)<=a.i)&&decide (a.i<(↑e:Int))) (aV (decide ((0:Int)<=a.i)&&decide (a.i<(↑f:Int))) (aq (Dn.toBool (nth (b9 a.done) (0+a.i.toNat))) (∃(e0:Nat),e0<n/\I e0 (sp 38 [(1,AV.ak 0 0 f),(2,AV.mp 1),(3,AV.ptr 2 0 [] 0),(7,b a.first),(11,AV.ah 80 a.a.bl),(12,b (↑e:Int)),(13,b g)] [c 4 (b9 a.done),d 9 4 es,Obj.box 48 (au a.a)])) (∃(e1:dk×Int×List ByteArray),letI h:=[c 4 (b9 a.done),d 9 4 (bU e1.2.2),Obj.box 48 (au a.a)];letI i:=∃(e0:Nat),e0<n/\I e0 (sp 38 [(1,AV.ak 0 0 f),(2,AV.mp 1),(3,AV.ptr 2 0 [] 0),(7,b a.first),(11,AV.ah 80 a.a.bl),(12,b (↑e:Int)),(13,b g)] h);([AV.mp 0,au a.a,b a.i],[d 9 4 es])=([AV.mp 0,au e1.1,b e1.2.1],[d 9 4 (bU e1.2.2)])/\(a8 (aQ e1.1)=true/\(bk (aa (bo 38 e1.1.hl e1.1.bl))<=100000/\e1.1.bl.length<=100000)/\(0:Int)<=e1.2.1/\e1.2.1<(↑(e1.1.bl.length):Int))/\aq (!n9 e1.2.2 (aQ e1.1) e1.2.1.toNat) i (aq (toInt (ag (nth a.a.bl a.i.toNat) 0) != (1:Int)) (K Exit.ret (sp 38 [(6,b a.i)] [c 4 (b9 a.done),d 9 4 (bU e1.2.2)])) (aq (decide (a.first<(0:Int))) (∃(e0:Nat),e0<n/\I e0 (sp 38 [(1,AV.ak 0 0 f),(2,AV.mp 1),(3,AV.ptr 2 0 [] 0),(7,b a.i),(11,AV.ah 80 a.a.bl),(12,b (↑e:Int)),(13,b g)] h)) i)))))) (K (Exit.exit 0) (sp 38 [(7,b a.first)] [c 4 (b9 a.done),d 9 4 es]))):=by kernel_rfl
def BE(a:Lh):=a8 (aQ a.a)=true/\dc a.a/\0<=a.i/\a.i<=a.a.bl.length/\a.done.length=a.a.bl.length
def zb(a:Lh):=mj (aQ a.a) a.done a.b (a.a.bl.length - a.i.toNat) a.i.toNat a.first
def Ge(a:Lh):Out (Exit×S):= .all (fun _=>True) fun e=> .aq e (.one (.ret,sp 38 [(6, .int (zb a))] [.row 4 (b9 a.done), .map 9 4 (bU a.b)])) (.one (.exit 0,sp 38 [(7, .int (zb a))] [.row 4 (b9 a.done), .map 9 4 (bU a.b)]))
theorem l36 κ:aU (Si κ) 12 170 3 (aG 2 G3 BE Ge):=by
 refine aC (fun a=>a.a.bl.length - a.i.toNat) ?_;rintro⟨a,done,b,i,c⟩ K ⟨p,j,l,v,r⟩ q;simp only at p j l v r;rw[show(Si κ).P=Pr κ from rfl];refine Eq.mpr (x36 κ ⟨a,done,b,i,c⟩ (bU b) _ _ K) ?_;have g:=q true trivial;have d:=q false trivial;simp only[Out.run,aq,zb] at g d;simp only[Nat.zero_add,KJ];have s:=jG done;have x:=j.2;rw[ae,ai,ai,ap7,ap7,ap6,ap6,ap6,ap8];have w:i<a.bl.length->∀f:Int,mj (aQ a) done b (a.bl.length - i.toNat) i.toNat c=mj (aQ a) done b (a.bl.length - (i.toNat+1)) (i.toNat+1) f->
   ∃m,m<a.bl.length - i.toNat/\et G3 BE Ge (fun a=>a.a.bl.length - a.i.toNat) K m (G3 ⟨a,done,b,i+1,f⟩):=by
  intro h f t;refine⟨_,?_,⟨a,done,b,i+1,f⟩,rfl,⟨p,j,by simp only;omega,by simp only;omega,r⟩,rfl,?_⟩
  ·simp only;omega
  ·intro e _
   simp only[Out.run,zb,show(i+1).toNat=i.toNat+1 by omega,←t];cases e
   ·exact d
   ·exact g
 refine⟨fun h=>⟨⟨l,h⟩,⟨l,by omega⟩,?_⟩,fun h=>?_⟩
 ·have k:=FM (aQ a) done b (a.bl.length - (i.toNat+1)) i.toNat c
  rw[show a.bl.length - (i.toNat+1)+1=a.bl.length - i.toNat by omega] at k;have u:i.toNat<a.bl.length:=by omega
  have o:(dW (aQ a).body i.toNat).op=toInt (ag (nth a.bl i.toNat) 0):=by
   rw[show(aQ a).body=dx a.bl from rfl,ky _ u];rfl
  rw[o] at k;rw[az (n:=i+1) (by omega) (by omega),ae];refine⟨fun e=>w h c (by rw[k,e];rfl),fun e=>⟨(a,i,b),rfl,⟨p,j,l,h⟩,?_⟩⟩;rw[e,Bool.false_or] at k;simp only[ae,Bool.not_eq_true',aq8,bne_iff_ne,bne_eq_false_iff_eq,ap6,ap8]
  grind
 ·rw[show a.bl.length - i.toNat=0 by omega] at d
  exact d
noncomputable def ME κ:=(Si κ).an 170 3 (aG 2 G3 BE Ge)
theorem am0 κ:aE (ME κ):=(e52 _).an (m52 _) (l36 _)
theorem ZT κ:aj (ME κ):=(m52 _).an aI
theorem y36 κ(a:Lh) K:(a0 (ME κ) 12 170 [au a.a, .ak 0 0 (b9 a.done).length, .mp 1] [.row 4 (b9 a.done), .map 9 4 (bU a.b)] K)=(
 letI b:=AV.int
 letI c:=Dn.Obj.map
 letI d:=Pg.toProgram (Env.P (Si κ))
 ad d 170 3=ad d 170 3/\∃(e1:Lh),letI e:=K (b (zb e1)) [Obj.row 4 (b9 e1.done),c 9 4 (bU e1.b)];sp 38 [(1,AV.ak 0 0 (List.length (b9 a.done))),(2,AV.mp 1),(3,AV.ptr 2 0 [] 0),(7,b (-1)),(11,AV.ah 80 a.a.bl),(12,b (↑(List.length a.a.bl):Int)),(13,b 0)] [Obj.row 4 (b9 a.done),c 9 4 (bU a.b),Obj.box 48 (au a.a)]=sp 38 [(1,AV.ak 0 0 (List.length (b9 e1.done))),(2,AV.mp 1),(3,AV.ptr 2 0 [] 0),(7,b e1.first),(11,AV.ah 80 e1.a.bl),(12,b (↑(List.length e1.a.bl):Int)),(13,b e1.i)] [Obj.row 4 (b9 e1.done),c 9 4 (bU e1.b),Obj.box 48 (au e1.a)]/\(a8 (aQ e1.a)=true/\(bk (aa (bo 38 e1.a.hl e1.a.bl))<=100000/\List.length e1.a.bl<=100000)/\(0:Int)<=e1.i/\e1.i<=(↑(List.length e1.a.bl):Int)/\e1.done.length=List.length e1.a.bl)/\∀(e0:Bool),True->aq e0 e e):=by kernel_rfl
def Zj(a:Lh):List AV×List Dn.Obj:=([au a.a, .ak 0 0 (b9 a.done).length, .mp 1],[.row 4 (b9 a.done), .map 9 4 (bU a.b)])
def NZ(a:Lh):=a8 (aQ a.a)=true/\dc a.a/\a.done.length=a.a.bl.length
def S7(a:Lh):Out (AV×List Dn.Obj):= .one (.int (aF (aQ a.a) a.done a.b),[.row 4 (b9 a.done), .map 9 4 (bU a.b)])
theorem gh a:(aQ a).body.length=a.bl.length:=Ba _
theorem c36 κ:bd (ME κ) 12 170 (aO Zj NZ S7):=by
 refine aR ?_;rintro⟨a,done,b,i,d⟩ K ⟨f,g,h⟩ j;refine Eq.mpr (y36 κ _ K) ?_;have c:K _ _:=j;unfold aF at c;rw[gh] at c;refine⟨rfl,⟨a,done,b,0, -1⟩,rfl,⟨f,g,by simp only;omega,by simp only;omega,h⟩,?_⟩;intro e _;cases e
 ·exact c
 ·exact c
noncomputable def Ru κ:=(ME κ).aw 170 (aO Zj NZ S7)
theorem e36 κ:aE (Ru κ):=(am0 _).aw (ZT _) (c36 _)
theorem m36 κ:aj (Ru κ):=(ZT _).aw aJ
def ints(l:List _):=l.map fun(k:Nat)=>AV.lit (.int .i64 k)
theorem rH l:(ints l).length=l.length:=by simp[ints]
theorem OS l m:ints (l++m)=ints l++ints m:=by simp[ints]
structure A35 where
 a:dk
 ks:List Nat
 done:List Bool
 b:List ByteArray
 i:Int
noncomputable abbrev Yq(a:dk)(κ:Kp):Dn.Obj:=
 .loop (iI (Pr κ).toProgram 107 4 .ready none (gX (bM 40) [(0,au a),(1, .ptr 0 0 [] 0),(2, .nil),(3, .lit .nilIface),(4, .ptr 1 0 [] 0),(5, .ptr 3 0 [] 0),(7, .mp 2),(8,au a),(9, .bm 169 [.ptr 4 0 [] 0])]))
noncomputable abbrev Hl κ a c b:=[.box 48 (au a), .box 35 (.ak 6 0 (ints c).length), .map 9 4 (bU b), .box 178 (.mp 2), .box 48 (au a),Yq a κ, .row 3 (ints c)]
noncomputable abbrev Mu κ(a:A35):=sp 38 [(0, .cf 5),(1, .ptr 4 0 [] 0),(3, .mp 7),(4, .ak 8 0 (b9 a.done).length),(13, .int a.a.bl.length),(14, .int a.i)] (Hl κ a.a a.ks a.b++[.map 9 4 (bU a.b), .row 4 (b9 a.done)])
theorem x17(κ:Kp)(a:dk) ks es es' done i I n K:(vc (Ru κ) 12 169 none 6 (ad (Pr κ).toProgram 169 3) (sp 38 [(0, .cf 5),(1, .ptr 4 0 [] 0),(3, .mp 7),(4, .ak 8 0 done.length),(13, .int a.bl.length),(14, .int i)] [.box 48 (au a), .box 35 (.ak 6 0 ks.length), .map 9 4 es, .box 178 (.mp 2), .box 48 (au a),Yq a κ, .row 3 ks, .map 9 4 es', .row 4 done]) (bj (Ru κ) 169 3 6 I n K))=(
 letI b:=AV.int
 letI c:=AV.ptr
 letI d:=Obj.box
 letI e:=Obj.row
 letI f:=Dn.Obj.map
 letI g:=AV.ah
 letI h:=AV.ak
 letI j:=AV.mp
 letI o:=iI Tryz.prog 107 4 LoopState.ready none (gX (bM 40) [(0,au a),(1,c 0 0 [] 0),(2,AV.nil),(3,AV.lit Value.nilIface),(4,c 1 0 [] 0),
  (5,c 3 0 [] 0),(7,j 2),(8,au a),(9,AV.bm 169 [c 4 0 [] 0])])
 letI p:=sp 38 [] [d 48 (au a),d 35 (h 6 0 ks.length),f 9 4 es,d 178 (j 2),d 48 (au a),Dn.Obj.loop o,e 3
  ks]
 letI q:=IntKind.wrap IntKind.i64 (i+(1:Int))
 letI m:=Value×AV
 letI r:=h 6 0 (ks.length+1)
 aq (decide (i<(↑(a.bl.length):Int))) (∃(e5:Lh),letI k:=aF (aQ e5.a) e5.done e5.b;letI s:=decide ((0:Int)<=aF (aQ e5.a) e5.done e5.b)&&decide (aF (aQ e5.a) e5.done e5.b<(↑(done.length):Int));letI t:=bH (b9 e5.done) (0+Int.toNat k) (AV.bool true);letI u:=List.take ks.length ks++[b k];letI l:=[f 9 4 (bU e5.b)];([au a,h 0 0 done.length,j 1],[e 4 done,f 9 4 es'])=([au e5.a,h 0 0 (List.length (b9 e5.done)),j 1],[e 4 (b9 e5.done),f 9 4 (bU e5.b)])/\(a8 (aQ e5.a)=true/\(bk (aa (bo 38 e5.a.hl e5.a.bl))<=100000/\List.length e5.a.bl<=100000)/\e5.done.length=List.length e5.a.bl)/\aq (decide (aF (aQ e5.a) e5.done e5.b<(0:Int))) (K Exit.ret p) (aV (decide ((ks.length+1+1)*9<=70368744177664)) ((∃(e4:dk×Int),([au a,b k],aL)=([au e4.1,b e4.2],aL)/\(a8 (aQ e4.1)=true/\(bk (aa (bo 38 e4.1.hl e4.1.bl))<=100000/\e4.1.bl.length<=100000)/\(0:Int)<=e4.2/\e4.2<(↑(e4.1.bl.length):Int))/\∃(e3:List AV×List m),([j 0,g 9 (strs (cM (aQ e4.1) e4.2.toNat))],[f 9 4 es])=([j 0,g 9 e3.1],[f 9 4 e3.2])/\bq e3/\aV s (∃(e2:dk×Int),([au a,b k],aL)=([au e2.1,b e2.2],aL)/\(a8 (aQ e2.1)=true/\(bk (aa (bo 38 e2.1.hl e2.1.bl))<=100000/\e2.1.bl.length<=100000)/\(0:Int)<=e2.2/\e2.2<(↑(e2.1.bl.length):Int))/\∃(e1:List AV×List m),([j 0,g 9 (strs (cM (aQ e2.1) e2.2.toNat))],l)=([j 0,g 9 e1.1],[f 9 4 e1.2])/\bq e1/\∃(e0:Nat),e0<n/\I e0 (sp 38 [(0,AV.cf 5),(1,c 4 0 [] 0),(3,j 7),(4,h 8 0 done.length),(13,b (↑(a.bl.length):Int)),(14,b q)] [d 48 (au a),d 35 r,f 9 4 (fF e3.2 e3.1),d 178 (j 2),d 48 (au a),Dn.Obj.loop o,e 3 u,f 9 4 (fF e1.2 e1.1),e 4 t])))/\∃(e4:dk×Int),([au a,b k],aL)=([au e4.1,b e4.2],aL)/\(a8 (aQ e4.1)=true/\(bk (aa (bo 38 e4.1.hl e4.1.bl))<=100000/\e4.1.bl.length<=100000)/\(0:Int)<=e4.2/\e4.2<(↑(e4.1.bl.length):Int))/\∃(e3:List AV×List m),([j 0,g 9 (strs (cM (aQ e4.1) e4.2.toNat))],[f 9 4 es])=([j 0,g 9 e3.1],[f 9 4 e3.2])/\bq e3/\aV s (∃(e2:dk×Int),([au a,b k],aL)=([au e2.1,b e2.2],aL)/\(a8 (aQ e2.1)=true/\(bk (aa (bo 38 e2.1.hl e2.1.bl))<=100000/\e2.1.bl.length<=100000)/\(0:Int)<=e2.2/\e2.2<(↑(e2.1.bl.length):Int))/\∃(e1:List AV×List m),([j 0,g 9 (strs (cM (aQ e2.1) e2.2.toNat))],l)=([j 0,g 9 e1.1],[f 9 4 e1.2])/\bq e1/\∃(e0:Nat),e0<n/\I e0 (sp 38 [(0,AV.cf 5),(1,c 4 0 [] 0),(3,j 7),(4,h 8 0 done.length),(13,b (↑(a.bl.length):Int)),(14,b q)] [d 48 (au a),d 35 r,f 9 4 (fF e3.2 e3.1),d 178 (j 2),d 48 (au a),Dn.Obj.loop o,e 3 u,f 9 4 (fF e1.2 e1.1),e 4 t]))))) (K (Exit.exit 0) p)):=by kernel_rfl
theorem ql: ∀l k,bH (b9 l) k (.lit (.bool true))=b9 (l.set k true)
 |[],_=>rfl
 |_::_,0=>rfl
 |a::l,k+1=>by
  have:=ql l k
  grind [b9,bH]
noncomputable def eZ(a:A35):=om (aQ a.a) (a.a.bl.length - a.i.toNat) a.done a.b
def Iq(a:A35):=a8 (aQ a.a)=true/\dc a.a/\0<=a.i/\a.i<=a.a.bl.length/\a.done.length=a.a.bl.length/\a.ks.length<=a.i.toNat
noncomputable def Pt(κ:Kp)(a:A35):Out (Exit×S):= .all (fun _=>True) fun e=> .aq e (.one (.ret,sp 38 [] (Hl κ a.a (a.ks++eZ a) (a.b++e9 (aQ a.a) (eZ a)))))
 (.one (.exit 0,sp 38 [] (Hl κ a.a (a.ks++eZ a) (a.b++e9 (aQ a.a) (eZ a)))))
theorem sZ{a}(h:dc a){k}(c:k<a.bl.length):(cM (aQ a) k).length<=200000:=by
 have b:=kG h c;have d:=sL h k;have e:=HK (da (nth a.bl k))
 grind [cF,cM,aQ,ky,da,nth,ep,jR]
theorem l17 κ:aU (Ru κ) 12 169 3 (aG 6 (Mu κ) Iq (Pt κ)):=by
 refine aC (fun a=>a.a.bl.length - a.i.toNat) ?_;rintro⟨a,h,done,b,i⟩ K ⟨j,g,t,w,q,x⟩ s;simp only at j g t w q x;rw[show(Ru κ).P=Pr κ from rfl];refine Eq.mpr (x17 κ a (ints h) (bU b) (bU b) (b9 done) i _ _ K) ?_;have c:=s true trivial;have d:=s false trivial;simp only[Out.run,aq,eZ] at c d;simp only[and_self];have v:=jG done;have z:=rH h;have C:=g.2;rw[ae,ap6,ap8];refine⟨fun u=>⟨⟨a,done,b,0,0⟩,rfl,⟨j,g,q⟩,?_⟩,fun u=>?_⟩
 ·have p:=GL (aQ a) (a.bl.length - (i.toNat+1)) done b
  rw[show a.bl.length - (i.toNat+1)+1=a.bl.length - i.toNat by omega] at p;rw[ae,ap6,ap8];refine⟨fun e=>?_,fun e=>?_⟩
  ·rw[p,aq2 e] at c
   simp only[aq3,List.append_nil,e9,List.flatMap_nil] at c;exact c
  ·rw[p,aq0 e,aq1] at c d
   rcases qR (aQ a) done b with e0|⟨m,y,A,_⟩
   ·rw[e0] at e;omega
   have k:=y;rw[gh] at k;have B:=sZ g k;rw[ai,ap6];refine⟨by omega,(a,aF (aQ a) done b),rfl,⟨j,g,m,by simp only;omega⟩,(strs (cM (aQ a) (aF (aQ a) done b).toNat),bU b),rfl,by simp only[bq,ba,aW];omega,?_⟩;rw[ai,ap7,ap6,ap6];refine⟨⟨m,by show aF (aQ a) done b<_;omega⟩,(a,aF (aQ a) done b),rfl,⟨j,g,m,by simp only;omega⟩,(strs (cM (aQ a) (aF (aQ a) done b).toNat),bU b),rfl,by simp only[bq,ba,aW];omega,?_⟩;rw[az (n:=i+1) (by omega) (by omega)];refine⟨_,?_,⟨a,h++[(aF (aQ a) done b).toNat],done.set (aF (aQ a) done b).toNat true,b++cM (aQ a) (aF (aQ a) done b).toNat,i+1⟩,?_,⟨j,g,by simp only;omega,by simp only;omega,by simpa using q,by simp only[ar1,List.length_singleton];omega⟩,rfl,?_⟩
   ·simp only;omega
   ·simp only[List.take_length]
    simp only[Mu,Hl,List.cons_append,List.nil_append,Nat.zero_add,ql,mx,jG,List.length_set,OS,rH,ar1,List.length_singleton];simp only[ints,ar3,List.map_nil,Int.toNat_of_nonneg m,List.length_singleton]
   ·have r: ∀l,b++e9 (aQ a) ((aF (aQ a) done b).toNat::l)=(b++cM (aQ a) (aF (aQ a) done b).toNat)++e9 (aQ a) l:=fun l=>by
     simp only[e9,List.flatMap_cons,List.append_assoc]
    have o: ∀l,h++(aF (aQ a) done b).toNat::l=(h++[(aF (aQ a) done b).toNat])++l:=fun l=>by simp
    rw[r,o] at c d;intro f _;simp only[Out.run,eZ,show(i+1).toNat=i.toNat+1 by omega];cases f
    ·exact d
    ·exact c
 ·rw[show a.bl.length - i.toNat=0 by omega] at d
  simp only[om,List.append_nil,e9,List.flatMap_nil] at d;exact d
noncomputable def Lc κ:=(Ru κ).an 169 3 (aG 6 (Mu κ) Iq (Pt κ))
theorem ao0 κ:aE (Lc κ):=(e36 _).an (m36 _) (l17 _)
theorem Sq κ:aj (Lc κ):=(m36 _).an aI
end Go.Proofs.YtioeffnadipbaaaGreatDoor
namespace Go.Proofs.YtioeffnadipbaaaGreatDoor
open Go Go.Dn Go.Rl Go.Proofs Go.RowKit Go.Extern.Stop Go.Stop Go.Extern
theorem ZQ v a w:(Instr.typeAssert (.iface 253 v) a 259 true).run Tryz.prog w= .ok (.tuple #[.nilIface, .bool false]) w:=run_typeAssert_lacksB Tryz.underlying259 (by kernel_rfl) (by kernel_rfl) v _ w
theorem J1 v a w:(Instr.typeAssert (.iface 253 v) a 261 true).run Tryz.prog w= .ok (.tuple #[.nilIface, .bool false]) w:=run_typeAssert_lacksB Tryz.underlying261 (by kernel_rfl) (by kernel_rfl) v _ w
theorem DI v a w:(Instr.typeAssert (.iface 253 v) a 263 true).run Tryz.prog w= .ok (.tuple #[.iface 253 v, .bool true]) w:=run_typeAssert_hasB Tryz.underlying263 (by kernel_rfl) v _ w
theorem yp v w:(Go.method 411 253 v "Unwrap").run Tryz.prog w= .ok (218,v) w:=by kernel_rfl
set_option maxRecDepth 4000 in
theorem Jy(a:Addr)(w:World):
  Calls Tryz.prog 158 #[.iface 273 (.pointer (some a)), .iface 273 (.pointer (some a)), .bool true] w fun e w'=>e= .returned (.bool true)/\w'=w:=by
 obtain⟨i,hi,hcmp⟩:=Option.map_eq_some_iff.1 EE;obtain⟨j,hj,hjs⟩:=Option.map_eq_some_iff.1 Gf;have heq:=run_eql_iface_ptr_same (P:=Tryz.prog) w a Tryz.underlying171 Tryz.underlying273 hi hcmp hj
 go_enter Tryz.func158,Tryz.ntmps158
 go_wp2
 refine wp_loop_rounds 1 ?_;rw[rounds_succ]
 go_wp2
 go_ret
 exact⟨rfl,rfl⟩
set_option maxRecDepth 8000 in
theorem R7(ja ra b:Addr)(cap:Nat)(w:World)(h1:w.cell? ja=some (.slice (some ra) 1 cap))(h2:w.cell? ra=some (.iface 273 (.pointer (some b)))):
  Calls Tryz.prog 108 #[.iface 253 (.pointer (some ja)), .iface 273 (.pointer (some b))] w fun e w'=>e= .returned (.bool true)/\w'=w:=by
 have h8:= @run_callFunc_extern Tryz.prog 157 _ Extern.ReflectliteType.typeOf Tryz.func157 (by kernel_rfl) (by kernel_rfl) (by kernel_rfl) (by kernel_rfl);have h32:= @run_callFunc_extern Tryz.prog 222 _ (Extern.ReflectliteType.method fun t=>do Go.Extern.Rtype.noPackHeld "Comparable" t;pure (.bool (←typeInfo t).comparable)) Tryz.func222 (by kernel_rfl) (by kernel_rfl) (by kernel_rfl) (by kernel_rfl);have tT:=xk;have cT:=nc;have mR:=iC;have hne:=run_eql_iface_types (P:=Tryz.prog) 253 273 (.pointer (some ja)) (.pointer (some b)) Tryz.underlying171 (by decide);have n1:=ZQ;have n2:=J1;have n3:=DI;have mU:=yp
 go_enter Tryz.func108,Tryz.ntmps108
 go_wp2
 refine wp_loop_rounds 1 ?_;rw[rounds_succ]
 go_wp2
 refine wp_loop_rounds 1 ?_;rw[rounds_succ]
 go_wp2_with (first|(go_at_call 158;refine(Jy b _).mono ?_;rintro e w' ⟨rfl,rfl⟩))
 all_goals (go_ret;exact⟨rfl,rfl⟩)
end Go.Proofs.YtioeffnadipbaaaGreatDoor
namespace Go.Proofs.YtioeffnadipbaaaGreatDoor
open Go Go.Dn Go.Rl Go.Proofs
attribute [local irreducible] a0 vc
set_option maxRecDepth 20000
noncomputable def W5 κ:=(Lc κ).an 156 3 (la (Lc κ) 12 156 3 3)
noncomputable def Xu κ:=(W5 κ).an 156 12 (la (W5 κ) 12 156 12 3)
theorem eJ1 κ:aE (W5 κ):=(ao0 _).an (Sq _) (sR (Sq _) 3)
theorem mJ1 κ:aj (W5 κ):=(Sq _).an (lL (Sq _) 3)
theorem eJ2 κ:aE (Xu κ):=(eJ1 _).an (mJ1 _) (sR (mJ1 _) 3)
theorem mJ2 κ:aj (Xu κ):=(mJ1 _).an (lL (mJ1 _) 3)
theorem yJ κ K:(a0 (Xu κ) 12 156 [.ah 171 [.lit (mC κ)]] [] K)=(
 letI a:=Pg.toProgram (Env.P (Lc κ))
 letI b:=Pg.toProgram (Env.P (W5 κ))
 ad a 156 3=ad a 156 3/\ad b 156 12=ad b 156 12/\K (AV.ju 253 (AV.ptr 0 0 [] 0)) [Obj.box 255 (AV.agg [AV.ak 1 0 1]),Obj.row 171 [AV.lit (Value.iface
 273 (Value.pointer (some (Kp.stuck κ))))]]):=by kernel_rfl
abbrev Bu:AV:= .ju 253 (.ptr 0 0 [] 0)
abbrev BM(κ:Kp):List Dn.Obj:=[.box 255 (.agg [.ak 1 0 1]), .row 171 [.lit (mC κ)]]
def stJ(κ:Kp)(_:Unit):List AV×List Dn.Obj:=([.ah 171 [.lit (mC κ)]],[])
def Iv(_:Unit):Prop:=True
def XC(κ:Kp)(_:Unit):Out (AV×List Dn.Obj):= .one (Bu,BM κ)
theorem cJ κ:bd (Xu κ) 12 156 (aO (stJ κ) Iv (XC κ)):=by
 refine aR ?_;rintro⟨⟩ K _ a;refine Eq.mpr (yJ _ K) ?_;exact⟨rfl,rfl,a⟩
def stI κ(_:Unit):=([Bu, .lit (mC κ)],BM κ)
def Zg(κ:Kp)(_:Unit):Out (AV×List Dn.Obj):= .one (.bool true,BM κ)
theorem qI κ: ∀b st K,aO (stI κ) Iv (Zg κ) b st K->b7 (Pr κ) 108 b st K:=by
 rintro b st K ⟨_,J,_,A⟩;obtain⟨rfl,rfl⟩:=Prod.mk.inj J;refine⟨⟨_,Tryz.func108,rfl⟩,fun C p V j a d=>?_⟩;obtain⟨p⟩:=p;match p,d with
 | [r,E],d=>
  simp only[MT] at d;obtain⟨F,I,o,N,O,z,_⟩:=d;have n:E=mC κ:=aX (C:=C) ⟨N,O,z⟩;have L:Rel C Bu r:=⟨F,I,o⟩
  obtain⟨Q,_⟩:=gC L rfl (by simp);simp only[M,Q] at o;obtain⟨u,T,y,u3,Z,v,h,x,D⟩:=o;have k:r= .iface 253 u:=by simpa using T
  have H:u.cells= #[u]:=gM (by rw[y];rfl);have l:v=u:=by rw[H] at h;simpa using h.symm
  subst l;have m:=j.obj 0 (by rw[a];simp);have g:=j.obj 1 (by rw[a];simp);rw[a] at m g;simp only[ay,ki] at m g;obtain⟨_,_,c,e,U,_,t⟩:=m;simp only[M,ML] at t;obtain⟨⟨_,s,s1,_,s2⟩,_⟩:=t;have f:=s2.1 171 [.lit (mC κ)] (by rw[a];rfl);obtain⟨_,f⟩:=f;rcases f with⟨_,_,_,f⟩|⟨B,cap,q,rfl,f,s4,_⟩
  ·cases f
  have P:q=⟨(C.ι 1).block,0,none⟩:=by
   rcases f with f|⟨f,W⟩
   ·rw[f,Nat.zero_mul]
   ·omega
  subst P;obtain⟨_,g⟩:=g;rcases g with⟨g,_⟩|⟨_,_,X,Y,_,_,_,i⟩
  ·rw[B] at g;cases g
  simp only[MR,M] at i;obtain⟨⟨i,_⟩,_⟩:=i;have R:v= .pointer (some ⟨(C.ι 0).block,0,none⟩):=(D.2.1 255 _ (by rw[a];rfl)).2;subst R;subst k n;refine(callsIn_wide.2 (R7 ⟨(C.ι 0).block,0,none⟩ ⟨(C.ι 1).block,0,none⟩ κ.stuck cap C.w s1 i)).mono ?_;rintro e' w' ⟨rfl,rfl⟩;exact⟨_, .bool true,C,rfl,rfl,rfl,j,a7 rfl,Ext.refl _ (by rw[a];exact Nat.le_refl _),by rw[a];exact A⟩
 |[],d=>simp[MT] at d
 |[_],d=>simp[MT] at d
 |_::_::_::_,d=>simp[MT] at d
noncomputable def EJ κ:=((Xu κ).aw 156 (aO (stJ κ) Iv (XC κ))).aw 108 (aO (stI κ) Iv (Zg κ))
theorem eJ κ:aE (EJ κ):=((eJ2 _).aw (mJ2 _) (cJ _)).fT (qI _)
theorem mJ κ:aj (EJ κ):=((mJ2 _).aw aJ).aw aJ
theorem y17 κ a K:(a0 (EJ κ) 12 107 [au a] [] K)=(
 letI b:=AV.ptr 0 0 []
 letI c:=AV.ptr
 letI d:=AV.lit
 letI e:=Obj.box
 letI f:=Obj.row
 letI g:=Dn.Obj.map
 letI h:=AV.ah
 letI i:=AV.ak
 letI j:=AV.mp
 letI o:=Value.iface 273 (Value.pointer (some (Kp.stuck κ)))
 letI n:=∃(v0:Unit),([h 171 [d o]],aL)=([h 171 [d o]],aL)/\True/\K (AV.aH [AV.nil,AV.ju 253 (b 0)]) [e 255
  (AV.agg [i 1 0 1]),f 171 [d o]]
 letI m:=a.bl.length
 letI p:=Value×AV
 letI q:=Pg.toProgram (Env.P (Ru κ))
 letI r:=Int.toNat (↑m:Int)
 aV (true&&decide ((↑m:Int)<=(↑m:Int))&&decide ((Int.toNat (↑m:Int)+1)*2<=70368744177664)&&true) (ad q 169 3=ad q 169 3/\∃(v4:A35),letI k:=ints (v4.ks++eZ v4);letI s:=K (AV.aH [i 0 0 (List.length k),d Value.nilIface]) [f 3 k];letI t:=[g 9 4 (bU (v4.b++e9 (aQ v4.a) (eZ v4)))];letI l:=List.length v4.a.bl;letI u:=aq (decide ((↑(List.length k):Int)<(↑l:Int))) (n/\n) ((∃(v2:List AV),([h 38 v4.a.hl],aL)=([h 38 v2],aL)/\bE v2/\∃(v1:List AV×List p),([j 0,h 9 (List.take (List.length (ax (aa v2))) (List.drop 0 (strs (ax (aa v2)))))],t)=([j 0,h 9 v1.1],[g 9 4 v1.2])/\bq v1/\aq (!gi v1.2 v1.1) n s)/\∃(v2:List AV),([h 38 v4.a.hl],aL)=([h 38 v2],aL)/\bE v2/\∃(v1:List AV×List p),([j 0,h 9 (List.take (List.length (ax (aa v2))) (List.drop 0 (strs (ax (aa v2)))))],t)=([j 0,h 9 v1.1],[g 9 4 v1.2])/\bq v1/\aq (!gi v1.2 v1.1) n s);sp 38 [(0,AV.cf 5),(1,c 4 0 [] 0),(3,j 7),(4,i 8 0 r),(13,AV.int (↑m:Int)),(14,AV.int 0)] [e 48 (au a),e 35 (i 6 0 0),g 9 4 [],e 178 (j 2),e 48 (au a),Dn.Obj.loop (iI Tryz.prog 107 4 LoopState.ready none (gX (bM 40) [(0,au a),(1,b 0),(2,AV.nil),(3,d Value.nilIface),(4,c 1 0 [] 0),(5,c 3 0 [] 0),(7,j 2),(8,au a),(9,AV.bm 169 [c 4 0 [] 0])])),f 3 [],g 9 4 [],f 4 (fN (AV.bool false) r)]=sp 38 [(0,AV.cf 5),(1,c 4 0 [] 0),(3,j 7),(4,i 8 0 (List.length (b9 v4.done))),(13,AV.int (↑l:Int)),(14,AV.int v4.i)] [e 48 (au v4.a),e 35 (i 6 0 (List.length (ints v4.ks))),g 9 4 (bU v4.b),e 178 (j 2),e 48 (au v4.a),Dn.Obj.loop (iI Tryz.prog 107 4 LoopState.ready none (gX (bM 40) [(0,au v4.a),(1,b 0),(2,AV.nil),(3,d Value.nilIface),(4,c 1 0 [] 0),(5,c 3 0 [] 0),(7,j 2),(8,au v4.a),(9,AV.bm 169 [c 4 0 [] 0])])),f 3 (ints v4.ks),g 9 4 (bU v4.b),f 4 (b9 v4.done)]/\(a8 (aQ v4.a)=true/\(bk (aa (bo 38 v4.a.hl v4.a.bl))<=100000/\List.length v4.a.bl<=100000)/\(0:Int)<=v4.i/\v4.i<=(↑l:Int)/\v4.done.length=List.length v4.a.bl/\v4.ks.length<=v4.i.toNat)/\∀(v3:Bool),True->aq v3 u u)):=by kernel_rfl
def DJ(a:dk):List AV×List Dn.Obj:=([au a],[])
def Ms a:=a8 (aQ a)=true/\dc a
noncomputable def MC(κ:Kp)(a:dk):Out (AV×List Dn.Obj):= .aq (jX (aQ a)) (.one (.aH [.ak 0 0 (cQ (aQ a)).length, .lit .nilIface],[.row 3 (ints (cQ (aQ a)))])) (.one (.aH [.nil,Bu],BM κ))
theorem ub n:fN (.lit (.bool false)) n=b9 (List.replicate n false):=by simp[fN,b9]
theorem c17 κ:bd (EJ κ) 12 107 (aO DJ Ms (MC κ)):=by
 refine aR ?_;rintro a K ⟨f,d⟩ b;refine Eq.mpr (y17 κ a K) ?_;simp only[and_self];simp only[MC,Out.run,ae] at b;have k:=d.2;have g:eZ ⟨a,[],List.replicate a.bl.length false,[],0⟩=cQ (aQ a):=by
  unfold eZ cQ;rw[gh];rfl
 have h:=pH d;have j:=cF (aa a.hl);have i:jX (aQ a)=(decide (a.bl.length<=(cQ (aQ a)).length)&&hasB (e9 (aQ a) (cQ (aQ a))) (ax (aa a.hl))):=by
  unfold jX;rw[gh];rfl
 rw[i] at b;simp only[ai,ap7,ap6,Int.toNat_natCast];refine⟨⟨⟨⟨trivial,by omega⟩,by omega⟩,trivial⟩,trivial,⟨a,[],List.replicate a.bl.length false,[],0⟩,?_,⟨f,d,by simp only;omega,by simp only;omega,by simp,by simp⟩,?_⟩
 ·simp only[ub,jG,List.length_replicate];rfl
 ·intro y _
  rw[g];cases y<;>
  ·simp only[rH,List.nil_append,ae,ap6,ap8,Bool.not_eq_true',aq8,reduceCtorEq,false_implies,true_implies,and_true,true_and]
   refine⟨fun e=>?_,fun e=>?_⟩
   ·rw[aq0 (show ¬ a.bl.length<=(cQ (aQ a)).length by omega),Bool.false_and] at b
    exact⟨(),b.2 rfl⟩
   ·rw[aq2 (show a.bl.length<=(cQ (aQ a)).length by omega),ar2] at b
    refine⟨a.hl,rfl,h,(strs (ax (aa a.hl)),bU (e9 (aQ a) (cQ (aQ a)))),?_,?_,?_⟩
    ·simp only[aq6,cO]
    ·simp only[bq,ba,aW];omega
    ·simp only[fk]
     exact⟨fun c=>⟨(),b.2 c⟩,fun c=>b.1 c⟩
noncomputable def E17 κ:=(EJ κ).aw 107 (aO DJ Ms (MC κ))
theorem e17 κ:aE (E17 κ):=(eJ _).aw (mJ _) (c17 _)
theorem m17 κ:aj (E17 κ):=(mJ _).aw aJ
theorem y7 κ a K:(a0 (E17 κ) 12 62 [au a] [] K)=(
 letI b:=AV.int
 letI c:=AV.agg
 letI d:=Value.iface 273 (Value.pointer (some (Kp.stuck κ)))
 aV (decide (a.hl.length<=9223372036854775807)&&decide (a.bl.length<=9223372036854775807)) (aq (!a8 {head:={rel:=a.rel,l:=aa a.hl},body:=dx a.bl}) (K (AV.aH [AV.nil,b 30]) []) (∃(e1:dk),([c [c [AV.str a.rel,AV.ah 38 a.hl],AV.ah 80 a.bl,b a.line]],aL)=([c [c [AV.str e1.rel,AV.ah 38 e1.hl],AV.ah 80 e1.bl,b e1.line]],aL)/\(a8 (aQ e1)=true/\bk (aa (bo 38 e1.hl e1.bl))<=100000/\e1.bl.length<=100000)/\aq (jX (aQ e1)) (K (AV.aH [AV.ak 0 0 (List.length (cQ (aQ e1))),b 0]) [Obj.row 3 (ints (cQ (aQ e1)))]) (∃(e0:Unit),([AV.ju 253 (AV.ptr 0 0 [] 0),AV.lit d],[Obj.box 255 (c [AV.ak 1 0 1]),Obj.row 171 [AV.lit d]])=([AV.ju 253 (AV.ptr 0 0 [] 0),AV.lit d],[Obj.box 255 (c [AV.ak 1 0 1]),Obj.row 171 [AV.lit d]])/\True/\K (AV.aH [AV.nil,b 60]) [])))):=by kernel_rfl
def K1(a:dk):Out (AV×List Dn.Obj):= .aq (a8 (aQ a)) (.aq (jX (aQ a)) (.one (.aH [.ak 0 0 (cQ (aQ a)).length, .int 0],[.row 3 (ints (cQ (aQ a)))])) (.one (.aH [.nil, .int 60],[]))) (.one (.aH [.nil, .int 30],[]))
theorem c7 κ:bd (E17 κ) 12 62 (aO DJ dc K1):=by
 refine aR ?_;rintro a K c d;refine Eq.mpr (y7 κ a K) ?_;simp only[K1,Out.run,ae] at d;have h:=pH c;have b:=gH (aa a.hl);rw[eD] at b;have i:=c.2;rw[ai,ap7,ap6,ap6];refine⟨⟨by omega,by omega⟩,?_⟩;have g:a8 ⟨_,dx a.bl⟩=a8 (aQ a):=rfl;rw[g];simp only[ae,Bool.not_eq_true',aq8];refine⟨fun e=>d.2 e,fun e=>⟨a,rfl,⟨e,c⟩,fun f=>(d.1 e).1 f,by simp_all⟩⟩
noncomputable def E7 κ:=(E17 κ).aw 62 (aO DJ dc K1)
theorem e7 κ:aE (E7 κ):=(e17 _).aw (m17 _) (c7 _)
theorem m7 κ:aj (E7 κ):=(m17 _).aw aJ
def eO es s:=yt es s
structure DB where
 vs:List ByteArray
 i:Int
 es:List (Value×AV)
abbrev Dt(R:List AV)(a:List (Value×AV)):List Dn.Obj:=[.row 9 R, .box 178 (.mp 2), .map 9 4 a]
abbrev RC:AV:= .bm 116 [.ptr 1 0 [] 0]
abbrev JZ(a:DB):=sp 19 [(0, .ak 0 0 (strs a.vs).length),(1,RC),(7, .int (strs a.vs).length),(8, .int a.i)] (Dt (strs a.vs) a.es)
theorem xFB κ a I n K:(vc (oB κ) 12 161 none 3 (ad (Pr κ).toProgram 161 2) (JZ a) (bj (oB κ) 161 2 3 I n K))=(
 letI b:=Dn.Obj.map
 letI c:=List.length (strs a.vs)
 aq (decide (a.i<(↑c:Int))) (aV (decide ((0:Int)<=a.i)&&decide (a.i<(↑c:Int))) (aq (!Dn.toBool (c6 a.es (Value.string (toStr (nth (strs a.vs) (0+
 a.i.toNat)))) (AV.bool false))) (K Exit.ret (sp 19 [(4,AV.int a.i)] [Obj.row 9 (strs a.vs),Obj.box 178 (AV.mp 2),b 9 4 a.es])) (∃(e0:Nat),e0<n
 /\I e0 (sp 19 [(0,AV.ak 0 0 c),(1,AV.bm 116 [AV.ptr 1 0 [] 0]),(7,AV.int (↑c:Int)),(8,AV.int (IntKind.wrap IntKind.i64 (a.i+(1:Int))))] [Obj.row
 9 (strs a.vs),Obj.box 178 (AV.mp 2),b 9 4 a.es])))) (K (Exit.exit 0) (sp 19 [] [Obj.row 9 (strs a.vs),Obj.box 178 (AV.mp 2),b 9 4 a.es]))):=by kernel_rfl
def GQ(a:DB):=a.vs.length<=aW/\0<=a.i/\a.i<=a.vs.length/\∀s,s∈a.vs.take a.i.toNat->eO a.es s=true
def Dm(a:DB):Out (Exit×S):=
 .aq (a.vs.all (eO a.es)) (.one (.exit 0,sp 19 [] (Dt (strs a.vs) a.es)))
  (.all (fun j=>xu (eO a.es) a.vs j) fun j=> .one (.ret,sp 19 [(4, .int j)] (Dt (strs a.vs) a.es)))
theorem lFB κ:aU (oB κ) 12 161 2 (aG 3 JZ GQ Dm):=by
 refine aC (fun a=>a.vs.length - a.i.toNat) ?_;rintro⟨b,i,f⟩ K ⟨l,p,r,j⟩ k;simp only at l p r j;rw[show(oB κ).P=Pr κ from rfl];refine Eq.mpr (xFB κ ⟨b,i,f⟩ _ _ K) ?_;simp only[aW] at l;simp only[Dm,Out.run,ae] at k;have v:=ba b;simp only[ba,Nat.zero_add];have o:i<b.length->∀(d:i.toNat<b.length),(eO f b[i.toNat]=false->K .ret (sp 19 [(4, .int i)] (Dt (strs b) f)))/\
   (eO f b[i.toNat]=true->∃m,m<b.length - i.toNat/\et JZ GQ Dm (fun a=>a.vs.length - a.i.toNat) K m (JZ ⟨b,i+1,f⟩)):=by
  intro t d;refine⟨fun e=>k.2 ?_ i ⟨p,d,j,e⟩,fun e=>⟨_,?_,⟨b,i+1,f⟩,rfl,⟨by simpa[aW] using l,by simp only;omega,by simp only;omega,?_⟩,rfl,?_⟩⟩
  ·rw[Bool.eq_false_iff]
   intro g;rw[List.all_eq_true.1 g _ (List.getElem_mem d)] at e;cases e
  ·simp only;omega
  ·intro s c
   simp only at c;rw[show(i+1).toNat=i.toNat+1 by omega,List.take_succ_eq_append_getElem d,List.mem_append,List.mem_singleton] at c;rcases c with c|c
   ·exact j s c
   ·rw[c];exact e
  ·simp only[Dm,Out.run,ae]
   exact k
 simp only[ae,ai,ap6,ap8,ap7,Bool.not_eq_true',aq8];refine⟨fun d=>⟨⟨p,d⟩,?_⟩,fun d=>?_⟩
 ·have h:i.toNat<b.length:=by omega
  have u:toStr (nth (strs b) i.toNat)=b[i.toNat]:=by rw[wu b _ h];rfl
  rw[az (n:=i+1) (by omega) (by omega),u];have q:=o d h;simp only[JZ,ba] at q;exact⟨fun e=>q.1 e,fun e=>q.2 e⟩
 ·refine k.1 (List.all_eq_true.2 fun s c=>j s ?_)
  rw[List.take_of_length_le (by omega)];exact c
noncomputable def Rg κ:=(oB κ).an 161 2 (aG 3 JZ GQ Dm)
theorem eFB κ:aE (Rg κ):=(Uk _).an (Ph _) (lFB _)
theorem mFB κ:aj (Rg κ):=(Ph _).an aI
structure GB where
 R:List AV
 i:Int
 j:Int
 es:List (Value×AV)
 P:List ByteArray
 ws:List ByteArray
abbrev Eg(a:GB):=sp 42 [(0, .ak 0 0 a.R.length),(1,RC),(5, .int a.i),(6, .int a.j)] (Dt a.R a.es)
theorem xGB κ a I n K:(vc (Rg κ) 12 114 none 3 (ad (Pr κ).toProgram 114 5) (Eg a) (bj (Rg κ) 114 5 3 I n K))=(
 letI b:=AV.int
 letI c:=Dn.Obj.map
 letI d:=IntKind.wrap IntKind.i64 (a.j+(1:Int))
 letI e:=toStr (nth a.R (0+a.j.toNat))
 letI f:=a.j<(↑(a.R.length):Int)
 aq (decide f) (aV (decide ((0:Int)<=a.j)&&decide f) (aq (!!Dn.toBool (c6 a.es (Value.string e) (AV.bool false))) (aV (decide ((0:Int)<=a.i)&&decide
 (a.i<(↑(a.R.length):Int))) (∃(e0:Nat),e0<n/\I e0 (sp 42 [(0,AV.ak 0 0 a.R.length),(1,AV.bm 116 [AV.ptr 1 0 [] 0]),(5,b (IntKind.wrap
 IntKind.i64 (a.i+(1:Int)))),(6,b d)] [Obj.row 9 (bH a.R (0+a.i.toNat) (AV.str e)),Obj.box 178 (AV.mp 2),c 9 4 a.es]))) (∃(e0:Nat),
 e0<n/\I e0 (sp 42 [(0,AV.ak 0 0 a.R.length),(1,AV.bm 116 [AV.ptr 1 0 [] 0]),(5,b a.i),(6,b d)] [Obj.row 9 a.R,Obj.box 178 (AV.mp 2),
 c 9 4 a.es])))) (K (Exit.exit 0) (sp 42 [(0,AV.ak 0 0 a.R.length),(5,b a.i)] [Obj.row 9 a.R,Obj.box 178 (AV.mp 2),c 9 4 a.es]))):=by kernel_rfl
def BT(a:GB):=a.R.length<=aW/\0<=a.i/\a.i<a.j/\a.j<=a.R.length/\a.R.take a.i.toNat=strs a.P/\a.R.drop a.j.toNat=strs a.ws
def Cn(a:GB):Out (Exit×S):= .all (fun R=>R.length=a.R.length/\R.take (a.P++a.ws.filter (eO a.es)).length=strs (a.P++a.ws.filter (eO a.es)))
 fun R=> .one (.exit 0,sp 42 [(0, .ak 0 0 a.R.length),(5, .int (a.P++a.ws.filter (eO a.es)).length)] (Dt R a.es))
theorem lGB κ:aU (Rg κ) 12 114 5 (aG 3 Eg BT Cn):=by
 refine aC (fun a=>a.R.length - a.j.toNat) ?_;rintro⟨R,i,j,b,P,g⟩ K ⟨k,q,z,x,c,f⟩ h;simp only at k q z x c f;rw[show(Rg κ).P=Pr κ from rfl];refine Eq.mpr (xGB κ ⟨R,i,j,b,P,g⟩ _ _ K) ?_;simp only[aW] at k;simp only[Cn,Out.run] at h;simp only[Nat.zero_add];have v:P.length=i.toNat:=by
  have:=congrArg List.length c
  rw[List.length_take,ba] at this;omega
 have p: ∀(s:ByteArray) (l:List ByteArray),g=s::l->j<R.length->nth R j.toNat= .lit (.string s)->
   (eO b s=false->∃m,m<R.length - j.toNat/\et Eg BT Cn (fun a=>a.R.length - a.j.toNat) K m (Eg ⟨R,i,j+1,b,P,l⟩))/\
   (eO b s=true->∃m,m<R.length - j.toNat/\et Eg BT Cn (fun a=>a.R.length - a.j.toNat) K m (Eg ⟨bH R i.toNat (.lit (.string s)),i+1,j+1,b,P++[s],l⟩)):=by
  rintro s l rfl o r;obtain⟨_,_,w⟩:=jJ (l:=strs l) f;refine⟨fun e=>⟨_,?_,_,rfl,⟨by simpa[aW] using k,q,by simp only;omega,by simp only;omega,c,?_⟩,rfl,?_⟩,fun e=>⟨_,?_,_,rfl,⟨by simpa[aW,gF] using k,by simp only;omega,by simp only;omega,by simp only[gF];omega,?_,?_⟩,rfl,?_⟩⟩
  ·simp only;omega
  ·simp only[show(j+1).toNat=j.toNat+1 by omega];exact w
  ·intro y d
   have:=h y
   simp only[List.filter_cons,e,Bool.false_eq_true,if_false] at d this⊢;exact this d
  ·simp only[gF];omega
  ·simp only[show(i+1).toNat=i.toNat+1 by omega]
   rw[tE _ _ _ (by omega),c,jk];rfl
  ·simp only[show(j+1).toNat=j.toNat+1 by omega]
   rw[tF _ _ _ _ (by omega)];exact w
  ·intro y d
   have:=h y
   simp only[List.filter_cons,e,if_true,gF,List.append_assoc,List.singleton_append] at d this⊢;exact this d
 simp only[ae,ai,ap6,ap8,ap7,Bool.not_eq_true',aq8];refine⟨fun o=>⟨⟨by omega,o⟩,?_⟩,fun o=>?_⟩
 ·cases g with
  |nil=>
   have:=congrArg List.length f
   rw[List.length_drop,ba] at this;simp at this;omega
  |cons s l=>
   obtain⟨_,r,_⟩:=jJ (l:=strs l) f;have t:toStr (nth R j.toNat)=s:=by rw[r];rfl
   have u:=p s l rfl o r;simp only[Eg,gF] at u;rw[az (n:=i+1) (by omega) (by omega),az (n:=j+1) (by omega) (by omega),t];exact⟨fun e=>⟨⟨by omega,by omega⟩,u.2 e⟩,fun e=>u.1 e⟩
 ·have A:g=[]:=by
   have:=congrArg List.length f
   rw[List.length_drop,ba] at this;cases g with
   |nil=>rfl
   |cons=>simp at this;omega
  subst A;have:=h R ⟨rfl,by simp only[List.filter_nil,List.append_nil,v];exact c⟩
  simp only[List.filter_nil,List.append_nil,v,Int.toNat_of_nonneg q] at this;exact this
noncomputable def EGB κ:=(Rg κ).an 114 5 (aG 3 Eg BT Cn)
theorem eGB κ:aE (EGB κ):=(eFB _).an (mFB _) (lGB _)
theorem mGB κ:aj (EGB κ):=(mFB _).an aI
theorem yGB κ(a:DB) K:(a0 (EGB κ) 12 114 [.ak 0 0 (strs a.vs).length,RC] (Dt (strs a.vs) a.es) K)=(
 letI b:=AV.int
 letI c:=Obj.box
 letI d:=Dn.Obj.map
 letI j:=List.length (strs a.vs)
 letI k:=Pg.toProgram (Env.P (oB κ))
 letI l:=Pg.toProgram (Env.P (Rg κ))
 ad k 161 2=ad k 161 2/\∃(e3:DB),letI f:=strs e3.vs;letI m:=K (AV.ah 9 (List.take j (List.drop 0 f))) [Obj.ll 9 f,c 178 (AV.mp 2),d 9 4 e3.es];letI n:=[Obj.row 9 f,c 178 (AV.mp 2),d 9 4 e3.es];sp 19 [(0,AV.ak 0 0 j),(1,AV.bm 116 [AV.ptr 1 0 [] 0]),(7,b (↑j:Int)),(8,b 0)] [Obj.row 9 (strs a.vs),c 178 (AV.mp 2),d 9 4 a.es]=sp 19 [(0,AV.ak 0 0 (List.length f)),(1,AV.bm 116 [AV.ptr 1 0 [] 0]),(7,b (↑(List.length f):Int)),(8,b e3.i)] n/\(e3.vs.length<=9223372036854775807/\(0:Int)<=e3.i/\e3.i<=(↑(e3.vs.length):Int)/\∀(e0:ByteArray),List.Mem e0 (List.take e3.i.toNat e3.vs)->eO e3.es e0=true)/\aq (List.all e3.vs (eO e3.es)) m (∀(e2:Int),((0:Int)<=e2/\∃(e1:e2.toNat<e3.vs.length),(∀(e0:ByteArray),List.Mem e0 (List.take e2.toNat e3.vs)->eO e3.es e0=true)/\eO e3.es e3.vs[e2.toNat]=false)->aq (e2==(-1:Int)) m (ad l 114 5=ad l 114 5/\∃(e1:GB),letI o:=e1.P++List.filter (eO e1.es) e1.ws;letI e:=List.length o;letI g:=e1.R.length;sp 42 [(0,AV.ak 0 0 j),(1,AV.bm 116 [AV.ptr 1 0 [] 0]),(5,b e2),(6,b (IntKind.wrap IntKind.i64 (e2+(1:Int))))] n=sp 42 [(0,AV.ak 0 0 e1.R.length),(1,AV.bm 116 [AV.ptr 1 0 [] 0]),(5,b e1.i),(6,b e1.j)] [Obj.row 9 e1.R,c 178 (AV.mp 2),d 9 4 e1.es]/\(e1.R.length<=9223372036854775807/\(0:Int)<=e1.i/\e1.i<e1.j/\e1.j<=(↑g:Int)/\List.take e1.i.toNat e1.R=strs e1.P/\List.drop e1.j.toNat e1.R=strs e1.ws)/\∀(e0:List AV),letI h:=Int.toNat ((↑g:Int) - (↑e:Int));letI i:=(↑e:Int)<=(↑g:Int);e0.length=e1.R.length/\List.take e e0=strs o->aV (true&&decide i&&decide ((↑g:Int)<=(↑g:Int))) (aV (true&&decide i) (K (AV.ah 9 (List.take (Int.toNat ((↑e:Int) - (0:Int))) (List.drop 0 (db e0 (0+Int.toNat (↑e:Int)) h (AV.str {data:= #[]}))))) [Obj.ll 9 (db e0 (0+Int.toNat (↑e:Int)) h (AV.str {data:= #[]})),c 178 (AV.mp 2),d 9 4 e1.es]))))):=by kernel_rfl
def HI(a:DB):=([.ak 0 0 a.vs.length,RC],Dt (strs a.vs) a.es)
def pL(a:DB):=a.vs.length<=aW
def FB(a:DB):Out (AV×List Dn.Obj):= .all (fun _=>True) fun R=> .one (.ah 9 (strs (a.vs.filter (eO a.es))),[.ll 9 R, .box 178 (.mp 2), .map 9 4 a.es])
theorem af0 κ:bd (EGB κ) 12 114 (aO HI pL FB):=by
 refine aR ?_;rintro⟨a,i,b⟩ K d h;simp only[pL] at d;simp only[HI];rw[←ba a];refine Eq.mpr (yGB κ ⟨a,i,b⟩ K) ?_;refine⟨rfl,⟨a,0,b⟩,rfl,⟨d,by simp only;omega,by simp only;omega,fun s p=>nomatch p⟩,?_⟩;rw[ae];refine⟨fun e=>?_,fun e y g=>?_⟩
 ·have k:a.filter (eO b)=a:=List.filter_eq_self.2 (List.all_eq_true.1 e)
  have:=h (strs a) trivial
  simp only[k] at this;rw[aq6,List.take_length];exact this
 ·have o:=sa g
  obtain⟨j,m,t,q⟩:=g;simp only at j m;simp only[aW] at d;rw[ae,beq_iff_eq,beq_eq_false_iff_ne];refine⟨fun r=>by omega,fun _=>⟨rfl,⟨strs a,y,y+1,b,a.take y.toNat,a.drop (y.toNat+1)⟩,?_,⟨by simp only[ba];omega,j,by simp only;omega,by simp only[ba];omega,?_,?_⟩,?_⟩⟩
  ·rw[az (n:=y+1) (by omega) (by omega)]
  ·simp only[strs,List.map_take]
  ·simp only[strs,List.map_drop,show(y+1).toNat=y.toNat+1 by omega]
  ·rintro R ⟨l,f⟩
   simp only at l f;rw[←o] at f⊢;have c:(a.filter (eO b)).length<=a.length:=List.length_filter_le _ _;rw[ai,ai];refine⟨by simp[ba,c],by simp[ba,c],?_⟩;have:=h (db R (0+Int.toNat ((a.filter (eO b)).length:Int)) (Int.toNat (((strs a).length:Int) - ((a.filter (eO b)).length:Int))) (.lit (.string (ByteArray.mk #[])))) trivial
   simp only[Int.toNat_natCast,Nat.zero_add,Int.sub_zero,aq6,oU,f] at this⊢;exact this
theorem an2 κ: ∀a st K,aO HI pL FB a st K->b7 (Pr κ) 114 a st K:=fun a st K h=>gS (eGB _) (mGB _) (af0 _ _ _ K h)
structure Zk where
 a:dk
 ws:List Nat
 n:Nat
 i:Int
 vs:List ByteArray
abbrev S1(a:Zk):=sp 48 [(2, .ptr 0 0 [] 0),(8, .ptr 1 0 [] 0),(32, .ak 3 0 a.n),(33, .int a.n),(34, .int a.i)] [.box 48 (au a.a), .box 178 (.mp 2), .map 9 4 (bU a.vs), .row 3 (ints a.ws)]
theorem x10(κ:Kp)(a:Zk) ws es I n K:(vc (E7 κ) 12 65 none 0 (ad (Pr κ).toProgram 65 8) (sp 48 [(2, .ptr 0 0 [] 0),(8, .ptr 1 0 [] 0),(32, .ak 3 0 a.n),(33, .int a.n),(34, .int a.i)] [.box 48 (au a.a), .box 178 (.mp 2), .map 9 4 es, .row 3 ws]) (bj (E7 κ) 65 8 0 I n K))=(
 letI b:=Obj.box
 letI c:=Dn.Obj.map
 letI d:=∃(e2:dk×Int),([au a.a,AV.int (toInt (nth ws (0+a.i.toNat)))],aL)=([au e2.1,AV.int e2.2],aL)/\(a8 (aQ e2.1)=true/\(bk (aa (bo 38
  e2.1.hl e2.1.bl))<=100000/\e2.1.bl.length<=100000)/\(0:Int)<=e2.2/\e2.2<(↑(e2.1.bl.length):Int))/\∃(e1:List AV×List (Value×AV)),([AV.mp 0,
  AV.ah 9 (strs (cM (aQ e2.1) e2.2.toNat))],[c 9 4 es])=([AV.mp 0,AV.ah 9 e1.1],[c 9 4 e1.2])/\bq e1/\∃(e0:Nat),e0<n/\I e0 (sp 48
  [(2,AV.ptr 0 0 [] 0),(8,AV.ptr 1 0 [] 0),(32,AV.ak 3 0 a.n),(33,AV.int (↑(a.n):Int)),(34,AV.int (IntKind.wrap IntKind.i64 (a.i+(1:Int))))]
  [b 48 (au a.a),b 178 (AV.mp 2),c 9 4 (fF e1.2 e1.1),Obj.row 3 ws])
 aq (decide (a.i<(↑(a.n):Int))) (aV (decide ((0:Int)<=a.i)&&decide (a.i<(↑(a.n):Int))) (d/\d)) (K (Exit.exit 1) (sp 48 [(2,AV.ptr 0 0 [] 0),(8,
 AV.ptr 1 0 [] 0)] [b 48 (au a.a),b 178 (AV.mp 2),c 9 4 es]))):=by kernel_rfl
def IJ(a:Zk):=a8 (aQ a.a)=true/\dc a.a/\0<=a.i/\a.i<=a.n/\a.n<=a.ws.length/\a.ws.length<=a.a.bl.length/\∀k,k∈a.ws->k<a.a.bl.length
def AD(a:Zk):Out (Exit×S):= .one (.exit 1,sp 48 [(2, .ptr 0 0 [] 0),(8, .ptr 1 0 [] 0)] [.box 48 (au a.a), .box 178 (.mp 2), .map 9 4 (bU (a.vs++e9 (aQ a.a) ((a.ws.take a.n).drop a.i.toNat)))])
theorem vq l i h:toInt (nth (ints l) i)=l[i]:=by
 grind [aM,ints,toInt]
theorem l10 κ:aU (E7 κ) 12 65 8 (aG 0 S1 IJ AD):=by
 refine aC (fun a=>a.n - a.i.toNat) ?_;rintro⟨a,b,n,i,f⟩ K ⟨g,e,m,p,j,l,h⟩ c;simp only at g e m p j l h;rw[show(E7 κ).P=Pr κ from rfl];refine Eq.mpr (x10 κ ⟨a,b,n,i,f⟩ (ints b) (bU f) _ _ K) ?_;simp only[AD,Out.run] at c;simp only[and_self,Nat.zero_add];have q:=e.2;rw[ae,ai,ap7,ap6,ap6,ap8];refine⟨fun k=>⟨⟨m,k⟩,?_⟩,fun k=>?_⟩
 ·have d:i.toNat<b.length:=by omega
  have o:=h _ (List.getElem_mem d);have r:=sZ e o;have hd:(b.take n).drop i.toNat=b[i.toNat]::(b.take n).drop (i.toNat+1):=by
   rw[aq7 (by rw[List.length_take];omega)];simp
  rw[hd] at c;rw[az (n:=i+1) (by omega) (by omega),vq b _ d];refine⟨(a,(b[i.toNat]:Int)),rfl,⟨g,e,by simp only;omega,by simp only;omega⟩,(strs (cM (aQ a) b[i.toNat]),bU f),rfl,by simp only[bq,ba,aW];omega,_,?_,⟨a,b,n,i+1,f++cM (aQ a) b[i.toNat]⟩,?_,⟨g,e,by simp only;omega,by simp only;omega,j,l,h⟩,rfl,?_⟩
  ·simp only;omega
  ·simp only[mx]
  ·simp only[AD,Out.run,show(i+1).toNat=i.toNat+1 by omega]
   simpa only[e9,List.flatMap_cons,List.append_assoc] using c
 ·rw[aq4 (by rw[List.length_take];omega)] at c
  simpa[e9] using c
noncomputable def LQ κ:=((E7 κ).an 65 8 (aG 0 S1 IJ AD)).aw 114 (aO HI pL FB)
theorem ao3 κ:aE (LQ κ):=((e7 _).an (m7 _) (l10 _)).fT (an2 _)
theorem Z8 κ:aj (LQ κ):=((m7 _).an aI).aw aJ
theorem y10 κ a k K:(a0 (LQ κ) 12 65 [au a, .int k] [] K)=(
 letI b:=AV.int
 letI c:=AV.ptr
 letI d:=Obj.box
 letI e:=Obj.row
 letI f:=Dn.Obj.map
 letI g:=K (AV.aH [AV.nil,b 2]) []
 letI h:=Pg.toProgram (Env.P (E7 κ))
 letI i:=Int.toNat (k - (0:Int))
 ∃(v4:dk),letI j:=List.length (cQ (aQ v4));([au a],aL)=([au v4],aL)/\(bk (aa (bo 38 v4.hl v4.bl))<=100000/\v4.bl.length<=100000)/\aq (a8 (aQ v4)) (aq (jX (aQ v4)) (aq (decide (k<(0:Int))) g (aq (decide (k>(↑j:Int))) g (aV (true&&decide ((0:Int)<=k)&&decide (k<=(↑j:Int))) (ad h 65 8=ad h 65 8/\∃(v3:Zk),sp 48 [(2,c 0 0 [] 0),(8,c 1 0 [] 0),(32,AV.ak 3 0 i),(33,b (↑i:Int)),(34,b 0)] [d 48 (au a),d 178 (AV.mp 2),f 9 4 [],e 3 (ints (cQ (aQ v4)))]=sp 48 [(2,c 0 0 [] 0),(8,c 1 0 [] 0),(32,AV.ak 3 0 v3.n),(33,b (↑(v3.n):Int)),(34,b v3.i)] [d 48 (au v3.a),d 178 (AV.mp 2),f 9 4 (bU v3.vs),e 3 (ints v3.ws)]/\(a8 (aQ v3.a)=true/\(bk (aa (bo 38 v3.a.hl v3.a.bl))<=100000/\List.length v3.a.bl<=100000)/\(0:Int)<=v3.i/\v3.i<=(↑(v3.n):Int)/\v3.n<=v3.ws.length/\v3.ws.length<=List.length v3.a.bl/\∀(v0:Nat),List.Mem v0 v3.ws->v0<List.length v3.a.bl)/\∃(v2:dk),([au v3.a],aL)=([au v2],aL)/\(a8 (aQ v2)=true/\bk (aa (bo 38 v2.hl v2.bl))<=100000/\v2.bl.length<=100000)/\∃(v1:DB),([AV.ak 0 0 (List.length (dg (aQ v2))),AV.bm 116 [c 1 0 [] 0]],[e 9 (strs (dg (aQ v2))),d 178 (AV.mp 2),f 9 4 (bU (v3.vs++e9 (aQ v3.a) (List.drop v3.i.toNat (List.take v3.n v3.ws))))])=([AV.ak 0 0 v1.vs.length,AV.bm 116 [c 1 0 [] 0]],[e 9 (strs v1.vs),d 178 (AV.mp 2),f 9 4 v1.es])/\pL v1/\∀(v0:List AV),True->K (AV.aH [AV.ah 9 (strs (List.filter (eO v1.es) v1.vs)),b 0]) [])))) (K (AV.aH [AV.nil,b 60]) [])) (K (AV.aH [AV.nil,b 30]) [])):=by kernel_rfl
def Y9(a:dk×Int):List AV×List Dn.Obj:=([au a.1, .int a.2],[])
def OI(a:dk×Int):Prop:=dc a.1
def Lx(a:dk×Int):Out (AV×List Dn.Obj):= .aq (a8 (aQ a.1)) (.aq (jX (aQ a.1)) (.aq (decide (a.2<0)||decide (a.1.bl.length<a.2)) (.one (.aH [.nil, .int 2],[]))
 (.one (.aH [.ah 9 (strs (GP (aQ a.1) a.2.toNat)), .int 0],[]))) (.one (.aH [.nil, .int 60],[]))) (.one (.aH [.nil, .int 30],[]))
theorem sq{a}(h:jX (aQ a)=true):(cQ (aQ a)).length=a.bl.length:=by
 grind [Kj,gh,jX]
theorem c10 κ:bd (LQ κ) 12 65 (aO Y9 OI Lx):=by
 refine aR ?_;rintro⟨a,k⟩ K d e;refine Eq.mpr (y10 κ a k K) ?_;simp only[Lx,Out.run,ae] at e;have d:dc a:=d;have q:=d.2;refine⟨a,rfl,d,?_⟩;rw[ae];refine⟨fun c=>?_,fun c=>e.2 c⟩;rw[ae];refine⟨fun f=>?_,fun f=>(e.1 c).2 f⟩;have o:=sq f;have b:=(e.1 c).1 f;rw[ae,ap6,ap8];refine⟨fun i=>b.1 (by rw[aq2 i];rfl),fun i=>?_⟩;rw[ae,ap6,ap8,o];refine⟨fun h=>b.1 (by rw[aq2 (show(a.bl.length:Int)<k from h)];simp),fun h=>?_⟩;have l:=b.2 (by rw[aq0 i,aq0 (show ¬ (a.bl.length:Int)<k from h)];rfl);simp only[ai,ap7,ap6,Int.sub_zero];have p:(fx (aQ a)).length<=100000:=by
  have m:=cF (aa (bo 38 a.hl a.bl));rw[iJ 38 a.rel a.hl a.bl] at m;exact Nat.le_trans m d.1
 have r:=k8 (fx (aQ a)) [];refine⟨⟨⟨trivial,by omega⟩,by omega⟩,trivial,⟨a,cQ (aQ a),k.toNat,0,[]⟩,rfl,⟨c,d,by simp only;omega,by simp only;omega,by simp only;omega,by simp only;omega,fun j n=>by have:=sl n;rwa [gh] at this⟩,a,rfl,⟨c,d⟩,⟨dg (aQ a),0,bU ([]++e9 (aQ a) (((cQ (aQ a)).take k.toNat).drop (Int.toNat 0)))⟩,rfl,?_,?_⟩
 ·simp only[pL,dg,c,aq3,aW];omega
 ·intro R _
  have g:List.filter (eO (bU ([]++e9 (aQ a) (((cQ (aQ a)).take k.toNat).drop (Int.toNat 0))))) (dg (aQ a))=GP (aQ a) k.toNat:=by
   unfold GP;refine congrFun (congrArg _ ?_) _;funext s
   unfold eO;rw[pE];rfl
  simp only[g];exact l
noncomputable def SA κ:=(LQ κ).aw 65 (aO Y9 OI Lx)
theorem e10 κ:aE (SA κ):=(ao3 _).aw (Z8 _) (c10 _)
theorem m10 κ:aj (SA κ):=(Z8 _).aw aJ
end Go.Proofs.YtioeffnadipbaaaGreatDoor
namespace Go.Proofs.YtioeffnadipbaaaGreatDoor
open Go Go.Dn Go.Rl Go.Proofs
attribute [local irreducible] a0 vc
set_option maxRecDepth 20000
noncomputable abbrev lp8(a:dk)(b:List AV)(κ:Kp)(st:LoopState)(p:Option Code):Dn.Obj:=
 .loop (iI (Pr κ).toProgram 89 5 st p (gX (bM 63) [(0,au a),(1, .ptr 0 0 [] 0),(2, .ptr 1 0 [] 0),(3, .ptr 2 0 [] 0),(4, .ak 3 0 b.length),(5, .int 0),(10, .aH [.ak 3 0 b.length, .int 0]),(11,au a),(12, .aH [.ak 3 0 b.length, .int 0]),(13, .ak 3 0 b.length),(14, .int 0),(15, .int 0),(16, .bool false),(18,au a),(19, .bm 169 [.ptr 4 0 [] 0])]))
noncomputable abbrev EY κ a c b st p:=[.box 48 (au a), .box 4 (.bool b), .box 32 (.int 0), .row 3 c, .box 48 (au a),lp8 a c κ st p]
theorem x8(κ:Kp)(a:dk) ws es done(i:Int) I(n:Nat) K:(vc (SA κ) 12 169 none 6 (ad (Pr κ).toProgram 169 3) (sp 38 [(0, .cf 5),(1, .ptr 4 0 [] 0),(3, .mp 6),(4, .ak 7 0 done.length),(13, .int a.bl.length),(14, .int i)] (EY κ a ws false .ready none++[.map 9 4 es, .row 4 done])) (bj (SA κ) 169 3 6 I n K))=(
 letI b:=AV.int
 letI c:=AV.ptr
 letI d:=AV.agg
 letI e:=AV.str
 letI f:=Obj.box
 letI g:=Obj.row
 letI h:=Dn.Obj.map
 letI j:=AV.ah
 letI k:=AV.ak
 letI l:=AV.mp
 letI C:=gX (bM 63) [(0,au a),(1,c 0 0 [] 0),(2,c 1 0 [] 0),(3,c 2 0 [] 0),(4,k 3 0 ws.length),(5,b 0),(10,AV.aH [k 3
  0 ws.length,b 0]),(11,au a),(12,AV.aH [k 3 0 ws.length,b 0]),(13,k 3 0 ws.length),(14,b 0),(15,b 0),(16,AV.bool
  false),(18,au a),(19,AV.bm 169 [c 4 0 [] 0])]
 letI z:=iI Tryz.prog 89 5 LoopState.ready none C
 letI D:=IntKind.wrap IntKind.i64 (i+(1:Int))
 letI x:=a.bl.length
 letI A:=AV.bool false
 letI E:=sp 38 [] [f 48 (au a),f 4 A,f 32 (b 0),g 3 ws,f 48 (au a),Dn.Obj.loop z]
 letI F:=AV.bool true
 letI y:=K Exit.ret (sp 38 [] [f 48 (au a),f 4 F,f 32 (b 0),g 3 ws,f 48 (au a),Dn.Obj.loop (iI Tryz.prog 89 5
  LoopState.done (some Code.ret) C)])
 letI G:=done.length
 letI p:=Value×AV
 aq (decide (i<(↑x:Int))) (∃(e5:Lh),letI o:=aF (aQ e5.a) e5.done e5.b;letI m:=nth a.bl (Int.toNat o);letI q:=(0:Int)<=aF (aQ e5.a) e5.done e5.b;letI r:=decide q&&decide (aF (aQ e5.a) e5.done e5.b<(↑G:Int));letI B:=[l 0,d [b (toInt (ag (ag m 3) 0)),e (toStr (ag (ag m 3) 1)),b (toInt (ag (ag m 3) 2)),j 38 (af (ag (ag m 3) 3))],d [b (toInt (ag (ag m 2) 0)),e (toStr (ag (ag m 2) 1)),b (toInt (ag (ag m 2) 2)),j 38 (af (ag (ag m 2) 3))]];letI s:=bH (b9 e5.done) (0+Int.toNat o) F;letI t:=decide ((7:Int)<=toInt (ag m 0));letI u:=[h 9 4 (bU e5.b)];([au a,k 0 0 done.length,l 1],[g 4 done,h 9 4 es])=([au e5.a,k 0 0 (List.length (b9 e5.done)),l 1],[g 4 (b9 e5.done),h 9 4 (bU e5.b)])/\(a8 (aQ e5.a)=true/\(bk (aa (bo 38 e5.a.hl e5.a.bl))<=100000/\List.length e5.a.bl<=100000)/\e5.done.length=List.length e5.a.bl)/\aq (decide (aF (aQ e5.a) e5.done e5.b<(0:Int))) (K Exit.ret E) (aV (decide q&&decide (aF (aQ e5.a) e5.done e5.b<(↑x:Int))) (aq (toInt (ag m 0)==(3:Int)) (∃(e4:TA),letI v:=∃(e3:TA),letI w:=aq t y (aV r (∃(e2:dk×Int),([au a,b o],aL)=([au e2.1,b e2.2],aL)/\(a8 (aQ e2.1)=true/\(bk (aa (bo 38 e2.1.hl e2.1.bl))<=100000/\e2.1.bl.length<=100000)/\(0:Int)<=e2.2/\e2.2<(↑(e2.1.bl.length):Int))/\∃(e1:List AV×List p),([l 0,j 9 (strs (cM (aQ e2.1) e2.2.toNat))],[h 9 4 e3.es])=([l 0,j 9 e1.1],[h 9 4 e1.2])/\bq e1/\∃(e0:Nat),e0<n/\I e0 (sp 38 [(0,AV.cf 5),(1,c 4 0 [] 0),(3,l 6),(4,k 7 0 done.length),(13,b (↑x:Int)),(14,b D)] [f 48 (au a),f 4 A,f 32 (b 0),g 3 ws,f 48 (au a),Dn.Obj.loop z,h 9 4 (fF e1.2 e1.1),g 4 s])));(B,[h 9 4 e4.es])=([l 0,d [b e3.o1,e e3.s1,b e3.n1,j 38 e3.l1],d [b e3.o2,e e3.s2,b e3.n2,j 38 e3.l2]],[h 9 4 e3.es])/\jn e3/\aq (mb e3.es (TA.x e3) (TA.y e3)) (aq (decide (toInt (ag (ag m 2) 0)>=(5:Int))) y w) w;([l 0,d [b (toInt (ag (ag m 2) 0)),e (toStr (ag (ag m 2) 1)),b (toInt (ag (ag m 2) 2)),j 38 (af (ag (ag m 2) 3))],d [b (toInt (ag (ag m 3) 0)),e (toStr (ag (ag m 3) 1)),b (toInt (ag (ag m 3) 2)),j 38 (af (ag (ag m 3) 3))]],u)=([l 0,d [b e4.o1,e e4.s1,b e4.n1,j 38 e4.l1],d [b e4.o2,e e4.s2,b e4.n2,j 38 e4.l2]],[h 9 4 e4.es])/\jn e4/\aq (mb e4.es (TA.x e4) (TA.y e4)) (aq (decide (toInt (ag (ag m 3) 0)>=(5:Int))) y v) v) (aq t y (aV r (∃(e2:dk×Int),([au a,b o],aL)=([au e2.1,b e2.2],aL)/\(a8 (aQ e2.1)=true/\(bk (aa (bo 38 e2.1.hl e2.1.bl))<=100000/\e2.1.bl.length<=100000)/\(0:Int)<=e2.2/\e2.2<(↑(e2.1.bl.length):Int))/\∃(e1:List AV×List p),([l 0,j 9 (strs (cM (aQ e2.1) e2.2.toNat))],u)=([l 0,j 9 e1.1],[h 9 4 e1.2])/\bq e1/\∃(e0:Nat),e0<n/\I e0 (sp 38 [(0,AV.cf 5),(1,c 4 0 [] 0),(3,l 6),(4,k 7 0 done.length),(13,b (↑x:Int)),(14,b D)] [f 48 (au a),f 4 A,f 32 (b 0),g 3 ws,f 48 (au a),Dn.Obj.loop z,h 9 4 (fF e1.2 e1.1),g 4 s]))))))) (K (Exit.exit 0) E)):=by kernel_rfl
structure A8 where
 a:dk
 ws:List AV
 done:List Bool
 b:List ByteArray
 i:Int
noncomputable abbrev RA κ(a:A8):=sp 38 [(0, .cf 5),(1, .ptr 4 0 [] 0),(3, .mp 6),(4, .ak 7 0 (b9 a.done).length),(13, .int a.a.bl.length),(14, .int a.i)] (EY κ a.a a.ws false .ready none++[.map 9 4 (bU a.b), .row 4 (b9 a.done)])
def Fi(a:A8):=a8 (aQ a.a)=true/\dc a.a/\0<=a.i/\a.i<=a.a.bl.length/\a.done.length=a.a.bl.length
noncomputable def Jl(a:A8):=L5 (aQ a.a) (a.a.bl.length - a.i.toNat) a.done a.b
noncomputable def Cu(κ:Kp)(a:A8):Out (Exit×S):= .aq (Jl a) (.one (.ret,sp 38 [] (EY κ a.a a.ws true .done (some .ret)))) (.all (fun _=>True) fun e=> .aq e (.one (.ret,sp 38 [] (EY κ a.a a.ws false .ready none))) (.one (.exit 0,sp 38 [] (EY κ a.a a.ws false .ready none))))
theorem Jn r n done b:L5 r (n+1) done b=
  bif decide (aF r done b<0) then false else K0 r b (aF r done b).toNat||L5 r n (done.set (aF r done b).toNat true) (b++cM r (aF r done b).toNat):=rfl
theorem l8 κ:aU (SA κ) 12 169 3 (aG 6 (RA κ) Fi (Cu κ)):=by
 refine aC (fun a=>a.a.bl.length - a.i.toNat) ?_;rintro⟨a,F,done,b,i⟩ K ⟨v,p,W,U,H⟩ s;simp only at v p W U H;rw[show(SA κ).P=Pr κ from rfl];refine Eq.mpr (x8 κ a F (bU b) (b9 done) i _ _ K) ?_;simp only[Cu,Out.run,ae,Jl] at s;simp only[and_self];have I:=jG done;have hl:=p.2;rw[ae,ap6,ap8];refine⟨fun V=>⟨⟨a,done,b,0,0⟩,rfl,⟨v,p,H⟩,?_⟩,fun V=>?_⟩
 ·have N:=Jn (aQ a) (a.bl.length - (i.toNat+1)) done b
  rw[show a.bl.length - (i.toNat+1)+1=a.bl.length - i.toNat by omega] at N;rw[ae,ap6,ap8];refine⟨fun e=>?_,fun e=>?_⟩
  ·rw[N,aq2 e] at s
   exact(s.2 rfl true trivial).1 rfl
  ·rw[N,aq0 e,aq1] at s
   rcases qR (aQ a) done b with e0|⟨z,X,Y,_⟩
   ·rw[e0] at e;omega
   have r:=X;rw[gh] at r;have Z:=sZ p r;have Q:=kG p r;have l:aF (aQ a) done b<a.bl.length:=by omega
   have q:bq (strs (cM (aQ a) (aF (aQ a) done b).toNat),bU b):=by simp only[bq,ba,aW];omega
   have u:(decide (0<=aF (aQ a) done b)&&decide (aF (aQ a) done b<(a.bl.length:Int)))=true:=by simp[z,l]
   have d:(decide (0<=aF (aQ a) done b)&&decide (aF (aQ a) done b<((b9 done).length:Int)))=true:=by rw[I,H];exact u
   have O:jR (da (nth a.bl (aF (aQ a) done b).toNat))=bk [cI (ag (nth a.bl (aF (aQ a) done b).toNat) 2),cI (ag (nth a.bl (aF (aQ a) done b).toNat) 3)]+bk (aa (af (ag (ag (nth a.bl (aF (aQ a) done b).toNat) 1) 1))):=rfl;have A:bk [cI (ag (nth a.bl (aF (aQ a) done b).toNat) 2)]<=100000/\bk [cI (ag (nth a.bl (aF (aQ a) done b).toNat) 3)]<=100000:=by
    simp only[bk] at O⊢;omega
   have L:jn (l9 (ag (nth a.bl (aF (aQ a) done b).toNat) 2) (ag (nth a.bl (aF (aQ a) done b).toNat) 3) (bU b)):=by unfold jn l9;rw[oc];exact A.2
   have C:jn (l9 (ag (nth a.bl (aF (aQ a) done b).toNat) 3) (ag (nth a.bl (aF (aQ a) done b).toNat) 2) (bU b)):=by unfold jn l9;rw[oc];exact A.1
   have J:mb (l9 (ag (nth a.bl (aF (aQ a) done b).toNat) 2) (ag (nth a.bl (aF (aQ a) done b).toNat) 3) (bU b)).es (l9 (ag (nth a.bl (aF (aQ a) done b).toNat) 2) (ag (nth a.bl (aF (aQ a) done b).toNat) 3) (bU b)).x (l9 (ag (nth a.bl (aF (aQ a) done b).toNat) 2) (ag (nth a.bl (aF (aQ a) done b).toNat) 3) (bU b)).y=lY b (cI (ag (nth a.bl (aF (aQ a) done b).toNat) 2)) (cI (ag (nth a.bl (aF (aQ a) done b).toNat) 3)):=by
    unfold l9;rw[BG,oc,pB]
   have B:mb (l9 (ag (nth a.bl (aF (aQ a) done b).toNat) 3) (ag (nth a.bl (aF (aQ a) done b).toNat) 2) (bU b)).es (l9 (ag (nth a.bl (aF (aQ a) done b).toNat) 3) (ag (nth a.bl (aF (aQ a) done b).toNat) 2) (bU b)).x (l9 (ag (nth a.bl (aF (aQ a) done b).toNat) 3) (ag (nth a.bl (aF (aQ a) done b).toNat) 2) (bU b)).y=lY b (cI (ag (nth a.bl (aF (aQ a) done b).toNat) 3)) (cI (ag (nth a.bl (aF (aQ a) done b).toNat) 2)):=by
    unfold l9;rw[BG,oc,pB]
   have c:K0 (aQ a) b (aF (aQ a) done b).toNat=((decide (toInt (ag (nth a.bl (aF (aQ a) done b).toNat) 0)=3)&&(lY b (cI (ag (nth a.bl (aF (aQ a) done b).toNat) 2)) (cI (ag (nth a.bl (aF (aQ a) done b).toNat) 3))&&decide (toInt (ag (ag (nth a.bl (aF (aQ a) done b).toNat) 3) 0)>=5)||lY b (cI (ag (nth a.bl (aF (aQ a) done b).toNat) 3)) (cI (ag (nth a.bl (aF (aQ a) done b).toNat) 2))&&decide (toInt (ag (ag (nth a.bl (aF (aQ a) done b).toNat) 2) 0)>=5)))||decide (7<=toInt (ag (nth a.bl (aF (aQ a) done b).toNat) 0))):=by
    have T:(cI (ag (nth a.bl (aF (aQ a) done b).toNat) 2)).op=toInt (ag (ag (nth a.bl (aF (aQ a) done b).toNat) 2) 0):=by rw[de];rfl
    have R:(cI (ag (nth a.bl (aF (aQ a) done b).toNat) 3)).op=toInt (ag (ag (nth a.bl (aF (aQ a) done b).toNat) 3) 0):=by rw[de];rfl
    unfold K0;rw[show(aQ a).body=dx a.bl from rfl,ky _ r,show(da (nth a.bl (aF (aQ a) done b).toNat)).op=toInt (ag (nth a.bl (aF (aQ a) done b).toNat) 0) from rfl,show(da (nth a.bl (aF (aQ a) done b).toNat)).x=cI (ag (nth a.bl (aF (aQ a) done b).toNat) 2) from rfl,show(da (nth a.bl (aF (aQ a) done b).toNat)).y=cI (ag (nth a.bl (aF (aQ a) done b).toNat) 3) from rfl,T,R]
   have f:(toInt (ag (nth a.bl (aF (aQ a) done b).toNat) 0)==3)=true->decide (toInt (ag (nth a.bl (aF (aQ a) done b).toNat) 0)=3)=true:=fun e=>by simpa using e
   have D:(toInt (ag (nth a.bl (aF (aQ a) done b).toNat) 0)==3)=false->decide (toInt (ag (nth a.bl (aF (aQ a) done b).toNat) 0)=3)=false:=fun e=>by simpa using e
   have h:K0 (aQ a) b (aF (aQ a) done b).toNat=true->K .ret (sp 38 [] (EY κ a F true .done (some .ret))):=fun e=>s.1 (by rw[e];rfl)
   have E:K0 (aQ a) b (aF (aQ a) done b).toNat=false->∃m,m<a.bl.length - i.toNat/\et (RA κ) Fi (Cu κ) (fun a=>a.a.bl.length - a.i.toNat) K m (sp 38 [(0, .cf 5),(1, .ptr 4 0 [] 0),(3, .mp 6),(4, .ak 7 0 (b9 done).length),(13, .int a.bl.length),(14, .int (IntKind.wrap .i64 (i+1)))] (EY κ a F false .ready none++[.map 9 4 (fF (bU b) (strs (cM (aQ a) (aF (aQ a) done b).toNat))), .row 4 (bH (b9 done) (0+(aF (aQ a) done b).toNat) (.lit (.bool true)))])):=by
    intro e;rw[e,Bool.false_or] at s;rw[az (n:=i+1) (by omega) (by omega)];refine⟨_,?_,⟨a,F,done.set (aF (aQ a) done b).toNat true,b++cM (aQ a) (aF (aQ a) done b).toNat,i+1⟩,?_,⟨v,p,by simp only;omega,by simp only;omega,by simpa using H⟩,rfl,?_⟩
    ·simp only;omega
    ·simp only[RA,Nat.zero_add,ql,mx,jG,List.length_set]
    ·simp only[Cu,Out.run,ae,Jl,show(i+1).toNat=i.toNat+1 by omega]
     exact s
   rw[ai];refine⟨u,?_⟩;rw[ae];exact⟨fun j=>⟨l9 (ag (nth a.bl (aF (aQ a) done b).toNat) 2) (ag (nth a.bl (aF (aQ a) done b).toNat) 3) (bU b),rfl,L,by
   rw[J];exact ae.2 ⟨fun o=>ae.2 ⟨fun w=>h (by rw[c,f j,o,w];simp),fun w=>⟨l9 (ag (nth a.bl (aF (aQ a) done b).toNat) 3) (ag (nth a.bl (aF (aQ a) done b).toNat) 2) (bU b),rfl,C,by
   rw[B];exact ae.2 ⟨fun k=>ae.2 ⟨fun t=>h (by rw[c,f j,o,w,k,t];simp),fun t=>ae.2 ⟨fun g=>h (by rw[c,f j,o,w,k,t,g];simp),fun g=>ai.2 ⟨d,(a,(aF (aQ a) done b)),rfl,⟨v,p,z,l⟩,(strs (cM (aQ a) (aF (aQ a) done b).toNat),bU b),rfl,q,E (by rw[c,f j,o,w,k,t,g];simp)⟩⟩⟩,fun k=>ae.2 ⟨fun g=>h (by rw[c,f j,o,w,k,g];simp),fun g=>ai.2 ⟨d,(a,(aF (aQ a) done b)),rfl,⟨v,p,z,l⟩,(strs (cM (aQ a) (aF (aQ a) done b).toNat),bU b),rfl,q,E (by rw[c,f j,o,w,k,g];simp)⟩⟩⟩⟩⟩,fun o=>⟨l9 (ag (nth a.bl (aF (aQ a) done b).toNat) 3) (ag (nth a.bl (aF (aQ a) done b).toNat) 2) (bU b),rfl,C,by
   rw[B];exact ae.2 ⟨fun k=>ae.2 ⟨fun t=>h (by rw[c,f j,o,k,t];simp),fun t=>ae.2 ⟨fun g=>h (by rw[c,f j,o,k,t,g];simp),fun g=>ai.2 ⟨d,(a,(aF (aQ a) done b)),rfl,⟨v,p,z,l⟩,(strs (cM (aQ a) (aF (aQ a) done b).toNat),bU b),rfl,q,E (by rw[c,f j,o,k,t,g];simp)⟩⟩⟩,fun k=>ae.2 ⟨fun g=>h (by rw[c,f j,o,k,g];simp),fun g=>ai.2 ⟨d,(a,(aF (aQ a) done b)),rfl,⟨v,p,z,l⟩,(strs (cM (aQ a) (aF (aQ a) done b).toNat),bU b),rfl,q,E (by rw[c,f j,o,k,g];simp)⟩⟩⟩⟩⟩⟩,fun j=>ae.2 ⟨fun g=>h (by rw[c,D j,g];simp),fun g=>ai.2 ⟨d,(a,(aF (aQ a) done b)),rfl,⟨v,p,z,l⟩,(strs (cM (aQ a) (aF (aQ a) done b).toNat),bU b),rfl,q,E (by rw[c,D j,g];simp)⟩⟩⟩
 ·rw[show a.bl.length - i.toNat=0 by omega] at s
  exact(s.2 rfl false trivial).2 rfl
noncomputable def ZH κ:=(SA κ).an 169 3 (aG 6 (RA κ) Fi (Cu κ))
theorem e8l κ:aE (ZH κ):=(e10 _).an (m10 _) (l8 _)
theorem m8l κ:aj (ZH κ):=(m10 _).an aI
theorem y8 κ a K:(a0 (ZH κ) 12 89 [au a] [] K)=(
 letI b:=AV.int
 letI c:=AV.ptr
 letI d:=AV.bool
 letI e:=Obj.box
 letI f:=Obj.row
 letI g:=AV.aH
 letI h:=AV.ak
 letI i:=a.bl.length
 letI l:=K (g [d false,b 0]) []
 letI m:=Pg.toProgram (Env.P (SA κ))
 letI k:=d false
 letI n:=Int.toNat (↑i:Int)
 ∃(e2:dk),letI j:=List.length (cQ (aQ e2));([au a],aL)=([au e2],aL)/\(bk (aa (bo 38 e2.hl e2.bl))<=100000/\e2.bl.length<=100000)/\aq (a8 (aQ e2)) (aq (jX (aQ e2)) (aV (true&&decide ((↑i:Int)<=(↑i:Int))&&decide ((Int.toNat (↑i:Int)+1)*2<=70368744177664)&&true) (ad m 169 3=ad m 169 3/\∃(e1:A8),letI o:=[h 3 0 e1.ws.length,b 0];sp 38 [(0,AV.cf 5),(1,c 4 0 [] 0),(3,AV.mp 6),(4,h 7 0 n),(13,b (↑i:Int)),(14,b 0)] [e 48 (au a),e 4 k,e 32 (b 0),f 3 (ints (cQ (aQ e2))),e 48 (au a),Dn.Obj.loop (iI Tryz.prog 89 5 LoopState.ready none (gX (bM 63) [(0,au a),(1,c 0 0 [] 0),(2,c 1 0 [] 0),(3,c 2 0 [] 0),(4,h 3 0 j),(5,b 0),(10,g [h 3 0 j,b 0]),(11,au a),(12,g [h 3 0 j,b 0]),(13,h 3 0 j),(14,b 0),(15,b 0),(16,d false),(18,au a),(19,AV.bm 169 [c 4 0 [] 0])])),Dn.Obj.map 9 4 [],f 4 (fN k n)]=sp 38 [(0,AV.cf 5),(1,c 4 0 [] 0),(3,AV.mp 6),(4,h 7 0 (List.length (b9 e1.done))),(13,b (↑(List.length e1.a.bl):Int)),(14,b e1.i)] [e 48 (au e1.a),e 4 k,e 32 (b 0),f 3 e1.ws,e 48 (au e1.a),Dn.Obj.loop (iI Tryz.prog 89 5 LoopState.ready none (gX (bM 63) [(0,au e1.a),(1,c 0 0 [] 0),(2,c 1 0 [] 0),(3,c 2 0 [] 0),(4,h 3 0 e1.ws.length),(5,b 0),(10,g o),(11,au e1.a),(12,g o),(13,h 3 0 e1.ws.length),(14,b 0),(15,b 0),(16,d false),(18,au e1.a),(19,AV.bm 169 [c 4 0 [] 0])])),Dn.Obj.map 9 4 (bU e1.b),f 4 (b9 e1.done)]/\(a8 (aQ e1.a)=true/\(bk (aa (bo 38 e1.a.hl e1.a.bl))<=100000/\List.length e1.a.bl<=100000)/\(0:Int)<=e1.i/\e1.i<=(↑(List.length e1.a.bl):Int)/\e1.done.length=List.length e1.a.bl)/\aq (Jl e1) (K (g [d true,b 0]) []) (∀(e0:Bool),True->aq e0 l l))) (K (g [d false,b 60]) [])) (K (g [d false,b 30]) [])):=by kernel_rfl
def WL(a:dk):Out (AV×List Dn.Obj):= .aq (a8 (aQ a)) (.aq (jX (aQ a)) (.one (.aH [.bool (LD (aQ a)), .int 0],[])) (.one (.aH [.bool false, .int 60],[]))) (.one (.aH [.bool false, .int 30],[]))
theorem c8 κ:bd (ZH κ) 12 89 (aO DJ dc WL):=by
 refine aR ?_;rintro a K e c;refine Eq.mpr (y8 κ a K) ?_;simp only[WL,Out.run,ae] at c;have i:=e.2;refine⟨a,rfl,e,?_⟩;rw[ae];refine⟨fun b=>?_,fun b=>c.2 b⟩;rw[ae];refine⟨fun d=>?_,fun d=>(c.1 b).2 d⟩;have h:=sq d;have f:=(c.1 b).1 d;simp only[ai,ap7,ap6,Int.toNat_natCast];have g:Jl ⟨a,ints (cQ (aQ a)),List.replicate a.bl.length false,[],0⟩=LD (aQ a):=by
  unfold Jl LD;rw[gh];rfl
 refine⟨by grind,trivial,⟨a,ints (cQ (aQ a)),List.replicate a.bl.length false,[],0⟩,?_,⟨b,e,by simp only;omega,by simp only;omega,by simp⟩,?_⟩
 ·simp only[ub,jG,rH,List.length_replicate];rfl
 grind [ae]
noncomputable def E8 κ:=(ZH κ).aw 89 (aO DJ dc WL)
theorem e8 κ:aE (E8 κ):=(e8l _).aw (m8l _) (c8 _)
theorem m8 κ:aj (E8 κ):=(m8l _).aw aJ
def Xs:List AV->Option (Bool×AV)
 |[.agg [.lit (.int .i64 b), .lit (.string s), .lit (.int .i64 n), .ah 38 l], .lit (.int .i64 a)]=>some (decide (0<=a)&&decide (a<=100000), .int ((Tm.mk b s n (aa l)).size a))
 |_=>none
def J7:List AV->Nat
 |[.agg [_,_,_, .ah _ l],_]=>bk (aa l)
 |_=>0
noncomputable def EW κ n:=(E8 κ).aK 105 (below Xs J7 n)
structure A54 where
 op:Int
 s:ByteArray
 n:Int
 l:List AV
 left:Int
 i:Int
abbrev N1(a:A54):=sp 31 [(1, .int a.left),(2, .ptr 0 0 [] 0),(5, .int a.i)] [.box 38 (.agg [.int a.op, .lit (.string a.s), .int a.n, .ah 38 a.l])]
theorem x54 κ r a I n K:(vc (EW κ r) 12 105 none 0 (ad (Pr κ).toProgram 105 5) (N1 a) (bj (EW κ r) 105 5 0 I n K))=(
 letI b:=AV.int
 letI c:=nth a.l a.i.toNat
 letI d:=K (Exit.exit 0) (sp 31 [(1,b a.left)] [])
 letI e:=a.i<(↑(a.l.length):Int)
 aq (decide e) (aq (decide (a.left>=(0:Int))) (aV (decide ((0:Int)<=a.i)&&decide e) (aV (decide ((0:Int)<=a.left)&&decide (a.left<=(100000:
 Int))&&Nat.blt (J7 [AV.agg [b (toInt (ag c 0)),AV.str (toStr (ag c 1)),b (toInt (ag c 2)),AV.ah 38 (af (ag c 3))],b a.left]) r) (∃(e0
 :Nat),e0<n/\I e0 (sp 31 [(1,b (Tm.size (Tm.mk (toInt (ag c 0)) (toStr (ag c 1)) (toInt (ag c 2)) (aa (af (ag c 3)))) a.left)),(2,AV.ptr 0 0 []
 0),(5,b (IntKind.wrap IntKind.i64 (a.i+(1:Int))))] [Obj.box 38 (AV.agg [b a.op,AV.str a.s,b a.n,AV.ah 38 a.l])])))) d) d):=by kernel_rfl
def Ij r(a:A54):= -1<=a.left/\a.i+a.left<=100000/\0<=a.i/\a.i<=a.l.length/\bk (aa (a.l.drop a.i.toNat))<=r
def A6(a:A54):Out (Exit×S):= .one (.exit 0,sp 31 [(1, .int (jc (aa (a.l.drop a.i.toNat)) a.left))] [])
theorem l54 κ r:aU (EW κ r) 12 105 5 (aG 0 N1 (Ij r) A6):=by
 refine aC (fun a=>a.l.length - a.i.toNat) ?_;rintro⟨f,s,n,l,b,i⟩ K ⟨j,k,g,h,m⟩ c;simp only at j k g h m;rw[show(EW κ r).P=Pr κ from rfl];refine Eq.mpr (x54 κ r ⟨f,s,n,l,b,i⟩ _ _ K) ?_;simp only[A6,Out.run] at c;simp only[ae,ai,ap6,ap8,ap7,Nat.blt_eq,←de];refine⟨fun e=>⟨fun d=>⟨⟨g,e⟩,?_⟩,fun d=>?_⟩,fun e=>?_⟩
 ·have o:=xf l i.toNat (by omega)
  have p:=Tm.size_le (cI (nth l i.toNat)) b d;have q:(cI (nth l i.toNat)).mL=1+bk (aa (af (ag (nth l i.toNat) 3))):=by rw[de,Tm.mL]
  rw[eK l i.toNat (by omega),jc,aq2 d,aq3] at c;rw[az (n:=i+1) (by omega) (by omega)];refine⟨⟨⟨d,by omega⟩,by simp only[J7];omega⟩,_,?_,⟨f,s,n,l,(cI (nth l i.toNat)).size b,i+1⟩,rfl,⟨by simp only;omega,by simp only;omega,by simp only;omega,by simp only;omega,?_⟩,rfl,?_⟩
  ·simp only;omega
  ·simp only[show(i+1).toNat=i.toNat+1 by omega];omega
  ·simp only[A6,Out.run,show(i+1).toNat=i.toNat+1 by omega]
   exact c
 ·rw[eK l i.toNat (by omega),jc,aq0 (show ¬ 0<=b from d),aq1] at c
  exact c
 ·rw[aq4 (by omega)] at c
  exact c
noncomputable def Ny κ r:=(EW κ r).an 105 5 (aG 0 N1 (Ij r) A6)
theorem y54 κ r op s n l left K:(a0 (Ny κ r) 12 105 [.agg [.int op, .lit (.string s), .int n, .ah 38 l], .int left] [] K)=(
 letI b:=AV.int
 aq (decide ((↑(ByteArray.size s):Int)>(1000:Int))) (K (b (-1)) []) (ad (Pg.toProgram (Env.P (EW κ r))) 105 5=ad (Pg.toProgram (Env.P (EW κ r))) 105 5/\∃(a:A54),letI c:=aa (List.drop a.i.toNat a.l);sp 31 [(1,b (IntKind.wrap IntKind.i64 (left - (1:Int)))),(2,AV.ptr 0 0 [] 0),(5,b 0)] [Obj.box 38 (AV.agg [b op,AV.str s,b n,AV.ah 38 l])]=sp 31 [(1,b a.left),(2,AV.ptr 0 0 [] 0),(5,b a.i)] [Obj.box 38 (AV.agg [b a.op,AV.str a.s,b a.n,AV.ah 38 a.l])]/\((-1:Int)<=a.left/\a.i+a.left<=(100000:Int)/\(0:Int)<=a.i/\a.i<=(↑(a.l.length):Int)/\bk c<=r)/\K (b (jc c a.left)) [])):=by kernel_rfl
theorem ah8 κ r(b:gu (Pr κ) 105 (below Xs J7 r)):aE (Ny κ r)/\aj (Ny κ r)/\(Ny κ r).P=Pr κ:=
 have h:=(e8 _).eI b;have a:=(m8 _).aK
 ⟨h.an a (l54 _ r),a.an aI,rfl⟩
theorem p54 κ r:cd (Ny κ r) 12 105 fun xs=>bif Nat.beq (J7 xs) r then Xs xs else none:=by
 intro c x b;cases d:Nat.beq (J7 c) r with
 |false=>simp only[d] at b;cases b
 | true=>
  simp only[d,aq3] at b;unfold Xs at b;split at b
  ·rename_i f s n l a
   simp only[ap9,aq5,ap7,ap6] at b;obtain⟨⟨h,i⟩,rfl⟩:=b;have g:bk (aa l)=r:=Nat.eq_of_beq_eq_true d;refine⟨_,rfl,rfl,?_⟩;refine Eq.mpr (y54 κ r f s n l a _) ?_;rw[ae,ap6,ap8];refine⟨fun e=>?_,fun e=>?_⟩
   ·unfold Tm.size;rw[aq2 (show(1000:Int)<s.size from e)];rfl
   ·rw[az (n:=a - 1) (by omega) (by omega)]
    refine⟨rfl,⟨f,s,n,l,a - 1,0⟩,rfl,⟨by simp only;omega,by simp only;omega,by simp only;omega,by simp only;omega,?_⟩,?_⟩
    ·simp only[Int.toNat_zero,aq6];omega
    ·unfold Tm.size;rw[aq0 (show ¬ (1000:Int)<s.size from e)];rfl
  ·cases b
theorem q54 κ:gu (Pr κ) 105 Xs:=aE.vZ _ _ _ (ah8 _) (p54 _)
noncomputable def Ro κ:=(E8 κ).aK 105 Xs
theorem e54 κ:aE (Ro κ):=(e8 _).eI (q54 _)
theorem m54 κ:aj (Ro κ):=(m8 _).aK
structure A53 where
 s:ByteArray
 l:List AV
 left:Int
 i:Int
abbrev OB(a:A53):=sp 29 [(1, .int a.left),(2, .ptr 0 0 [] 0),(5, .int a.i)] [.box 45 (.agg [.lit (.string a.s), .ah 38 a.l])]
theorem x53 κ a I n K:(vc (Ro κ) 12 104 none 0 (ad (Pr κ).toProgram 104 4) (OB a) (bj (Ro κ) 104 4 0 I n K))=(
 letI b:=nth a.l a.i.toNat
 letI c:=K (Exit.exit 0) (sp 29 [(1,AV.int a.left)] [])
 letI d:=a.i<(↑(a.l.length):Int)
 aq (decide d) (aq (decide (a.left>=(0:Int))) (aV (decide ((0:Int)<=a.i)&&decide d) (aV (decide ((0:Int)<=a.left)&&decide (a.left<=(100000:
 Int))) (∃(e0:Nat),e0<n/\I e0 (sp 29 [(1,AV.int (Tm.size (Tm.mk (toInt (ag b 0)) (toStr (ag b 1)) (toInt (ag b 2)) (aa (af (ag b 3)))) a.left)),(2,
 AV.ptr 0 0 [] 0),(5,AV.int (IntKind.wrap IntKind.i64 (a.i+(1:Int))))] [Obj.box 45 (AV.agg [AV.str a.s,AV.ah 38 a.l])])))) c) c):=by kernel_rfl
def Jg(a:A53):= -1<=a.left/\a.i+a.left<=100000/\0<=a.i/\a.i<=a.l.length
def z8(a:A53):Out (Exit×S):= .one (.exit 0,sp 29 [(1, .int (jc (aa (a.l.drop a.i.toNat)) a.left))] [])
theorem l53 κ:aU (Ro κ) 12 104 4 (aG 0 OB Jg z8):=by
 refine aC (fun a=>a.l.length - a.i.toNat) ?_;rintro⟨s,l,b,i⟩ K ⟨g,j,f,h⟩ c;simp only at g j f h;rw[show(Ro κ).P=Pr κ from rfl];refine Eq.mpr (x53 κ ⟨s,l,b,i⟩ _ _ K) ?_;simp only[z8,Out.run] at c;simp only[ae,ai,ap6,ap8,ap7,←de];refine⟨fun e=>⟨fun d=>⟨⟨f,e⟩,?_⟩,fun d=>?_⟩,fun e=>?_⟩
 ·have k:=Tm.size_le (cI (nth l i.toNat)) b d
  rw[eK l i.toNat (by omega),jc,aq2 d,aq3] at c;rw[az (n:=i+1) (by omega) (by omega)];refine⟨⟨d,by omega⟩,_,?_,⟨s,l,(cI (nth l i.toNat)).size b,i+1⟩,rfl,⟨by simp only;omega,by simp only;omega,by simp only;omega,by simp only;omega⟩,rfl,?_⟩
  ·simp only;omega
  ·simp only[z8,Out.run,show(i+1).toNat=i.toNat+1 by omega]
   exact c
 ·rw[eK l i.toNat (by omega),jc,aq0 (show ¬ 0<=b from d),aq1] at c
  exact c
 ·rw[aq4 (by omega)] at c
  exact c
noncomputable def Nq κ:=(Ro κ).an 104 4 (aG 0 OB Jg z8)
theorem aj1 κ:aE (Nq κ):=(e54 _).an (m54 _) (l53 _)
theorem Ya κ:aj (Nq κ):=(m54 _).an aI
theorem y53 κ s l left K:(a0 (Nq κ) 12 104 [.agg [.lit (.string s), .ah 38 l], .int left] [] K)=(
 letI a:=AV.int
 letI b:=Pg.toProgram (Env.P (Ro κ))
 aq (decide ((↑(ByteArray.size s):Int)>(1000:Int))) (K (a (-1)) []) (ad b 104 4=ad b 104 4/\∃(e0:A53),sp 29 [(1,a left),(2,AV.ptr 0 0
 [] 0),(5,a 0)] [Obj.box 45 (AV.agg [AV.str s,AV.ah 38 l])]=sp 29 [(1,a e0.left),(2,AV.ptr 0 0 [] 0),(5,a e0.i)] [Obj.box 45 (AV.agg
 [AV.str e0.s,AV.ah 38 e0.l])]/\((-1:Int)<=e0.left/\e0.i+e0.left<=(100000:Int)/\(0:Int)<=e0.i/\e0.i<=(↑(e0.l.length):Int))/\K (a (jc (aa
 (List.drop e0.i.toNat e0.l)) e0.left)) [])):=by kernel_rfl
def g53:List AV->Option (Bool×AV)
 |[.agg [.lit (.string s), .ah 38 l], .lit (.int .i64 a)]=>some (decide (-1<=a)&&decide (a<=100000), .int (dw ⟨s,aa l⟩ a))
 |_=>none
theorem p53 κ:cd (Nq κ) 12 104 g53:=by
 intro c x b;unfold g53 at b;split at b
 ·rename_i s l a
  simp only[ap9,aq5,ap7,ap6] at b;obtain⟨⟨f,d⟩,rfl⟩:=b;refine⟨_,rfl,rfl,?_⟩;refine Eq.mpr (y53 κ s l a _) ?_;rw[ae,ap6,ap8];refine⟨fun e=>?_,fun e=>?_⟩
  ·unfold dw;rw[aq2 (show(1000:Int)<s.size from e)];rfl
  ·refine⟨rfl,⟨s,l,a,0⟩,rfl,by grind,?_⟩
   unfold dw;grind
 ·cases b
noncomputable def QW κ:=(Nq κ).aK 104 g53
theorem e53 κ:aE (QW κ):=(aj1 _).aK (Ya _) (p53 _)
theorem m53 κ:aj (QW κ):=(Ya _).aK
structure Zf where
 a:dk
 left:Int
 i:Int
abbrev Cj(a:Zf):=sp 52 [(1, .int a.left),(2, .ptr 0 0 [] 0),(5, .int a.i)] [.box 48 (au a.a)]
theorem x38(κ:Kp)(a:Zf) I(n:Nat) K:(vc (QW κ) 12 60 none 0 (ad (Pr κ).toProgram 60 3) (Cj a) (bj (QW κ) 60 3 0 I n K))=(
 letI b:=IntKind.wrap IntKind.i64
 letI c:=AV.ptr 0 0 []
 letI d:=AV.int
 letI e:=Obj.box
 letI f:=nth a.a.bl a.i.toNat
 letI p:=Tm.mk (toInt (ag (ag f 2) 0)) (toStr (ag (ag f 2) 1)) (toInt (ag (ag f 2) 2)) (aa (af (ag (ag f 2) 3)))
 letI t:=AV.agg [AV.agg [AV.str a.a.rel,AV.ah 38 a.a.hl],AV.ah 80 a.a.bl,d a.a.line]
 letI k:=af (ag (ag f 1) 1)
 letI m:=ag (ag f 1) 0
 letI u:=b (a.i+(1:Int))
 letI q:=Tm.mk (toInt (ag (ag f 3) 0)) (toStr (ag (ag f 3) 1)) (toInt (ag (ag f 3) 2)) (aa (af (ag (ag f 3) 3)))
 letI r:=K (Exit.exit 0) (sp 52 [(1,d a.left)] [])
 letI s:=a.i<(↑(List.length a.a.bl):Int)
 letI v:=decide ((0:Int)<=a.i)&&decide s
 letI h:=a.left - (1:Int)
 letI o:=b h
 letI g:=dw {rel:=toStr m,l:=aa k} o
 letI i:=dw {rel:=toStr m,l:=aa k} o
 letI j:=(100000:Int)
 letI w:=decide ((0:Int)<=dw {rel:=toStr m,l:=aa k} o)&&decide (dw {rel:=toStr m,l:=aa k} o<=j)
 aq (decide s) (aq (decide (a.left>=(0:Int))) (aV v (aV (decide ((-1:Int)<=b h)&&decide (b h<=j)) (aq (decide (dw {rel:=toStr m,l:=aa k} o>=(0:Int))) (aV v (aV w (aq (decide (Tm.size p g>=(0:Int))) (aV v (aV (decide ((0:Int)<=Tm.size p i)&&decide (Tm.size p g<=j)) (∃(e0:Nat),e0<n/\I e0 (sp 52 [(1,AV.lit (Value.int IntKind.i64 (Tm.size q (Tm.size p g)))),(2,c 0),(5,d u)] [e 48 t])))) (∃(e0:Nat),e0<n/\I e0 (sp 52 [(1,AV.lit (Value.int IntKind.i64 (Tm.size p i))),(2,c 0),(5,d u)] [e 48 t]))))) (aq (decide (dw {rel:=toStr m,l:=aa k} o>=(0:Int))) (aV v (aV w (∃(e0:Nat),e0<n/\I e0 (sp 52 [(1,AV.lit (Value.int IntKind.i64 (Tm.size q i))),(2,c 0),(5,d u)] [e 48 t])))) (∃(e0:Nat),e0<n/\I e0 (sp 52 [(1,AV.lit (Value.int IntKind.i64 g)),(2,c 0),(5,d u)] [e 48 t])))))) r) r):=by kernel_rfl
def Bg(a:Zf):= -1<=a.left/\a.i+a.left<=100000/\0<=a.i/\a.i<=a.a.bl.length
def vD(a:Zf):Out (Exit×S):= .one (.exit 0,sp 52 [(1, .int (lA (dx (a.a.bl.drop a.i.toNat)) a.left))] [])
theorem l38 κ:aU (QW κ) 12 60 3 (aG 0 Cj Bg vD):=by
 refine aC (fun a=>a.a.bl.length - a.i.toNat) ?_;rintro⟨a,b,i⟩ K ⟨o,t,j,v⟩ c;simp only at o t j v;rw[show(QW κ).P=Pr κ from rfl];refine Eq.mpr (x38 κ ⟨a,b,i⟩ _ _ K) ?_;simp only[vD,Out.run] at c;by_cases f:i<a.bl.length
 ·by_cases g:b>=0
  ·have r:i.toNat<a.bl.length:=by omega
   rw[oq a.bl i.toNat r,lA,aq2 g,aq3] at c;have u:(⟨toStr (ag (ag (nth a.bl i.toNat) 1) 0),aa (af (ag (ag (nth a.bl i.toNat) 1) 1))⟩:At)=(da (nth a.bl i.toNat)).a:=rfl;have p:cI (ag (nth a.bl i.toNat) 2)=(da (nth a.bl i.toNat)).x:=rfl;have q:cI (ag (nth a.bl i.toNat) 3)=(da (nth a.bl i.toNat)).y:=rfl;have w:=tK (da (nth a.bl i.toNat)) b g;have s:=oX (da (nth a.bl i.toNat)).a (b - 1) (by omega);have l:=Tm.size_le (da (nth a.bl i.toNat)).x (dw (da (nth a.bl i.toNat)).a (b - 1));have k: ∀z,sizeLt (da (nth a.bl i.toNat)) b=z->∃m,m<a.bl.length - i.toNat/\et Cj Bg vD (fun a=>a.a.bl.length - a.i.toNat) K m (Cj ⟨a,z,i+1⟩):=by
    rintro z rfl;refine⟨_,?_,⟨a,sizeLt (da (nth a.bl i.toNat)) b,i+1⟩,rfl,⟨by simp only;omega,by simp only;omega,by simp only;omega,by simp only;omega⟩,rfl,?_⟩
    ·simp only;omega
    ·simp only[vD,Out.run,show(i+1).toNat=i.toNat+1 by omega]
     exact c
   simp only[az (n:=i+1) (by omega) (by omega),az (n:=b - 1) (by omega) (by omega),u,←de,p,q];simp only[ae,ai,ap6,ap8,ap7];refine⟨fun _=>⟨fun _=>⟨⟨j,f⟩,⟨by omega,by omega⟩,fun d=>⟨⟨j,f⟩,⟨d,by omega⟩,fun h=>⟨⟨j,f⟩,⟨h,by have:=l d;omega⟩,k _ ?_⟩,fun h=>k _ ?_⟩,fun d=>⟨fun e=>absurd e d,fun _=>k _ ?_⟩⟩,fun e=>absurd g e⟩,fun e=>absurd f e⟩
   ·unfold sizeLt;rw[aq2 (show 0<=dw (da (nth a.bl i.toNat)).a (b - 1) from d),aq3,aq2 (show 0<=(da (nth a.bl i.toNat)).x.size _ from h),aq3]
   ·unfold sizeLt;rw[aq2 (show 0<=dw (da (nth a.bl i.toNat)).a (b - 1) from d),aq3,aq0 (show ¬ 0<=(da (nth a.bl i.toNat)).x.size _ from h),aq1]
   ·unfold sizeLt;rw[aq0 (show ¬ 0<=dw (da (nth a.bl i.toNat)).a (b - 1) from d),aq1];rfl
  ·rw[oq a.bl i.toNat (by omega),lA,aq0 (show ¬ 0<=b from g),aq1] at c
   rw[aq2 (show i<(a.bl.length:Int) from f),aq0 g];exact c
 ·rw[aq4 (by omega)] at c
  rw[aq0 (show ¬ i<(a.bl.length:Int) from f)];exact c
noncomputable def LH κ:=(QW κ).an 60 3 (aG 0 Cj Bg vD)
theorem ai5 κ:aE (LH κ):=(e53 _).an (m53 _) (l38 _)
theorem ZN κ:aj (LH κ):=(m53 _).an aI
theorem y38 κ a left K:(a0 (LH κ) 12 60 [au a, .int left] [] K)=(
 letI b:=IntKind.wrap IntKind.i64
 letI c:=AV.int
 letI d:=left - (1:Int)
 letI e:=Pg.toProgram (Env.P (QW κ))
 aV (decide ((-1:Int)<=b d)&&decide (b d<=(100000:Int))) (ad e 60 3=ad e 60 3/\∃(e0:Zf),sp 52 [(1,AV.lit (Value.int IntKind.i64 (dw {rel:=a.rel,l:=aa a.hl} (b d)))),(2,AV.ptr 0 0 [] 0),(5,c 0)] [Obj.box 48 (AV.agg [AV.agg [AV.str a.rel,AV.ah 38 a.hl],AV.ah 80 a.bl,c a.line])]=sp 52 [(1,c e0.left),(2,AV.ptr 0 0 [] 0),(5,c e0.i)] [Obj.box 48 (AV.agg [AV.agg [AV.str e0.a.rel,AV.ah 38 e0.a.hl],AV.ah 80 e0.a.bl,c e0.a.line])]/\((-1:Int)<=e0.left/\e0.i+e0.left<=(100000:Int)/\(0:Int)<=e0.i/\e0.i<=(↑(List.length e0.a.bl):Int))/\K (AV.lit (Value.int IntKind.i64 (lA (dx (List.drop e0.i.toNat e0.a.bl)) e0.left))) [])):=by kernel_rfl
def g38:List AV->Option (Bool×AV)
 |[.agg [.agg [.lit (.string b), .ah 38 d], .ah 80 c, .lit (.int .i64 _)], .lit (.int .i64 a)]=>some (decide (0<=a)&&decide (a<=100000), .int (nE ⟨⟨b,aa d⟩,dx c⟩ a))
 |_=>none
theorem p38 κ:cd (LH κ) 12 60 g38:=by
 intro g x d;unfold g38 at d;split at d
 ·rename_i b e f c a
  simp only[ap9,aq5,ap7,ap6] at d;obtain⟨⟨i,j⟩,rfl⟩:=d;refine⟨_,rfl,rfl,?_⟩;refine Eq.mpr (y38 κ ⟨[],[],b,e,f,c,0⟩ a _) ?_;have h:=oX ⟨b,aa e⟩ (a - 1) (by omega);simp only[az (n:=a - 1) (by omega) (by omega)];rw[ai,ap7,ap6,ap6];exact⟨⟨by omega,by omega⟩,trivial,⟨⟨[],[],b,e,f,c,0⟩,dw ⟨b,aa e⟩ (a - 1),0⟩,rfl,by grind,rfl⟩
 ·cases d
noncomputable def P9 κ:=(LH κ).aK 60 g38
theorem e38 κ:aE (P9 κ):=(ai5 _).aK (ZN _) (p38 _)
theorem m38 κ:aj (P9 κ):=(ZN _).aK
abbrev PV(a:List _×Int):=sp 16 [(0, .ah 9 a.1),(3, .int a.2)] []
theorem x37 κ l i I n K:(vc (P9 κ) 12 59 none 0 (ad (Pr κ).toProgram 59 2) (PV (l,i)) (bj (P9 κ) 59 2 0 I n K))=(
 letI a:=i<(↑(l.length):Int)
 aq (decide a) (aV (decide ((0:Int)<=i)&&decide a) (aq (decide ((↑(ByteArray.size (toStr (nth l i.toNat))):Int)>(1000:Int))) (K Exit.ret (sp 16 [(2,
 AV.bool true)] [])) (∃(e0:Nat),e0<n/\I e0 (sp 16 [(0,AV.ah 9 l),(3,AV.int (IntKind.wrap IntKind.i64 (i+(1:Int))))] [])))) (K (Exit.exit 0) (sp 16
 [] []))):=by kernel_rfl
def Hr(a:List AV×Int):=a.1.length<=aW/\0<=a.2/\a.2<=a.1.length
def zU(a:List AV×Int):Out (Exit×S):= .aq (zt (a.1.drop a.2.toNat)) (.one (.ret,sp 16 [(2, .bool true)] [])) (.one (.exit 0,sp 16 [] []))
theorem l37 κ:aU (P9 κ) 12 59 2 (aG 0 PV Hr zU):=by
 refine aC (fun a=>a.1.length - a.2.toNat) ?_;rintro⟨l,i⟩ K ⟨c,f,g⟩ b;simp only at c f g;rw[show(P9 κ).P=Pr κ from rfl];refine Eq.mpr (x37 κ l i _ _ K) ?_;simp only[aW] at c;simp only[zU,Out.run,ae] at b;simp only[ae,ai,ap6,ap8,ap7];refine⟨fun d=>⟨⟨f,d⟩,?_⟩,fun d=>?_⟩
 ·rw[aq7 (show i.toNat<l.length by omega),←aM l i.toNat (by omega)] at b
  simp only[zt,List.any_cons] at b;refine⟨by grind,fun e=>?_⟩;rw[aq0 (show ¬ (1000:Int)<_ from e),Bool.false_or] at b;rw[az (n:=i+1) (by omega) (by omega)];refine⟨_,?_,(l,i+1),rfl,⟨by simpa[aW] using c,by simp only;omega,by simp only;omega⟩,rfl,?_⟩
  ·simp only;omega
  ·simp only[zU,Out.run,ae,show(i+1).toNat=i.toNat+1 by omega]
   exact b
 ·rw[aq4 (by omega)] at b
  exact b.2 rfl
noncomputable def MX κ:=(P9 κ).an 59 2 (aG 0 PV Hr zU)
theorem aj7 κ:aE (MX κ):=(e38 _).an (m38 _) (l37 _)
theorem XV κ:aj (MX κ):=(m38 _).an aI
theorem y37 κ l K:(a0 (MX κ) 12 59 [.ah 9 l] [] K)=(
 letI a:=Pg.toProgram (Env.P (P9 κ))
 ad a 59 2=ad a 59 2/\∃(e0:List AV×Int),sp 16 [(0,AV.ah 9 l),(3,AV.int 0)] []=sp 16 [(0,AV.ah 9 e0.1),(3,AV.int e0.2)] []/\(e0.1.length<=
 9223372036854775807/\(0:Int)<=e0.2/\e0.2<=(↑(e0.1.length):Int))/\aq (zt (List.drop e0.2.toNat e0.1)) (K (AV.bool true) []) (K (AV.bool false) [])):=by kernel_rfl
def g37:List AV->Option (Bool×AV)
 |[.ah 9 l]=>some (decide (l.length<=aW), .bool (zt l))
 |_=>none
theorem p37 κ:cd (MX κ) 12 59 g37:=by
 intro b x a;unfold g37 at a;split at a
 ·rename_i l
  simp only[ap9,aq5,ap6] at a;obtain⟨c,rfl⟩:=a;refine⟨_,rfl,rfl,?_⟩;refine Eq.mpr (y37 κ l _) ?_;refine⟨rfl,(l,0),rfl,⟨c,by simp only;omega,by simp only;omega⟩,?_⟩;rw[ae];simp
 ·cases a
noncomputable def Sb κ:=(MX κ).aK 59 g37
theorem e37 κ:aE (Sb κ):=(aj7 _).aK (XV _) (p37 _)
theorem m37 κ:aj (Sb κ):=(XV _).aK
structure Uw where
 ds:List AV
 rs:List AV
 left:Int
 i:Int
abbrev J5(a:Uw):AV:= .agg [.ah 43 a.ds, .ah 48 a.rs]
abbrev H7 a:=sp 62 [(1, .ptr 0 0 [] 0),(3, .int a.left),(4, .int a.i)] [.box 25 (J5 a)]
theorem aj5 κ a I n K:(vc (Sb κ) 12 29 none 0 (ad (Pr κ).toProgram 29 3) (H7 a) (bj (Sb κ) 29 3 0 I n K))=(
 letI c:=K Exit.ret (sp 62 [(2,AV.int 0)] [])
 letI d:=AV.agg [AV.ah 43 a.ds,AV.ah 48 a.rs]
 letI b:=nth a.ds a.i.toNat
 letI e:=a.i<(↑(a.ds.length):Int)
 letI f:=decide ((0:Int)<=a.i)&&decide e
 aq (decide e) (aV f (aq (decide ((↑(ByteArray.size (toStr (ag b 0))):Int)>(1000:Int))) c (aV f (aV (decide (List.length (af (ag b 1))<=
 9223372036854775807)) (aq (zt (af (ag b 1))) c (∃(e0:Nat),e0<n/\I e0 (sp 62 [(1,AV.ptr 0 0 [] 0),(3,AV.int a.left),(4,AV.int (IntKind.wrap
 IntKind.i64 (a.i+(1:Int))))] [Obj.box 25 d]))))))) (K (Exit.exit 0) (sp 62 [(1,AV.ptr 0 0 [] 0),(3,AV.int a.left)] [Obj.box 25 d]))):=by kernel_rfl
def zX(a:Uw):=a.ds.length<=aW/\(∀d,d∈a.ds->(af (ag d 1)).length<=aW)/\0<=a.i/\a.i<=a.ds.length
def wq(a:Uw):Out (Exit×S):= .aq ((a.ds.drop a.i.toNat).any Ka) (.one (.ret,sp 62 [(2, .int 0)] [])) (.one (.exit 0,sp 62 [(1, .ptr 0 0 [] 0),(3, .int a.left)] [.box 25 (J5 a)]))
theorem af6 κ:aU (Sb κ) 12 29 3 (aG 0 H7 zX wq):=by
 refine aC (fun a=>a.ds.length - a.i.toNat) ?_;rintro⟨ds,f,b,i⟩ K ⟨j,d,l,q⟩ c;simp only at j d l q;rw[show(Sb κ).P=Pr κ from rfl];refine Eq.mpr (aj5 κ ⟨ds,f,b,i⟩ _ _ K) ?_;simp only[aW] at j;simp only[wq,Out.run,ae] at c;simp only[ae,ai,ap7,ap6,ap8];refine⟨fun k=>⟨⟨l,k⟩,?_⟩,fun k=>?_⟩
 ·have e:i.toNat<ds.length:=by omega
  have r:nth ds i.toNat∈ds:=by rw[aM ds _ e];exact List.getElem_mem _
  rw[aq7 e,←aM ds i.toNat e] at c;simp only[List.any_cons,Ka] at c;have p:(∀h:((ds.drop (i.toNat+1)).any Ka=true->K .ret (sp 62 [(2, .int 0)] []))/\((ds.drop (i.toNat+1)).any Ka=false->K (.exit 0) (sp 62 [(1, .ptr 0 0 [] 0),(3, .int b)] [.box 25 (J5 ⟨ds,f,b,i⟩)])),∃m,m<ds.length - i.toNat/\et H7 zX wq (fun a=>a.ds.length - a.i.toNat) K m (sp 62 [(1, .ptr 0 0 [] 0),(3, .int b),(4, .int (IntKind.wrap .i64 (i+1)))] [.box 25 (J5 ⟨ds,f,b,i⟩)])):=by
   intro h;rw[az (n:=i+1) (by omega) (by omega)];refine⟨_,?_,⟨ds,f,b,i+1⟩,rfl,⟨by simpa[aW] using j,d,by simp only;omega,by simp only;omega⟩,rfl,?_⟩
   ·simp only;omega
   ·simp only[wq,Out.run,ae,show(i+1).toNat=i.toNat+1 by omega]
    exact h
  refine⟨fun o=>c.1 (by rw[aq2 (show(1000:Int)<_ from o)];rfl),fun o=>⟨⟨l,k⟩,d _ r,fun g=>c.1 (by rw[g];simp),fun g=>p ?_⟩⟩;rw[aq0 (show ¬ (1000:Int)<_ from o),g] at c;exact c
 ·rw[aq4 (by omega)] at c
  exact c.2 rfl
noncomputable def BK κ:=(Sb κ).an 29 3 (aG 0 H7 zX wq)
theorem ai1 κ:aE (BK κ):=(e37 _).an (m37 _) (af6 _)
theorem YU κ:aj (BK κ):=(m37 _).an aI
abbrev PG a:=sp 62 [(1, .ptr 0 0 [] 0),(3, .int a.left),(5, .int a.i)] [.box 25 (J5 a)]
theorem am2 κ a I n K:(vc (BK κ) 12 29 none 0 (ad (Pr κ).toProgram 29 8) (PG a) (bj (BK κ) 29 8 0 I n K))=(
 letI c:=AV.agg [AV.ah 43 a.ds,AV.ah 48 a.rs]
 letI d:=K (Exit.exit 2) (sp 62 [(1,AV.ptr 0 0 [] 0),(3,AV.int a.left)] [Obj.box 25 c])
 letI b:=nth a.rs a.i.toNat
 letI e:=a.i<(↑(a.rs.length):Int)
 aq (decide e) (aq (decide (a.left>=(0:Int))) (aV (decide ((0:Int)<=a.i)&&decide e) (aV (decide ((0:Int)<=a.left)&&decide (a.left<=(100000:Int))) (∃(e0:Nat),e0<n/\I e0 (sp 62 [(1,AV.ptr 0 0 [] 0),(3,AV.lit (Value.int IntKind.i64 (nE {head:={rel:=toStr (ag (ag b 0) 0),l:=aa (af (ag (ag b 0) 1))},body:=dx (af (ag b 1))} a.left))),(5,AV.int (IntKind.wrap IntKind.i64 (a.i+(1:Int))))] [Obj.box 25 c])))) d) d):=by kernel_rfl
def H2(a:Uw):= -1<=a.left/\a.i+a.left<=100000/\0<=a.i/\a.i<=a.rs.length
def Bn(a:Uw):Out (Exit×S):= .one (.exit 2,sp 62 [(1, .ptr 0 0 [] 0),(3, .int (nD ((a.rs.drop a.i.toNat).map wh) a.left))] [.box 25 (J5 a)])
theorem ai2 κ:aU (BK κ) 12 29 8 (aG 0 PG H2 Bn):=by
 refine aC (fun a=>a.rs.length - a.i.toNat) ?_;rintro⟨ds,c,b,i⟩ K ⟨l,k,h,j⟩ d;simp only at l k h j;rw[show(BK κ).P=Pr κ from rfl];refine Eq.mpr (am2 κ ⟨ds,c,b,i⟩ _ _ K) ?_;simp only[Bn,Out.run] at d;by_cases g:i<c.length
 ·have f:i.toNat<c.length:=by omega
  rw[aq7 f,←aM c i.toNat f,ar3,nD] at d;by_cases e:b>=0
  ·have m:=x2 (wh (nth c i.toNat)) b e
   rw[aq2 (show 0<=b from e),aq3] at d;rw[aq2 (show i<(c.length:Int) from g),aq2 e,az (n:=i+1) (by omega) (by omega)];simp only[aq,ai,ap7,ap6];refine⟨⟨h,trivial⟩,⟨trivial,by omega⟩,_,?_,⟨ds,c,nE (wh (nth c i.toNat)) b,i+1⟩,rfl,⟨by simp only;omega,by simp only;omega,by simp only;omega,by simp only;omega⟩,rfl,?_⟩
   ·simp only;omega
   ·simp only[Bn,Out.run,show(i+1).toNat=i.toNat+1 by omega]
    exact d
  ·rw[aq0 (show ¬ 0<=b from e),aq1] at d
   rw[aq2 (show i<(c.length:Int) from g),aq0 e];exact d
 ·rw[aq4 (by omega)] at d
  rw[aq0 (show ¬ i<(c.length:Int) from g)];exact d
noncomputable def OF κ:=(BK κ).an 29 8 (aG 0 PG H2 Bn)
theorem ak7 κ:aE (OF κ):=(ai1 _).an (YU _) (ai2 _)
theorem ad0 κ:aj (OF κ):=(YU _).an aI
theorem y22 κ ds rs K:(a0 (OF κ) 12 29 [.agg [.ah 43 ds, .ah 48 rs]] [] K)=(
 letI a:=AV.ptr 0 0 []
 letI b:=AV.int
 letI c:=AV.ah
 letI d:=K (b 0) []
 letI e:=Pg.toProgram (Env.P (Sb κ))
 letI f:=Pg.toProgram (Env.P (BK κ))
 ad e 29 3=ad e 29 3/\∃(e1:Uw),letI g:=[Obj.box 25 (AV.agg [c 43 e1.ds,c 48 e1.rs])];sp 62 [(1,a 0),(3,b 2000),(4,b 0)] [Obj.box 25 (AV.agg [c 43 ds,c 48 rs])]=sp 62 [(1,a 0),(3,b e1.left),(4,b e1.i)] g/\(e1.ds.length<=9223372036854775807/\(∀(e0:AV),List.Mem e0 e1.ds->List.length (af (ag e0 1))<=9223372036854775807)/\(0:Int)<=e1.i/\e1.i<=(↑(e1.ds.length):Int))/\aq (List.any (List.drop e1.i.toNat e1.ds) Ka) d (ad f 29 8=ad f 29 8/\∃(e0:Uw),sp 62 [(1,a 0),(3,b e1.left),(5,b 0)] g=sp 62 [(1,a 0),(3,b e0.left),(5,b e0.i)] [Obj.box 25 (AV.agg [c 43 e0.ds,c 48 e0.rs])]/\((-1:Int)<=e0.left/\e0.i+e0.left<=(100000:Int)/\(0:Int)<=e0.i/\e0.i<=(↑(e0.rs.length):Int))/\aq (decide (nD (List.map wh (List.drop e0.i.toNat e0.rs)) e0.left<(0:Int))) d (aq (decide ((↑(e0.ds.length):Int)>(100:Int))) d (aq (decide ((↑(e0.rs.length):Int)>(300:Int))) d (K (b 1) []))))):=by kernel_rfl
def g22:List AV->Option (Bool×AV)
 |[.agg [.ah 43 ds, .ah 48 a]]=>some (decide (ds.length<=aW)&&ds.all fun d=>decide ((af (ag d 1)).length<=aW), .int (bif mZ ds a then 1 else 0))
 |_=>none
theorem p22 κ:cd (OF κ) 12 29 g22:=by
 intro c x a;unfold g22 at a;split at a
 ·rename_i ds b
  simp only[ap9,aq5,ap7,ap6,List.all_eq_true] at a;obtain⟨⟨f,d⟩,rfl⟩:=a;refine⟨_,rfl,rfl,?_⟩;refine Eq.mpr (y22 κ ds b _) ?_;refine⟨rfl,⟨ds,b,2000,0⟩,rfl,⟨f,d,by simp only;omega,by simp only;omega⟩,?_⟩;simp only[Int.toNat_zero,aq6,ae];refine⟨fun e=>?_,fun e=>⟨trivial,⟨ds,b,2000,0⟩,rfl,⟨by simp only;omega,by simp only;omega,by simp only;omega,by simp only;omega⟩,?_⟩⟩
  ·unfold mZ;rw[e];rfl
  ·simp only[Int.toNat_zero,aq6,ap6,ap8]
   grind [mZ,decide_eq_false,nD,wh,decide_eq_true]
 ·cases a
noncomputable def E22 κ:=(OF κ).aK 29 g22
theorem e22 κ:aE (E22 κ):=(ak7 _).aK (ad0 _) (p22 _)
theorem m22 κ:aj (E22 κ):=(ad0 _).aK
end Go.Proofs.YtioeffnadipbaaaGreatDoor
namespace Go.Proofs.YtioeffnadipbaaaGreatDoor
open Go Go.Dn Go.Rl Go.Proofs
noncomputable abbrev E15(κ:Kp):Env:=E22 κ
theorem e15(κ:Kp):aE (E15 κ):=e22 κ
theorem m15(κ:Kp):aj (E15 κ):=m22 κ
theorem o5{b c}(h:b=c):AV.bool b= .lit (.bool c):=by grind
theorem Xg(a b:Int):(a==b)=decide (a=b):=rfl
theorem Pj(a b:Int):(a != b)= !decide (a=b):=rfl
structure AT where
 op:Int
 s:ByteArray
 n:Int
 l:List AV
def AT.tm(a:AT):Tm:= .mk a.op a.s a.n (aa a.l)
def eH(x:AV):AT:=⟨toInt (ag x 0),toStr (ag x 1),toInt (ag x 2),af (ag x 3)⟩
theorem iE x:(eH x).tm=cI x:=by rw[de];rfl
abbrev dn(a:AT):AV:= .agg [.int a.op, .lit (.string a.s), .int a.n, .ah 38 a.l]
theorem KG{a}(h:dc a):(dg (aQ a)).length<=100000:=by
 have b:=cF (aa (bo 38 a.hl a.bl));rw[iJ _ _ _ _] at b;have c:=k8 (fx (aQ a)) [];unfold dg;cases a8 _
 ·simp
 ·exact Nat.le_trans c (Nat.le_trans b h.1)
end Go.Proofs.YtioeffnadipbaaaGreatDoor
