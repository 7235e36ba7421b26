import Derived.Test.YtioeffnadipbaaaGreatDoorDeP3
import Derived.Test.YtioeffnadipbaaaGreatDoorDeP1
namespace Go.Proofs.YtioeffnadipbaaaGreatDoor
open Go Go.Dn Go.Rl Go.Proofs
attribute [local irreducible] a0 vc
set_option maxRecDepth 20000
theorem x65 κ l s i I n K:(vc (Qs κ) 12 189 none 0 (ad (Pr κ).toProgram 189 2) (sp 19 [(0, .ah 9 l),(1, .lit (.string s)),(7, .int l.length),(8, .int i)] []) (bj (Qs κ) 189 2 0 I n K))=(
 letI a:=i<(↑(l.length):Int)
 aq (decide a) (aV (decide ((0:Int)<=i)&&decide a) (aq (ByteArray.toList s==ByteArray.toList (toStr (nth l i.toNat))) (K Exit.ret (sp 19 [(4,AV.int i)]
 [])) (∃(e0:Nat),e0<n/\I e0 (sp 19 [(0,AV.ah 9 l),(1,AV.str s),(7,AV.int (↑(l.length):Int)),(8,AV.int (IntKind.wrap IntKind.i64 (i+(1:
 Int))))] [])))) (K (Exit.exit 0) (sp 19 [] []))):=by kernel_rfl
abbrev ac8(a:List _×ByteArray×Int):=sp 19 [(0, .ah 9 a.1),(1, .lit (.string a.2.1)),(7, .int a.1.length),(8, .int a.2.2)] []
def OI(a:List AV×ByteArray×Int):=a.1.length<=aW/\0<=a.2.2/\a.2.2<=a.1.length
def Ib(a:List AV×ByteArray×Int):Out (Exit×S):= .aq (decide (fO a.2.1 (a.1.drop a.2.2.toNat) a.2.2>=0)) (.one (.ret,sp 19 [(4, .int (fO a.2.1 (a.1.drop a.2.2.toNat) a.2.2))] [])) (.one (.exit 0,sp 19 [] []))
theorem l65 κ:aU (Qs κ) 12 189 2 (aG 0 ac8 OI Ib):=by
 refine aC (fun a=>a.1.length - a.2.2.toNat) ?_;rintro⟨l,s,i⟩ K ⟨d,c,g⟩ b;simp only at d c g;rw[show(Qs κ).P=Pr κ from rfl];refine Eq.mpr (x65 κ l s i _ _ K) ?_;simp only[aW] at d;simp only[Ib,Out.run,ae] at b;simp only[ae,ai,ar4,ar6,ar5];refine⟨fun f=>⟨⟨c,f⟩,fun e=>?_,fun e=>?_⟩,fun f=>?_⟩
 ·rw[as5 (show i.toNat<l.length by omega),←aM l i.toNat (by omega),fO,show oh s (toStr (nth l i.toNat))=true from e,as1,as0 (show i>=0 from c)] at b
  exact b.1 rfl
 ·rw[az (n:=i+1) (by omega) (by omega)]
  refine⟨_,?_,(l,s,i+1),rfl,⟨by simpa[aW] using d,by simp only;omega,by simp only;omega⟩,rfl,?_⟩
  ·simp only;omega
  ·rw[as5 (show i.toNat<l.length by omega),←aM l i.toNat (by omega),fO,show oh s (toStr (nth l i.toNat))=false from e,ar9] at b
   simp only[Ib,Out.run,ae,show(i+1).toNat=i.toNat+1 by omega];exact b
 ·rw[as2 (by omega)] at b
  exact b.2 rfl
noncomputable def L3 κ:=(Qs κ).an 189 2 (aG 0 ac8 OI Ib)
theorem ak9 κ:aE (L3 κ):=(e39 _).an (m39 _) (l65 _)
theorem Zv κ:aj (L3 κ):=(m39 _).an aJ
theorem y65 κ l s K:(a0 (L3 κ) 12 189 [.ah 9 l, .lit (.string s)] [] K)=(
 letI b:=AV.int
 ad (Pg.toProgram (Env.P (Qs κ))) 189 2=ad (Pg.toProgram (Env.P (Qs κ))) 189 2/\∃(a:List AV×ByteArray×Int),letI c:=List.drop (Int.toNat a.2.2) a.1;sp 19 [(0,AV.ah 9 l),(1,AV.str s),(7,b (↑(l.length):Int)),(8,b 0)] []=sp 19 [(0,AV.ah 9 a.1),(1,AV.str a.2.1),(7,b (↑(a.1.length):Int)),(8,b a.2.2)] []/\(a.1.length<=9223372036854775807/\(0:Int)<=a.2.2/\a.2.2<=(↑(a.1.length):Int))/\aq (decide (fO a.2.1 c a.2.2>=(0:Int))) (K (b (fO a.2.1 c a.2.2)) []) (K (b (-1)) [])):=by kernel_rfl
def g65:List AV->Option (Bool×AV)
 |[.ah 9 l, .lit (.string s)]=>some (decide (l.length<=aW), .int (fO s l 0))
 |_=>none
theorem xw s: ∀l i,¬ fO s l i>=0->0<=i->fO s l i= -1
 |[],_,_,_=>rfl
 |a::l,i,h,b=>by
  simp only[fO] at h⊢;cases e:oh s _ with
  |true=>grind
  |false=>rw[e] at h;exact xw s l _ h (by omega)
theorem p65 κ:cd (L3 κ) 12 189 g65:=by
 intro b x a;unfold g65 at a;split at a
 ·rename_i l s
  simp only[ar7,as3,ar4] at a;obtain⟨c,rfl⟩:=a;refine⟨_,rfl,rfl,?_⟩;refine Eq.mpr (y65 κ l s _) ?_;refine⟨rfl,(l,s,0),rfl,⟨c,by simp only;omega,by simp only;omega⟩,?_⟩
  simp_all[Int.toNat_zero,as4,ae,ar4,trivial,xw]
 ·cases a
noncomputable def XV κ:=(L3 κ).aK 189 g65
theorem e65 κ:aE (XV κ):=(ak9 _).aK (Zv _) (p65 _)
theorem m65 κ:aj (XV κ):=(Zv _).aK
theorem y63 κ l s K:(a0 (XV κ) 12 164 [.ah 9 l, .lit (.string s)] [] K)=(
 aV (decide (l.length<=9223372036854775807)) (K (AV.bool (decide (fO s l (0:Int)>=(0:Int)))) [])):=by kernel_rfl
def g63:List AV->Option (Bool×AV)
 |[.ah 9 l, .lit (.string s)]=>some (decide (l.length<=aW), .bool (decide (fO s l 0>=0)))
 |_=>none
theorem p63 κ:cd (XV κ) 12 164 g63:=by
 intro b x a;unfold g63 at a;split at a
 ·rename_i l s
  simp   at a;obtain⟨c,rfl⟩:=a;refine⟨_,rfl,rfl,?_⟩;refine Eq.mpr (y63 _ l s _) ?_;rw[ai,ar4];exact⟨c,rfl⟩
 grind
noncomputable def XU κ:=(XV κ).aK 164 g63
theorem e63 κ:aE (XU κ):=(e65 _).aK (m65 _) (p63 _)
theorem m63 κ:aj (XU κ):=(m65 _).aK
theorem y24 κ a k K:(a0 (XU κ) 12 113 [au a, .int k] [] K)=(
 letI b:=AV.int
 letI c:=AV.agg
 letI d:=AV.str
 letI e:=AV.ah
 letI f:=nth a.bl k.toNat
 letI h:=∃(e1:List AV),letI g:=ax (aa e1);([e 38 [c [b (toInt (ag (ag f 2) 0)),d (toStr (ag (ag f 2) 1)),b (toInt (ag (ag f 2) 2)),e 38 (af (ag (ag f 2) 3))]]],aL)=([e 38 e1],aL)/\bE e1/\∃(e0:dh×Int),letI i:=ej (aQ e0.1) e0.2.toNat;([au a,b k],aL)=([au e0.1,b e0.2],aL)/\(a8 (aQ e0.1)=true/\(bk (aa (bo 38 e0.1.hl e0.1.bl))<=100000/\e0.1.bl.length<=100000)/\(0:Int)<=e0.2/\e0.2<(↑(e0.1.bl.length):Int))/\aV (decide ((List.length g+List.length (strs i)+1)*17<=70368744177664)) (K (e 9 (List.take (List.length g+List.length (strs i)) (List.drop 0 (List.take (List.length g) (strs g)++strs i)))) [])
 aV (decide ((0:Int)<=k)&&decide (k<(↑(a.bl.length):Int))) (aq (decide ((7:Int)<=toInt (ag f 0))) ((h/\h)/\h) (∃(e0:LA),([c [b
 (toInt (ag f 0)),c [d (toStr (ag (ag f 1) 0)),e 38 (af (ag (ag f 1) 1))],c [b (toInt (ag (ag f 2) 0)),d (toStr (ag (ag f
 2) 1)),b (toInt (ag (ag f 2) 2)),e 38 (af (ag (ag f 2) 3))],c [b (toInt (ag (ag f 3) 0)),d (toStr (ag (ag f 3) 1)),b
 (toInt (ag (ag f 3) 2)),e 38 (af (ag (ag f 3) 3))]]],aL)=([c [b e0.op,c [d e0.s,e 38 e0.l],c [b e0.o1,d
 e0.s1,b e0.n1,e 38 e0.l1],c [b e0.o2,d e0.s2,b e0.n2,e 38 e0.l2]]],aL)/\gp e0/\K (e 9 (List.take (List.length (er
 (LA.lt e0))) (List.drop 0 (strs (er (LA.lt e0)))))) []))):=by kernel_rfl
def Tl(a:dh×Int):Out (AV×List Dn.Obj):= .one (.ah 9 (strs (cM (aQ a.1) a.2.toNat)),[])
theorem Jn l:bk [l.x]<=jS l:=by
 grind [jS,bk]
theorem Jo x:aa [pV 38 (ag x 2)]=[(c9 x).x]:=by
 simp[aa,sg];rfl
theorem tc{a}(h:dd a) k:(ej (aQ a) k).length<=100000:=by
 have d:(fB (aQ a)).length<=100000:=by
  have b:=cK (aa (bo 38 a.hl a.bl));rw[iO _ _ _ _] at b;exact Nat.le_trans b h.1
 have c:=kJ (fB (aQ a));refine Nat.le_trans (List.length_filter_le _ _) ?_
 grind [dg]
theorem c24 κ:bc (XU κ) 12 113 (aO Sb BC Tl):=by
 refine aR ?_;rintro⟨a,k⟩ K ⟨h,d,f,g⟩ l;refine Eq.mpr (y24 κ a k K) ?_;simp only at h d f g;have i:k.toNat<a.bl.length:=by omega
 have c:=lg d i;have n:=cK [(c9 (nth a.bl k.toNat)).x];have m:=Jn (c9 (nth a.bl k.toNat));have b:K (.ah 9 (strs (cM (aQ a) k.toNat))) []:=l;unfold cM at b;rw[show(aQ a).body=dw a.bl from rfl,kB _ i,show(c9 (nth a.bl k.toNat)).op=toInt (ag (nth a.bl k.toNat) 0) from rfl] at b;simp only[and_self];rw[ai,ar5,ar4,ar4,ae,ar4,ar6];refine⟨⟨f,g⟩,fun e=>?_,fun e=>?_⟩
 ·rw[as0 e] at b
  refine⟨[pV 38 (ag (nth a.bl k.toNat) 2)],rfl,by simp only[bE,Jo];omega,(a,k),rfl,⟨h,d,f,g⟩,?_⟩;have j:=tc d k.toNat;simp only[Jo,ba,as4,cQ,ai,ar4];refine⟨by omega,?_⟩;rw[←jq,List.take_of_length_le (by simp[ba])];exact b
 ·rw[ar8 e] at b
  refine⟨sQ (nth a.bl k.toNat),rfl,by rw[gp,ez];exact c,?_⟩;simp only[ez,as4,cQ];exact b
noncomputable def XP κ:=(XU κ).aw 113 (aO Sb BC Tl)
theorem e24 κ:aE (XP κ):=(e63 _).aw (m63 _) (c24 _)
theorem m24 κ:aj (XP κ):=(m63 _).aw aI
theorem y52(κ:Kp)(a:dh)(k:Int) es K:(a0 (XP κ) 12 191 [.mp 0,au a, .int k] [.map 9 4 es] K)=(
 letI b:=AV.int
 letI c:=AV.agg
 letI d:=AV.bool
 letI e:=AV.str
 letI f:=Dn.Obj.map
 letI g:=AV.ah
 letI h:=AV.mp
 letI i:=nth a.bl k.toNat
 letI t:=toStr (ag (ag i 3) 1)
 letI u:=af (ag (ag i 1) 1)
 letI x:=toStr (ag (ag i 1) 0)
 letI y:=toInt (ag (ag i 2) 0)
 letI z:=toStr (ag (ag i 2) 1)
 letI l:=toInt (ag (ag i 2) 2)
 letI m:=toInt (ag (ag i 3) 0)
 letI n:=toInt (ag (ag i 3) 2)
 letI o:=af (ag (ag i 2) 3)
 letI p:=af (ag (ag i 3) 3)
 letI j:=Value×AV
 letI v:=∃(e3:dh×Int),([au a,b k],aL)=([au e3.1,b e3.2],aL)/\(a8 (aQ e3.1)=true/\(bk (aa (bo 38 e3.1.hl e3.1.bl))<=100000/\e3.1.bl.length<=100000)/\(0:Int)<=e3.2/\e3.2<(↑(e3.1.bl.length):Int))/\∃(e2:List AV×List j),letI q:=[f 9 4 e2.2];([h 0,g 9 (strs (ej (aQ e3.1) e3.2.toNat))],[f 9 4 es])=([h 0,g 9 e2.1],q)/\bq e2/\aq (fZ e2.2 e2.1) (∃(e1:ByteArray×List AV),([c [e x,g 38 u]],aL)=([c [e e1.1,g 38 e1.2]],aL)/\kb e1/\∃(e0:List AV×List j),([h 0,g 9 (List.take (List.length (dN (aa e1.2))) (List.drop 0 (strs (dN (aa e1.2)))))],q)=([h 0,g 9 e0.1],[f 9 4 e0.2])/\bq e0/\K (d (fZ e0.2 e0.1)) [f 9 4 e0.2]) (K (d false) q)
 letI A:=∃(e1:LA),([c [b (toInt (ag i 0)),c [e x,g 38 u],c [b y,e z,b l,g 38 o],c
  [b m,e t,b n,g 38 p]]],aL)=([c [b e1.op,c [e e1.s,g 38 e1.l],c [b e1.o1,e e1.s1,
  b e1.n1,g 38 e1.l1],c [b e1.o2,e e1.s2,b e1.n2,g 38 e1.l2]]],aL)/\gp e1/\∃(e0:List AV×List j),([h 0,g
  9 (List.take (List.length (er (LA.lt e1))) (List.drop 0 (strs (er (LA.lt e1)))))],[f 9 4 es])=([h 0,g 9 e0.1],[f 9 4 e0.2])/\bq
  e0/\K (d (fZ e0.2 e0.1)) [f 9 4 e0.2]
 letI B:=∃(e4:List AV),letI w:=List.take (List.length (ax (aa e4))) (List.drop 0 (strs (ax (aa e4))));([g 38 u],aL)=([g 38 e4],aL)/\bE e4/\aV (decide (List.length w<=9223372036854775807)) (aq (decide (fO t w (0:Int)>=(0:Int))) v (K (d false) [f 9 4 es]))
 aV (decide ((0:Int)<=k)&&decide (k<(↑(a.bl.length):Int))) (aq (toInt (ag i 0)==(1:Int)) (∃(e1:ByteArray×List AV),([c [e x,g 38 u]],aL)=([c [e e1.1,g 38 e1.2]],aL)/\kb e1/\∃(e0:List AV×List j),([h 0,g 9 (List.take (List.length (dN (aa e1.2))) (List.drop 0 (strs (dN (aa e1.2)))))],[f 9 4 es])=([h 0,g 9 e0.1],[f 9 4 e0.2])/\bq e0/\K (d (fZ e0.2 e0.1)) [f 9 4 e0.2]) (aq (toInt (ag i 0)==(3:Int)) (∃(e3:TA),letI r:=[f 9 4 e3.es];([h 0,c [b y,e z,b l,g 38 o],c [b m,e t,b n,g 38 p]],[f 9 4 es])=([h 0,c [b e3.o1,e e3.s1,b e3.n1,g 38 e3.l1],c [b e3.o2,e e3.s2,b e3.n2,g 38 e3.l2]],r)/\jn e3/\aq (lY e3.es (TA.x e3) (TA.y e3)) (K (d true) r) (∃(e2:TA),letI s:=[f 9 4 e2.es];([h 0,c [b m,e t,b n,g 38 p],c [b y,e z,b l,g 38 o]],r)=([h 0,c [b e2.o1,e e2.s1,b e2.n1,g 38 e2.l1],c [b e2.o2,e e2.s2,b e2.n2,g 38 e2.l2]],s)/\jn e2/\aq (lY e2.es (TA.x e2) (TA.y e2)) (K (d true) s) (∃(e1:LA),([c [b (toInt (ag i 0)),c [e x,g 38 u],c [b y,e z,b l,g 38 o],c [b m,e t,b n,g 38 p]]],aL)=([c [b e1.op,c [e e1.s,g 38 e1.l],c [b e1.o1,e e1.s1,b e1.n1,g 38 e1.l1],c [b e1.o2,e e1.s2,b e1.n2,g 38 e1.l2]]],aL)/\gp e1/\∃(e0:List AV×List j),([h 0,g 9 (List.take (List.length (er (LA.lt e1))) (List.drop 0 (strs (er (LA.lt e1)))))],s)=([h 0,g 9 e0.1],[f 9 4 e0.2])/\bq e0/\K (d (fZ e0.2 e0.1)) [f 9 4 e0.2]))) (aq (toInt (ag i 0)==(2:Int)) A (aq (toInt (ag i 0)==(4:Int)) A (aq (toInt (ag i 0)==(5:Int)) A (aq (toInt (ag i 0)==(6:Int)) A (aq (toInt (ag i 0)==(7:Int)) (v/\v/\v/\v) (B/\B/\B/\B))))))))):=by kernel_rfl
def ac5(a:dh×Int×List ByteArray):List AV×List Dn.Obj:=([.mp 0,au a.1, .int a.2.1],[.map 9 4 (bU a.2.2)])
def OG(a:dh×Int×List ByteArray):=a8 (aQ a.1)=true/\dd a.1/\0<=a.2.1/\a.2.1<a.1.bl.length
def Tp(a:dh×Int×List ByteArray):Out (AV×List Dn.Obj):= .one (.bool (oQ a.2.2 (aQ a.1) a.2.1.toNat),[.map 9 4 (bU a.2.2)])
theorem BY x y a:(TA.mk (toInt (ag x 0)) (toStr (ag x 1)) (toInt (ag x 2)) (af (ag x 3)) (toInt (ag y 0)) (toStr (ag y 1)) (toInt (ag y 2)) (af (ag y 3)) a).x=cI x:=by rw[de];rfl
theorem o5 x y a:(TA.mk (toInt (ag x 0)) (toStr (ag x 1)) (toInt (ag x 2)) (af (ag x 3)) (toInt (ag y 0)) (toStr (ag y 1)) (toInt (ag y 2)) (af (ag y 3)) a).y=cI y:=by rw[de];rfl
def ma x y a:=TA.mk (toInt (ag x 0)) (toStr (ag x 1)) (toInt (ag x 2)) (af (ag x 3)) (toInt (ag y 0)) (toStr (ag y 1)) (toInt (ag y 2)) (af (ag y 3)) a
theorem c52 κ:bc (XP κ) 12 191 (aO ac5 OG Tp):=by
 refine aR ?_;rintro⟨a,k,b⟩ K ⟨r,h,i,n⟩ B;refine Eq.mpr (y52 κ a k (bU b) K) ?_;simp only at r h i n;have A:k.toNat<a.bl.length:=by omega
 have d:=lg h A;have c:K (.bool (oQ b (aQ a) k.toNat)) [.map 9 4 (bU b)]:=B;unfold oQ at c;rw[show(aQ a).body=dw a.bl from rfl,kB _ A,show(c9 (nth a.bl k.toNat)).op=toInt (ag (nth a.bl k.toNat) 0) from rfl,show(c9 (nth a.bl k.toNat)).a.l=aa (af (ag (ag (nth a.bl k.toNat) 1) 1)) from rfl,
  show(c9 (nth a.bl k.toNat)).x=cI (ag (nth a.bl k.toNat) 2) from rfl,show(c9 (nth a.bl k.toNat)).y=cI (ag (nth a.bl k.toNat) 3) from rfl] at c
 have t:jS (c9 (nth a.bl k.toNat))=bk [cI (ag (nth a.bl k.toNat) 2),cI (ag (nth a.bl k.toNat) 3)]+bk (aa (af (ag (ag (nth a.bl k.toNat) 1) 1))):=rfl;have f:bk (aa (af (ag (ag (nth a.bl k.toNat) 1) 1)))<=100000:=by omega
 have g:bk [cI (ag (nth a.bl k.toNat) 2)]<=100000/\bk [cI (ag (nth a.bl k.toNat) 3)]<=100000:=by
  simp only[bk] at t⊢;omega
 have F:=cK (aa (af (ag (ag (nth a.bl k.toNat) 1) 1)));have C:=DI (aa (af (ag (ag (nth a.bl k.toNat) 1) 1)));have D:=tc h k.toNat;have E:(er (c9 (nth a.bl k.toNat))).length<=100000:=by
  have m:=cK [(c9 (nth a.bl k.toNat)).x,(c9 (nth a.bl k.toNat)).y];have j:=cK (c9 (nth a.bl k.toNat)).a.l;simp only[er,jS,as9] at d⊢;omega
 simp only[and_self];rw[ai,ar5,ar4,ar4];refine⟨⟨i,n⟩,?_⟩;rw[ae,beq_iff_eq,beq_eq_false_iff_ne];refine⟨fun m=>?_,fun m=>?_⟩
 ·rw[as0 m,as1] at c
  refine⟨(toStr (ag (ag (nth a.bl k.toNat) 1) 0),af (ag (ag (nth a.bl k.toNat) 1) 1)),rfl,f,(strs (dN (aa (af (ag (ag (nth a.bl k.toNat) 1) 1)))),bU b),by simp only[as4,cQ],by simp only[bq,ba,aW];omega,?_⟩;simp only[fh];exact c
 rw[ar8 m,ar9] at c;rw[ae,beq_iff_eq,beq_eq_false_iff_ne];refine⟨fun j=>?_,fun j=>?_⟩
 ·rw[as0 j,as1] at c
  refine⟨ma (ag (nth a.bl k.toNat) 2) (ag (nth a.bl k.toNat) 3) (bU b),rfl,by unfold jn ma;rw[o5];exact g.2,?_⟩;unfold ma;rw[BY,o5,pn];rw[ae];refine⟨fun e=>by rw[e] at c;exact c,fun e=>?_⟩;rw[e,Bool.false_or] at c;refine⟨ma (ag (nth a.bl k.toNat) 3) (ag (nth a.bl k.toNat) 2) (bU b),rfl,by unfold jn ma;rw[o5];exact g.1,?_⟩;unfold ma;rw[BY,o5,pn,ae];refine⟨fun p=>by rw[p] at c;exact c,fun p=>?_⟩;rw[p,Bool.false_or] at c;exact⟨sQ (nth a.bl k.toNat),rfl,by rw[gp,ez];exact d,(strs (er (sQ (nth a.bl k.toNat)).lt),bU b),by simp only[as4,cQ],by simp only[bq,ba,aW];rw[ez];omega,by simp only[fh,ez];exact c⟩
 rw[ar8 j,ar9] at c;rw[ae,beq_iff_eq,beq_eq_false_iff_ne];refine⟨fun u=>?_,fun u=>?_⟩
 ·rw[as0 u] at c
  simp only[Bool.true_or,Bool.or_true,as1] at c;exact⟨sQ (nth a.bl k.toNat),rfl,by rw[gp,ez];exact d,(strs (er (sQ (nth a.bl k.toNat)).lt),bU b),by simp only[as4,cQ],by simp only[bq,ba,aW];rw[ez];omega,by simp only[fh,ez];exact c⟩
 rw[ae,beq_iff_eq,beq_eq_false_iff_ne];refine⟨fun q=>?_,fun q=>?_⟩
 ·rw[as0 q] at c
  simp only[Bool.true_or,Bool.or_true,as1] at c;exact⟨sQ (nth a.bl k.toNat),rfl,by rw[gp,ez];exact d,(strs (er (sQ (nth a.bl k.toNat)).lt),bU b),by simp only[as4,cQ],by simp only[bq,ba,aW];rw[ez];omega,by simp only[fh,ez];exact c⟩
 rw[ae,beq_iff_eq,beq_eq_false_iff_ne];refine⟨fun w=>?_,fun w=>?_⟩
 ·rw[as0 w] at c
  simp only[Bool.true_or,Bool.or_true,as1] at c;exact⟨sQ (nth a.bl k.toNat),rfl,by rw[gp,ez];exact d,(strs (er (sQ (nth a.bl k.toNat)).lt),bU b),by simp only[as4,cQ],by simp only[bq,ba,aW];rw[ez];omega,by simp only[fh,ez];exact c⟩
 rw[ae,beq_iff_eq,beq_eq_false_iff_ne];refine⟨fun v=>?_,fun v=>?_⟩
 ·rw[as0 v] at c
  simp only[Bool.true_or,Bool.or_true,as1] at c;exact⟨sQ (nth a.bl k.toNat),rfl,by rw[gp,ez];exact d,(strs (er (sQ (nth a.bl k.toNat)).lt),bU b),by simp only[as4,cQ],by simp only[bq,ba,aW];rw[ez];omega,by simp only[fh,ez];exact c⟩
 rw[ar8 u,ar8 q,ar8 w,ar8 v] at c;simp only[Bool.false_or,ar9] at c;rw[ae,beq_iff_eq,beq_eq_false_iff_ne];refine⟨fun z=>?_,fun z=>?_⟩
 ·rw[as0 z,Bool.true_or,at2] at c
  refine⟨(a,k),rfl,⟨r,h,i,n⟩,(strs (ej (aQ a) k.toNat),bU b),rfl,by simp only[bq,ba,aW];omega,ae.2 ⟨fun e=>⟨(toStr (ag (ag (nth a.bl k.toNat) 1) 0),af (ag (ag (nth a.bl k.toNat) 1) 1)),rfl,f,(strs (dN (aa (af (ag (ag (nth a.bl k.toNat) 1) 1)))),bU b),by simp only[as4,cQ],by simp only[bq,ba,aW];omega,?_⟩,fun e=>?_⟩⟩
  ·rw[fh] at e
   simp only[fh];rw[e,at2] at c;exact c
  ·rw[fh] at e
   rw[e,Bool.false_and] at c;exact c
 ·rw[ar8 z,Bool.false_or] at c
  refine⟨_,rfl,f,?_⟩;have H:=zu (toStr (ag (ag (nth a.bl k.toNat) 3) 1)) (ax (aa (af (ag (ag (nth a.bl k.toNat) 1) 1)))) 0 (by omega);have I:(cI (ag (nth a.bl k.toNat) 3)).s=toStr (ag (ag (nth a.bl k.toNat) 3) 1):=by rw[de];rfl
  simp only[as4,cQ,ba,H];rw[ai,ar4,ae];rw[I] at c;refine⟨by omega,fun o=>?_,fun o=>?_⟩
  ·rw[o,at2] at c
   refine⟨(a,k),rfl,⟨r,h,i,n⟩,(strs (ej (aQ a) k.toNat),bU b),rfl,by simp only[bq,ba,aW];omega,ae.2 ⟨fun e=>⟨(toStr (ag (ag (nth a.bl k.toNat) 1) 0),af (ag (ag (nth a.bl k.toNat) 1) 1)),rfl,f,(strs (dN (aa (af (ag (ag (nth a.bl k.toNat) 1) 1)))),bU b),by simp only[as4,cQ],by simp only[bq,ba,aW];omega,?_⟩,fun e=>?_⟩⟩
   ·rw[fh] at e
    simp only[fh];rw[e,at2] at c;exact c
   ·rw[fh] at e
    rw[e,Bool.false_and] at c;exact c
  ·rw[o,Bool.false_and] at c;exact c
noncomputable def Qv κ:=(XP κ).aw 191 (aO ac5 OG Tp)
theorem e52 κ:aE (Qv κ):=(e24 _).aw (m24 _) (c52 _)
theorem m52 κ:aj (Qv κ):=(m24 _).aw aI
def b9(l:List Bool):List AV:=l.map fun b=> .lit (.bool b)
theorem jz l:(b9 l).length=l.length:=by simp[b9]
theorem Jz l k:Dn.toBool (nth (b9 l) k)=Rl.fu l k:=by
 unfold Rl.fu;induction l generalizing k with
 |nil=>rfl
 |cons a l b=>
  cases k with
  |zero=>rfl
  |succ k=>grind [b9,nth]
structure Lk where
 a:dh
 done:List Bool
 b:List ByteArray
 i:Int
 first:Int
abbrev I3(a:Lk):=sp 38 [(1, .ak 0 0 (b9 a.done).length),(2, .mp 1),(3, .ptr 2 0 [] 0),(7, .int a.first),(11, .ah 80 a.a.bl),(12, .int a.a.bl.length),(13, .int a.i)] [.row 4 (b9 a.done), .map 9 4 (bU a.b), .box 48 (au a.a)]
theorem x36(κ:Kp)(a:Lk) es I n K:(vc (Qv κ) 12 170 none 2 (ad (Pr κ).toProgram 170 3) (sp 38 [(1, .ak 0 0 (b9 a.done).length),(2, .mp 1),(3, .ptr 2 0 [] 0),(7, .int a.first),(11, .ah 80 a.a.bl),(12, .int a.a.bl.length),(13, .int a.i)] [.row 4 (b9 a.done), .map 9 4 es, .box 48 (au a.a)]) (bj (Qv κ) 170 3 2 I n K))=(
 letI b:=AV.int
 letI c:=Obj.row
 letI d:=Dn.Obj.map
 letI g:=IntKind.wrap IntKind.i64 (a.i+(1:Int))
 letI f:=List.length (b9 a.done)
 letI e:=List.length a.a.bl
 aq (decide (a.i<(↑e:Int))) (aV (decide ((0:Int)<=a.i)&&decide (a.i<(↑e:Int))) (aV (decide ((0:Int)<=a.i)&&decide (a.i<(↑f:Int))) (aq (Dn.toBool (nth (b9 a.done) (0+a.i.toNat))) (∃(e0:Nat),e0<n/\I e0 (sp 38 [(1,AV.ak 0 0 f),(2,AV.mp 1),(3,AV.ptr 2 0 [] 0),(7,b a.first),(11,AV.ah 80 a.a.bl),(12,b (↑e:Int)),(13,b g)] [c 4 (b9 a.done),d 9 4 es,Obj.box 48 (au a.a)])) (∃(e1:dh×Int×List ByteArray),letI h:=[c 4 (b9 a.done),d 9 4 (bU e1.2.2),Obj.box 48 (au a.a)];letI i:=∃(e0:Nat),e0<n/\I e0 (sp 38 [(1,AV.ak 0 0 f),(2,AV.mp 1),(3,AV.ptr 2 0 [] 0),(7,b a.first),(11,AV.ah 80 a.a.bl),(12,b (↑e:Int)),(13,b g)] h);([AV.mp 0,au a.a,b a.i],[d 9 4 es])=([AV.mp 0,au e1.1,b e1.2.1],[d 9 4 (bU e1.2.2)])/\(a8 (aQ e1.1)=true/\(bk (aa (bo 38 e1.1.hl e1.1.bl))<=100000/\e1.1.bl.length<=100000)/\(0:Int)<=e1.2.1/\e1.2.1<(↑(e1.1.bl.length):Int))/\aq (!oQ e1.2.2 (aQ e1.1) e1.2.1.toNat) i (aq (toInt (ag (nth a.a.bl a.i.toNat) 0) != (1:Int)) (K Exit.ret (sp 38 [(6,b a.i)] [c 4 (b9 a.done),d 9 4 (bU e1.2.2)])) (aq (decide (a.first<(0:Int))) (∃(e0:Nat),e0<n/\I e0 (sp 38 [(1,AV.ak 0 0 f),(2,AV.mp 1),(3,AV.ptr 2 0 [] 0),(7,b a.i),(11,AV.ah 80 a.a.bl),(12,b (↑e:Int)),(13,b g)] h)) i)))))) (K (Exit.exit 0) (sp 38 [(7,b a.first)] [c 4 (b9 a.done),d 9 4 es]))):=by kernel_rfl
def BA(a:Lk):=a8 (aQ a.a)=true/\dd a.a/\0<=a.i/\a.i<=a.a.bl.length/\a.done.length=a.a.bl.length
def zD(a:Lk):=my (aQ a.a) a.done a.b (a.a.bl.length - a.i.toNat) a.i.toNat a.first
def F3(a:Lk):Out (Exit×S):= .all (fun _=>True) fun e=> .aq e (.one (.ret,sp 38 [(6, .int (zD a))] [.row 4 (b9 a.done), .map 9 4 (bU a.b)])) (.one (.exit 0,sp 38 [(7, .int (zD a))] [.row 4 (b9 a.done), .map 9 4 (bU a.b)]))
theorem l36 κ:aU (Qv κ) 12 170 3 (aG 2 I3 BA F3):=by
 refine aC (fun a=>a.a.bl.length - a.i.toNat) ?_;rintro⟨a,done,b,i,c⟩ K ⟨p,j,l,v,r⟩ q;simp only at p j l v r;rw[show(Qv κ).P=Pr κ from rfl];refine Eq.mpr (x36 κ ⟨a,done,b,i,c⟩ (bU b) _ _ K) ?_;have g:=q true trivial;have d:=q false trivial;simp only[Out.run,aq,zD] at g d;simp only[Nat.zero_add,Jz];have s:=jz done;have x:=j.2;rw[ae,ai,ai,ar5,ar5,ar4,ar4,ar4,ar6];have w:i<a.bl.length->∀f:Int,my (aQ a) done b (a.bl.length - i.toNat) i.toNat c=my (aQ a) done b (a.bl.length - (i.toNat+1)) (i.toNat+1) f->
   ∃m,m<a.bl.length - i.toNat/\ep I3 BA F3 (fun a=>a.a.bl.length - a.i.toNat) K m (I3 ⟨a,done,b,i+1,f⟩):=by
  intro h f t;refine⟨_,?_,⟨a,done,b,i+1,f⟩,rfl,⟨p,j,by simp only;omega,by simp only;omega,r⟩,rfl,?_⟩
  ·simp only;omega
  ·intro e _
   simp only[Out.run,zD,show(i+1).toNat=i.toNat+1 by omega,←t];cases e
   ·exact d
   ·exact g
 refine⟨fun h=>⟨⟨l,h⟩,⟨l,by omega⟩,?_⟩,fun h=>?_⟩
 ·have k:=FU (aQ a) done b (a.bl.length - (i.toNat+1)) i.toNat c
  rw[show a.bl.length - (i.toNat+1)+1=a.bl.length - i.toNat by omega] at k;have u:i.toNat<a.bl.length:=by omega
  have o:(dV (aQ a).body i.toNat).op=toInt (ag (nth a.bl i.toNat) 0):=by
   rw[show(aQ a).body=dw a.bl from rfl,kB _ u];rfl
  rw[o] at k;rw[az (n:=i+1) (by omega) (by omega),ae];refine⟨fun e=>w h c (by rw[k,e];rfl),fun e=>⟨(a,i,b),rfl,⟨p,j,l,h⟩,?_⟩⟩;rw[e,Bool.false_or] at k;simp only[ae,Bool.not_eq_true',as6,bne_iff_ne,bne_eq_false_iff_eq,ar4,ar6]
  grind
 ·rw[show a.bl.length - i.toNat=0 by omega] at d
  exact d
noncomputable def LN κ:=(Qv κ).an 170 3 (aG 2 I3 BA F3)
theorem aj2 κ:aE (LN κ):=(e52 _).an (m52 _) (l36 _)
theorem Zg κ:aj (LN κ):=(m52 _).an aJ
theorem y36 κ(a:Lk) K:(a0 (LN κ) 12 170 [au a.a, .ak 0 0 (b9 a.done).length, .mp 1] [.row 4 (b9 a.done), .map 9 4 (bU a.b)] K)=(
 letI b:=AV.int
 letI c:=Dn.Obj.map
 letI d:=Pg.toProgram (Env.P (Qv κ))
 ad d 170 3=ad d 170 3/\∃(e1:Lk),letI e:=K (b (zD e1)) [Obj.row 4 (b9 e1.done),c 9 4 (bU e1.b)];sp 38 [(1,AV.ak 0 0 (List.length (b9 a.done))),(2,AV.mp 1),(3,AV.ptr 2 0 [] 0),(7,b (-1)),(11,AV.ah 80 a.a.bl),(12,b (↑(List.length a.a.bl):Int)),(13,b 0)] [Obj.row 4 (b9 a.done),c 9 4 (bU a.b),Obj.box 48 (au a.a)]=sp 38 [(1,AV.ak 0 0 (List.length (b9 e1.done))),(2,AV.mp 1),(3,AV.ptr 2 0 [] 0),(7,b e1.first),(11,AV.ah 80 e1.a.bl),(12,b (↑(List.length e1.a.bl):Int)),(13,b e1.i)] [Obj.row 4 (b9 e1.done),c 9 4 (bU e1.b),Obj.box 48 (au e1.a)]/\(a8 (aQ e1.a)=true/\(bk (aa (bo 38 e1.a.hl e1.a.bl))<=100000/\List.length e1.a.bl<=100000)/\(0:Int)<=e1.i/\e1.i<=(↑(List.length e1.a.bl):Int)/\e1.done.length=List.length e1.a.bl)/\∀(e0:Bool),True->aq e0 e e):=by kernel_rfl
def ac2(a:Lk):List AV×List Dn.Obj:=([au a.a, .ak 0 0 (b9 a.done).length, .mp 1],[.row 4 (b9 a.done), .map 9 4 (bU a.b)])
def OE(a:Lk):=a8 (aQ a.a)=true/\dd a.a/\a.done.length=a.a.bl.length
def Tn(a:Lk):Out (AV×List Dn.Obj):= .one (.int (aF (aQ a.a) a.done a.b),[.row 4 (b9 a.done), .map 9 4 (bU a.b)])
theorem fW a:(aQ a).body.length=a.bl.length:=AS _
theorem c36 κ:bc (LN κ) 12 170 (aO ac2 OE Tn):=by
 refine aR ?_;rintro⟨a,done,b,i,d⟩ K ⟨f,g,h⟩ j;refine Eq.mpr (y36 κ _ K) ?_;have c:K _ _:=j;unfold aF at c;rw[fW] at c;refine⟨rfl,⟨a,done,b,0, -1⟩,rfl,⟨f,g,by simp only;omega,by simp only;omega,h⟩,?_⟩;intro e _;cases e
 ·exact c
 ·exact c
noncomputable def Qp κ:=(LN κ).aw 170 (aO ac2 OE Tn)
theorem e36 κ:aE (Qp κ):=(aj2 _).aw (Zg _) (c36 _)
theorem m36 κ:aj (Qp κ):=(Zg _).aw aI
def ints(l:List _):=l.map fun(k:Nat)=>AV.lit (.int .i64 k)
theorem ru l:(ints l).length=l.length:=by simp[ints]
theorem M3 l m:ints (l++m)=ints l++ints m:=by simp[ints]
structure XB where
 a:dh
 ks:List Nat
 done:List Bool
 b:List ByteArray
 i:Int
noncomputable abbrev Y5(a:dh)(κ:Kp):Dn.Obj:=
 .loop (iG (Pr κ).toProgram 107 4 .ready none (hG (bM 40) [(0,au a),(1, .ptr 0 0 [] 0),(2, .nil),(3, .lit .nilIface),(4, .ptr 1 0 [] 0),(5, .ptr 3 0 [] 0),(7, .mp 2),(8,au a),(9, .bm 169 [.ptr 4 0 [] 0])]))
noncomputable abbrev I9 κ a c b:=[.box 48 (au a), .box 35 (.ak 6 0 (ints c).length), .map 9 4 (bU b), .box 178 (.mp 2), .box 48 (au a),Y5 a κ, .row 3 (ints c)]
noncomputable abbrev Pt κ(a:XB):=sp 38 [(0, .cf 5),(1, .ptr 4 0 [] 0),(3, .mp 7),(4, .ak 8 0 (b9 a.done).length),(13, .int a.a.bl.length),(14, .int a.i)] (I9 κ a.a a.ks a.b++[.map 9 4 (bU a.b), .row 4 (b9 a.done)])
theorem x17(κ:Kp)(a:dh) ks es es' done i I n K:(vc (Qp κ) 12 169 none 6 (ad (Pr κ).toProgram 169 3) (sp 38 [(0, .cf 5),(1, .ptr 4 0 [] 0),(3, .mp 7),(4, .ak 8 0 done.length),(13, .int a.bl.length),(14, .int i)] [.box 48 (au a), .box 35 (.ak 6 0 ks.length), .map 9 4 es, .box 178 (.mp 2), .box 48 (au a),Y5 a κ, .row 3 ks, .map 9 4 es', .row 4 done]) (bj (Qp κ) 169 3 6 I n K))=(
 letI b:=AV.int
 letI c:=AV.ptr
 letI d:=Obj.box
 letI e:=Obj.row
 letI f:=Dn.Obj.map
 letI g:=AV.ah
 letI h:=AV.ak
 letI j:=AV.mp
 letI o:=iG Tryz.prog 107 4 LoopState.ready none (hG (bM 40) [(0,au a),(1,c 0 0 [] 0),(2,AV.nil),(3,AV.lit Value.nilIface),(4,c 1 0 [] 0),
  (5,c 3 0 [] 0),(7,j 2),(8,au a),(9,AV.bm 169 [c 4 0 [] 0])])
 letI p:=sp 38 [] [d 48 (au a),d 35 (h 6 0 ks.length),f 9 4 es,d 178 (j 2),d 48 (au a),Dn.Obj.loop o,e 3
  ks]
 letI q:=IntKind.wrap IntKind.i64 (i+(1:Int))
 letI m:=Value×AV
 letI r:=h 6 0 (ks.length+1)
 aq (decide (i<(↑(a.bl.length):Int))) (∃(e5:Lk),letI k:=aF (aQ e5.a) e5.done e5.b;letI s:=decide ((0:Int)<=aF (aQ e5.a) e5.done e5.b)&&decide (aF (aQ e5.a) e5.done e5.b<(↑(done.length):Int));letI t:=bH (b9 e5.done) (0+Int.toNat k) (AV.bool true);letI u:=List.take ks.length ks++[b k];letI l:=[f 9 4 (bU e5.b)];([au a,h 0 0 done.length,j 1],[e 4 done,f 9 4 es'])=([au e5.a,h 0 0 (List.length (b9 e5.done)),j 1],[e 4 (b9 e5.done),f 9 4 (bU e5.b)])/\(a8 (aQ e5.a)=true/\(bk (aa (bo 38 e5.a.hl e5.a.bl))<=100000/\List.length e5.a.bl<=100000)/\e5.done.length=List.length e5.a.bl)/\aq (decide (aF (aQ e5.a) e5.done e5.b<(0:Int))) (K Exit.ret p) (aV (decide ((ks.length+1+1)*9<=70368744177664)) ((∃(e4:dh×Int),([au a,b k],aL)=([au e4.1,b e4.2],aL)/\(a8 (aQ e4.1)=true/\(bk (aa (bo 38 e4.1.hl e4.1.bl))<=100000/\e4.1.bl.length<=100000)/\(0:Int)<=e4.2/\e4.2<(↑(e4.1.bl.length):Int))/\∃(e3:List AV×List m),([j 0,g 9 (strs (cM (aQ e4.1) e4.2.toNat))],[f 9 4 es])=([j 0,g 9 e3.1],[f 9 4 e3.2])/\bq e3/\aV s (∃(e2:dh×Int),([au a,b k],aL)=([au e2.1,b e2.2],aL)/\(a8 (aQ e2.1)=true/\(bk (aa (bo 38 e2.1.hl e2.1.bl))<=100000/\e2.1.bl.length<=100000)/\(0:Int)<=e2.2/\e2.2<(↑(e2.1.bl.length):Int))/\∃(e1:List AV×List m),([j 0,g 9 (strs (cM (aQ e2.1) e2.2.toNat))],l)=([j 0,g 9 e1.1],[f 9 4 e1.2])/\bq e1/\∃(e0:Nat),e0<n/\I e0 (sp 38 [(0,AV.cf 5),(1,c 4 0 [] 0),(3,j 7),(4,h 8 0 done.length),(13,b (↑(a.bl.length):Int)),(14,b q)] [d 48 (au a),d 35 r,f 9 4 (fD e3.2 e3.1),d 178 (j 2),d 48 (au a),Dn.Obj.loop o,e 3 u,f 9 4 (fD e1.2 e1.1),e 4 t])))/\∃(e4:dh×Int),([au a,b k],aL)=([au e4.1,b e4.2],aL)/\(a8 (aQ e4.1)=true/\(bk (aa (bo 38 e4.1.hl e4.1.bl))<=100000/\e4.1.bl.length<=100000)/\(0:Int)<=e4.2/\e4.2<(↑(e4.1.bl.length):Int))/\∃(e3:List AV×List m),([j 0,g 9 (strs (cM (aQ e4.1) e4.2.toNat))],[f 9 4 es])=([j 0,g 9 e3.1],[f 9 4 e3.2])/\bq e3/\aV s (∃(e2:dh×Int),([au a,b k],aL)=([au e2.1,b e2.2],aL)/\(a8 (aQ e2.1)=true/\(bk (aa (bo 38 e2.1.hl e2.1.bl))<=100000/\e2.1.bl.length<=100000)/\(0:Int)<=e2.2/\e2.2<(↑(e2.1.bl.length):Int))/\∃(e1:List AV×List m),([j 0,g 9 (strs (cM (aQ e2.1) e2.2.toNat))],l)=([j 0,g 9 e1.1],[f 9 4 e1.2])/\bq e1/\∃(e0:Nat),e0<n/\I e0 (sp 38 [(0,AV.cf 5),(1,c 4 0 [] 0),(3,j 7),(4,h 8 0 done.length),(13,b (↑(a.bl.length):Int)),(14,b q)] [d 48 (au a),d 35 r,f 9 4 (fD e3.2 e3.1),d 178 (j 2),d 48 (au a),Dn.Obj.loop o,e 3 u,f 9 4 (fD e1.2 e1.1),e 4 t]))))) (K (Exit.exit 0) p)):=by kernel_rfl
theorem qH: ∀l k,bH (b9 l) k (.lit (.bool true))=b9 (l.set k true)
 |[],_=>rfl
 |_::_,0=>rfl
 |a::l,k+1=>by
  have:=qH l k
  grind [b9,bH]
noncomputable def e9(a:XB):=pb (aQ a.a) (a.a.bl.length - a.i.toNat) a.done a.b
def IC(a:XB):=a8 (aQ a.a)=true/\dd a.a/\0<=a.i/\a.i<=a.a.bl.length/\a.done.length=a.a.bl.length/\a.ks.length<=a.i.toNat
noncomputable def NQ(κ:Kp)(a:XB):Out (Exit×S):= .all (fun _=>True) fun e=> .aq e (.one (.ret,sp 38 [] (I9 κ a.a (a.ks++e9 a) (a.b++eZ (aQ a.a) (e9 a)))))
 (.one (.exit 0,sp 38 [] (I9 κ a.a (a.ks++e9 a) (a.b++eZ (aQ a.a) (e9 a)))))
theorem sH{a}(h:dd a){k}(c:k<a.bl.length):(cM (aQ a) k).length<=200000:=by
 have b:=lg h c;have d:=tc h k;have e:=Jn (c9 (nth a.bl k))
 grind [cK,cM,aQ,kB,c9,nth,er,jS]
theorem l17 κ:aU (Qp κ) 12 169 3 (aG 6 (Pt κ) IC (NQ κ)):=by
 refine aC (fun a=>a.a.bl.length - a.i.toNat) ?_;rintro⟨a,h,done,b,i⟩ K ⟨j,g,t,w,q,x⟩ s;simp only at j g t w q x;rw[show(Qp κ).P=Pr κ from rfl];refine Eq.mpr (x17 κ a (ints h) (bU b) (bU b) (b9 done) i _ _ K) ?_;have c:=s true trivial;have d:=s false trivial;simp only[Out.run,aq,e9] at c d;simp only[and_self];have v:=jz done;have z:=ru h;have C:=g.2;rw[ae,ar4,ar6];refine⟨fun u=>⟨⟨a,done,b,0,0⟩,rfl,⟨j,g,q⟩,?_⟩,fun u=>?_⟩
 ·have p:=G6 (aQ a) (a.bl.length - (i.toNat+1)) done b
  rw[show a.bl.length - (i.toNat+1)+1=a.bl.length - i.toNat by omega] at p;rw[ae,ar4,ar6];refine⟨fun e=>?_,fun e=>?_⟩
  ·rw[p,as0 e] at c
   simp only[as1,List.append_nil,eZ,List.flatMap_nil] at c;exact c
  ·rw[p,ar8 e,ar9] at c d
   rcases qy (aQ a) done b with e0|⟨m,y,A,_⟩
   ·rw[e0] at e;omega
   have k:=y;rw[fW] at k;have B:=sH g k;rw[ai,ar4];refine⟨by omega,(a,aF (aQ a) done b),rfl,⟨j,g,m,by simp only;omega⟩,(strs (cM (aQ a) (aF (aQ a) done b).toNat),bU b),rfl,by simp only[bq,ba,aW];omega,?_⟩;rw[ai,ar5,ar4,ar4];refine⟨⟨m,by show aF (aQ a) done b<_;omega⟩,(a,aF (aQ a) done b),rfl,⟨j,g,m,by simp only;omega⟩,(strs (cM (aQ a) (aF (aQ a) done b).toNat),bU b),rfl,by simp only[bq,ba,aW];omega,?_⟩;rw[az (n:=i+1) (by omega) (by omega)];refine⟨_,?_,⟨a,h++[(aF (aQ a) done b).toNat],done.set (aF (aQ a) done b).toNat true,b++cM (aQ a) (aF (aQ a) done b).toNat,i+1⟩,?_,⟨j,g,by simp only;omega,by simp only;omega,by simpa using q,by simp only[as9,List.length_singleton];omega⟩,rfl,?_⟩
   ·simp only;omega
   ·simp only[List.take_length]
    simp only[Pt,I9,List.cons_append,List.nil_append,Nat.zero_add,qH,mF,jz,List.length_set,M3,ru,as9,List.length_singleton];simp only[ints,at3,List.map_nil,Int.toNat_of_nonneg m,List.length_singleton]
   ·have r: ∀l,b++eZ (aQ a) ((aF (aQ a) done b).toNat::l)=(b++cM (aQ a) (aF (aQ a) done b).toNat)++eZ (aQ a) l:=fun l=>by
     simp only[eZ,List.flatMap_cons,List.append_assoc]
    have o: ∀l,h++(aF (aQ a) done b).toNat::l=(h++[(aF (aQ a) done b).toNat])++l:=fun l=>by simp
    rw[r,o] at c d;intro f _;simp only[Out.run,e9,show(i+1).toNat=i.toNat+1 by omega];cases f
    ·exact d
    ·exact c
 ·rw[show a.bl.length - i.toNat=0 by omega] at d
  simp only[pb,List.append_nil,eZ,List.flatMap_nil] at d;exact d
noncomputable def Js κ:=(Qp κ).an 169 3 (aG 6 (Pt κ) IC (NQ κ))
theorem ai6 κ:aE (Js κ):=(e36 _).an (m36 _) (l17 _)
theorem RD κ:aj (Js κ):=(m36 _).an aJ
end Go.Proofs.YtioeffnadipbaaaGreatDoor
namespace Go.Proofs.YtioeffnadipbaaaGreatDoor
open Go Go.Dn Go.Rl Go.Proofs Go.RowKit Go.Extern.Stop Go.Stop Go.Extern
theorem ZC v a w:(Instr.typeAssert (.iface 253 v) a 259 true).run Tryz.prog w= .ok (.tuple #[.nilIface, .bool false]) w:=run_typeAssert_lacksB Tryz.underlying259 (by kernel_rfl) (by kernel_rfl) v _ w
theorem Kq v a w:(Instr.typeAssert (.iface 253 v) a 261 true).run Tryz.prog w= .ok (.tuple #[.nilIface, .bool false]) w:=run_typeAssert_lacksB Tryz.underlying261 (by kernel_rfl) (by kernel_rfl) v _ w
theorem CO v a w:(Instr.typeAssert (.iface 253 v) a 263 true).run Tryz.prog w= .ok (.tuple #[.iface 253 v, .bool true]) w:=run_typeAssert_hasB Tryz.underlying263 (by kernel_rfl) v _ w
theorem yx v w:(Go.method 411 253 v "Unwrap").run Tryz.prog w= .ok (218,v) w:=by kernel_rfl
set_option maxRecDepth 4000 in
theorem Ka(a:Addr)(w:World):
  Calls Tryz.prog 158 #[.iface 273 (.pointer (some a)), .iface 273 (.pointer (some a)), .bool true] w fun e w'=>e= .returned (.bool true)/\w'=w:=by
 obtain⟨i,hi,hcmp⟩:=Option.map_eq_some_iff.1 Fz;obtain⟨j,hj,hjs⟩:=Option.map_eq_some_iff.1 FB;have heq:=run_eql_iface_ptr_same (P:=Tryz.prog) w a Tryz.underlying171 Tryz.underlying273 hi hcmp hj
 go_enter Tryz.func158,Tryz.ntmps158
 go_wp2
 refine wp_loop_rounds 1 ?_;rw[rounds_succ]
 go_wp2
 go_ret
 exact⟨rfl,rfl⟩
set_option maxRecDepth 8000 in
theorem Rv(ja ra b:Addr)(cap:Nat)(w:World)(h1:w.cell? ja=some (.slice (some ra) 1 cap))(h2:w.cell? ra=some (.iface 273 (.pointer (some b)))):
  Calls Tryz.prog 108 #[.iface 253 (.pointer (some ja)), .iface 273 (.pointer (some b))] w fun e w'=>e= .returned (.bool true)/\w'=w:=by
 have h8:= @run_callFunc_extern Tryz.prog 157 _ Extern.ReflectliteType.typeOf Tryz.func157 (by kernel_rfl) (by kernel_rfl) (by kernel_rfl) (by kernel_rfl);have h32:= @run_callFunc_extern Tryz.prog 222 _ (Extern.ReflectliteType.method fun t=>do Go.Extern.Rtype.noPackHeld "Comparable" t;pure (.bool (←typeInfo t).comparable)) Tryz.func222 (by kernel_rfl) (by kernel_rfl) (by kernel_rfl) (by kernel_rfl);have tT:=wJ;have cT:=na;have mR:=iF;have hne:=run_eql_iface_types (P:=Tryz.prog) 253 273 (.pointer (some ja)) (.pointer (some b)) Tryz.underlying171 (by decide);have n1:=ZC;have n2:=Kq;have n3:=CO;have mU:=yx
 go_enter Tryz.func108,Tryz.ntmps108
 go_wp2
 refine wp_loop_rounds 1 ?_;rw[rounds_succ]
 go_wp2
 refine wp_loop_rounds 1 ?_;rw[rounds_succ]
 go_wp2_with (first|(go_at_call 158;refine(Ka b _).mono ?_;rintro e w' ⟨rfl,rfl⟩))
 all_goals (go_ret;exact⟨rfl,rfl⟩)
end Go.Proofs.YtioeffnadipbaaaGreatDoor
namespace Go.Proofs.YtioeffnadipbaaaGreatDoor
open Go Go.Dn Go.Rl Go.Proofs
attribute [local irreducible] a0 vc
set_option maxRecDepth 20000
noncomputable def Xp κ:=(Js κ).an 156 3 (lh (Js κ) 12 156 3 3)
noncomputable def X9 κ:=(Xp κ).an 156 12 (lh (Xp κ) 12 156 12 3)
theorem eJ1 κ:aE (Xp κ):=(ai6 _).an (RD _) (tK (RD _) 3)
theorem mJ1 κ:aj (Xp κ):=(RD _).an (lU (RD _) 3)
theorem eJ2 κ:aE (X9 κ):=(eJ1 _).an (mJ1 _) (tK (mJ1 _) 3)
theorem mJ2 κ:aj (X9 κ):=(mJ1 _).an (lU (mJ1 _) 3)
theorem yJ κ K:(a0 (X9 κ) 12 156 [.ah 171 [.lit (mm κ)]] [] K)=(
 letI a:=Pg.toProgram (Env.P (Js κ))
 letI b:=Pg.toProgram (Env.P (Xp κ))
 ad a 156 3=ad a 156 3/\ad b 156 12=ad b 156 12/\K (AV.jt 253 (AV.ptr 0 0 [] 0)) [Obj.box 255 (AV.agg [AV.ak 1 0 1]),Obj.row 171 [AV.lit (Value.iface
 273 (Value.pointer (some (Kp.stuck κ))))]]):=by kernel_rfl
abbrev AG:AV:= .jt 253 (.ptr 0 0 [] 0)
abbrev AF(κ:Kp):List Dn.Obj:=[.box 255 (.agg [.ak 1 0 1]), .row 171 [.lit (mm κ)]]
def stJ(κ:Kp)(_:Unit):List AV×List Dn.Obj:=([.ah 171 [.lit (mm κ)]],[])
def IP(_:Unit):Prop:=True
def ZS(κ:Kp)(_:Unit):Out (AV×List Dn.Obj):= .one (AG,AF κ)
theorem cJ κ:bc (X9 κ) 12 156 (aO (stJ κ) IP (ZS κ)):=by
 refine aR ?_;rintro⟨⟩ K _ a;refine Eq.mpr (yJ _ K) ?_;exact⟨rfl,rfl,a⟩
def stI κ(_:Unit):=([AG, .lit (mm κ)],AF κ)
def ZO(κ:Kp)(_:Unit):Out (AV×List Dn.Obj):= .one (.bool true,AF κ)
theorem qI κ: ∀b st K,aO (stI κ) IP (ZO κ) b st K->b7 (Pr κ) 108 b st K:=by
 rintro b st K ⟨_,J,_,A⟩;obtain⟨rfl,rfl⟩:=Prod.mk.inj J;refine⟨⟨_,Tryz.func108,rfl⟩,fun C p V j a d=>?_⟩;obtain⟨p⟩:=p;match p,d with
 | [r,E],d=>
  simp only[MT] at d;obtain⟨F,I,o,N,O,z,_⟩:=d;have n:E=mm κ:=aX (C:=C) ⟨N,O,z⟩;have L:Rel C AG r:=⟨F,I,o⟩
  obtain⟨Q,_⟩:=gJ L rfl (by simp);simp only[M,Q] at o;obtain⟨u,T,y,u3,Z,v,h,x,D⟩:=o;have k:r= .iface 253 u:=by simpa using T
  have H:u.cells= #[u]:=gO (by rw[y];rfl);have l:v=u:=by rw[H] at h;simpa using h.symm
  subst l;have m:=j.obj 0 (by rw[a];simp);have g:=j.obj 1 (by rw[a];simp);rw[a] at m g;simp only[ay,ke] at m g;obtain⟨_,_,c,e,U,_,t⟩:=m;simp only[M,ML] at t;obtain⟨⟨_,s,s1,_,s2⟩,_⟩:=t;have f:=s2.1 171 [.lit (mm κ)] (by rw[a];rfl);obtain⟨_,f⟩:=f;rcases f with⟨_,_,_,f⟩|⟨B,cap,q,rfl,f,s4,_⟩
  ·cases f
  have P:q=⟨(C.ι 1).block,0,none⟩:=by
   rcases f with f|⟨f,W⟩
   ·rw[f,Nat.zero_mul]
   ·omega
  subst P;obtain⟨_,g⟩:=g;rcases g with⟨g,_⟩|⟨_,_,X,Y,_,_,_,i⟩
  ·rw[B] at g;cases g
  simp only[MR,M] at i;obtain⟨⟨i,_⟩,_⟩:=i;have R:v= .pointer (some ⟨(C.ι 0).block,0,none⟩):=(D.2.1 255 _ (by rw[a];rfl)).2;subst R;subst k n;refine(callsIn_wide.2 (Rv ⟨(C.ι 0).block,0,none⟩ ⟨(C.ι 1).block,0,none⟩ κ.stuck cap C.w s1 i)).mono ?_;rintro e' w' ⟨rfl,rfl⟩;exact⟨_, .bool true,C,rfl,rfl,rfl,j,a7 rfl,Ext.refl _ (by rw[a];exact Nat.le_refl _),by rw[a];exact A⟩
 |[],d=>simp[MT] at d
 |[_],d=>simp[MT] at d
 |_::_::_::_,d=>simp[MT] at d
noncomputable def EJ κ:=((X9 κ).aw 156 (aO (stJ κ) IP (ZS κ))).aw 108 (aO (stI κ) IP (ZO κ))
theorem eJ κ:aE (EJ κ):=((eJ2 _).aw (mJ2 _) (cJ _)).fK (qI _)
theorem mJ κ:aj (EJ κ):=((mJ2 _).aw aI).aw aI
theorem y17 κ a K:(a0 (EJ κ) 12 107 [au a] [] K)=(
 letI b:=AV.ptr 0 0 []
 letI c:=AV.ptr
 letI d:=AV.lit
 letI e:=Obj.box
 letI f:=Obj.row
 letI g:=Dn.Obj.map
 letI h:=AV.ah
 letI i:=AV.ak
 letI j:=AV.mp
 letI o:=Value.iface 273 (Value.pointer (some (Kp.stuck κ)))
 letI n:=∃(v0:Unit),([h 171 [d o]],aL)=([h 171 [d o]],aL)/\True/\K (AV.aH [AV.nil,AV.jt 253 (b 0)]) [e 255
  (AV.agg [i 1 0 1]),f 171 [d o]]
 letI m:=a.bl.length
 letI p:=Value×AV
 letI q:=Pg.toProgram (Env.P (Qp κ))
 letI r:=Int.toNat (↑m:Int)
 aV (true&&decide ((↑m:Int)<=(↑m:Int))&&decide ((Int.toNat (↑m:Int)+1)*2<=70368744177664)&&true) (ad q 169 3=ad q 169 3/\∃(v4:XB),letI k:=ints (v4.ks++e9 v4);letI s:=K (AV.aH [i 0 0 (List.length k),d Value.nilIface]) [f 3 k];letI t:=[g 9 4 (bU (v4.b++eZ (aQ v4.a) (e9 v4)))];letI l:=List.length v4.a.bl;letI u:=aq (decide ((↑(List.length k):Int)<(↑l:Int))) (n/\n) ((∃(v2:List AV),([h 38 v4.a.hl],aL)=([h 38 v2],aL)/\bE v2/\∃(v1:List AV×List p),([j 0,h 9 (List.take (List.length (ax (aa v2))) (List.drop 0 (strs (ax (aa v2)))))],t)=([j 0,h 9 v1.1],[g 9 4 v1.2])/\bq v1/\aq (!fZ v1.2 v1.1) n s)/\∃(v2:List AV),([h 38 v4.a.hl],aL)=([h 38 v2],aL)/\bE v2/\∃(v1:List AV×List p),([j 0,h 9 (List.take (List.length (ax (aa v2))) (List.drop 0 (strs (ax (aa v2)))))],t)=([j 0,h 9 v1.1],[g 9 4 v1.2])/\bq v1/\aq (!fZ v1.2 v1.1) n s);sp 38 [(0,AV.cf 5),(1,c 4 0 [] 0),(3,j 7),(4,i 8 0 r),(13,AV.int (↑m:Int)),(14,AV.int 0)] [e 48 (au a),e 35 (i 6 0 0),g 9 4 [],e 178 (j 2),e 48 (au a),Dn.Obj.loop (iG Tryz.prog 107 4 LoopState.ready none (hG (bM 40) [(0,au a),(1,b 0),(2,AV.nil),(3,d Value.nilIface),(4,c 1 0 [] 0),(5,c 3 0 [] 0),(7,j 2),(8,au a),(9,AV.bm 169 [c 4 0 [] 0])])),f 3 [],g 9 4 [],f 4 (fT (AV.bool false) r)]=sp 38 [(0,AV.cf 5),(1,c 4 0 [] 0),(3,j 7),(4,i 8 0 (List.length (b9 v4.done))),(13,AV.int (↑l:Int)),(14,AV.int v4.i)] [e 48 (au v4.a),e 35 (i 6 0 (List.length (ints v4.ks))),g 9 4 (bU v4.b),e 178 (j 2),e 48 (au v4.a),Dn.Obj.loop (iG Tryz.prog 107 4 LoopState.ready none (hG (bM 40) [(0,au v4.a),(1,b 0),(2,AV.nil),(3,d Value.nilIface),(4,c 1 0 [] 0),(5,c 3 0 [] 0),(7,j 2),(8,au v4.a),(9,AV.bm 169 [c 4 0 [] 0])])),f 3 (ints v4.ks),g 9 4 (bU v4.b),f 4 (b9 v4.done)]/\(a8 (aQ v4.a)=true/\(bk (aa (bo 38 v4.a.hl v4.a.bl))<=100000/\List.length v4.a.bl<=100000)/\(0:Int)<=v4.i/\v4.i<=(↑l:Int)/\v4.done.length=List.length v4.a.bl/\v4.ks.length<=v4.i.toNat)/\∀(v3:Bool),True->aq v3 u u)):=by kernel_rfl
def D0(a:dh):List AV×List Dn.Obj:=([au a],[])
def OD a:=a8 (aQ a)=true/\dd a
noncomputable def NP(κ:Kp)(a:dh):Out (AV×List Dn.Obj):= .aq (jT (aQ a)) (.one (.aH [.ak 0 0 (cR (aQ a)).length, .lit .nilIface],[.row 3 (ints (cR (aQ a)))])) (.one (.aH [.nil,AG],AF κ))
theorem uu n:fT (.lit (.bool false)) n=b9 (List.replicate n false):=by simp[fT,b9]
theorem c17 κ:bc (EJ κ) 12 107 (aO D0 OD (NP κ)):=by
 refine aR ?_;rintro a K ⟨f,d⟩ b;refine Eq.mpr (y17 κ a K) ?_;simp only[and_self];simp only[NP,Out.run,ae] at b;have k:=d.2;have g:e9 ⟨a,[],List.replicate a.bl.length false,[],0⟩=cR (aQ a):=by
  unfold e9 cR;rw[fW];rfl
 have h:=pJ d;have j:=cK (aa a.hl);have i:jT (aQ a)=(decide (a.bl.length<=(cR (aQ a)).length)&&hasB (eZ (aQ a) (cR (aQ a))) (ax (aa a.hl))):=by
  unfold jT;rw[fW];rfl
 rw[i] at b;simp only[ai,ar5,ar4,Int.toNat_natCast];refine⟨⟨⟨⟨trivial,by omega⟩,by omega⟩,trivial⟩,trivial,⟨a,[],List.replicate a.bl.length false,[],0⟩,?_,⟨f,d,by simp only;omega,by simp only;omega,by simp,by simp⟩,?_⟩
 ·simp only[uu,jz,List.length_replicate];rfl
 ·intro y _
  rw[g];cases y<;>
  ·simp only[ru,List.nil_append,ae,ar4,ar6,Bool.not_eq_true',as6,reduceCtorEq,false_implies,true_implies,and_true,true_and]
   refine⟨fun e=>?_,fun e=>?_⟩
   ·rw[ar8 (show ¬ a.bl.length<=(cR (aQ a)).length by omega),Bool.false_and] at b
    exact⟨(),b.2 rfl⟩
   ·rw[as0 (show a.bl.length<=(cR (aQ a)).length by omega),at2] at b
    refine⟨a.hl,rfl,h,(strs (ax (aa a.hl)),bU (eZ (aQ a) (cR (aQ a)))),?_,?_,?_⟩
    ·simp only[as4,cQ]
    ·simp only[bq,ba,aW];omega
    ·simp only[fh]
     exact⟨fun c=>⟨(),b.2 c⟩,fun c=>b.1 c⟩
noncomputable def XN κ:=(EJ κ).aw 107 (aO D0 OD (NP κ))
theorem e17 κ:aE (XN κ):=(eJ _).aw (mJ _) (c17 _)
theorem m17 κ:aj (XN κ):=(mJ _).aw aI
theorem y7 κ a K:(a0 (XN κ) 12 62 [au a] [] K)=(
 letI b:=AV.int
 letI c:=AV.agg
 letI d:=Value.iface 273 (Value.pointer (some (Kp.stuck κ)))
 aV (decide (a.hl.length<=9223372036854775807)&&decide (a.bl.length<=9223372036854775807)) (aq (!a8 {head:={rel:=a.rel,l:=aa a.hl},body:=dw a.bl}) (K (AV.aH [AV.nil,b 30]) []) (∃(e1:dh),([c [c [AV.str a.rel,AV.ah 38 a.hl],AV.ah 80 a.bl,b a.line]],aL)=([c [c [AV.str e1.rel,AV.ah 38 e1.hl],AV.ah 80 e1.bl,b e1.line]],aL)/\(a8 (aQ e1)=true/\bk (aa (bo 38 e1.hl e1.bl))<=100000/\e1.bl.length<=100000)/\aq (jT (aQ e1)) (K (AV.aH [AV.ak 0 0 (List.length (cR (aQ e1))),b 0]) [Obj.row 3 (ints (cR (aQ e1)))]) (∃(e0:Unit),([AV.jt 253 (AV.ptr 0 0 [] 0),AV.lit d],[Obj.box 255 (c [AV.ak 1 0 1]),Obj.row 171 [AV.lit d]])=([AV.jt 253 (AV.ptr 0 0 [] 0),AV.lit d],[Obj.box 255 (c [AV.ak 1 0 1]),Obj.row 171 [AV.lit d]])/\True/\K (AV.aH [AV.nil,b 60]) [])))):=by kernel_rfl
def KA(a:dh):Out (AV×List Dn.Obj):= .aq (a8 (aQ a)) (.aq (jT (aQ a)) (.one (.aH [.ak 0 0 (cR (aQ a)).length, .int 0],[.row 3 (ints (cR (aQ a)))])) (.one (.aH [.nil, .int 60],[]))) (.one (.aH [.nil, .int 30],[]))
theorem c7 κ:bc (XN κ) 12 62 (aO D0 dd KA):=by
 refine aR ?_;rintro a K c d;refine Eq.mpr (y7 κ a K) ?_;simp only[KA,Out.run,ae] at d;have h:=pJ c;have b:=gI (aa a.hl);rw[eD] at b;have i:=c.2;rw[ai,ar5,ar4,ar4];refine⟨⟨by omega,by omega⟩,?_⟩;have g:a8 ⟨_,dw a.bl⟩=a8 (aQ a):=rfl;rw[g];simp only[ae,Bool.not_eq_true',as6];refine⟨fun e=>d.2 e,fun e=>⟨a,rfl,⟨e,c⟩,fun f=>(d.1 e).1 f,by simp_all⟩⟩
noncomputable def E7 κ:=(XN κ).aw 62 (aO D0 dd KA)
theorem e7 κ:aE (E7 κ):=(e17 _).aw (m17 _) (c7 _)
theorem m7 κ:aj (E7 κ):=(m17 _).aw aI
def eQ es s:=yq es s
structure DB where
 vs:List ByteArray
 i:Int
 es:List (Value×AV)
abbrev Ee(R:List AV)(a:List (Value×AV)):List Dn.Obj:=[.row 9 R, .box 178 (.mp 2), .map 9 4 a]
abbrev Q4:AV:= .bm 116 [.ptr 1 0 [] 0]
abbrev K3(a:DB):=sp 19 [(0, .ak 0 0 (strs a.vs).length),(1,Q4),(7, .int (strs a.vs).length),(8, .int a.i)] (Ee (strs a.vs) a.es)
theorem xFB κ a I n K:(vc (nU κ) 12 161 none 3 (ad (Pr κ).toProgram 161 2) (K3 a) (bj (nU κ) 161 2 3 I n K))=(
 letI b:=Dn.Obj.map
 letI c:=List.length (strs a.vs)
 aq (decide (a.i<(↑c:Int))) (aV (decide ((0:Int)<=a.i)&&decide (a.i<(↑c:Int))) (aq (!Dn.toBool (c6 a.es (Value.string (toStr (nth (strs a.vs) (0+
 a.i.toNat)))) (AV.bool false))) (K Exit.ret (sp 19 [(4,AV.int a.i)] [Obj.row 9 (strs a.vs),Obj.box 178 (AV.mp 2),b 9 4 a.es])) (∃(e0:Nat),e0<n
 /\I e0 (sp 19 [(0,AV.ak 0 0 c),(1,AV.bm 116 [AV.ptr 1 0 [] 0]),(7,AV.int (↑c:Int)),(8,AV.int (IntKind.wrap IntKind.i64 (a.i+(1:Int))))] [Obj.row
 9 (strs a.vs),Obj.box 178 (AV.mp 2),b 9 4 a.es])))) (K (Exit.exit 0) (sp 19 [] [Obj.row 9 (strs a.vs),Obj.box 178 (AV.mp 2),b 9 4 a.es]))):=by kernel_rfl
def GA(a:DB):=a.vs.length<=aW/\0<=a.i/\a.i<=a.vs.length/\∀s,s∈a.vs.take a.i.toNat->eQ a.es s=true
def Dl(a:DB):Out (Exit×S):=
 .aq (a.vs.all (eQ a.es)) (.one (.exit 0,sp 19 [] (Ee (strs a.vs) a.es)))
  (.all (fun j=>wb (eQ a.es) a.vs j) fun j=> .one (.ret,sp 19 [(4, .int j)] (Ee (strs a.vs) a.es)))
theorem lFB κ:aU (nU κ) 12 161 2 (aG 3 K3 GA Dl):=by
 refine aC (fun a=>a.vs.length - a.i.toNat) ?_;rintro⟨b,i,f⟩ K ⟨l,p,r,j⟩ k;simp only at l p r j;rw[show(nU κ).P=Pr κ from rfl];refine Eq.mpr (xFB κ ⟨b,i,f⟩ _ _ K) ?_;simp only[aW] at l;simp only[Dl,Out.run,ae] at k;have v:=ba b;simp only[ba,Nat.zero_add];have o:i<b.length->∀(d:i.toNat<b.length),(eQ f b[i.toNat]=false->K .ret (sp 19 [(4, .int i)] (Ee (strs b) f)))/\
   (eQ f b[i.toNat]=true->∃m,m<b.length - i.toNat/\ep K3 GA Dl (fun a=>a.vs.length - a.i.toNat) K m (K3 ⟨b,i+1,f⟩)):=by
  intro t d;refine⟨fun e=>k.2 ?_ i ⟨p,d,j,e⟩,fun e=>⟨_,?_,⟨b,i+1,f⟩,rfl,⟨by simpa[aW] using l,by simp only;omega,by simp only;omega,?_⟩,rfl,?_⟩⟩
  ·rw[Bool.eq_false_iff]
   intro g;rw[List.all_eq_true.1 g _ (List.getElem_mem d)] at e;cases e
  ·simp only;omega
  ·intro s c
   simp only at c;rw[show(i+1).toNat=i.toNat+1 by omega,List.take_succ_eq_append_getElem d,List.mem_append,List.mem_singleton] at c;rcases c with c|c
   ·exact j s c
   ·rw[c];exact e
  ·simp only[Dl,Out.run,ae]
   exact k
 simp only[ae,ai,ar4,ar6,ar5,Bool.not_eq_true',as6];refine⟨fun d=>⟨⟨p,d⟩,?_⟩,fun d=>?_⟩
 ·have h:i.toNat<b.length:=by omega
  have u:toStr (nth (strs b) i.toNat)=b[i.toNat]:=by rw[x4 b _ h];rfl
  rw[az (n:=i+1) (by omega) (by omega),u];have q:=o d h;simp only[K3,ba] at q;exact⟨fun e=>q.1 e,fun e=>q.2 e⟩
 ·refine k.1 (List.all_eq_true.2 fun s c=>j s ?_)
  rw[List.take_of_length_le (by omega)];exact c
noncomputable def QE κ:=(nU κ).an 161 2 (aG 3 K3 GA Dl)
theorem eFB κ:aE (QE κ):=(VG _).an (Nr _) (lFB _)
theorem mFB κ:aj (QE κ):=(Nr _).an aJ
structure GB where
 R:List AV
 i:Int
 j:Int
 es:List (Value×AV)
 P:List ByteArray
 ws:List ByteArray
abbrev D4(a:GB):=sp 42 [(0, .ak 0 0 a.R.length),(1,Q4),(5, .int a.i),(6, .int a.j)] (Ee a.R a.es)
theorem xGB κ a I n K:(vc (QE κ) 12 114 none 3 (ad (Pr κ).toProgram 114 5) (D4 a) (bj (QE κ) 114 5 3 I n K))=(
 letI b:=AV.int
 letI c:=Dn.Obj.map
 letI d:=IntKind.wrap IntKind.i64 (a.j+(1:Int))
 letI e:=toStr (nth a.R (0+a.j.toNat))
 letI f:=a.j<(↑(a.R.length):Int)
 aq (decide f) (aV (decide ((0:Int)<=a.j)&&decide f) (aq (!!Dn.toBool (c6 a.es (Value.string e) (AV.bool false))) (aV (decide ((0:Int)<=a.i)&&decide
 (a.i<(↑(a.R.length):Int))) (∃(e0:Nat),e0<n/\I e0 (sp 42 [(0,AV.ak 0 0 a.R.length),(1,AV.bm 116 [AV.ptr 1 0 [] 0]),(5,b (IntKind.wrap
 IntKind.i64 (a.i+(1:Int)))),(6,b d)] [Obj.row 9 (bH a.R (0+a.i.toNat) (AV.str e)),Obj.box 178 (AV.mp 2),c 9 4 a.es]))) (∃(e0:Nat),
 e0<n/\I e0 (sp 42 [(0,AV.ak 0 0 a.R.length),(1,AV.bm 116 [AV.ptr 1 0 [] 0]),(5,b a.i),(6,b d)] [Obj.row 9 a.R,Obj.box 178 (AV.mp 2),
 c 9 4 a.es])))) (K (Exit.exit 0) (sp 42 [(0,AV.ak 0 0 a.R.length),(5,b a.i)] [Obj.row 9 a.R,Obj.box 178 (AV.mp 2),c 9 4 a.es]))):=by kernel_rfl
def BJ(a:GB):=a.R.length<=aW/\0<=a.i/\a.i<a.j/\a.j<=a.R.length/\a.R.take a.i.toNat=strs a.P/\a.R.drop a.j.toNat=strs a.ws
def Dp(a:GB):Out (Exit×S):= .all (fun R=>R.length=a.R.length/\R.take (a.P++a.ws.filter (eQ a.es)).length=strs (a.P++a.ws.filter (eQ a.es)))
 fun R=> .one (.exit 0,sp 42 [(0, .ak 0 0 a.R.length),(5, .int (a.P++a.ws.filter (eQ a.es)).length)] (Ee R a.es))
theorem lGB κ:aU (QE κ) 12 114 5 (aG 3 D4 BJ Dp):=by
 refine aC (fun a=>a.R.length - a.j.toNat) ?_;rintro⟨R,i,j,b,P,g⟩ K ⟨k,q,z,x,c,f⟩ h;simp only at k q z x c f;rw[show(QE κ).P=Pr κ from rfl];refine Eq.mpr (xGB κ ⟨R,i,j,b,P,g⟩ _ _ K) ?_;simp only[aW] at k;simp only[Dp,Out.run] at h;simp only[Nat.zero_add];have v:P.length=i.toNat:=by
  have:=congrArg List.length c
  rw[List.length_take,ba] at this;omega
 have p: ∀(s:ByteArray) (l:List ByteArray),g=s::l->j<R.length->nth R j.toNat= .lit (.string s)->
   (eQ b s=false->∃m,m<R.length - j.toNat/\ep D4 BJ Dp (fun a=>a.R.length - a.j.toNat) K m (D4 ⟨R,i,j+1,b,P,l⟩))/\
   (eQ b s=true->∃m,m<R.length - j.toNat/\ep D4 BJ Dp (fun a=>a.R.length - a.j.toNat) K m (D4 ⟨bH R i.toNat (.lit (.string s)),i+1,j+1,b,P++[s],l⟩)):=by
  rintro s l rfl o r;obtain⟨_,_,w⟩:=jK (l:=strs l) f;refine⟨fun e=>⟨_,?_,_,rfl,⟨by simpa[aW] using k,q,by simp only;omega,by simp only;omega,c,?_⟩,rfl,?_⟩,fun e=>⟨_,?_,_,rfl,⟨by simpa[aW,gL] using k,by simp only;omega,by simp only;omega,by simp only[gL];omega,?_,?_⟩,rfl,?_⟩⟩
  ·simp only;omega
  ·simp only[show(j+1).toNat=j.toNat+1 by omega];exact w
  ·intro y d
   have:=h y
   simp only[List.filter_cons,e,Bool.false_eq_true,if_false] at d this⊢;exact this d
  ·simp only[gL];omega
  ·simp only[show(i+1).toNat=i.toNat+1 by omega]
   rw[tt _ _ _ (by omega),c,jq];rfl
  ·simp only[show(j+1).toNat=j.toNat+1 by omega]
   rw[tr _ _ _ _ (by omega)];exact w
  ·intro y d
   have:=h y
   simp only[List.filter_cons,e,if_true,gL,List.append_assoc,List.singleton_append] at d this⊢;exact this d
 simp only[ae,ai,ar4,ar6,ar5,Bool.not_eq_true',as6];refine⟨fun o=>⟨⟨by omega,o⟩,?_⟩,fun o=>?_⟩
 ·cases g with
  |nil=>
   have:=congrArg List.length f
   rw[List.length_drop,ba] at this;simp at this;omega
  |cons s l=>
   obtain⟨_,r,_⟩:=jK (l:=strs l) f;have t:toStr (nth R j.toNat)=s:=by rw[r];rfl
   have u:=p s l rfl o r;simp only[D4,gL] at u;rw[az (n:=i+1) (by omega) (by omega),az (n:=j+1) (by omega) (by omega),t];exact⟨fun e=>⟨⟨by omega,by omega⟩,u.2 e⟩,fun e=>u.1 e⟩
 ·have A:g=[]:=by
   have:=congrArg List.length f
   rw[List.length_drop,ba] at this;cases g with
   |nil=>rfl
   |cons=>simp at this;omega
  subst A;have:=h R ⟨rfl,by simp only[List.filter_nil,List.append_nil,v];exact c⟩
  simp only[List.filter_nil,List.append_nil,v,Int.toNat_of_nonneg q] at this;exact this
noncomputable def EGB κ:=(QE κ).an 114 5 (aG 3 D4 BJ Dp)
theorem eGB κ:aE (EGB κ):=(eFB _).an (mFB _) (lGB _)
theorem mGB κ:aj (EGB κ):=(mFB _).an aJ
theorem yGB κ(a:DB) K:(a0 (EGB κ) 12 114 [.ak 0 0 (strs a.vs).length,Q4] (Ee (strs a.vs) a.es) K)=(
 letI b:=AV.int
 letI c:=Obj.box
 letI d:=Dn.Obj.map
 letI j:=List.length (strs a.vs)
 letI k:=Pg.toProgram (Env.P (nU κ))
 letI l:=Pg.toProgram (Env.P (QE κ))
 ad k 161 2=ad k 161 2/\∃(e3:DB),letI f:=strs e3.vs;letI m:=K (AV.ah 9 (List.take j (List.drop 0 f))) [Obj.lk 9 f,c 178 (AV.mp 2),d 9 4 e3.es];letI n:=[Obj.row 9 f,c 178 (AV.mp 2),d 9 4 e3.es];sp 19 [(0,AV.ak 0 0 j),(1,AV.bm 116 [AV.ptr 1 0 [] 0]),(7,b (↑j:Int)),(8,b 0)] [Obj.row 9 (strs a.vs),c 178 (AV.mp 2),d 9 4 a.es]=sp 19 [(0,AV.ak 0 0 (List.length f)),(1,AV.bm 116 [AV.ptr 1 0 [] 0]),(7,b (↑(List.length f):Int)),(8,b e3.i)] n/\(e3.vs.length<=9223372036854775807/\(0:Int)<=e3.i/\e3.i<=(↑(e3.vs.length):Int)/\∀(e0:ByteArray),List.Mem e0 (List.take e3.i.toNat e3.vs)->eQ e3.es e0=true)/\aq (List.all e3.vs (eQ e3.es)) m (∀(e2:Int),((0:Int)<=e2/\∃(e1:e2.toNat<e3.vs.length),(∀(e0:ByteArray),List.Mem e0 (List.take e2.toNat e3.vs)->eQ e3.es e0=true)/\eQ e3.es e3.vs[e2.toNat]=false)->aq (e2==(-1:Int)) m (ad l 114 5=ad l 114 5/\∃(e1:GB),letI o:=e1.P++List.filter (eQ e1.es) e1.ws;letI e:=List.length o;letI g:=e1.R.length;sp 42 [(0,AV.ak 0 0 j),(1,AV.bm 116 [AV.ptr 1 0 [] 0]),(5,b e2),(6,b (IntKind.wrap IntKind.i64 (e2+(1:Int))))] n=sp 42 [(0,AV.ak 0 0 e1.R.length),(1,AV.bm 116 [AV.ptr 1 0 [] 0]),(5,b e1.i),(6,b e1.j)] [Obj.row 9 e1.R,c 178 (AV.mp 2),d 9 4 e1.es]/\(e1.R.length<=9223372036854775807/\(0:Int)<=e1.i/\e1.i<e1.j/\e1.j<=(↑g:Int)/\List.take e1.i.toNat e1.R=strs e1.P/\List.drop e1.j.toNat e1.R=strs e1.ws)/\∀(e0:List AV),letI h:=Int.toNat ((↑g:Int) - (↑e:Int));letI i:=(↑e:Int)<=(↑g:Int);e0.length=e1.R.length/\List.take e e0=strs o->aV (true&&decide i&&decide ((↑g:Int)<=(↑g:Int))) (aV (true&&decide i) (K (AV.ah 9 (List.take (Int.toNat ((↑e:Int) - (0:Int))) (List.drop 0 (dc e0 (0+Int.toNat (↑e:Int)) h (AV.str {data:= #[]}))))) [Obj.lk 9 (dc e0 (0+Int.toNat (↑e:Int)) h (AV.str {data:= #[]})),c 178 (AV.mp 2),d 9 4 e1.es]))))):=by kernel_rfl
def I0(a:DB):=([.ak 0 0 a.vs.length,Q4],Ee (strs a.vs) a.es)
def pH(a:DB):=a.vs.length<=aW
def F1(a:DB):Out (AV×List Dn.Obj):= .all (fun _=>True) fun R=> .one (.ah 9 (strs (a.vs.filter (eQ a.es))),[.lk 9 R, .box 178 (.mp 2), .map 9 4 a.es])
theorem ah2 κ:bc (EGB κ) 12 114 (aO I0 pH F1):=by
 refine aR ?_;rintro⟨a,i,b⟩ K d h;simp only[pH] at d;simp only[I0];rw[←ba a];refine Eq.mpr (yGB κ ⟨a,i,b⟩ K) ?_;refine⟨rfl,⟨a,0,b⟩,rfl,⟨d,by simp only;omega,by simp only;omega,fun s p=>nomatch p⟩,?_⟩;rw[ae];refine⟨fun e=>?_,fun e y g=>?_⟩
 ·have k:a.filter (eQ b)=a:=List.filter_eq_self.2 (List.all_eq_true.1 e)
  have:=h (strs a) trivial
  simp only[k] at this;rw[as4,List.take_length];exact this
 ·have o:=rj g
  obtain⟨j,m,t,q⟩:=g;simp only at j m;simp only[aW] at d;rw[ae,beq_iff_eq,beq_eq_false_iff_ne];refine⟨fun r=>by omega,fun _=>⟨rfl,⟨strs a,y,y+1,b,a.take y.toNat,a.drop (y.toNat+1)⟩,?_,⟨by simp only[ba];omega,j,by simp only;omega,by simp only[ba];omega,?_,?_⟩,?_⟩⟩
  ·rw[az (n:=y+1) (by omega) (by omega)]
  ·simp only[strs,List.map_take]
  ·simp only[strs,List.map_drop,show(y+1).toNat=y.toNat+1 by omega]
  ·rintro R ⟨l,f⟩
   simp only at l f;rw[←o] at f⊢;have c:(a.filter (eQ b)).length<=a.length:=List.length_filter_le _ _;rw[ai,ai];refine⟨by simp[ba,c],by simp[ba,c],?_⟩;have:=h (dc R (0+Int.toNat ((a.filter (eQ b)).length:Int)) (Int.toNat (((strs a).length:Int) - ((a.filter (eQ b)).length:Int))) (.lit (.string (ByteArray.mk #[])))) trivial
   simp only[Int.toNat_natCast,Nat.zero_add,Int.sub_zero,as4,n9,f] at this⊢;exact this
theorem ai1 κ: ∀a st K,aO I0 pH F1 a st K->b7 (Pr κ) 114 a st K:=fun a st K h=>gP (eGB _) (mGB _) (ah2 _ _ _ K h)
structure XA where
 a:dh
 ws:List Nat
 n:Nat
 i:Int
 vs:List ByteArray
abbrev TU(a:XA):=sp 48 [(2, .ptr 0 0 [] 0),(8, .ptr 1 0 [] 0),(32, .ak 3 0 a.n),(33, .int a.n),(34, .int a.i)] [.box 48 (au a.a), .box 178 (.mp 2), .map 9 4 (bU a.vs), .row 3 (ints a.ws)]
theorem x10(κ:Kp)(a:XA) ws es I n K:(vc (E7 κ) 12 65 none 0 (ad (Pr κ).toProgram 65 8) (sp 48 [(2, .ptr 0 0 [] 0),(8, .ptr 1 0 [] 0),(32, .ak 3 0 a.n),(33, .int a.n),(34, .int a.i)] [.box 48 (au a.a), .box 178 (.mp 2), .map 9 4 es, .row 3 ws]) (bj (E7 κ) 65 8 0 I n K))=(
 letI b:=Obj.box
 letI c:=Dn.Obj.map
 letI d:=∃(e2:dh×Int),([au a.a,AV.int (toInt (nth ws (0+a.i.toNat)))],aL)=([au e2.1,AV.int e2.2],aL)/\(a8 (aQ e2.1)=true/\(bk (aa (bo 38
  e2.1.hl e2.1.bl))<=100000/\e2.1.bl.length<=100000)/\(0:Int)<=e2.2/\e2.2<(↑(e2.1.bl.length):Int))/\∃(e1:List AV×List (Value×AV)),([AV.mp 0,
  AV.ah 9 (strs (cM (aQ e2.1) e2.2.toNat))],[c 9 4 es])=([AV.mp 0,AV.ah 9 e1.1],[c 9 4 e1.2])/\bq e1/\∃(e0:Nat),e0<n/\I e0 (sp 48
  [(2,AV.ptr 0 0 [] 0),(8,AV.ptr 1 0 [] 0),(32,AV.ak 3 0 a.n),(33,AV.int (↑(a.n):Int)),(34,AV.int (IntKind.wrap IntKind.i64 (a.i+(1:Int))))]
  [b 48 (au a.a),b 178 (AV.mp 2),c 9 4 (fD e1.2 e1.1),Obj.row 3 ws])
 aq (decide (a.i<(↑(a.n):Int))) (aV (decide ((0:Int)<=a.i)&&decide (a.i<(↑(a.n):Int))) (d/\d)) (K (Exit.exit 1) (sp 48 [(2,AV.ptr 0 0 [] 0),(8,
 AV.ptr 1 0 [] 0)] [b 48 (au a.a),b 178 (AV.mp 2),c 9 4 es]))):=by kernel_rfl
def IB(a:XA):=a8 (aQ a.a)=true/\dd a.a/\0<=a.i/\a.i<=a.n/\a.n<=a.ws.length/\a.ws.length<=a.a.bl.length/\∀k,k∈a.ws->k<a.a.bl.length
def Bi(a:XA):Out (Exit×S):= .one (.exit 1,sp 48 [(2, .ptr 0 0 [] 0),(8, .ptr 1 0 [] 0)] [.box 48 (au a.a), .box 178 (.mp 2), .map 9 4 (bU (a.vs++eZ (aQ a.a) ((a.ws.take a.n).drop a.i.toNat)))])
theorem wG l i h:toInt (nth (ints l) i)=l[i]:=by
 grind [aM,ints,toInt]
theorem l10 κ:aU (E7 κ) 12 65 8 (aG 0 TU IB Bi):=by
 refine aC (fun a=>a.n - a.i.toNat) ?_;rintro⟨a,b,n,i,f⟩ K ⟨g,e,m,p,j,l,h⟩ c;simp only at g e m p j l h;rw[show(E7 κ).P=Pr κ from rfl];refine Eq.mpr (x10 κ ⟨a,b,n,i,f⟩ (ints b) (bU f) _ _ K) ?_;simp only[Bi,Out.run] at c;simp only[and_self,Nat.zero_add];have q:=e.2;rw[ae,ai,ar5,ar4,ar4,ar6];refine⟨fun k=>⟨⟨m,k⟩,?_⟩,fun k=>?_⟩
 ·have d:i.toNat<b.length:=by omega
  have o:=h _ (List.getElem_mem d);have r:=sH e o;have hd:(b.take n).drop i.toNat=b[i.toNat]::(b.take n).drop (i.toNat+1):=by
   rw[as5 (by rw[List.length_take];omega)];simp
  rw[hd] at c;rw[az (n:=i+1) (by omega) (by omega),wG b _ d];refine⟨(a,(b[i.toNat]:Int)),rfl,⟨g,e,by simp only;omega,by simp only;omega⟩,(strs (cM (aQ a) b[i.toNat]),bU f),rfl,by simp only[bq,ba,aW];omega,_,?_,⟨a,b,n,i+1,f++cM (aQ a) b[i.toNat]⟩,?_,⟨g,e,by simp only;omega,by simp only;omega,j,l,h⟩,rfl,?_⟩
  ·simp only;omega
  ·simp only[mF]
  ·simp only[Bi,Out.run,show(i+1).toNat=i.toNat+1 by omega]
   simpa only[eZ,List.flatMap_cons,List.append_assoc] using c
 ·rw[as2 (by rw[List.length_take];omega)] at c
  simpa[eZ] using c
noncomputable def LG κ:=((E7 κ).an 65 8 (aG 0 TU IB Bi)).aw 114 (aO I0 pH F1)
theorem ai3 κ:aE (LG κ):=((e7 _).an (m7 _) (l10 _)).fK (ai1 _)
theorem Za κ:aj (LG κ):=((m7 _).an aJ).aw aI
theorem y10 κ a k K:(a0 (LG κ) 12 65 [au a, .int k] [] K)=(
 letI b:=AV.int
 letI c:=AV.ptr
 letI d:=Obj.box
 letI e:=Obj.row
 letI f:=Dn.Obj.map
 letI g:=K (AV.aH [AV.nil,b 2]) []
 letI h:=Pg.toProgram (Env.P (E7 κ))
 letI i:=Int.toNat (k - (0:Int))
 ∃(e4:dh),letI j:=List.length (cR (aQ e4));([au a],aL)=([au e4],aL)/\(bk (aa (bo 38 e4.hl e4.bl))<=100000/\e4.bl.length<=100000)/\aq (a8 (aQ e4)) (aq (jT (aQ e4)) (aq (decide (k<(0:Int))) g (aq (decide (k>(↑j:Int))) g (aV (true&&decide ((0:Int)<=k)&&decide (k<=(↑j:Int))) (ad h 65 8=ad h 65 8/\∃(e3:XA),sp 48 [(2,c 0 0 [] 0),(8,c 1 0 [] 0),(32,AV.ak 3 0 i),(33,b (↑i:Int)),(34,b 0)] [d 48 (au a),d 178 (AV.mp 2),f 9 4 [],e 3 (ints (cR (aQ e4)))]=sp 48 [(2,c 0 0 [] 0),(8,c 1 0 [] 0),(32,AV.ak 3 0 e3.n),(33,b (↑(e3.n):Int)),(34,b e3.i)] [d 48 (au e3.a),d 178 (AV.mp 2),f 9 4 (bU e3.vs),e 3 (ints e3.ws)]/\(a8 (aQ e3.a)=true/\(bk (aa (bo 38 e3.a.hl e3.a.bl))<=100000/\List.length e3.a.bl<=100000)/\(0:Int)<=e3.i/\e3.i<=(↑(e3.n):Int)/\e3.n<=e3.ws.length/\e3.ws.length<=List.length e3.a.bl/\∀(e0:Nat),List.Mem e0 e3.ws->e0<List.length e3.a.bl)/\∃(e2:dh),([au e3.a],aL)=([au e2],aL)/\(a8 (aQ e2)=true/\bk (aa (bo 38 e2.hl e2.bl))<=100000/\e2.bl.length<=100000)/\∃(e1:DB),([AV.ak 0 0 (List.length (dg (aQ e2))),AV.bm 116 [c 1 0 [] 0]],[e 9 (strs (dg (aQ e2))),d 178 (AV.mp 2),f 9 4 (bU (e3.vs++eZ (aQ e3.a) (List.drop e3.i.toNat (List.take e3.n e3.ws))))])=([AV.ak 0 0 e1.vs.length,AV.bm 116 [c 1 0 [] 0]],[e 9 (strs e1.vs),d 178 (AV.mp 2),f 9 4 e1.es])/\pH e1/\∀(e0:List AV),True->K (AV.aH [AV.ah 9 (strs (List.filter (eQ e1.es) e1.vs)),b 0]) [])))) (K (AV.aH [AV.nil,b 60]) [])) (K (AV.aH [AV.nil,b 30]) [])):=by kernel_rfl
def ab9(a:dh×Int):List AV×List Dn.Obj:=([au a.1, .int a.2],[])
def OB(a:dh×Int):Prop:=dd a.1
def NN(a:dh×Int):Out (AV×List Dn.Obj):= .aq (a8 (aQ a.1)) (.aq (jT (aQ a.1)) (.aq (decide (a.2<0)||decide (a.1.bl.length<a.2)) (.one (.aH [.nil, .int 2],[]))
 (.one (.aH [.ah 9 (strs (E4 (aQ a.1) a.2.toNat)), .int 0],[]))) (.one (.aH [.nil, .int 60],[]))) (.one (.aH [.nil, .int 30],[]))
theorem tM{a}(h:jT (aQ a)=true):(cR (aQ a)).length=a.bl.length:=by
 grind [Lh,fW,jT]
theorem c10 κ:bc (LG κ) 12 65 (aO ab9 OB NN):=by
 refine aR ?_;rintro⟨a,k⟩ K d e;refine Eq.mpr (y10 κ a k K) ?_;simp only[NN,Out.run,ae] at e;have d:dd a:=d;have q:=d.2;refine⟨a,rfl,d,?_⟩;rw[ae];refine⟨fun c=>?_,fun c=>e.2 c⟩;rw[ae];refine⟨fun f=>?_,fun f=>(e.1 c).2 f⟩;have o:=tM f;have b:=(e.1 c).1 f;rw[ae,ar4,ar6];refine⟨fun i=>b.1 (by rw[as0 i];rfl),fun i=>?_⟩;rw[ae,ar4,ar6,o];refine⟨fun h=>b.1 (by rw[as0 (show(a.bl.length:Int)<k from h)];simp),fun h=>?_⟩;have l:=b.2 (by rw[ar8 i,ar8 (show ¬ (a.bl.length:Int)<k from h)];rfl);simp only[ai,ar5,ar4,Int.sub_zero];have p:(fB (aQ a)).length<=100000:=by
  have m:=cK (aa (bo 38 a.hl a.bl));rw[iO 38 a.rel a.hl a.bl] at m;exact Nat.le_trans m d.1
 have r:=kJ (fB (aQ a)) [];refine⟨⟨⟨trivial,by omega⟩,by omega⟩,trivial,⟨a,cR (aQ a),k.toNat,0,[]⟩,rfl,⟨c,d,by simp only;omega,by simp only;omega,by simp only;omega,by simp only;omega,fun j n=>by have:=sn n;rwa [fW] at this⟩,a,rfl,⟨c,d⟩,⟨dg (aQ a),0,bU ([]++eZ (aQ a) (((cR (aQ a)).take k.toNat).drop (Int.toNat 0)))⟩,rfl,?_,?_⟩
 ·simp only[pH,dg,c,as1,aW];omega
 ·intro R _
  have g:List.filter (eQ (bU ([]++eZ (aQ a) (((cR (aQ a)).take k.toNat).drop (Int.toNat 0))))) (dg (aQ a))=E4 (aQ a) k.toNat:=by
   unfold E4;refine congrFun (congrArg _ ?_) _;funext s
   unfold eQ;rw[pA];rfl
  simp only[g];exact l
noncomputable def Ql κ:=(LG κ).aw 65 (aO ab9 OB NN)
theorem e10 κ:aE (Ql κ):=(ai3 _).aw (Za _) (c10 _)
theorem m10 κ:aj (Ql κ):=(Za _).aw aI
end Go.Proofs.YtioeffnadipbaaaGreatDoor
namespace Go.Proofs.YtioeffnadipbaaaGreatDoor
open Go Go.Dn Go.Rl Go.Proofs
attribute [local irreducible] a0 vc
set_option maxRecDepth 20000
noncomputable abbrev lp8(a:dh)(b:List AV)(κ:Kp)(st:LoopState)(p:Option Code):Dn.Obj:=
 .loop (iG (Pr κ).toProgram 89 5 st p (hG (bM 63) [(0,au a),(1, .ptr 0 0 [] 0),(2, .ptr 1 0 [] 0),(3, .ptr 2 0 [] 0),(4, .ak 3 0 b.length),(5, .int 0),(10, .aH [.ak 3 0 b.length, .int 0]),(11,au a),(12, .aH [.ak 3 0 b.length, .int 0]),(13, .ak 3 0 b.length),(14, .int 0),(15, .int 0),(16, .bool false),(18,au a),(19, .bm 169 [.ptr 4 0 [] 0])]))
noncomputable abbrev G2 κ a c b st p:=[.box 48 (au a), .box 4 (.bool b), .box 32 (.int 0), .row 3 c, .box 48 (au a),lp8 a c κ st p]
theorem x8(κ:Kp)(a:dh) ws es done(i:Int) I(n:Nat) K:(vc (Ql κ) 12 169 none 6 (ad (Pr κ).toProgram 169 3) (sp 38 [(0, .cf 5),(1, .ptr 4 0 [] 0),(3, .mp 6),(4, .ak 7 0 done.length),(13, .int a.bl.length),(14, .int i)] (G2 κ a ws false .ready none++[.map 9 4 es, .row 4 done])) (bj (Ql κ) 169 3 6 I n K))=(
 letI b:=AV.int
 letI c:=AV.ptr
 letI d:=AV.agg
 letI e:=AV.str
 letI f:=Obj.box
 letI g:=Obj.row
 letI h:=Dn.Obj.map
 letI j:=AV.ah
 letI k:=AV.ak
 letI l:=AV.mp
 letI C:=hG (bM 63) [(0,au a),(1,c 0 0 [] 0),(2,c 1 0 [] 0),(3,c 2 0 [] 0),(4,k 3 0 ws.length),(5,b 0),(10,AV.aH [k 3
  0 ws.length,b 0]),(11,au a),(12,AV.aH [k 3 0 ws.length,b 0]),(13,k 3 0 ws.length),(14,b 0),(15,b 0),(16,AV.bool
  false),(18,au a),(19,AV.bm 169 [c 4 0 [] 0])]
 letI z:=iG Tryz.prog 89 5 LoopState.ready none C
 letI D:=IntKind.wrap IntKind.i64 (i+(1:Int))
 letI x:=a.bl.length
 letI A:=AV.bool false
 letI E:=sp 38 [] [f 48 (au a),f 4 A,f 32 (b 0),g 3 ws,f 48 (au a),Dn.Obj.loop z]
 letI F:=AV.bool true
 letI y:=K Exit.ret (sp 38 [] [f 48 (au a),f 4 F,f 32 (b 0),g 3 ws,f 48 (au a),Dn.Obj.loop (iG Tryz.prog 89 5
  LoopState.done (some Code.ret) C)])
 letI G:=done.length
 letI p:=Value×AV
 aq (decide (i<(↑x:Int))) (∃(e5:Lk),letI o:=aF (aQ e5.a) e5.done e5.b;letI m:=nth a.bl (Int.toNat o);letI q:=(0:Int)<=aF (aQ e5.a) e5.done e5.b;letI r:=decide q&&decide (aF (aQ e5.a) e5.done e5.b<(↑G:Int));letI B:=[l 0,d [b (toInt (ag (ag m 3) 0)),e (toStr (ag (ag m 3) 1)),b (toInt (ag (ag m 3) 2)),j 38 (af (ag (ag m 3) 3))],d [b (toInt (ag (ag m 2) 0)),e (toStr (ag (ag m 2) 1)),b (toInt (ag (ag m 2) 2)),j 38 (af (ag (ag m 2) 3))]];letI s:=bH (b9 e5.done) (0+Int.toNat o) F;letI t:=decide ((7:Int)<=toInt (ag m 0));letI u:=[h 9 4 (bU e5.b)];([au a,k 0 0 done.length,l 1],[g 4 done,h 9 4 es])=([au e5.a,k 0 0 (List.length (b9 e5.done)),l 1],[g 4 (b9 e5.done),h 9 4 (bU e5.b)])/\(a8 (aQ e5.a)=true/\(bk (aa (bo 38 e5.a.hl e5.a.bl))<=100000/\List.length e5.a.bl<=100000)/\e5.done.length=List.length e5.a.bl)/\aq (decide (aF (aQ e5.a) e5.done e5.b<(0:Int))) (K Exit.ret E) (aV (decide q&&decide (aF (aQ e5.a) e5.done e5.b<(↑x:Int))) (aq (toInt (ag m 0)==(3:Int)) (∃(e4:TA),letI v:=∃(e3:TA),letI w:=aq t y (aV r (∃(e2:dh×Int),([au a,b o],aL)=([au e2.1,b e2.2],aL)/\(a8 (aQ e2.1)=true/\(bk (aa (bo 38 e2.1.hl e2.1.bl))<=100000/\e2.1.bl.length<=100000)/\(0:Int)<=e2.2/\e2.2<(↑(e2.1.bl.length):Int))/\∃(e1:List AV×List p),([l 0,j 9 (strs (cM (aQ e2.1) e2.2.toNat))],[h 9 4 e3.es])=([l 0,j 9 e1.1],[h 9 4 e1.2])/\bq e1/\∃(e0:Nat),e0<n/\I e0 (sp 38 [(0,AV.cf 5),(1,c 4 0 [] 0),(3,l 6),(4,k 7 0 done.length),(13,b (↑x:Int)),(14,b D)] [f 48 (au a),f 4 A,f 32 (b 0),g 3 ws,f 48 (au a),Dn.Obj.loop z,h 9 4 (fD e1.2 e1.1),g 4 s])));(B,[h 9 4 e4.es])=([l 0,d [b e3.o1,e e3.s1,b e3.n1,j 38 e3.l1],d [b e3.o2,e e3.s2,b e3.n2,j 38 e3.l2]],[h 9 4 e3.es])/\jn e3/\aq (lY e3.es (TA.x e3) (TA.y e3)) (aq (decide (toInt (ag (ag m 2) 0)>=(5:Int))) y w) w;([l 0,d [b (toInt (ag (ag m 2) 0)),e (toStr (ag (ag m 2) 1)),b (toInt (ag (ag m 2) 2)),j 38 (af (ag (ag m 2) 3))],d [b (toInt (ag (ag m 3) 0)),e (toStr (ag (ag m 3) 1)),b (toInt (ag (ag m 3) 2)),j 38 (af (ag (ag m 3) 3))]],u)=([l 0,d [b e4.o1,e e4.s1,b e4.n1,j 38 e4.l1],d [b e4.o2,e e4.s2,b e4.n2,j 38 e4.l2]],[h 9 4 e4.es])/\jn e4/\aq (lY e4.es (TA.x e4) (TA.y e4)) (aq (decide (toInt (ag (ag m 3) 0)>=(5:Int))) y v) v) (aq t y (aV r (∃(e2:dh×Int),([au a,b o],aL)=([au e2.1,b e2.2],aL)/\(a8 (aQ e2.1)=true/\(bk (aa (bo 38 e2.1.hl e2.1.bl))<=100000/\e2.1.bl.length<=100000)/\(0:Int)<=e2.2/\e2.2<(↑(e2.1.bl.length):Int))/\∃(e1:List AV×List p),([l 0,j 9 (strs (cM (aQ e2.1) e2.2.toNat))],u)=([l 0,j 9 e1.1],[h 9 4 e1.2])/\bq e1/\∃(e0:Nat),e0<n/\I e0 (sp 38 [(0,AV.cf 5),(1,c 4 0 [] 0),(3,l 6),(4,k 7 0 done.length),(13,b (↑x:Int)),(14,b D)] [f 48 (au a),f 4 A,f 32 (b 0),g 3 ws,f 48 (au a),Dn.Obj.loop z,h 9 4 (fD e1.2 e1.1),g 4 s]))))))) (K (Exit.exit 0) E)):=by kernel_rfl
structure A8 where
 a:dh
 ws:List AV
 done:List Bool
 b:List ByteArray
 i:Int
noncomputable abbrev Se κ(a:A8):=sp 38 [(0, .cf 5),(1, .ptr 4 0 [] 0),(3, .mp 6),(4, .ak 7 0 (b9 a.done).length),(13, .int a.a.bl.length),(14, .int a.i)] (G2 κ a.a a.ws false .ready none++[.map 9 4 (bU a.b), .row 4 (b9 a.done)])
def Gx(a:A8):=a8 (aQ a.a)=true/\dd a.a/\0<=a.i/\a.i<=a.a.bl.length/\a.done.length=a.a.bl.length
noncomputable def J7(a:A8):=M4 (aQ a.a) (a.a.bl.length - a.i.toNat) a.done a.b
noncomputable def Dh(κ:Kp)(a:A8):Out (Exit×S):= .aq (J7 a) (.one (.ret,sp 38 [] (G2 κ a.a a.ws true .done (some .ret)))) (.all (fun _=>True) fun e=> .aq e (.one (.ret,sp 38 [] (G2 κ a.a a.ws false .ready none))) (.one (.exit 0,sp 38 [] (G2 κ a.a a.ws false .ready none))))
theorem J9 r n done b:M4 r (n+1) done b=
  bif decide (aF r done b<0) then false else J8 r b (aF r done b).toNat||M4 r n (done.set (aF r done b).toNat true) (b++cM r (aF r done b).toNat):=rfl
theorem l8 κ:aU (Ql κ) 12 169 3 (aG 6 (Se κ) Gx (Dh κ)):=by
 refine aC (fun a=>a.a.bl.length - a.i.toNat) ?_;rintro⟨a,F,done,b,i⟩ K ⟨v,p,W,U,H⟩ s;simp only at v p W U H;rw[show(Ql κ).P=Pr κ from rfl];refine Eq.mpr (x8 κ a F (bU b) (b9 done) i _ _ K) ?_;simp only[Dh,Out.run,ae,J7] at s;simp only[and_self];have I:=jz done;have hl:=p.2;rw[ae,ar4,ar6];refine⟨fun V=>⟨⟨a,done,b,0,0⟩,rfl,⟨v,p,H⟩,?_⟩,fun V=>?_⟩
 ·have N:=J9 (aQ a) (a.bl.length - (i.toNat+1)) done b
  rw[show a.bl.length - (i.toNat+1)+1=a.bl.length - i.toNat by omega] at N;rw[ae,ar4,ar6];refine⟨fun e=>?_,fun e=>?_⟩
  ·rw[N,as0 e] at s
   exact(s.2 rfl true trivial).1 rfl
  ·rw[N,ar8 e,ar9] at s
   rcases qy (aQ a) done b with e0|⟨z,X,Y,_⟩
   ·rw[e0] at e;omega
   have r:=X;rw[fW] at r;have Z:=sH p r;have Q:=lg p r;have l:aF (aQ a) done b<a.bl.length:=by omega
   have q:bq (strs (cM (aQ a) (aF (aQ a) done b).toNat),bU b):=by simp only[bq,ba,aW];omega
   have u:(decide (0<=aF (aQ a) done b)&&decide (aF (aQ a) done b<(a.bl.length:Int)))=true:=by simp[z,l]
   have d:(decide (0<=aF (aQ a) done b)&&decide (aF (aQ a) done b<((b9 done).length:Int)))=true:=by rw[I,H];exact u
   have O:jS (c9 (nth a.bl (aF (aQ a) done b).toNat))=bk [cI (ag (nth a.bl (aF (aQ a) done b).toNat) 2),cI (ag (nth a.bl (aF (aQ a) done b).toNat) 3)]+bk (aa (af (ag (ag (nth a.bl (aF (aQ a) done b).toNat) 1) 1))):=rfl;have A:bk [cI (ag (nth a.bl (aF (aQ a) done b).toNat) 2)]<=100000/\bk [cI (ag (nth a.bl (aF (aQ a) done b).toNat) 3)]<=100000:=by
    simp only[bk] at O⊢;omega
   have L:jn (ma (ag (nth a.bl (aF (aQ a) done b).toNat) 2) (ag (nth a.bl (aF (aQ a) done b).toNat) 3) (bU b)):=by unfold jn ma;rw[o5];exact A.2
   have C:jn (ma (ag (nth a.bl (aF (aQ a) done b).toNat) 3) (ag (nth a.bl (aF (aQ a) done b).toNat) 2) (bU b)):=by unfold jn ma;rw[o5];exact A.1
   have J:lY (ma (ag (nth a.bl (aF (aQ a) done b).toNat) 2) (ag (nth a.bl (aF (aQ a) done b).toNat) 3) (bU b)).es (ma (ag (nth a.bl (aF (aQ a) done b).toNat) 2) (ag (nth a.bl (aF (aQ a) done b).toNat) 3) (bU b)).x (ma (ag (nth a.bl (aF (aQ a) done b).toNat) 2) (ag (nth a.bl (aF (aQ a) done b).toNat) 3) (bU b)).y=lX b (cI (ag (nth a.bl (aF (aQ a) done b).toNat) 2)) (cI (ag (nth a.bl (aF (aQ a) done b).toNat) 3)):=by
    unfold ma;rw[BY,o5,pn]
   have B:lY (ma (ag (nth a.bl (aF (aQ a) done b).toNat) 3) (ag (nth a.bl (aF (aQ a) done b).toNat) 2) (bU b)).es (ma (ag (nth a.bl (aF (aQ a) done b).toNat) 3) (ag (nth a.bl (aF (aQ a) done b).toNat) 2) (bU b)).x (ma (ag (nth a.bl (aF (aQ a) done b).toNat) 3) (ag (nth a.bl (aF (aQ a) done b).toNat) 2) (bU b)).y=lX b (cI (ag (nth a.bl (aF (aQ a) done b).toNat) 3)) (cI (ag (nth a.bl (aF (aQ a) done b).toNat) 2)):=by
    unfold ma;rw[BY,o5,pn]
   have c:J8 (aQ a) b (aF (aQ a) done b).toNat=((decide (toInt (ag (nth a.bl (aF (aQ a) done b).toNat) 0)=3)&&(lX b (cI (ag (nth a.bl (aF (aQ a) done b).toNat) 2)) (cI (ag (nth a.bl (aF (aQ a) done b).toNat) 3))&&decide (toInt (ag (ag (nth a.bl (aF (aQ a) done b).toNat) 3) 0)>=5)||lX b (cI (ag (nth a.bl (aF (aQ a) done b).toNat) 3)) (cI (ag (nth a.bl (aF (aQ a) done b).toNat) 2))&&decide (toInt (ag (ag (nth a.bl (aF (aQ a) done b).toNat) 2) 0)>=5)))||decide (7<=toInt (ag (nth a.bl (aF (aQ a) done b).toNat) 0))):=by
    have T:(cI (ag (nth a.bl (aF (aQ a) done b).toNat) 2)).op=toInt (ag (ag (nth a.bl (aF (aQ a) done b).toNat) 2) 0):=by rw[de];rfl
    have R:(cI (ag (nth a.bl (aF (aQ a) done b).toNat) 3)).op=toInt (ag (ag (nth a.bl (aF (aQ a) done b).toNat) 3) 0):=by rw[de];rfl
    unfold J8;rw[show(aQ a).body=dw a.bl from rfl,kB _ r,show(c9 (nth a.bl (aF (aQ a) done b).toNat)).op=toInt (ag (nth a.bl (aF (aQ a) done b).toNat) 0) from rfl,show(c9 (nth a.bl (aF (aQ a) done b).toNat)).x=cI (ag (nth a.bl (aF (aQ a) done b).toNat) 2) from rfl,show(c9 (nth a.bl (aF (aQ a) done b).toNat)).y=cI (ag (nth a.bl (aF (aQ a) done b).toNat) 3) from rfl,T,R]
   have f:(toInt (ag (nth a.bl (aF (aQ a) done b).toNat) 0)==3)=true->decide (toInt (ag (nth a.bl (aF (aQ a) done b).toNat) 0)=3)=true:=fun e=>by simpa using e
   have D:(toInt (ag (nth a.bl (aF (aQ a) done b).toNat) 0)==3)=false->decide (toInt (ag (nth a.bl (aF (aQ a) done b).toNat) 0)=3)=false:=fun e=>by simpa using e
   have h:J8 (aQ a) b (aF (aQ a) done b).toNat=true->K .ret (sp 38 [] (G2 κ a F true .done (some .ret))):=fun e=>s.1 (by rw[e];rfl)
   have E:J8 (aQ a) b (aF (aQ a) done b).toNat=false->∃m,m<a.bl.length - i.toNat/\ep (Se κ) Gx (Dh κ) (fun a=>a.a.bl.length - a.i.toNat) K m (sp 38 [(0, .cf 5),(1, .ptr 4 0 [] 0),(3, .mp 6),(4, .ak 7 0 (b9 done).length),(13, .int a.bl.length),(14, .int (IntKind.wrap .i64 (i+1)))] (G2 κ a F false .ready none++[.map 9 4 (fD (bU b) (strs (cM (aQ a) (aF (aQ a) done b).toNat))), .row 4 (bH (b9 done) (0+(aF (aQ a) done b).toNat) (.lit (.bool true)))])):=by
    intro e;rw[e,Bool.false_or] at s;rw[az (n:=i+1) (by omega) (by omega)];refine⟨_,?_,⟨a,F,done.set (aF (aQ a) done b).toNat true,b++cM (aQ a) (aF (aQ a) done b).toNat,i+1⟩,?_,⟨v,p,by simp only;omega,by simp only;omega,by simpa using H⟩,rfl,?_⟩
    ·simp only;omega
    ·simp only[Se,Nat.zero_add,qH,mF,jz,List.length_set]
    ·simp only[Dh,Out.run,ae,J7,show(i+1).toNat=i.toNat+1 by omega]
     exact s
   rw[ai];refine⟨u,?_⟩;rw[ae];exact⟨fun j=>⟨ma (ag (nth a.bl (aF (aQ a) done b).toNat) 2) (ag (nth a.bl (aF (aQ a) done b).toNat) 3) (bU b),rfl,L,by
   rw[J];exact ae.2 ⟨fun o=>ae.2 ⟨fun w=>h (by rw[c,f j,o,w];simp),fun w=>⟨ma (ag (nth a.bl (aF (aQ a) done b).toNat) 3) (ag (nth a.bl (aF (aQ a) done b).toNat) 2) (bU b),rfl,C,by
   rw[B];exact ae.2 ⟨fun k=>ae.2 ⟨fun t=>h (by rw[c,f j,o,w,k,t];simp),fun t=>ae.2 ⟨fun g=>h (by rw[c,f j,o,w,k,t,g];simp),fun g=>ai.2 ⟨d,(a,(aF (aQ a) done b)),rfl,⟨v,p,z,l⟩,(strs (cM (aQ a) (aF (aQ a) done b).toNat),bU b),rfl,q,E (by rw[c,f j,o,w,k,t,g];simp)⟩⟩⟩,fun k=>ae.2 ⟨fun g=>h (by rw[c,f j,o,w,k,g];simp),fun g=>ai.2 ⟨d,(a,(aF (aQ a) done b)),rfl,⟨v,p,z,l⟩,(strs (cM (aQ a) (aF (aQ a) done b).toNat),bU b),rfl,q,E (by rw[c,f j,o,w,k,g];simp)⟩⟩⟩⟩⟩,fun o=>⟨ma (ag (nth a.bl (aF (aQ a) done b).toNat) 3) (ag (nth a.bl (aF (aQ a) done b).toNat) 2) (bU b),rfl,C,by
   rw[B];exact ae.2 ⟨fun k=>ae.2 ⟨fun t=>h (by rw[c,f j,o,k,t];simp),fun t=>ae.2 ⟨fun g=>h (by rw[c,f j,o,k,t,g];simp),fun g=>ai.2 ⟨d,(a,(aF (aQ a) done b)),rfl,⟨v,p,z,l⟩,(strs (cM (aQ a) (aF (aQ a) done b).toNat),bU b),rfl,q,E (by rw[c,f j,o,k,t,g];simp)⟩⟩⟩,fun k=>ae.2 ⟨fun g=>h (by rw[c,f j,o,k,g];simp),fun g=>ai.2 ⟨d,(a,(aF (aQ a) done b)),rfl,⟨v,p,z,l⟩,(strs (cM (aQ a) (aF (aQ a) done b).toNat),bU b),rfl,q,E (by rw[c,f j,o,k,g];simp)⟩⟩⟩⟩⟩⟩,fun j=>ae.2 ⟨fun g=>h (by rw[c,D j,g];simp),fun g=>ai.2 ⟨d,(a,(aF (aQ a) done b)),rfl,⟨v,p,z,l⟩,(strs (cM (aQ a) (aF (aQ a) done b).toNat),bU b),rfl,q,E (by rw[c,D j,g];simp)⟩⟩⟩
 ·rw[show a.bl.length - i.toNat=0 by omega] at s
  exact(s.2 rfl false trivial).2 rfl
noncomputable def XW κ:=(Ql κ).an 169 3 (aG 6 (Se κ) Gx (Dh κ))
theorem e8l κ:aE (XW κ):=(e10 _).an (m10 _) (l8 _)
theorem m8l κ:aj (XW κ):=(m10 _).an aJ
theorem y8 κ a K:(a0 (XW κ) 12 89 [au a] [] K)=(
 letI b:=AV.int
 letI c:=AV.ptr
 letI d:=AV.bool
 letI e:=Obj.box
 letI f:=Obj.row
 letI g:=AV.aH
 letI h:=AV.ak
 letI i:=a.bl.length
 letI l:=K (g [d false,b 0]) []
 letI m:=Pg.toProgram (Env.P (Ql κ))
 letI k:=d false
 letI n:=Int.toNat (↑i:Int)
 ∃(e2:dh),letI j:=List.length (cR (aQ e2));([au a],aL)=([au e2],aL)/\(bk (aa (bo 38 e2.hl e2.bl))<=100000/\e2.bl.length<=100000)/\aq (a8 (aQ e2)) (aq (jT (aQ e2)) (aV (true&&decide ((↑i:Int)<=(↑i:Int))&&decide ((Int.toNat (↑i:Int)+1)*2<=70368744177664)&&true) (ad m 169 3=ad m 169 3/\∃(e1:A8),letI o:=[h 3 0 e1.ws.length,b 0];sp 38 [(0,AV.cf 5),(1,c 4 0 [] 0),(3,AV.mp 6),(4,h 7 0 n),(13,b (↑i:Int)),(14,b 0)] [e 48 (au a),e 4 k,e 32 (b 0),f 3 (ints (cR (aQ e2))),e 48 (au a),Dn.Obj.loop (iG Tryz.prog 89 5 LoopState.ready none (hG (bM 63) [(0,au a),(1,c 0 0 [] 0),(2,c 1 0 [] 0),(3,c 2 0 [] 0),(4,h 3 0 j),(5,b 0),(10,g [h 3 0 j,b 0]),(11,au a),(12,g [h 3 0 j,b 0]),(13,h 3 0 j),(14,b 0),(15,b 0),(16,d false),(18,au a),(19,AV.bm 169 [c 4 0 [] 0])])),Dn.Obj.map 9 4 [],f 4 (fT k n)]=sp 38 [(0,AV.cf 5),(1,c 4 0 [] 0),(3,AV.mp 6),(4,h 7 0 (List.length (b9 e1.done))),(13,b (↑(List.length e1.a.bl):Int)),(14,b e1.i)] [e 48 (au e1.a),e 4 k,e 32 (b 0),f 3 e1.ws,e 48 (au e1.a),Dn.Obj.loop (iG Tryz.prog 89 5 LoopState.ready none (hG (bM 63) [(0,au e1.a),(1,c 0 0 [] 0),(2,c 1 0 [] 0),(3,c 2 0 [] 0),(4,h 3 0 e1.ws.length),(5,b 0),(10,g o),(11,au e1.a),(12,g o),(13,h 3 0 e1.ws.length),(14,b 0),(15,b 0),(16,d false),(18,au e1.a),(19,AV.bm 169 [c 4 0 [] 0])])),Dn.Obj.map 9 4 (bU e1.b),f 4 (b9 e1.done)]/\(a8 (aQ e1.a)=true/\(bk (aa (bo 38 e1.a.hl e1.a.bl))<=100000/\List.length e1.a.bl<=100000)/\(0:Int)<=e1.i/\e1.i<=(↑(List.length e1.a.bl):Int)/\e1.done.length=List.length e1.a.bl)/\aq (J7 e1) (K (g [d true,b 0]) []) (∀(e0:Bool),True->aq e0 l l))) (K (g [d false,b 60]) [])) (K (g [d false,b 30]) [])):=by kernel_rfl
def Wc(a:dh):Out (AV×List Dn.Obj):= .aq (a8 (aQ a)) (.aq (jT (aQ a)) (.one (.aH [.bool (M5 (aQ a)), .int 0],[])) (.one (.aH [.bool false, .int 60],[]))) (.one (.aH [.bool false, .int 30],[]))
theorem c8 κ:bc (XW κ) 12 89 (aO D0 dd Wc):=by
 refine aR ?_;rintro a K e c;refine Eq.mpr (y8 κ a K) ?_;simp only[Wc,Out.run,ae] at c;have i:=e.2;refine⟨a,rfl,e,?_⟩;rw[ae];refine⟨fun b=>?_,fun b=>c.2 b⟩;rw[ae];refine⟨fun d=>?_,fun d=>(c.1 b).2 d⟩;have h:=tM d;have f:=(c.1 b).1 d;simp only[ai,ar5,ar4,Int.toNat_natCast];have g:J7 ⟨a,ints (cR (aQ a)),List.replicate a.bl.length false,[],0⟩=M5 (aQ a):=by
  unfold J7 M5;rw[fW];rfl
 refine⟨by grind,trivial,⟨a,ints (cR (aQ a)),List.replicate a.bl.length false,[],0⟩,?_,⟨b,e,by simp only;omega,by simp only;omega,by simp⟩,?_⟩
 ·simp only[uu,jz,ru,List.length_replicate];rfl
 grind [ae]
noncomputable def E8 κ:=(XW κ).aw 89 (aO D0 dd Wc)
theorem e8 κ:aE (E8 κ):=(e8l _).aw (m8l _) (c8 _)
theorem m8 κ:aj (E8 κ):=(m8l _).aw aI
def Xt:List AV->Option (Bool×AV)
 |[.agg [.lit (.int .i64 b), .lit (.string s), .lit (.int .i64 n), .ah 38 l], .lit (.int .i64 a)]=>some (decide (0<=a)&&decide (a<=100000), .int ((Tm.mk b s n (aa l)).size a))
 |_=>none
def Li:List AV->Nat
 |[.agg [_,_,_, .ah _ l],_]=>bk (aa l)
 |_=>0
noncomputable def EI κ n:=(E8 κ).aK 105 (below Xt Li n)
structure A54 where
 op:Int
 s:ByteArray
 n:Int
 l:List AV
 left:Int
 i:Int
abbrev Pz(a:A54):=sp 31 [(1, .int a.left),(2, .ptr 0 0 [] 0),(5, .int a.i)] [.box 38 (.agg [.int a.op, .lit (.string a.s), .int a.n, .ah 38 a.l])]
theorem x54 κ r a I n K:(vc (EI κ r) 12 105 none 0 (ad (Pr κ).toProgram 105 5) (Pz a) (bj (EI κ r) 105 5 0 I n K))=(
 letI b:=AV.int
 letI c:=nth a.l a.i.toNat
 letI d:=K (Exit.exit 0) (sp 31 [(1,b a.left)] [])
 letI e:=a.i<(↑(a.l.length):Int)
 aq (decide e) (aq (decide (a.left>=(0:Int))) (aV (decide ((0:Int)<=a.i)&&decide e) (aV (decide ((0:Int)<=a.left)&&decide (a.left<=(100000:
 Int))&&Nat.blt (Li [AV.agg [b (toInt (ag c 0)),AV.str (toStr (ag c 1)),b (toInt (ag c 2)),AV.ah 38 (af (ag c 3))],b a.left]) r) (∃(e0
 :Nat),e0<n/\I e0 (sp 31 [(1,b (Tm.size (Tm.mk (toInt (ag c 0)) (toStr (ag c 1)) (toInt (ag c 2)) (aa (af (ag c 3)))) a.left)),(2,AV.ptr 0 0 []
 0),(5,b (IntKind.wrap IntKind.i64 (a.i+(1:Int))))] [Obj.box 38 (AV.agg [b a.op,AV.str a.s,b a.n,AV.ah 38 a.l])])))) d) d):=by kernel_rfl
def IK r(a:A54):= -1<=a.left/\a.i+a.left<=100000/\0<=a.i/\a.i<=a.l.length/\bk (aa (a.l.drop a.i.toNat))<=r
def Bp(a:A54):Out (Exit×S):= .one (.exit 0,sp 31 [(1, .int (jo (aa (a.l.drop a.i.toNat)) a.left))] [])
theorem l54 κ r:aU (EI κ r) 12 105 5 (aG 0 Pz (IK r) Bp):=by
 refine aC (fun a=>a.l.length - a.i.toNat) ?_;rintro⟨f,s,n,l,b,i⟩ K ⟨j,k,g,h,m⟩ c;simp only at j k g h m;rw[show(EI κ r).P=Pr κ from rfl];refine Eq.mpr (x54 κ r ⟨f,s,n,l,b,i⟩ _ _ K) ?_;simp only[Bp,Out.run] at c;simp only[ae,ai,ar4,ar6,ar5,Nat.blt_eq,←de];refine⟨fun e=>⟨fun d=>⟨⟨g,e⟩,?_⟩,fun d=>?_⟩,fun e=>?_⟩
 ·have o:=vX l i.toNat (by omega)
  have p:=Tm.size_le (cI (nth l i.toNat)) b d;have q:(cI (nth l i.toNat)).mL=1+bk (aa (af (ag (nth l i.toNat) 3))):=by rw[de,Tm.mL]
  rw[eT l i.toNat (by omega),jo,as0 d,as1] at c;rw[az (n:=i+1) (by omega) (by omega)];refine⟨⟨⟨d,by omega⟩,by simp only[Li];omega⟩,_,?_,⟨f,s,n,l,(cI (nth l i.toNat)).size b,i+1⟩,rfl,⟨by simp only;omega,by simp only;omega,by simp only;omega,by simp only;omega,?_⟩,rfl,?_⟩
  ·simp only;omega
  ·simp only[show(i+1).toNat=i.toNat+1 by omega];omega
  ·simp only[Bp,Out.run,show(i+1).toNat=i.toNat+1 by omega]
   exact c
 ·rw[eT l i.toNat (by omega),jo,ar8 (show ¬ 0<=b from d),ar9] at c
  exact c
 ·rw[as2 (by omega)] at c
  exact c
noncomputable def LW κ r:=(EI κ r).an 105 5 (aG 0 Pz (IK r) Bp)
theorem y54 κ r op s n l left K:(a0 (LW κ r) 12 105 [.agg [.int op, .lit (.string s), .int n, .ah 38 l], .int left] [] K)=(
 letI b:=AV.int
 aq (decide ((↑(ByteArray.size s):Int)>(1000:Int))) (K (b (-1)) []) (ad (Pg.toProgram (Env.P (EI κ r))) 105 5=ad (Pg.toProgram (Env.P (EI κ r))) 105 5/\∃(a:A54),letI c:=aa (List.drop a.i.toNat a.l);sp 31 [(1,b (IntKind.wrap IntKind.i64 (left - (1:Int)))),(2,AV.ptr 0 0 [] 0),(5,b 0)] [Obj.box 38 (AV.agg [b op,AV.str s,b n,AV.ah 38 l])]=sp 31 [(1,b a.left),(2,AV.ptr 0 0 [] 0),(5,b a.i)] [Obj.box 38 (AV.agg [b a.op,AV.str a.s,b a.n,AV.ah 38 a.l])]/\((-1:Int)<=a.left/\a.i+a.left<=(100000:Int)/\(0:Int)<=a.i/\a.i<=(↑(a.l.length):Int)/\bk c<=r)/\K (b (jo c a.left)) [])):=by kernel_rfl
theorem ak3 κ r(b:gq (Pr κ) 105 (below Xt Li r)):aE (LW κ r)/\aj (LW κ r)/\(LW κ r).P=Pr κ:=
 have h:=(e8 _).eK b;have a:=(m8 _).aK
 ⟨h.an a (l54 _ r),a.an aJ,rfl⟩
theorem p54 κ r:cd (LW κ r) 12 105 fun xs=>bif Nat.beq (Li xs) r then Xt xs else none:=by
 intro c x b;cases d:Nat.beq (Li c) r with
 |false=>simp only[d] at b;cases b
 | true=>
  simp only[d,as1] at b;unfold Xt at b;split at b
  ·rename_i f s n l a
   simp only[ar7,as3,ar5,ar4] at b;obtain⟨⟨h,i⟩,rfl⟩:=b;have g:bk (aa l)=r:=Nat.eq_of_beq_eq_true d;refine⟨_,rfl,rfl,?_⟩;refine Eq.mpr (y54 κ r f s n l a _) ?_;rw[ae,ar4,ar6];refine⟨fun e=>?_,fun e=>?_⟩
   ·unfold Tm.size;rw[as0 (show(1000:Int)<s.size from e)];rfl
   ·rw[az (n:=a - 1) (by omega) (by omega)]
    refine⟨rfl,⟨f,s,n,l,a - 1,0⟩,rfl,⟨by simp only;omega,by simp only;omega,by simp only;omega,by simp only;omega,?_⟩,?_⟩
    ·simp only[Int.toNat_zero,as4];omega
    ·unfold Tm.size;rw[ar8 (show ¬ (1000:Int)<s.size from e)];rfl
  ·cases b
theorem q54 κ:gq (Pr κ) 105 Xt:=aE.vC _ _ _ (ak3 _) (p54 _)
noncomputable def Qx κ:=(E8 κ).aK 105 Xt
theorem e54 κ:aE (Qx κ):=(e8 _).eK (q54 _)
theorem m54 κ:aj (Qx κ):=(m8 _).aK
structure A53 where
 s:ByteArray
 l:List AV
 left:Int
 i:Int
abbrev Py(a:A53):=sp 29 [(1, .int a.left),(2, .ptr 0 0 [] 0),(5, .int a.i)] [.box 45 (.agg [.lit (.string a.s), .ah 38 a.l])]
theorem x53 κ a I n K:(vc (Qx κ) 12 104 none 0 (ad (Pr κ).toProgram 104 4) (Py a) (bj (Qx κ) 104 4 0 I n K))=(
 letI b:=nth a.l a.i.toNat
 letI c:=K (Exit.exit 0) (sp 29 [(1,AV.int a.left)] [])
 letI d:=a.i<(↑(a.l.length):Int)
 aq (decide d) (aq (decide (a.left>=(0:Int))) (aV (decide ((0:Int)<=a.i)&&decide d) (aV (decide ((0:Int)<=a.left)&&decide (a.left<=(100000:
 Int))) (∃(e0:Nat),e0<n/\I e0 (sp 29 [(1,AV.int (Tm.size (Tm.mk (toInt (ag b 0)) (toStr (ag b 1)) (toInt (ag b 2)) (aa (af (ag b 3)))) a.left)),(2,
 AV.ptr 0 0 [] 0),(5,AV.int (IntKind.wrap IntKind.i64 (a.i+(1:Int))))] [Obj.box 45 (AV.agg [AV.str a.s,AV.ah 38 a.l])])))) c) c):=by kernel_rfl
def IJ(a:A53):= -1<=a.left/\a.i+a.left<=100000/\0<=a.i/\a.i<=a.l.length
def Bo(a:A53):Out (Exit×S):= .one (.exit 0,sp 29 [(1, .int (jo (aa (a.l.drop a.i.toNat)) a.left))] [])
theorem l53 κ:aU (Qx κ) 12 104 4 (aG 0 Py IJ Bo):=by
 refine aC (fun a=>a.l.length - a.i.toNat) ?_;rintro⟨s,l,b,i⟩ K ⟨g,j,f,h⟩ c;simp only at g j f h;rw[show(Qx κ).P=Pr κ from rfl];refine Eq.mpr (x53 κ ⟨s,l,b,i⟩ _ _ K) ?_;simp only[Bo,Out.run] at c;simp only[ae,ai,ar4,ar6,ar5,←de];refine⟨fun e=>⟨fun d=>⟨⟨f,e⟩,?_⟩,fun d=>?_⟩,fun e=>?_⟩
 ·have k:=Tm.size_le (cI (nth l i.toNat)) b d
  rw[eT l i.toNat (by omega),jo,as0 d,as1] at c;rw[az (n:=i+1) (by omega) (by omega)];refine⟨⟨d,by omega⟩,_,?_,⟨s,l,(cI (nth l i.toNat)).size b,i+1⟩,rfl,⟨by simp only;omega,by simp only;omega,by simp only;omega,by simp only;omega⟩,rfl,?_⟩
  ·simp only;omega
  ·simp only[Bo,Out.run,show(i+1).toNat=i.toNat+1 by omega]
   exact c
 ·rw[eT l i.toNat (by omega),jo,ar8 (show ¬ 0<=b from d),ar9] at c
  exact c
 ·rw[as2 (by omega)] at c
  exact c
noncomputable def LV κ:=(Qx κ).an 104 4 (aG 0 Py IJ Bo)
theorem ak2 κ:aE (LV κ):=(e54 _).an (m54 _) (l53 _)
theorem Zq κ:aj (LV κ):=(m54 _).an aJ
theorem y53 κ s l left K:(a0 (LV κ) 12 104 [.agg [.lit (.string s), .ah 38 l], .int left] [] K)=(
 letI a:=AV.int
 letI b:=Pg.toProgram (Env.P (Qx κ))
 aq (decide ((↑(ByteArray.size s):Int)>(1000:Int))) (K (a (-1)) []) (ad b 104 4=ad b 104 4/\∃(e0:A53),sp 29 [(1,a left),(2,AV.ptr 0 0
 [] 0),(5,a 0)] [Obj.box 45 (AV.agg [AV.str s,AV.ah 38 l])]=sp 29 [(1,a e0.left),(2,AV.ptr 0 0 [] 0),(5,a e0.i)] [Obj.box 45 (AV.agg
 [AV.str e0.s,AV.ah 38 e0.l])]/\((-1:Int)<=e0.left/\e0.i+e0.left<=(100000:Int)/\(0:Int)<=e0.i/\e0.i<=(↑(e0.l.length):Int))/\K (a (jo (aa
 (List.drop e0.i.toNat e0.l)) e0.left)) [])):=by kernel_rfl
def g53:List AV->Option (Bool×AV)
 |[.agg [.lit (.string s), .ah 38 l], .lit (.int .i64 a)]=>some (decide (-1<=a)&&decide (a<=100000), .int (dx ⟨s,aa l⟩ a))
 |_=>none
theorem p53 κ:cd (LV κ) 12 104 g53:=by
 intro c x b;unfold g53 at b;split at b
 ·rename_i s l a
  simp only[ar7,as3,ar5,ar4] at b;obtain⟨⟨f,d⟩,rfl⟩:=b;refine⟨_,rfl,rfl,?_⟩;refine Eq.mpr (y53 κ s l a _) ?_;rw[ae,ar4,ar6];refine⟨fun e=>?_,fun e=>?_⟩
  ·unfold dx;rw[as0 (show(1000:Int)<s.size from e)];rfl
  ·refine⟨rfl,⟨s,l,a,0⟩,rfl,by grind,?_⟩
   unfold dx;grind
 ·cases b
noncomputable def Qw κ:=(LV κ).aK 104 g53
theorem e53 κ:aE (Qw κ):=(ak2 _).aK (Zq _) (p53 _)
theorem m53 κ:aj (Qw κ):=(Zq _).aK
structure XC where
 a:dh
 left:Int
 i:Int
abbrev D1(a:XC):=sp 52 [(1, .int a.left),(2, .ptr 0 0 [] 0),(5, .int a.i)] [.box 48 (au a.a)]
theorem x38(κ:Kp)(a:XC) I(n:Nat) K:(vc (Qw κ) 12 60 none 0 (ad (Pr κ).toProgram 60 3) (D1 a) (bj (Qw κ) 60 3 0 I n K))=(
 letI b:=IntKind.wrap IntKind.i64
 letI c:=AV.ptr 0 0 []
 letI d:=AV.int
 letI e:=Obj.box
 letI f:=nth a.a.bl a.i.toNat
 letI p:=Tm.mk (toInt (ag (ag f 2) 0)) (toStr (ag (ag f 2) 1)) (toInt (ag (ag f 2) 2)) (aa (af (ag (ag f 2) 3)))
 letI t:=AV.agg [AV.agg [AV.str a.a.rel,AV.ah 38 a.a.hl],AV.ah 80 a.a.bl,d a.a.line]
 letI k:=af (ag (ag f 1) 1)
 letI m:=ag (ag f 1) 0
 letI u:=b (a.i+(1:Int))
 letI q:=Tm.mk (toInt (ag (ag f 3) 0)) (toStr (ag (ag f 3) 1)) (toInt (ag (ag f 3) 2)) (aa (af (ag (ag f 3) 3)))
 letI r:=K (Exit.exit 0) (sp 52 [(1,d a.left)] [])
 letI s:=a.i<(↑(List.length a.a.bl):Int)
 letI v:=decide ((0:Int)<=a.i)&&decide s
 letI h:=a.left - (1:Int)
 letI o:=b h
 letI g:=dx {rel:=toStr m,l:=aa k} o
 letI i:=dx {rel:=toStr m,l:=aa k} o
 letI j:=(100000:Int)
 letI w:=decide ((0:Int)<=dx {rel:=toStr m,l:=aa k} o)&&decide (dx {rel:=toStr m,l:=aa k} o<=j)
 aq (decide s) (aq (decide (a.left>=(0:Int))) (aV v (aV (decide ((-1:Int)<=b h)&&decide (b h<=j)) (aq (decide (dx {rel:=toStr m,l:=aa k} o>=(0:Int))) (aV v (aV w (aq (decide (Tm.size p g>=(0:Int))) (aV v (aV (decide ((0:Int)<=Tm.size p i)&&decide (Tm.size p g<=j)) (∃(e0:Nat),e0<n/\I e0 (sp 52 [(1,AV.lit (Value.int IntKind.i64 (Tm.size q (Tm.size p g)))),(2,c 0),(5,d u)] [e 48 t])))) (∃(e0:Nat),e0<n/\I e0 (sp 52 [(1,AV.lit (Value.int IntKind.i64 (Tm.size p i))),(2,c 0),(5,d u)] [e 48 t]))))) (aq (decide (dx {rel:=toStr m,l:=aa k} o>=(0:Int))) (aV v (aV w (∃(e0:Nat),e0<n/\I e0 (sp 52 [(1,AV.lit (Value.int IntKind.i64 (Tm.size q i))),(2,c 0),(5,d u)] [e 48 t])))) (∃(e0:Nat),e0<n/\I e0 (sp 52 [(1,AV.lit (Value.int IntKind.i64 g)),(2,c 0),(5,d u)] [e 48 t])))))) r) r):=by kernel_rfl
def BB(a:XC):= -1<=a.left/\a.i+a.left<=100000/\0<=a.i/\a.i<=a.a.bl.length
def xm(a:XC):Out (Exit×S):= .one (.exit 0,sp 52 [(1, .int (lS (dw (a.a.bl.drop a.i.toNat)) a.left))] [])
theorem l38 κ:aU (Qw κ) 12 60 3 (aG 0 D1 BB xm):=by
 refine aC (fun a=>a.a.bl.length - a.i.toNat) ?_;rintro⟨a,b,i⟩ K ⟨o,t,j,v⟩ c;simp only at o t j v;rw[show(Qw κ).P=Pr κ from rfl];refine Eq.mpr (x38 κ ⟨a,b,i⟩ _ _ K) ?_;simp only[xm,Out.run] at c;by_cases f:i<a.bl.length
 ·by_cases g:b>=0
  ·have r:i.toNat<a.bl.length:=by omega
   rw[oE a.bl i.toNat r,lS,as0 g,as1] at c;have u:(⟨toStr (ag (ag (nth a.bl i.toNat) 1) 0),aa (af (ag (ag (nth a.bl i.toNat) 1) 1))⟩:At)=(c9 (nth a.bl i.toNat)).a:=rfl;have p:cI (ag (nth a.bl i.toNat) 2)=(c9 (nth a.bl i.toNat)).x:=rfl;have q:cI (ag (nth a.bl i.toNat) 3)=(c9 (nth a.bl i.toNat)).y:=rfl;have w:=tB (c9 (nth a.bl i.toNat)) b g;have s:=oZ (c9 (nth a.bl i.toNat)).a (b - 1) (by omega);have l:=Tm.size_le (c9 (nth a.bl i.toNat)).x (dx (c9 (nth a.bl i.toNat)).a (b - 1));have k: ∀z,sizeLt (c9 (nth a.bl i.toNat)) b=z->∃m,m<a.bl.length - i.toNat/\ep D1 BB xm (fun a=>a.a.bl.length - a.i.toNat) K m (D1 ⟨a,z,i+1⟩):=by
    rintro z rfl;refine⟨_,?_,⟨a,sizeLt (c9 (nth a.bl i.toNat)) b,i+1⟩,rfl,⟨by simp only;omega,by simp only;omega,by simp only;omega,by simp only;omega⟩,rfl,?_⟩
    ·simp only;omega
    ·simp only[xm,Out.run,show(i+1).toNat=i.toNat+1 by omega]
     exact c
   simp only[az (n:=i+1) (by omega) (by omega),az (n:=b - 1) (by omega) (by omega),u,←de,p,q];simp only[ae,ai,ar4,ar6,ar5];refine⟨fun _=>⟨fun _=>⟨⟨j,f⟩,⟨by omega,by omega⟩,fun d=>⟨⟨j,f⟩,⟨d,by omega⟩,fun h=>⟨⟨j,f⟩,⟨h,by have:=l d;omega⟩,k _ ?_⟩,fun h=>k _ ?_⟩,fun d=>⟨fun e=>absurd e d,fun _=>k _ ?_⟩⟩,fun e=>absurd g e⟩,fun e=>absurd f e⟩
   ·unfold sizeLt;rw[as0 (show 0<=dx (c9 (nth a.bl i.toNat)).a (b - 1) from d),as1,as0 (show 0<=(c9 (nth a.bl i.toNat)).x.size _ from h),as1]
   ·unfold sizeLt;rw[as0 (show 0<=dx (c9 (nth a.bl i.toNat)).a (b - 1) from d),as1,ar8 (show ¬ 0<=(c9 (nth a.bl i.toNat)).x.size _ from h),ar9]
   ·unfold sizeLt;rw[ar8 (show ¬ 0<=dx (c9 (nth a.bl i.toNat)).a (b - 1) from d),ar9];rfl
  ·rw[oE a.bl i.toNat (by omega),lS,ar8 (show ¬ 0<=b from g),ar9] at c
   rw[as0 (show i<(a.bl.length:Int) from f),ar8 g];exact c
 ·rw[as2 (by omega)] at c
  rw[ar8 (show ¬ i<(a.bl.length:Int) from f)];exact c
noncomputable def LP κ:=(Qw κ).an 60 3 (aG 0 D1 BB xm)
theorem aj4 κ:aE (LP κ):=(e53 _).an (m53 _) (l38 _)
theorem Zi κ:aj (LP κ):=(m53 _).an aJ
theorem y38 κ a left K:(a0 (LP κ) 12 60 [au a, .int left] [] K)=(
 letI b:=IntKind.wrap IntKind.i64
 letI c:=AV.int
 letI d:=left - (1:Int)
 letI e:=Pg.toProgram (Env.P (Qw κ))
 aV (decide ((-1:Int)<=b d)&&decide (b d<=(100000:Int))) (ad e 60 3=ad e 60 3/\∃(e0:XC),sp 52 [(1,AV.lit (Value.int IntKind.i64 (dx {rel:=a.rel,l:=aa a.hl} (b d)))),(2,AV.ptr 0 0 [] 0),(5,c 0)] [Obj.box 48 (AV.agg [AV.agg [AV.str a.rel,AV.ah 38 a.hl],AV.ah 80 a.bl,c a.line])]=sp 52 [(1,c e0.left),(2,AV.ptr 0 0 [] 0),(5,c e0.i)] [Obj.box 48 (AV.agg [AV.agg [AV.str e0.a.rel,AV.ah 38 e0.a.hl],AV.ah 80 e0.a.bl,c e0.a.line])]/\((-1:Int)<=e0.left/\e0.i+e0.left<=(100000:Int)/\(0:Int)<=e0.i/\e0.i<=(↑(List.length e0.a.bl):Int))/\K (AV.lit (Value.int IntKind.i64 (lS (dw (List.drop e0.i.toNat e0.a.bl)) e0.left))) [])):=by kernel_rfl
def g38:List AV->Option (Bool×AV)
 |[.agg [.agg [.lit (.string b), .ah 38 d], .ah 80 c, .lit (.int .i64 _)], .lit (.int .i64 a)]=>some (decide (0<=a)&&decide (a<=100000), .int (nL ⟨⟨b,aa d⟩,dw c⟩ a))
 |_=>none
theorem p38 κ:cd (LP κ) 12 60 g38:=by
 intro g x d;unfold g38 at d;split at d
 ·rename_i b e f c a
  simp only[ar7,as3,ar5,ar4] at d;obtain⟨⟨i,j⟩,rfl⟩:=d;refine⟨_,rfl,rfl,?_⟩;refine Eq.mpr (y38 κ ⟨[],[],b,e,f,c,0⟩ a _) ?_;have h:=oZ ⟨b,aa e⟩ (a - 1) (by omega);simp only[az (n:=a - 1) (by omega) (by omega)];rw[ai,ar5,ar4,ar4];exact⟨⟨by omega,by omega⟩,trivial,⟨⟨[],[],b,e,f,c,0⟩,dx ⟨b,aa e⟩ (a - 1),0⟩,rfl,by grind,rfl⟩
 ·cases d
noncomputable def Qr κ:=(LP κ).aK 60 g38
theorem e38 κ:aE (Qr κ):=(aj4 _).aK (Zi _) (p38 _)
theorem m38 κ:aj (Qr κ):=(Zi _).aK
abbrev Pv(a:List _×Int):=sp 16 [(0, .ah 9 a.1),(3, .int a.2)] []
theorem x37 κ l i I n K:(vc (Qr κ) 12 59 none 0 (ad (Pr κ).toProgram 59 2) (Pv (l,i)) (bj (Qr κ) 59 2 0 I n K))=(
 letI a:=i<(↑(l.length):Int)
 aq (decide a) (aV (decide ((0:Int)<=i)&&decide a) (aq (decide ((↑(ByteArray.size (toStr (nth l i.toNat))):Int)>(1000:Int))) (K Exit.ret (sp 16 [(2,
 AV.bool true)] [])) (∃(e0:Nat),e0<n/\I e0 (sp 16 [(0,AV.ah 9 l),(3,AV.int (IntKind.wrap IntKind.i64 (i+(1:Int))))] [])))) (K (Exit.exit 0) (sp 16
 [] []))):=by kernel_rfl
def IF(a:List AV×Int):=a.1.length<=aW/\0<=a.2/\a.2<=a.1.length
def Bl(a:List AV×Int):Out (Exit×S):= .aq (y6 (a.1.drop a.2.toNat)) (.one (.ret,sp 16 [(2, .bool true)] [])) (.one (.exit 0,sp 16 [] []))
theorem l37 κ:aU (Qr κ) 12 59 2 (aG 0 Pv IF Bl):=by
 refine aC (fun a=>a.1.length - a.2.toNat) ?_;rintro⟨l,i⟩ K ⟨c,f,g⟩ b;simp only at c f g;rw[show(Qr κ).P=Pr κ from rfl];refine Eq.mpr (x37 κ l i _ _ K) ?_;simp only[aW] at c;simp only[Bl,Out.run,ae] at b;simp only[ae,ai,ar4,ar6,ar5];refine⟨fun d=>⟨⟨f,d⟩,?_⟩,fun d=>?_⟩
 ·rw[as5 (show i.toNat<l.length by omega),←aM l i.toNat (by omega)] at b
  simp only[y6,List.any_cons] at b;refine⟨by grind,fun e=>?_⟩;rw[ar8 (show ¬ (1000:Int)<_ from e),Bool.false_or] at b;rw[az (n:=i+1) (by omega) (by omega)];refine⟨_,?_,(l,i+1),rfl,⟨by simpa[aW] using c,by simp only;omega,by simp only;omega⟩,rfl,?_⟩
  ·simp only;omega
  ·simp only[Bl,Out.run,ae,show(i+1).toNat=i.toNat+1 by omega]
   exact b
 ·rw[as2 (by omega)] at b
  exact b.2 rfl
noncomputable def LO κ:=(Qr κ).an 59 2 (aG 0 Pv IF Bl)
theorem aj3 κ:aE (LO κ):=(e38 _).an (m38 _) (l37 _)
theorem Zh κ:aj (LO κ):=(m38 _).an aJ
theorem y37 κ l K:(a0 (LO κ) 12 59 [.ah 9 l] [] K)=(
 letI a:=Pg.toProgram (Env.P (Qr κ))
 ad a 59 2=ad a 59 2/\∃(e0:List AV×Int),sp 16 [(0,AV.ah 9 l),(3,AV.int 0)] []=sp 16 [(0,AV.ah 9 e0.1),(3,AV.int e0.2)] []/\(e0.1.length<=
 9223372036854775807/\(0:Int)<=e0.2/\e0.2<=(↑(e0.1.length):Int))/\aq (y6 (List.drop e0.2.toNat e0.1)) (K (AV.bool true) []) (K (AV.bool false) [])):=by kernel_rfl
def g37:List AV->Option (Bool×AV)
 |[.ah 9 l]=>some (decide (l.length<=aW), .bool (y6 l))
 |_=>none
theorem p37 κ:cd (LO κ) 12 59 g37:=by
 intro b x a;unfold g37 at a;split at a
 ·rename_i l
  simp only[ar7,as3,ar4] at a;obtain⟨c,rfl⟩:=a;refine⟨_,rfl,rfl,?_⟩;refine Eq.mpr (y37 κ l _) ?_;refine⟨rfl,(l,0),rfl,⟨c,by simp only;omega,by simp only;omega⟩,?_⟩;rw[ae];simp
 ·cases a
noncomputable def Qq κ:=(LO κ).aK 59 g37
theorem e37 κ:aE (Qq κ):=(aj3 _).aK (Zh _) (p37 _)
theorem m37 κ:aj (Qq κ):=(Zh _).aK
structure Uq where
 ds:List AV
 rs:List AV
 left:Int
 i:Int
abbrev KC(a:Uq):AV:= .agg [.ah 43 a.ds, .ah 48 a.rs]
abbrev IZ a:=sp 62 [(1, .ptr 0 0 [] 0),(3, .int a.left),(4, .int a.i)] [.box 25 (KC a)]
theorem ap0 κ a I n K:(vc (Qq κ) 12 29 none 0 (ad (Pr κ).toProgram 29 3) (IZ a) (bj (Qq κ) 29 3 0 I n K))=(
 letI c:=K Exit.ret (sp 62 [(2,AV.int 0)] [])
 letI d:=AV.agg [AV.ah 43 a.ds,AV.ah 48 a.rs]
 letI b:=nth a.ds a.i.toNat
 letI e:=a.i<(↑(a.ds.length):Int)
 letI f:=decide ((0:Int)<=a.i)&&decide e
 aq (decide e) (aV f (aq (decide ((↑(ByteArray.size (toStr (ag b 0))):Int)>(1000:Int))) c (aV f (aV (decide (List.length (af (ag b 1))<=
 9223372036854775807)) (aq (y6 (af (ag b 1))) c (∃(e0:Nat),e0<n/\I e0 (sp 62 [(1,AV.ptr 0 0 [] 0),(3,AV.int a.left),(4,AV.int (IntKind.wrap
 IntKind.i64 (a.i+(1:Int))))] [Obj.box 25 d]))))))) (K (Exit.exit 0) (sp 62 [(1,AV.ptr 0 0 [] 0),(3,AV.int a.left)] [Obj.box 25 d]))):=by kernel_rfl
def Bz(a:Uq):=a.ds.length<=aW/\(∀d,d∈a.ds->(af (ag d 1)).length<=aW)/\0<=a.i/\a.i<=a.ds.length
def xk(a:Uq):Out (Exit×S):= .aq ((a.ds.drop a.i.toNat).any Jx) (.one (.ret,sp 62 [(2, .int 0)] [])) (.one (.exit 0,sp 62 [(1, .ptr 0 0 [] 0),(3, .int a.left)] [.box 25 (KC a)]))
theorem am1 κ:aU (Qq κ) 12 29 3 (aG 0 IZ Bz xk):=by
 refine aC (fun a=>a.ds.length - a.i.toNat) ?_;rintro⟨ds,f,b,i⟩ K ⟨j,d,l,q⟩ c;simp only at j d l q;rw[show(Qq κ).P=Pr κ from rfl];refine Eq.mpr (ap0 κ ⟨ds,f,b,i⟩ _ _ K) ?_;simp only[aW] at j;simp only[xk,Out.run,ae] at c;simp only[ae,ai,ar5,ar4,ar6];refine⟨fun k=>⟨⟨l,k⟩,?_⟩,fun k=>?_⟩
 ·have e:i.toNat<ds.length:=by omega
  have r:nth ds i.toNat∈ds:=by rw[aM ds _ e];exact List.getElem_mem _
  rw[as5 e,←aM ds i.toNat e] at c;simp only[List.any_cons,Jx] at c;have p:(∀h:((ds.drop (i.toNat+1)).any Jx=true->K .ret (sp 62 [(2, .int 0)] []))/\((ds.drop (i.toNat+1)).any Jx=false->K (.exit 0) (sp 62 [(1, .ptr 0 0 [] 0),(3, .int b)] [.box 25 (KC ⟨ds,f,b,i⟩)])),∃m,m<ds.length - i.toNat/\ep IZ Bz xk (fun a=>a.ds.length - a.i.toNat) K m (sp 62 [(1, .ptr 0 0 [] 0),(3, .int b),(4, .int (IntKind.wrap .i64 (i+1)))] [.box 25 (KC ⟨ds,f,b,i⟩)])):=by
   intro h;rw[az (n:=i+1) (by omega) (by omega)];refine⟨_,?_,⟨ds,f,b,i+1⟩,rfl,⟨by simpa[aW] using j,d,by simp only;omega,by simp only;omega⟩,rfl,?_⟩
   ·simp only;omega
   ·simp only[xk,Out.run,ae,show(i+1).toNat=i.toNat+1 by omega]
    exact h
  refine⟨fun o=>c.1 (by rw[as0 (show(1000:Int)<_ from o)];rfl),fun o=>⟨⟨l,k⟩,d _ r,fun g=>c.1 (by rw[g];simp),fun g=>p ?_⟩⟩;rw[ar8 (show ¬ (1000:Int)<_ from o),g] at c;exact c
 ·rw[as2 (by omega)] at c
  exact c.2 rfl
noncomputable def zW κ:=(Qq κ).an 29 3 (aG 0 IZ Bz xk)
theorem ai7 κ:aE (zW κ):=(e37 _).an (m37 _) (am1 _)
theorem Zc κ:aj (zW κ):=(m37 _).an aJ
abbrev Pu a:=sp 62 [(1, .ptr 0 0 [] 0),(3, .int a.left),(5, .int a.i)] [.box 25 (KC a)]
theorem ap1 κ a I n K:(vc (zW κ) 12 29 none 0 (ad (Pr κ).toProgram 29 8) (Pu a) (bj (zW κ) 29 8 0 I n K))=(
 letI c:=AV.agg [AV.ah 43 a.ds,AV.ah 48 a.rs]
 letI d:=K (Exit.exit 2) (sp 62 [(1,AV.ptr 0 0 [] 0),(3,AV.int a.left)] [Obj.box 25 c])
 letI b:=nth a.rs a.i.toNat
 letI e:=a.i<(↑(a.rs.length):Int)
 aq (decide e) (aq (decide (a.left>=(0:Int))) (aV (decide ((0:Int)<=a.i)&&decide e) (aV (decide ((0:Int)<=a.left)&&decide (a.left<=(100000:Int))) (∃(e0:Nat),e0<n/\I e0 (sp 62 [(1,AV.ptr 0 0 [] 0),(3,AV.lit (Value.int IntKind.i64 (nL {head:={rel:=toStr (ag (ag b 0) 0),l:=aa (af (ag (ag b 0) 1))},body:=dw (af (ag b 1))} a.left))),(5,AV.int (IntKind.wrap IntKind.i64 (a.i+(1:Int))))] [Obj.box 25 c])))) d) d):=by kernel_rfl
def ID(a:Uq):= -1<=a.left/\a.i+a.left<=100000/\0<=a.i/\a.i<=a.rs.length
def Bj(a:Uq):Out (Exit×S):= .one (.exit 2,sp 62 [(1, .ptr 0 0 [] 0),(3, .int (nK ((a.rs.drop a.i.toNat).map xK) a.left))] [.box 25 (KC a)])
theorem am2 κ:aU (zW κ) 12 29 8 (aG 0 Pu ID Bj):=by
 refine aC (fun a=>a.rs.length - a.i.toNat) ?_;rintro⟨ds,c,b,i⟩ K ⟨l,k,h,j⟩ d;simp only at l k h j;rw[show(zW κ).P=Pr κ from rfl];refine Eq.mpr (ap1 κ ⟨ds,c,b,i⟩ _ _ K) ?_;simp only[Bj,Out.run] at d;by_cases g:i<c.length
 ·have f:i.toNat<c.length:=by omega
  rw[as5 f,←aM c i.toNat f,at3,nK] at d;by_cases e:b>=0
  ·have m:=xU (xK (nth c i.toNat)) b e
   rw[as0 (show 0<=b from e),as1] at d;rw[as0 (show i<(c.length:Int) from g),as0 e,az (n:=i+1) (by omega) (by omega)];simp only[aq,ai,ar5,ar4];refine⟨⟨h,trivial⟩,⟨trivial,by omega⟩,_,?_,⟨ds,c,nL (xK (nth c i.toNat)) b,i+1⟩,rfl,⟨by simp only;omega,by simp only;omega,by simp only;omega,by simp only;omega⟩,rfl,?_⟩
   ·simp only;omega
   ·simp only[Bj,Out.run,show(i+1).toNat=i.toNat+1 by omega]
    exact d
  ·rw[ar8 (show ¬ 0<=b from e),ar9] at d
   rw[as0 (show i<(c.length:Int) from g),ar8 e];exact d
 ·rw[as2 (by omega)] at d
  rw[ar8 (show ¬ i<(c.length:Int) from g)];exact d
noncomputable def LJ κ:=(zW κ).an 29 8 (aG 0 Pu ID Bj)
theorem ai8 κ:aE (LJ κ):=(ai7 _).an (Zc _) (am2 _)
theorem Zd κ:aj (LJ κ):=(Zc _).an aJ
theorem y22 κ ds rs K:(a0 (LJ κ) 12 29 [.agg [.ah 43 ds, .ah 48 rs]] [] K)=(
 letI a:=AV.ptr 0 0 []
 letI b:=AV.int
 letI c:=AV.ah
 letI d:=K (b 0) []
 letI e:=Pg.toProgram (Env.P (Qq κ))
 letI f:=Pg.toProgram (Env.P (zW κ))
 ad e 29 3=ad e 29 3/\∃(e1:Uq),letI g:=[Obj.box 25 (AV.agg [c 43 e1.ds,c 48 e1.rs])];sp 62 [(1,a 0),(3,b 2000),(4,b 0)] [Obj.box 25 (AV.agg [c 43 ds,c 48 rs])]=sp 62 [(1,a 0),(3,b e1.left),(4,b e1.i)] g/\(e1.ds.length<=9223372036854775807/\(∀(e0:AV),List.Mem e0 e1.ds->List.length (af (ag e0 1))<=9223372036854775807)/\(0:Int)<=e1.i/\e1.i<=(↑(e1.ds.length):Int))/\aq (List.any (List.drop e1.i.toNat e1.ds) Jx) d (ad f 29 8=ad f 29 8/\∃(e0:Uq),sp 62 [(1,a 0),(3,b e1.left),(5,b 0)] g=sp 62 [(1,a 0),(3,b e0.left),(5,b e0.i)] [Obj.box 25 (AV.agg [c 43 e0.ds,c 48 e0.rs])]/\((-1:Int)<=e0.left/\e0.i+e0.left<=(100000:Int)/\(0:Int)<=e0.i/\e0.i<=(↑(e0.rs.length):Int))/\aq (decide (nK (List.map xK (List.drop e0.i.toNat e0.rs)) e0.left<(0:Int))) d (aq (decide ((↑(e0.ds.length):Int)>(100:Int))) d (aq (decide ((↑(e0.rs.length):Int)>(300:Int))) d (K (b 1) []))))):=by kernel_rfl
def g22:List AV->Option (Bool×AV)
 |[.agg [.ah 43 ds, .ah 48 a]]=>some (decide (ds.length<=aW)&&ds.all fun d=>decide ((af (ag d 1)).length<=aW), .int (bif nx ds a then 1 else 0))
 |_=>none
theorem p22 κ:cd (LJ κ) 12 29 g22:=by
 intro c x a;unfold g22 at a;split at a
 ·rename_i ds b
  simp only[ar7,as3,ar5,ar4,List.all_eq_true] at a;obtain⟨⟨f,d⟩,rfl⟩:=a;refine⟨_,rfl,rfl,?_⟩;refine Eq.mpr (y22 κ ds b _) ?_;refine⟨rfl,⟨ds,b,2000,0⟩,rfl,⟨f,d,by simp only;omega,by simp only;omega⟩,?_⟩;simp only[Int.toNat_zero,as4,ae];refine⟨fun e=>?_,fun e=>⟨trivial,⟨ds,b,2000,0⟩,rfl,⟨by simp only;omega,by simp only;omega,by simp only;omega,by simp only;omega⟩,?_⟩⟩
  ·unfold nx;rw[e];rfl
  ·simp only[Int.toNat_zero,as4,ar4,ar6]
   grind [nx,decide_eq_false,nK,xK,decide_eq_true]
 ·cases a
noncomputable def E22 κ:=(LJ κ).aK 29 g22
theorem e22 κ:aE (E22 κ):=(ai8 _).aK (Zd _) (p22 _)
theorem m22 κ:aj (E22 κ):=(Zd _).aK
end Go.Proofs.YtioeffnadipbaaaGreatDoor
namespace Go.Proofs.YtioeffnadipbaaaGreatDoor
open Go Go.Dn Go.Rl Go.Proofs
noncomputable abbrev E15(κ:Kp):Env:=E22 κ
theorem e15(κ:Kp):aE (E15 κ):=e22 κ
theorem m15(κ:Kp):aj (E15 κ):=m22 κ
theorem nY{b c}(h:b=c):AV.bool b= .lit (.bool c):=by grind
theorem Xq(a b:Int):(a==b)=decide (a=b):=rfl
theorem Mp(a b:Int):(a != b)= !decide (a=b):=rfl
structure AT where
 op:Int
 s:ByteArray
 n:Int
 l:List AV
def AT.tm(a:AT):Tm:= .mk a.op a.s a.n (aa a.l)
def eG(x:AV):AT:=⟨toInt (ag x 0),toStr (ag x 1),toInt (ag x 2),af (ag x 3)⟩
theorem iB x:(eG x).tm=cI x:=by rw[de];rfl
abbrev dn(a:AT):AV:= .agg [.int a.op, .lit (.string a.s), .int a.n, .ah 38 a.l]
theorem Lg{a}(h:dd a):(dg (aQ a)).length<=100000:=by
 have b:=cK (aa (bo 38 a.hl a.bl));rw[iO _ _ _ _] at b;have c:=kJ (fB (aQ a)) [];unfold dg;cases a8 _
 ·simp
 ·exact Nat.le_trans c (Nat.le_trans b h.1)
end Go.Proofs.YtioeffnadipbaaaGreatDoor
