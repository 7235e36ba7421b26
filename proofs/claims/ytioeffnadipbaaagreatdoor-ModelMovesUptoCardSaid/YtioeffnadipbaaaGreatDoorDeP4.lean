import Derived.Test.YtioeffnadipbaaaGreatDoorDeP3
import Derived.Test.YtioeffnadipbaaaGreatDoorDeP1
import Derived.Test.YtioeffnadipbaaaGreatDoorDeP2
namespace Go.Proofs.YtioeffnadipbaaaGreatDoor
open Go Go.Dn Go.Rl Go.Proofs
attribute [local irreducible] a9 vc
set_option maxRecDepth 20000
theorem x65 κ l s i I n K:(vc (Qs κ) 12 189 none 0 (ae (Pr κ).toProgram 189 2) (sp 19 [(0, .ah 9 l),(1, .lit (.string s)),(7, .int l.length),(8, .int i)] []) (bj (Qs κ) 189 2 0 I n K))=(
 letI a:=i<(↑(l.length):Int)
 ak (decide a) (aR (decide ((0:Int)<=i)&&decide a) (ak (ByteArray.toList s==ByteArray.toList (toStr (nth l i.toNat))) (K Exit.ret (sp 19 [(4,AV.int i)]
 [])) (∃(e0:Nat),e0<n/\I e0 (sp 19 [(0,AV.ah 9 l),(1,AV.str s),(7,AV.int (↑(l.length):Int)),(8,AV.int (IntKind.wrap IntKind.i64 (i+(1:
 Int))))] [])))) (K (Exit.exit 0) (sp 19 [] []))):=by kernel_rfl
abbrev aa8(a:List _×ByteArray×Int):=sp 19 [(0, .ah 9 a.1),(1, .lit (.string a.2.1)),(7, .int a.1.length),(8, .int a.2.2)] []
def OP(a:List AV×ByteArray×Int):=a.1.length<=aW/\0<=a.2.2/\a.2.2<=a.1.length
def IP(a:List AV×ByteArray×Int):Out (Exit×S):= .ak (decide (fM a.2.1 (a.1.drop a.2.2.toNat) a.2.2>=0)) (.one (.ret,sp 19 [(4, .int (fM a.2.1 (a.1.drop a.2.2.toNat) a.2.2))] [])) (.one (.exit 0,sp 19 [] []))
theorem l65 κ:aX (Qs κ) 12 189 2 (aG 0 aa8 OP IP):=by
 refine aD (fun a=>a.1.length - a.2.2.toNat) ?_;rintro⟨l,s,i⟩ K ⟨d,c,g⟩ b;simp only at d c g;rw[show(Qs κ).P=Pr κ from rfl];refine Eq.mpr (x65 κ l s i _ _ K) ?_;simp only[aW] at d;simp only[IP,Out.run,ad] at b;simp only[ad,ai,an9,ao1,ao0];refine⟨fun f=>⟨⟨c,f⟩,fun e=>?_,fun e=>?_⟩,fun f=>?_⟩
 ·rw[ap0 (show i.toNat<l.length by omega),←aV l i.toNat (by omega),fM,show o8 s (toStr (nth l i.toNat))=true from e,ao6,ao5 (show i>=0 from c)] at b
  exact b.1 rfl
 ·rw[az (n:=i+1) (by omega) (by omega)]
  refine⟨_,?_,(l,s,i+1),rfl,⟨by simpa[aW] using d,by simp only;omega,by simp only;omega⟩,rfl,?_⟩
  ·simp only;omega
  ·rw[ap0 (show i.toNat<l.length by omega),←aV l i.toNat (by omega),fM,show o8 s (toStr (nth l i.toNat))=false from e,ao4] at b
   simp only[IP,Out.run,ad,show(i+1).toNat=i.toNat+1 by omega];exact b
 ·rw[ao7 (by omega)] at b
  exact b.2 rfl
noncomputable def LG κ:=(Qs κ).aq 189 2 (aG 0 aa8 OP IP)
theorem ad9 κ:aE (LG κ):=(e39 _).aq (m39 _) (l65 _)
theorem Xk κ:aj (LG κ):=(m39 _).aq aI
theorem y65 κ l s K:(a9 (LG κ) 12 189 [.ah 9 l, .lit (.string s)] [] K)=(
 letI b:=AV.int
 ae (Pg.toProgram (Env.P (Qs κ))) 189 2=ae (Pg.toProgram (Env.P (Qs κ))) 189 2/\∃(a:List AV×ByteArray×Int),letI c:=List.drop (Int.toNat a.2.2) a.1;sp 19 [(0,AV.ah 9 l),(1,AV.str s),(7,b (↑(l.length):Int)),(8,b 0)] []=sp 19 [(0,AV.ah 9 a.1),(1,AV.str a.2.1),(7,b (↑(a.1.length):Int)),(8,b a.2.2)] []/\(a.1.length<=9223372036854775807/\(0:Int)<=a.2.2/\a.2.2<=(↑(a.1.length):Int))/\ak (decide (fM a.2.1 c a.2.2>=(0:Int))) (K (b (fM a.2.1 c a.2.2)) []) (K (b (-1)) [])):=by kernel_rfl
def g65:List AV->Option (Bool×AV)
 |[.ah 9 l, .lit (.string s)]=>some (decide (l.length<=aW), .int (fM s l 0))
 |_=>none
theorem vJ s: ∀l i,¬ fM s l i>=0->0<=i->fM s l i= -1
 |[],_,_,_=>rfl
 |a::l,i,h,b=>by
  simp only[fM] at h⊢;cases e:o8 s _ with
  |true=>grind
  |false=>rw[e] at h;exact vJ s l _ h (by omega)
theorem p65 κ:cg (LG κ) 12 189 g65:=by
 intro b x a;unfold g65 at a;split at a
 ·rename_i l s
  simp only[ao2,ao8,an9] at a;obtain⟨c,rfl⟩:=a;refine⟨_,rfl,rfl,?_⟩;refine Eq.mpr (y65 κ l s _) ?_;refine⟨rfl,(l,s,0),rfl,⟨c,by simp only;omega,by simp only;omega⟩,?_⟩
  simp_all[Int.toNat_zero,ao9,ad,an9,trivial,vJ]
 ·cases a
noncomputable def Y5 κ:=(LG κ).aK 189 g65
theorem e65 κ:aE (Y5 κ):=(ad9 _).aK (Xk _) (p65 _)
theorem m65 κ:aj (Y5 κ):=(Xk _).aK
theorem y63 κ l s K:(a9 (Y5 κ) 12 164 [.ah 9 l, .lit (.string s)] [] K)=(
 aR (decide (l.length<=9223372036854775807)) (K (AV.bool (decide (fM s l (0:Int)>=(0:Int)))) [])):=by kernel_rfl
def g63:List AV->Option (Bool×AV)
 |[.ah 9 l, .lit (.string s)]=>some (decide (l.length<=aW), .bool (decide (fM s l 0>=0)))
 |_=>none
theorem p63 κ:cg (Y5 κ) 12 164 g63:=by
 intro b x a;unfold g63 at a;split at a
 ·rename_i l s
  simp   at a;obtain⟨c,rfl⟩:=a;refine⟨_,rfl,rfl,?_⟩;refine Eq.mpr (y63 _ l s _) ?_;rw[ai,an9];exact⟨c,rfl⟩
 grind
noncomputable def ZX κ:=(Y5 κ).aK 164 g63
theorem e63 κ:aE (ZX κ):=(e65 _).aK (m65 _) (p63 _)
theorem m63 κ:aj (ZX κ):=(m65 _).aK
theorem y24 κ a k K:(a9 (ZX κ) 12 113 [au a, .int k] [] K)=(
 letI b:=AV.int
 letI c:=AV.agg
 letI d:=AV.str
 letI e:=AV.ah
 letI f:=nth a.bl k.toNat
 letI h:=∃(e1:List AV),letI g:=ax (aa e1);([e 38 [c [b (toInt (af (af f 2) 0)),d (toStr (af (af f 2) 1)),b (toInt (af (af f 2) 2)),e 38 (ag (af (af f 2) 3))]]],aL)=([e 38 e1],aL)/\bF e1/\∃(e0:dk×Int),letI i:=ep (aM e0.1) e0.2.toNat;([au a,b k],aL)=([au e0.1,b e0.2],aL)/\(ba (aM e0.1)=true/\(bk (aa (bo 38 e0.1.hl e0.1.bl))<=100000/\e0.1.bl.length<=100000)/\(0:Int)<=e0.2/\e0.2<(↑(e0.1.bl.length):Int))/\aR (decide ((List.length g+List.length (strs i)+1)*17<=70368744177664)) (K (e 9 (List.take (List.length g+List.length (strs i)) (List.drop 0 (List.take (List.length g) (strs g)++strs i)))) [])
 aR (decide ((0:Int)<=k)&&decide (k<(↑(a.bl.length):Int))) (ak (decide ((7:Int)<=toInt (af f 0))) ((h/\h)/\h) (∃(e0:LA),([c [b
 (toInt (af f 0)),c [d (toStr (af (af f 1) 0)),e 38 (ag (af (af f 1) 1))],c [b (toInt (af (af f 2) 0)),d (toStr (af (af f
 2) 1)),b (toInt (af (af f 2) 2)),e 38 (ag (af (af f 2) 3))],c [b (toInt (af (af f 3) 0)),d (toStr (af (af f 3) 1)),b
 (toInt (af (af f 3) 2)),e 38 (ag (af (af f 3) 3))]]],aL)=([c [b e0.op,c [d e0.s,e 38 e0.l],c [b e0.o1,d
 e0.s1,b e0.n1,e 38 e0.l1],c [b e0.o2,d e0.s2,b e0.n2,e 38 e0.l2]]],aL)/\gq e0/\K (e 9 (List.take (List.length (eu
 (LA.lt e0))) (List.drop 0 (strs (eu (LA.lt e0)))))) []))):=by kernel_rfl
def Th(a:dk×Int):Out (AV×List Dn.Obj):= .one (.ah 9 (strs (cI (aM a.1) a.2.toNat)),[])
theorem IX l:bk [l.x]<=jT l:=by
 grind [jT,bk]
theorem Is x:aa [pV 38 (af x 2)]=[(cZ x).x]:=by
 simp[aa,sd];rfl
theorem sE{a}(h:c9 a) k:(ep (aM a) k).length<=100000:=by
 have d:(fD (aM a)).length<=100000:=by
  have b:=cF (aa (bo 38 a.hl a.bl));rw[iJ _ _ _ _] at b;exact Nat.le_trans b h.1
 have c:=la (fD (aM a));refine Nat.le_trans (List.length_filter_le _ _) ?_
 grind [de]
theorem c24 κ:bg (ZX κ) 12 113 (aO Rs Aj Th):=by
 refine aU ?_;rintro⟨a,k⟩ K ⟨h,d,f,g⟩ l;refine Eq.mpr (y24 κ a k K) ?_;simp only at h d f g;have i:k.toNat<a.bl.length:=by omega
 have c:=lq d i;have n:=cF [(cZ (nth a.bl k.toNat)).x];have m:=IX (cZ (nth a.bl k.toNat));have b:K (.ah 9 (strs (cI (aM a) k.toNat))) []:=l;unfold cI at b;rw[show(aM a).body=dv a.bl from rfl,kH _ i,show(cZ (nth a.bl k.toNat)).op=toInt (af (nth a.bl k.toNat) 0) from rfl] at b;simp only[and_self];rw[ai,ao0,an9,an9,ad,an9,ao1];refine⟨⟨f,g⟩,fun e=>?_,fun e=>?_⟩
 ·rw[ao5 e] at b
  refine⟨[pV 38 (af (nth a.bl k.toNat) 2)],rfl,by simp only[bF,Is];omega,(a,k),rfl,⟨h,d,f,g⟩,?_⟩;have j:=sE d k.toNat;simp only[Is,bd,ao9,cM,ai,an9];refine⟨by omega,?_⟩;rw[←jr,List.take_of_length_le (by simp[bd])];exact b
 ·rw[ao3 e] at b
  refine⟨sR (nth a.bl k.toNat),rfl,by rw[gq,eF];exact c,?_⟩;simp only[eF,ao9,cM];exact b
noncomputable def Zz κ:=(ZX κ).aw 113 (aO Rs Aj Th)
theorem e24 κ:aE (Zz κ):=(e63 _).aw (m63 _) (c24 _)
theorem m24 κ:aj (Zz κ):=(m63 _).aw aH
theorem y52(κ:Kp)(a:dk)(k:Int) es K:(a9 (Zz κ) 12 191 [.mp 0,au a, .int k] [.map 9 4 es] K)=(
 letI b:=AV.int
 letI c:=AV.agg
 letI d:=AV.bool
 letI e:=AV.str
 letI f:=Dn.Obj.map
 letI g:=AV.ah
 letI h:=AV.mp
 letI i:=nth a.bl k.toNat
 letI t:=toStr (af (af i 3) 1)
 letI u:=ag (af (af i 1) 1)
 letI x:=toStr (af (af i 1) 0)
 letI y:=toInt (af (af i 2) 0)
 letI z:=toStr (af (af i 2) 1)
 letI l:=toInt (af (af i 2) 2)
 letI m:=toInt (af (af i 3) 0)
 letI n:=toInt (af (af i 3) 2)
 letI o:=ag (af (af i 2) 3)
 letI p:=ag (af (af i 3) 3)
 letI j:=Value×AV
 letI v:=∃(e3:dk×Int),([au a,b k],aL)=([au e3.1,b e3.2],aL)/\(ba (aM e3.1)=true/\(bk (aa (bo 38 e3.1.hl e3.1.bl))<=100000/\e3.1.bl.length<=100000)/\(0:Int)<=e3.2/\e3.2<(↑(e3.1.bl.length):Int))/\∃(e2:List AV×List j),letI q:=[f 9 4 e2.2];([h 0,g 9 (strs (ep (aM e3.1) e3.2.toNat))],[f 9 4 es])=([h 0,g 9 e2.1],q)/\bq e2/\ak (gg e2.2 e2.1) (∃(e1:ByteArray×List AV),([c [e x,g 38 u]],aL)=([c [e e1.1,g 38 e1.2]],aL)/\j6 e1/\∃(e0:List AV×List j),([h 0,g 9 (List.take (List.length (dO (aa e1.2))) (List.drop 0 (strs (dO (aa e1.2)))))],q)=([h 0,g 9 e0.1],[f 9 4 e0.2])/\bq e0/\K (d (gg e0.2 e0.1)) [f 9 4 e0.2]) (K (d false) q)
 letI A:=∃(e1:LA),([c [b (toInt (af i 0)),c [e x,g 38 u],c [b y,e z,b l,g 38 o],c
  [b m,e t,b n,g 38 p]]],aL)=([c [b e1.op,c [e e1.s,g 38 e1.l],c [b e1.o1,e e1.s1,
  b e1.n1,g 38 e1.l1],c [b e1.o2,e e1.s2,b e1.n2,g 38 e1.l2]]],aL)/\gq e1/\∃(e0:List AV×List j),([h 0,g
  9 (List.take (List.length (eu (LA.lt e1))) (List.drop 0 (strs (eu (LA.lt e1)))))],[f 9 4 es])=([h 0,g 9 e0.1],[f 9 4 e0.2])/\bq
  e0/\K (d (gg e0.2 e0.1)) [f 9 4 e0.2]
 letI B:=∃(e4:List AV),letI w:=List.take (List.length (ax (aa e4))) (List.drop 0 (strs (ax (aa e4))));([g 38 u],aL)=([g 38 e4],aL)/\bF e4/\aR (decide (List.length w<=9223372036854775807)) (ak (decide (fM t w (0:Int)>=(0:Int))) v (K (d false) [f 9 4 es]))
 aR (decide ((0:Int)<=k)&&decide (k<(↑(a.bl.length):Int))) (ak (toInt (af i 0)==(1:Int)) (∃(e1:ByteArray×List AV),([c [e x,g 38 u]],aL)=([c [e e1.1,g 38 e1.2]],aL)/\j6 e1/\∃(e0:List AV×List j),([h 0,g 9 (List.take (List.length (dO (aa e1.2))) (List.drop 0 (strs (dO (aa e1.2)))))],[f 9 4 es])=([h 0,g 9 e0.1],[f 9 4 e0.2])/\bq e0/\K (d (gg e0.2 e0.1)) [f 9 4 e0.2]) (ak (toInt (af i 0)==(3:Int)) (∃(e3:TA),letI r:=[f 9 4 e3.es];([h 0,c [b y,e z,b l,g 38 o],c [b m,e t,b n,g 38 p]],[f 9 4 es])=([h 0,c [b e3.o1,e e3.s1,b e3.n1,g 38 e3.l1],c [b e3.o2,e e3.s2,b e3.n2,g 38 e3.l2]],r)/\jd e3/\ak (mh e3.es (TA.x e3) (TA.y e3)) (K (d true) r) (∃(e2:TA),letI s:=[f 9 4 e2.es];([h 0,c [b m,e t,b n,g 38 p],c [b y,e z,b l,g 38 o]],r)=([h 0,c [b e2.o1,e e2.s1,b e2.n1,g 38 e2.l1],c [b e2.o2,e e2.s2,b e2.n2,g 38 e2.l2]],s)/\jd e2/\ak (mh e2.es (TA.x e2) (TA.y e2)) (K (d true) s) (∃(e1:LA),([c [b (toInt (af i 0)),c [e x,g 38 u],c [b y,e z,b l,g 38 o],c [b m,e t,b n,g 38 p]]],aL)=([c [b e1.op,c [e e1.s,g 38 e1.l],c [b e1.o1,e e1.s1,b e1.n1,g 38 e1.l1],c [b e1.o2,e e1.s2,b e1.n2,g 38 e1.l2]]],aL)/\gq e1/\∃(e0:List AV×List j),([h 0,g 9 (List.take (List.length (eu (LA.lt e1))) (List.drop 0 (strs (eu (LA.lt e1)))))],s)=([h 0,g 9 e0.1],[f 9 4 e0.2])/\bq e0/\K (d (gg e0.2 e0.1)) [f 9 4 e0.2]))) (ak (toInt (af i 0)==(2:Int)) A (ak (toInt (af i 0)==(4:Int)) A (ak (toInt (af i 0)==(5:Int)) A (ak (toInt (af i 0)==(6:Int)) A (ak (toInt (af i 0)==(7:Int)) (v/\v/\v/\v) (B/\B/\B/\B))))))))):=by kernel_rfl
def XQ(a:dk×Int×List ByteArray):List AV×List Dn.Obj:=([.mp 0,au a.1, .int a.2.1],[.map 9 4 (bR a.2.2)])
def LL(a:dk×Int×List ByteArray):=ba (aM a.1)=true/\c9 a.1/\0<=a.2.1/\a.2.1<a.1.bl.length
def S7(a:dk×Int×List ByteArray):Out (AV×List Dn.Obj):= .one (.bool (oQ a.2.2 (aM a.1) a.2.1.toNat),[.map 9 4 (bR a.2.2)])
theorem Cc x y a:(TA.mk (toInt (af x 0)) (toStr (af x 1)) (toInt (af x 2)) (ag (af x 3)) (toInt (af y 0)) (toStr (af y 1)) (toInt (af y 2)) (ag (af y 3)) a).x=cH x:=by rw[dc];rfl
theorem oz x y a:(TA.mk (toInt (af x 0)) (toStr (af x 1)) (toInt (af x 2)) (ag (af x 3)) (toInt (af y 0)) (toStr (af y 1)) (toInt (af y 2)) (ag (af y 3)) a).y=cH y:=by rw[dc];rfl
def mb x y a:=TA.mk (toInt (af x 0)) (toStr (af x 1)) (toInt (af x 2)) (ag (af x 3)) (toInt (af y 0)) (toStr (af y 1)) (toInt (af y 2)) (ag (af y 3)) a
theorem c52 κ:bg (Zz κ) 12 191 (aO XQ LL S7):=by
 refine aU ?_;rintro⟨a,k,b⟩ K ⟨r,h,i,n⟩ B;refine Eq.mpr (y52 κ a k (bR b) K) ?_;simp only at r h i n;have A:k.toNat<a.bl.length:=by omega
 have d:=lq h A;have c:K (.bool (oQ b (aM a) k.toNat)) [.map 9 4 (bR b)]:=B;unfold oQ at c;rw[show(aM a).body=dv a.bl from rfl,kH _ A,show(cZ (nth a.bl k.toNat)).op=toInt (af (nth a.bl k.toNat) 0) from rfl,show(cZ (nth a.bl k.toNat)).a.l=aa (ag (af (af (nth a.bl k.toNat) 1) 1)) from rfl,
  show(cZ (nth a.bl k.toNat)).x=cH (af (nth a.bl k.toNat) 2) from rfl,show(cZ (nth a.bl k.toNat)).y=cH (af (nth a.bl k.toNat) 3) from rfl] at c
 have t:jT (cZ (nth a.bl k.toNat))=bk [cH (af (nth a.bl k.toNat) 2),cH (af (nth a.bl k.toNat) 3)]+bk (aa (ag (af (af (nth a.bl k.toNat) 1) 1))):=rfl;have f:bk (aa (ag (af (af (nth a.bl k.toNat) 1) 1)))<=100000:=by omega
 have g:bk [cH (af (nth a.bl k.toNat) 2)]<=100000/\bk [cH (af (nth a.bl k.toNat) 3)]<=100000:=by
  simp only[bk] at t⊢;omega
 have F:=cF (aa (ag (af (af (nth a.bl k.toNat) 1) 1)));have C:=DG (aa (ag (af (af (nth a.bl k.toNat) 1) 1)));have D:=sE h k.toNat;have E:(eu (cZ (nth a.bl k.toNat))).length<=100000:=by
  have m:=cF [(cZ (nth a.bl k.toNat)).x,(cZ (nth a.bl k.toNat)).y];have j:=cF (cZ (nth a.bl k.toNat)).a.l;simp only[eu,jT,ap4] at d⊢;omega
 simp only[and_self];rw[ai,ao0,an9,an9];refine⟨⟨i,n⟩,?_⟩;rw[ad,beq_iff_eq,beq_eq_false_iff_ne];refine⟨fun m=>?_,fun m=>?_⟩
 ·rw[ao5 m,ao6] at c
  refine⟨(toStr (af (af (nth a.bl k.toNat) 1) 0),ag (af (af (nth a.bl k.toNat) 1) 1)),rfl,f,(strs (dO (aa (ag (af (af (nth a.bl k.toNat) 1) 1)))),bR b),by simp only[ao9,cM],by simp only[bq,bd,aW];omega,?_⟩;simp only[fp];exact c
 rw[ao3 m,ao4] at c;rw[ad,beq_iff_eq,beq_eq_false_iff_ne];refine⟨fun j=>?_,fun j=>?_⟩
 ·rw[ao5 j,ao6] at c
  refine⟨mb (af (nth a.bl k.toNat) 2) (af (nth a.bl k.toNat) 3) (bR b),rfl,by unfold jd mb;rw[oz];exact g.2,?_⟩;unfold mb;rw[Cc,oz,pE];rw[ad];refine⟨fun e=>by rw[e] at c;exact c,fun e=>?_⟩;rw[e,Bool.false_or] at c;refine⟨mb (af (nth a.bl k.toNat) 3) (af (nth a.bl k.toNat) 2) (bR b),rfl,by unfold jd mb;rw[oz];exact g.1,?_⟩;unfold mb;rw[Cc,oz,pE,ad];refine⟨fun p=>by rw[p] at c;exact c,fun p=>?_⟩;rw[p,Bool.false_or] at c;exact⟨sR (nth a.bl k.toNat),rfl,by rw[gq,eF];exact d,(strs (eu (sR (nth a.bl k.toNat)).lt),bR b),by simp only[ao9,cM],by simp only[bq,bd,aW];rw[eF];omega,by simp only[fp,eF];exact c⟩
 rw[ao3 j,ao4] at c;rw[ad,beq_iff_eq,beq_eq_false_iff_ne];refine⟨fun u=>?_,fun u=>?_⟩
 ·rw[ao5 u] at c
  simp only[Bool.true_or,Bool.or_true,ao6] at c;exact⟨sR (nth a.bl k.toNat),rfl,by rw[gq,eF];exact d,(strs (eu (sR (nth a.bl k.toNat)).lt),bR b),by simp only[ao9,cM],by simp only[bq,bd,aW];rw[eF];omega,by simp only[fp,eF];exact c⟩
 rw[ad,beq_iff_eq,beq_eq_false_iff_ne];refine⟨fun q=>?_,fun q=>?_⟩
 ·rw[ao5 q] at c
  simp only[Bool.true_or,Bool.or_true,ao6] at c;exact⟨sR (nth a.bl k.toNat),rfl,by rw[gq,eF];exact d,(strs (eu (sR (nth a.bl k.toNat)).lt),bR b),by simp only[ao9,cM],by simp only[bq,bd,aW];rw[eF];omega,by simp only[fp,eF];exact c⟩
 rw[ad,beq_iff_eq,beq_eq_false_iff_ne];refine⟨fun w=>?_,fun w=>?_⟩
 ·rw[ao5 w] at c
  simp only[Bool.true_or,Bool.or_true,ao6] at c;exact⟨sR (nth a.bl k.toNat),rfl,by rw[gq,eF];exact d,(strs (eu (sR (nth a.bl k.toNat)).lt),bR b),by simp only[ao9,cM],by simp only[bq,bd,aW];rw[eF];omega,by simp only[fp,eF];exact c⟩
 rw[ad,beq_iff_eq,beq_eq_false_iff_ne];refine⟨fun v=>?_,fun v=>?_⟩
 ·rw[ao5 v] at c
  simp only[Bool.true_or,Bool.or_true,ao6] at c;exact⟨sR (nth a.bl k.toNat),rfl,by rw[gq,eF];exact d,(strs (eu (sR (nth a.bl k.toNat)).lt),bR b),by simp only[ao9,cM],by simp only[bq,bd,aW];rw[eF];omega,by simp only[fp,eF];exact c⟩
 rw[ao3 u,ao3 q,ao3 w,ao3 v] at c;simp only[Bool.false_or,ao4] at c;rw[ad,beq_iff_eq,beq_eq_false_iff_ne];refine⟨fun z=>?_,fun z=>?_⟩
 ·rw[ao5 z,Bool.true_or,ap5] at c
  refine⟨(a,k),rfl,⟨r,h,i,n⟩,(strs (ep (aM a) k.toNat),bR b),rfl,by simp only[bq,bd,aW];omega,ad.2 ⟨fun e=>⟨(toStr (af (af (nth a.bl k.toNat) 1) 0),ag (af (af (nth a.bl k.toNat) 1) 1)),rfl,f,(strs (dO (aa (ag (af (af (nth a.bl k.toNat) 1) 1)))),bR b),by simp only[ao9,cM],by simp only[bq,bd,aW];omega,?_⟩,fun e=>?_⟩⟩
  ·rw[fp] at e
   simp only[fp];rw[e,ap5] at c;exact c
  ·rw[fp] at e
   rw[e,Bool.false_and] at c;exact c
 ·rw[ao3 z,Bool.false_or] at c
  refine⟨_,rfl,f,?_⟩;have H:=zY (toStr (af (af (nth a.bl k.toNat) 3) 1)) (ax (aa (ag (af (af (nth a.bl k.toNat) 1) 1)))) 0 (by omega);have I:(cH (af (nth a.bl k.toNat) 3)).s=toStr (af (af (nth a.bl k.toNat) 3) 1):=by rw[dc];rfl
  simp only[ao9,cM,bd,H];rw[ai,an9,ad];rw[I] at c;refine⟨by omega,fun o=>?_,fun o=>?_⟩
  ·rw[o,ap5] at c
   refine⟨(a,k),rfl,⟨r,h,i,n⟩,(strs (ep (aM a) k.toNat),bR b),rfl,by simp only[bq,bd,aW];omega,ad.2 ⟨fun e=>⟨(toStr (af (af (nth a.bl k.toNat) 1) 0),ag (af (af (nth a.bl k.toNat) 1) 1)),rfl,f,(strs (dO (aa (ag (af (af (nth a.bl k.toNat) 1) 1)))),bR b),by simp only[ao9,cM],by simp only[bq,bd,aW];omega,?_⟩,fun e=>?_⟩⟩
   ·rw[fp] at e
    simp only[fp];rw[e,ap5] at c;exact c
   ·rw[fp] at e
    rw[e,Bool.false_and] at c;exact c
  ·rw[o,Bool.false_and] at c;exact c
noncomputable def SG κ:=(Zz κ).aw 191 (aO XQ LL S7)
theorem e52 κ:aE (SG κ):=(e24 _).aw (m24 _) (c52 _)
theorem m52 κ:aj (SG κ):=(m24 _).aw aH
def b9(l:List Bool):List AV:=l.map fun b=> .lit (.bool b)
theorem jF l:(b9 l).length=l.length:=by simp[b9]
theorem J7 l k:Dn.toBool (nth (b9 l) k)=Rl.fx l k:=by
 unfold Rl.fx;induction l generalizing k with
 |nil=>rfl
 |cons a l b=>
  cases k with
  |zero=>rfl
  |succ k=>grind [b9,nth]
structure Lm where
 a:dk
 done:List Bool
 b:List ByteArray
 i:Int
 first:Int
abbrev Jb(a:Lm):=sp 38 [(1, .an 0 0 (b9 a.done).length),(2, .mp 1),(3, .ptr 2 0 [] 0),(7, .int a.first),(11, .ah 80 a.a.bl),(12, .int a.a.bl.length),(13, .int a.i)] [.row 4 (b9 a.done), .map 9 4 (bR a.b), .box 48 (au a.a)]
theorem x36(κ:Kp)(a:Lm) es I n K:(vc (SG κ) 12 170 none 2 (ae (Pr κ).toProgram 170 3) (sp 38 [(1, .an 0 0 (b9 a.done).length),(2, .mp 1),(3, .ptr 2 0 [] 0),(7, .int a.first),(11, .ah 80 a.a.bl),(12, .int a.a.bl.length),(13, .int a.i)] [.row 4 (b9 a.done), .map 9 4 es, .box 48 (au a.a)]) (bj (SG κ) 170 3 2 I n K))=(
 letI b:=AV.int
 letI c:=Obj.row
 letI d:=Dn.Obj.map
 letI g:=IntKind.wrap IntKind.i64 (a.i+(1:Int))
 letI f:=List.length (b9 a.done)
 letI e:=List.length a.a.bl
 ak (decide (a.i<(↑e:Int))) (aR (decide ((0:Int)<=a.i)&&decide (a.i<(↑e:Int))) (aR (decide ((0:Int)<=a.i)&&decide (a.i<(↑f:Int))) (ak (Dn.toBool (nth (b9 a.done) (0+a.i.toNat))) (∃(e0:Nat),e0<n/\I e0 (sp 38 [(1,AV.an 0 0 f),(2,AV.mp 1),(3,AV.ptr 2 0 [] 0),(7,b a.first),(11,AV.ah 80 a.a.bl),(12,b (↑e:Int)),(13,b g)] [c 4 (b9 a.done),d 9 4 es,Obj.box 48 (au a.a)])) (∃(e1:dk×Int×List ByteArray),letI h:=[c 4 (b9 a.done),d 9 4 (bR e1.2.2),Obj.box 48 (au a.a)];letI i:=∃(e0:Nat),e0<n/\I e0 (sp 38 [(1,AV.an 0 0 f),(2,AV.mp 1),(3,AV.ptr 2 0 [] 0),(7,b a.first),(11,AV.ah 80 a.a.bl),(12,b (↑e:Int)),(13,b g)] h);([AV.mp 0,au a.a,b a.i],[d 9 4 es])=([AV.mp 0,au e1.1,b e1.2.1],[d 9 4 (bR e1.2.2)])/\(ba (aM e1.1)=true/\(bk (aa (bo 38 e1.1.hl e1.1.bl))<=100000/\e1.1.bl.length<=100000)/\(0:Int)<=e1.2.1/\e1.2.1<(↑(e1.1.bl.length):Int))/\ak (!oQ e1.2.2 (aM e1.1) e1.2.1.toNat) i (ak (toInt (af (nth a.a.bl a.i.toNat) 0) != (1:Int)) (K Exit.ret (sp 38 [(6,b a.i)] [c 4 (b9 a.done),d 9 4 (bR e1.2.2)])) (ak (decide (a.first<(0:Int))) (∃(e0:Nat),e0<n/\I e0 (sp 38 [(1,AV.an 0 0 f),(2,AV.mp 1),(3,AV.ptr 2 0 [] 0),(7,b a.i),(11,AV.ah 80 a.a.bl),(12,b (↑e:Int)),(13,b g)] h)) i)))))) (K (Exit.exit 0) (sp 38 [(7,b a.first)] [c 4 (b9 a.done),d 9 4 es]))):=by kernel_rfl
def Ar(a:Lm):=ba (aM a.a)=true/\c9 a.a/\0<=a.i/\a.i<=a.a.bl.length/\a.done.length=a.a.bl.length
def zO(a:Lm):=mx (aM a.a) a.done a.b (a.a.bl.length - a.i.toNat) a.i.toNat a.first
def GG(a:Lm):Out (Exit×S):= .all (fun _=>True) fun e=> .ak e (.one (.ret,sp 38 [(6, .int (zO a))] [.row 4 (b9 a.done), .map 9 4 (bR a.b)])) (.one (.exit 0,sp 38 [(7, .int (zO a))] [.row 4 (b9 a.done), .map 9 4 (bR a.b)]))
theorem l36 κ:aX (SG κ) 12 170 3 (aG 2 Jb Ar GG):=by
 refine aD (fun a=>a.a.bl.length - a.i.toNat) ?_;rintro⟨a,done,b,i,c⟩ K ⟨p,j,l,v,r⟩ q;simp only at p j l v r;rw[show(SG κ).P=Pr κ from rfl];refine Eq.mpr (x36 κ ⟨a,done,b,i,c⟩ (bR b) _ _ K) ?_;have g:=q true trivial;have d:=q false trivial;simp only[Out.run,ak,zO] at g d;simp only[Nat.zero_add,J7];have s:=jF done;have x:=j.2;rw[ad,ai,ai,ao0,ao0,an9,an9,an9,ao1];have w:i<a.bl.length->∀f:Int,mx (aM a) done b (a.bl.length - i.toNat) i.toNat c=mx (aM a) done b (a.bl.length - (i.toNat+1)) (i.toNat+1) f->
   ∃m,m<a.bl.length - i.toNat/\et Jb Ar GG (fun a=>a.a.bl.length - a.i.toNat) K m (Jb ⟨a,done,b,i+1,f⟩):=by
  intro h f t;refine⟨_,?_,⟨a,done,b,i+1,f⟩,rfl,⟨p,j,by simp only;omega,by simp only;omega,r⟩,rfl,?_⟩
  ·simp only;omega
  ·intro e _
   simp only[Out.run,zO,show(i+1).toNat=i.toNat+1 by omega,←t];cases e
   ·exact d
   ·exact g
 refine⟨fun h=>⟨⟨l,h⟩,⟨l,by omega⟩,?_⟩,fun h=>?_⟩
 ·have k:=EK (aM a) done b (a.bl.length - (i.toNat+1)) i.toNat c
  rw[show a.bl.length - (i.toNat+1)+1=a.bl.length - i.toNat by omega] at k;have u:i.toNat<a.bl.length:=by omega
  have o:(dX (aM a).body i.toNat).op=toInt (af (nth a.bl i.toNat) 0):=by
   rw[show(aM a).body=dv a.bl from rfl,kH _ u];rfl
  rw[o] at k;rw[az (n:=i+1) (by omega) (by omega),ad];refine⟨fun e=>w h c (by rw[k,e];rfl),fun e=>⟨(a,i,b),rfl,⟨p,j,l,h⟩,?_⟩⟩;rw[e,Bool.false_or] at k;simp only[ad,Bool.not_eq_true',ap1,bne_iff_ne,bne_eq_false_iff_eq,an9,ao1]
  grind
 ·rw[show a.bl.length - i.toNat=0 by omega] at d
  exact d
noncomputable def MH κ:=(SG κ).aq 170 3 (aG 2 Jb Ar GG)
theorem am0 κ:aE (MH κ):=(e52 _).aq (m52 _) (l36 _)
theorem Zc κ:aj (MH κ):=(m52 _).aq aI
theorem y36 κ(a:Lm) K:(a9 (MH κ) 12 170 [au a.a, .an 0 0 (b9 a.done).length, .mp 1] [.row 4 (b9 a.done), .map 9 4 (bR a.b)] K)=(
 letI b:=AV.int
 letI c:=Dn.Obj.map
 letI d:=Pg.toProgram (Env.P (SG κ))
 ae d 170 3=ae d 170 3/\∃(e1:Lm),letI e:=K (b (zO e1)) [Obj.row 4 (b9 e1.done),c 9 4 (bR e1.b)];sp 38 [(1,AV.an 0 0 (List.length (b9 a.done))),(2,AV.mp 1),(3,AV.ptr 2 0 [] 0),(7,b (-1)),(11,AV.ah 80 a.a.bl),(12,b (↑(List.length a.a.bl):Int)),(13,b 0)] [Obj.row 4 (b9 a.done),c 9 4 (bR a.b),Obj.box 48 (au a.a)]=sp 38 [(1,AV.an 0 0 (List.length (b9 e1.done))),(2,AV.mp 1),(3,AV.ptr 2 0 [] 0),(7,b e1.first),(11,AV.ah 80 e1.a.bl),(12,b (↑(List.length e1.a.bl):Int)),(13,b e1.i)] [Obj.row 4 (b9 e1.done),c 9 4 (bR e1.b),Obj.box 48 (au e1.a)]/\(ba (aM e1.a)=true/\(bk (aa (bo 38 e1.a.hl e1.a.bl))<=100000/\List.length e1.a.bl<=100000)/\(0:Int)<=e1.i/\e1.i<=(↑(List.length e1.a.bl):Int)/\e1.done.length=List.length e1.a.bl)/\∀(e0:Bool),True->ak e0 e e):=by kernel_rfl
def ZM(a:Lm):List AV×List Dn.Obj:=([au a.a, .an 0 0 (b9 a.done).length, .mp 1],[.row 4 (b9 a.done), .map 9 4 (bR a.b)])
def PZ(a:Lm):=ba (aM a.a)=true/\c9 a.a/\a.done.length=a.a.bl.length
def TZ(a:Lm):Out (AV×List Dn.Obj):= .one (.int (aF (aM a.a) a.done a.b),[.row 4 (b9 a.done), .map 9 4 (bR a.b)])
theorem fY a:(aM a).body.length=a.bl.length:=AE _
theorem c36 κ:bg (MH κ) 12 170 (aO ZM PZ TZ):=by
 refine aU ?_;rintro⟨a,done,b,i,d⟩ K ⟨f,g,h⟩ j;refine Eq.mpr (y36 κ _ K) ?_;have c:K _ _:=j;unfold aF at c;rw[fY] at c;refine⟨rfl,⟨a,done,b,0, -1⟩,rfl,⟨f,g,by simp only;omega,by simp only;omega,h⟩,?_⟩;intro e _;cases e
 ·exact c
 ·exact c
noncomputable def Sl κ:=(MH κ).aw 170 (aO ZM PZ TZ)
theorem e36 κ:aE (Sl κ):=(am0 _).aw (Zc _) (c36 _)
theorem m36 κ:aj (Sl κ):=(Zc _).aw aH
def ints(l:List _):=l.map fun(k:Nat)=>AV.lit (.int .i64 k)
theorem r7 l:(ints l).length=l.length:=by simp[ints]
theorem Nj l m:ints (l++m)=ints l++ints m:=by simp[ints]
structure Za where
 a:dk
 ks:List Nat
 done:List Bool
 b:List ByteArray
 i:Int
noncomputable abbrev ZI(a:dk)(κ:Kp):Dn.Obj:=
 .loop (iM (Pr κ).toProgram 107 4 .ready none (ic (bM 40) [(0,au a),(1, .ptr 0 0 [] 0),(2, .nil),(3, .lit .nilIface),(4, .ptr 1 0 [] 0),(5, .ptr 3 0 [] 0),(7, .mp 2),(8,au a),(9, .bn 169 [.ptr 4 0 [] 0])]))
noncomputable abbrev Hd κ a c b:=[.box 48 (au a), .box 35 (.an 6 0 (ints c).length), .map 9 4 (bR b), .box 178 (.mp 2), .box 48 (au a),ZI a κ, .row 3 (ints c)]
noncomputable abbrev LZ κ(a:Za):=sp 38 [(0, .cf 5),(1, .ptr 4 0 [] 0),(3, .mp 7),(4, .an 8 0 (b9 a.done).length),(13, .int a.a.bl.length),(14, .int a.i)] (Hd κ a.a a.ks a.b++[.map 9 4 (bR a.b), .row 4 (b9 a.done)])
theorem x17(κ:Kp)(a:dk) ks es es' done i I n K:(vc (Sl κ) 12 169 none 6 (ae (Pr κ).toProgram 169 3) (sp 38 [(0, .cf 5),(1, .ptr 4 0 [] 0),(3, .mp 7),(4, .an 8 0 done.length),(13, .int a.bl.length),(14, .int i)] [.box 48 (au a), .box 35 (.an 6 0 ks.length), .map 9 4 es, .box 178 (.mp 2), .box 48 (au a),ZI a κ, .row 3 ks, .map 9 4 es', .row 4 done]) (bj (Sl κ) 169 3 6 I n K))=(
 letI b:=AV.int
 letI c:=AV.ptr
 letI d:=Obj.box
 letI e:=Obj.row
 letI f:=Dn.Obj.map
 letI g:=AV.ah
 letI h:=AV.an
 letI j:=AV.mp
 letI o:=iM Tryz.prog 107 4 LoopState.ready none (ic (bM 40) [(0,au a),(1,c 0 0 [] 0),(2,AV.nil),(3,AV.lit Value.nilIface),(4,c 1 0 [] 0),
  (5,c 3 0 [] 0),(7,j 2),(8,au a),(9,AV.bn 169 [c 4 0 [] 0])])
 letI p:=sp 38 [] [d 48 (au a),d 35 (h 6 0 ks.length),f 9 4 es,d 178 (j 2),d 48 (au a),Dn.Obj.loop o,e 3
  ks]
 letI q:=IntKind.wrap IntKind.i64 (i+(1:Int))
 letI m:=Value×AV
 letI r:=h 6 0 (ks.length+1)
 ak (decide (i<(↑(a.bl.length):Int))) (∃(e5:Lm),letI k:=aF (aM e5.a) e5.done e5.b;letI s:=decide ((0:Int)<=aF (aM e5.a) e5.done e5.b)&&decide (aF (aM e5.a) e5.done e5.b<(↑(done.length):Int));letI t:=bt (b9 e5.done) (0+Int.toNat k) (AV.bool true);letI u:=List.take ks.length ks++[b k];letI l:=[f 9 4 (bR e5.b)];([au a,h 0 0 done.length,j 1],[e 4 done,f 9 4 es'])=([au e5.a,h 0 0 (List.length (b9 e5.done)),j 1],[e 4 (b9 e5.done),f 9 4 (bR e5.b)])/\(ba (aM e5.a)=true/\(bk (aa (bo 38 e5.a.hl e5.a.bl))<=100000/\List.length e5.a.bl<=100000)/\e5.done.length=List.length e5.a.bl)/\ak (decide (aF (aM e5.a) e5.done e5.b<(0:Int))) (K Exit.ret p) (aR (decide ((ks.length+1+1)*9<=70368744177664)) ((∃(e4:dk×Int),([au a,b k],aL)=([au e4.1,b e4.2],aL)/\(ba (aM e4.1)=true/\(bk (aa (bo 38 e4.1.hl e4.1.bl))<=100000/\e4.1.bl.length<=100000)/\(0:Int)<=e4.2/\e4.2<(↑(e4.1.bl.length):Int))/\∃(e3:List AV×List m),([j 0,g 9 (strs (cI (aM e4.1) e4.2.toNat))],[f 9 4 es])=([j 0,g 9 e3.1],[f 9 4 e3.2])/\bq e3/\aR s (∃(e2:dk×Int),([au a,b k],aL)=([au e2.1,b e2.2],aL)/\(ba (aM e2.1)=true/\(bk (aa (bo 38 e2.1.hl e2.1.bl))<=100000/\e2.1.bl.length<=100000)/\(0:Int)<=e2.2/\e2.2<(↑(e2.1.bl.length):Int))/\∃(e1:List AV×List m),([j 0,g 9 (strs (cI (aM e2.1) e2.2.toNat))],l)=([j 0,g 9 e1.1],[f 9 4 e1.2])/\bq e1/\∃(e0:Nat),e0<n/\I e0 (sp 38 [(0,AV.cf 5),(1,c 4 0 [] 0),(3,j 7),(4,h 8 0 done.length),(13,b (↑(a.bl.length):Int)),(14,b q)] [d 48 (au a),d 35 r,f 9 4 (fF e3.2 e3.1),d 178 (j 2),d 48 (au a),Dn.Obj.loop o,e 3 u,f 9 4 (fF e1.2 e1.1),e 4 t])))/\∃(e4:dk×Int),([au a,b k],aL)=([au e4.1,b e4.2],aL)/\(ba (aM e4.1)=true/\(bk (aa (bo 38 e4.1.hl e4.1.bl))<=100000/\e4.1.bl.length<=100000)/\(0:Int)<=e4.2/\e4.2<(↑(e4.1.bl.length):Int))/\∃(e3:List AV×List m),([j 0,g 9 (strs (cI (aM e4.1) e4.2.toNat))],[f 9 4 es])=([j 0,g 9 e3.1],[f 9 4 e3.2])/\bq e3/\aR s (∃(e2:dk×Int),([au a,b k],aL)=([au e2.1,b e2.2],aL)/\(ba (aM e2.1)=true/\(bk (aa (bo 38 e2.1.hl e2.1.bl))<=100000/\e2.1.bl.length<=100000)/\(0:Int)<=e2.2/\e2.2<(↑(e2.1.bl.length):Int))/\∃(e1:List AV×List m),([j 0,g 9 (strs (cI (aM e2.1) e2.2.toNat))],l)=([j 0,g 9 e1.1],[f 9 4 e1.2])/\bq e1/\∃(e0:Nat),e0<n/\I e0 (sp 38 [(0,AV.cf 5),(1,c 4 0 [] 0),(3,j 7),(4,h 8 0 done.length),(13,b (↑(a.bl.length):Int)),(14,b q)] [d 48 (au a),d 35 r,f 9 4 (fF e3.2 e3.1),d 178 (j 2),d 48 (au a),Dn.Obj.loop o,e 3 u,f 9 4 (fF e1.2 e1.1),e 4 t]))))) (K (Exit.exit 0) p)):=by kernel_rfl
theorem qt: ∀l k,bt (b9 l) k (.lit (.bool true))=b9 (l.set k true)
 |[],_=>rfl
 |_::_,0=>rfl
 |a::l,k+1=>by
  have:=qt l k
  grind [b9,bt]
noncomputable def e9(a:Za):=oA (aM a.a) (a.a.bl.length - a.i.toNat) a.done a.b
def H2(a:Za):=ba (aM a.a)=true/\c9 a.a/\0<=a.i/\a.i<=a.a.bl.length/\a.done.length=a.a.bl.length/\a.ks.length<=a.i.toNat
noncomputable def LP(κ:Kp)(a:Za):Out (Exit×S):= .all (fun _=>True) fun e=> .ak e (.one (.ret,sp 38 [] (Hd κ a.a (a.ks++e9 a) (a.b++fa (aM a.a) (e9 a)))))
 (.one (.exit 0,sp 38 [] (Hd κ a.a (a.ks++e9 a) (a.b++fa (aM a.a) (e9 a)))))
theorem th{a}(h:c9 a){k}(c:k<a.bl.length):(cI (aM a) k).length<=200000:=by
 have b:=lq h c;have d:=sE h k;have e:=IX (cZ (nth a.bl k))
 grind [cF,cI,aM,kH,cZ,nth,eu,jT]
theorem l17 κ:aX (Sl κ) 12 169 3 (aG 6 (LZ κ) H2 (LP κ)):=by
 refine aD (fun a=>a.a.bl.length - a.i.toNat) ?_;rintro⟨a,h,done,b,i⟩ K ⟨j,g,t,w,q,x⟩ s;simp only at j g t w q x;rw[show(Sl κ).P=Pr κ from rfl];refine Eq.mpr (x17 κ a (ints h) (bR b) (bR b) (b9 done) i _ _ K) ?_;have c:=s true trivial;have d:=s false trivial;simp only[Out.run,ak,e9] at c d;simp only[and_self];have v:=jF done;have z:=r7 h;have C:=g.2;rw[ad,an9,ao1];refine⟨fun u=>⟨⟨a,done,b,0,0⟩,rfl,⟨j,g,q⟩,?_⟩,fun u=>?_⟩
 ·have p:=Fe (aM a) (a.bl.length - (i.toNat+1)) done b
  rw[show a.bl.length - (i.toNat+1)+1=a.bl.length - i.toNat by omega] at p;rw[ad,an9,ao1];refine⟨fun e=>?_,fun e=>?_⟩
  ·rw[p,ao5 e] at c
   simp only[ao6,List.append_nil,fa,List.flatMap_nil] at c;exact c
  ·rw[p,ao3 e,ao4] at c d
   rcases qP (aM a) done b with e0|⟨m,y,A,_⟩
   ·rw[e0] at e;omega
   have k:=y;rw[fY] at k;have B:=th g k;rw[ai,an9];refine⟨by omega,(a,aF (aM a) done b),rfl,⟨j,g,m,by simp only;omega⟩,(strs (cI (aM a) (aF (aM a) done b).toNat),bR b),rfl,by simp only[bq,bd,aW];omega,?_⟩;rw[ai,ao0,an9,an9];refine⟨⟨m,by show aF (aM a) done b<_;omega⟩,(a,aF (aM a) done b),rfl,⟨j,g,m,by simp only;omega⟩,(strs (cI (aM a) (aF (aM a) done b).toNat),bR b),rfl,by simp only[bq,bd,aW];omega,?_⟩;rw[az (n:=i+1) (by omega) (by omega)];refine⟨_,?_,⟨a,h++[(aF (aM a) done b).toNat],done.set (aF (aM a) done b).toNat true,b++cI (aM a) (aF (aM a) done b).toNat,i+1⟩,?_,⟨j,g,by simp only;omega,by simp only;omega,by simpa using q,by simp only[ap4,List.length_singleton];omega⟩,rfl,?_⟩
   ·simp only;omega
   ·simp only[List.take_length]
    simp only[LZ,Hd,List.cons_append,List.nil_append,Nat.zero_add,qt,mo,jF,List.length_set,Nj,r7,ap4,List.length_singleton];simp only[ints,ap6,List.map_nil,Int.toNat_of_nonneg m,List.length_singleton]
   ·have r: ∀l,b++fa (aM a) ((aF (aM a) done b).toNat::l)=(b++cI (aM a) (aF (aM a) done b).toNat)++fa (aM a) l:=fun l=>by
     simp only[fa,List.flatMap_cons,List.append_assoc]
    have o: ∀l,h++(aF (aM a) done b).toNat::l=(h++[(aF (aM a) done b).toNat])++l:=fun l=>by simp
    rw[r,o] at c d;intro f _;simp only[Out.run,e9,show(i+1).toNat=i.toNat+1 by omega];cases f
    ·exact d
    ·exact c
 ·rw[show a.bl.length - i.toNat=0 by omega] at d
  simp only[oA,List.append_nil,fa,List.flatMap_nil] at d;exact d
noncomputable def JL κ:=(Sl κ).aq 169 3 (aG 6 (LZ κ) H2 (LP κ))
theorem ai2 κ:aE (JL κ):=(e36 _).aq (m36 _) (l17 _)
theorem Qh κ:aj (JL κ):=(m36 _).aq aI
end Go.Proofs.YtioeffnadipbaaaGreatDoor
namespace Go.Proofs.YtioeffnadipbaaaGreatDoor
open Go Go.Dn Go.Rl Go.Proofs Go.RowKit Go.Extern.Stop Go.Stop Go.Extern
theorem ZD v a w:(Instr.typeAssert (.iface 253 v) a 259 true).run Tryz.prog w= .ok (.tuple #[.nilIface, .bool false]) w:=run_typeAssert_lacksB Tryz.underlying259 (by kernel_rfl) (by kernel_rfl) v _ w
theorem Lh v a w:(Instr.typeAssert (.iface 253 v) a 261 true).run Tryz.prog w= .ok (.tuple #[.nilIface, .bool false]) w:=run_typeAssert_lacksB Tryz.underlying261 (by kernel_rfl) (by kernel_rfl) v _ w
theorem DH v a w:(Instr.typeAssert (.iface 253 v) a 263 true).run Tryz.prog w= .ok (.tuple #[.iface 253 v, .bool true]) w:=run_typeAssert_hasB Tryz.underlying263 (by kernel_rfl) v _ w
theorem yz v w:(Go.method 411 253 v "Unwrap").run Tryz.prog w= .ok (218,v) w:=by kernel_rfl
set_option maxRecDepth 4000 in
theorem J9(a:Addr)(w:World):
  Calls Tryz.prog 158 #[.iface 273 (.pointer (some a)), .iface 273 (.pointer (some a)), .bool true] w fun e w'=>e= .returned (.bool true)/\w'=w:=by
 obtain⟨i,hi,hcmp⟩:=Option.map_eq_some_iff.1 F2;obtain⟨j,hj,hjs⟩:=Option.map_eq_some_iff.1 Gs;have heq:=run_eql_iface_ptr_same (P:=Tryz.prog) w a Tryz.underlying171 Tryz.underlying273 hi hcmp hj
 go_enter Tryz.func158,Tryz.ntmps158
 go_wp2
 refine wp_loop_rounds 1 ?_;rw[rounds_succ]
 go_wp2
 go_ret
 exact⟨rfl,rfl⟩
set_option maxRecDepth 8000 in
theorem Qu(ja ra b:Addr)(cap:Nat)(w:World)(h1:w.cell? ja=some (.slice (some ra) 1 cap))(h2:w.cell? ra=some (.iface 273 (.pointer (some b)))):
  Calls Tryz.prog 108 #[.iface 253 (.pointer (some ja)), .iface 273 (.pointer (some b))] w fun e w'=>e= .returned (.bool true)/\w'=w:=by
 have h8:= @run_callFunc_extern Tryz.prog 157 _ Extern.ReflectliteType.typeOf Tryz.func157 (by kernel_rfl) (by kernel_rfl) (by kernel_rfl) (by kernel_rfl);have h32:= @run_callFunc_extern Tryz.prog 222 _ (Extern.ReflectliteType.method fun t=>do Go.Extern.Rtype.noPackHeld "Comparable" t;pure (.bool (←typeInfo t).comparable)) Tryz.func222 (by kernel_rfl) (by kernel_rfl) (by kernel_rfl) (by kernel_rfl);have tT:=wi;have cT:=nC;have mR:=iD;have hne:=run_eql_iface_types (P:=Tryz.prog) 253 273 (.pointer (some ja)) (.pointer (some b)) Tryz.underlying171 (by decide);have n1:=ZD;have n2:=Lh;have n3:=DH;have mU:=yz
 go_enter Tryz.func108,Tryz.ntmps108
 go_wp2
 refine wp_loop_rounds 1 ?_;rw[rounds_succ]
 go_wp2
 refine wp_loop_rounds 1 ?_;rw[rounds_succ]
 go_wp2_with (first|(go_at_call 158;refine(J9 b _).mono ?_;rintro e w' ⟨rfl,rfl⟩))
 all_goals (go_ret;exact⟨rfl,rfl⟩)
end Go.Proofs.YtioeffnadipbaaaGreatDoor
namespace Go.Proofs.YtioeffnadipbaaaGreatDoor
open Go Go.Dn Go.Rl Go.Proofs
attribute [local irreducible] a9 vc
set_option maxRecDepth 20000
noncomputable def WW κ:=(JL κ).aq 156 3 (kL (JL κ) 12 156 3 3)
noncomputable def EJ2 κ:=(WW κ).aq 156 12 (kL (WW κ) 12 156 12 3)
theorem eJ1 κ:aE (WW κ):=(ai2 _).aq (Qh _) (tJ (Qh _) 3)
theorem mJ1 κ:aj (WW κ):=(Qh _).aq (lS (Qh _) 3)
theorem eJ2 κ:aE (EJ2 κ):=(eJ1 _).aq (mJ1 _) (tJ (mJ1 _) 3)
theorem mJ2 κ:aj (EJ2 κ):=(mJ1 _).aq (lS (mJ1 _) 3)
theorem yJ κ K:(a9 (EJ2 κ) 12 156 [.ah 171 [.lit (my κ)]] [] K)=(
 letI a:=Pg.toProgram (Env.P (JL κ))
 letI b:=Pg.toProgram (Env.P (WW κ))
 ae a 156 3=ae a 156 3/\ae b 156 12=ae b 156 12/\K (AV.jx 253 (AV.ptr 0 0 [] 0)) [Obj.box 255 (AV.agg [AV.an 1 0 1]),Obj.row 171 [AV.lit (Value.iface
 273 (Value.pointer (some (Kp.stuck κ))))]]):=by kernel_rfl
abbrev Bo:AV:= .jx 253 (.ptr 0 0 [] 0)
abbrev AK(κ:Kp):List Dn.Obj:=[.box 255 (.agg [.an 1 0 1]), .row 171 [.lit (my κ)]]
def stJ(κ:Kp)(_:Unit):List AV×List Dn.Obj:=([.ah 171 [.lit (my κ)]],[])
def Io(_:Unit):Prop:=True
def YF(κ:Kp)(_:Unit):Out (AV×List Dn.Obj):= .one (Bo,AK κ)
theorem cJ κ:bg (EJ2 κ) 12 156 (aO (stJ κ) Io (YF κ)):=by
 refine aU ?_;rintro⟨⟩ K _ a;refine Eq.mpr (yJ _ K) ?_;exact⟨rfl,rfl,a⟩
def stI κ(_:Unit):=([Bo, .lit (my κ)],AK κ)
def ad0(κ:Kp)(_:Unit):Out (AV×List Dn.Obj):= .one (.bool true,AK κ)
theorem qI κ: ∀b st K,aO (stI κ) Io (ad0 κ) b st K->bZ (Pr κ) 108 b st K:=by
 rintro b st K ⟨_,J,_,A⟩;obtain⟨rfl,rfl⟩:=Prod.mk.inj J;refine⟨⟨_,Tryz.func108,rfl⟩,fun C p V j a d=>?_⟩;obtain⟨p⟩:=p;match p,d with
 | [r,E],d=>
  simp only[MT] at d;obtain⟨F,I,o,N,O,z,_⟩:=d;have n:E=my κ:=aZ (C:=C) ⟨N,O,z⟩;have L:Rel C Bo r:=⟨F,I,o⟩
  obtain⟨Q,_⟩:=gS L rfl (by simp);simp only[M,Q] at o;obtain⟨u,T,y,u3,Z,v,h,x,D⟩:=o;have k:r= .iface 253 u:=by simpa using T
  have H:u.cells= #[u]:=gY (by rw[y];rfl);have l:v=u:=by rw[H] at h;simpa using h.symm
  subst l;have m:=j.obj 0 (by rw[a];simp);have g:=j.obj 1 (by rw[a];simp);rw[a] at m g;simp only[ay,kh] at m g;obtain⟨_,_,c,e,U,_,t⟩:=m;simp only[M,ML] at t;obtain⟨⟨_,s,s1,_,s2⟩,_⟩:=t;have f:=s2.1 171 [.lit (my κ)] (by rw[a];rfl);obtain⟨_,f⟩:=f;rcases f with⟨_,_,_,f⟩|⟨B,cap,q,rfl,f,s4,_⟩
  ·cases f
  have P:q=⟨(C.ι 1).block,0,none⟩:=by
   rcases f with f|⟨f,W⟩
   ·rw[f,Nat.zero_mul]
   ·omega
  subst P;obtain⟨_,g⟩:=g;rcases g with⟨g,_⟩|⟨_,_,X,Y,_,_,_,i⟩
  ·rw[B] at g;cases g
  simp only[MR,M] at i;obtain⟨⟨i,_⟩,_⟩:=i;have R:v= .pointer (some ⟨(C.ι 0).block,0,none⟩):=(D.2.1 255 _ (by rw[a];rfl)).2;subst R;subst k n;refine(callsIn_wide.2 (Qu ⟨(C.ι 0).block,0,none⟩ ⟨(C.ι 1).block,0,none⟩ κ.stuck cap C.w s1 i)).mono ?_;rintro e' w' ⟨rfl,rfl⟩;exact⟨_, .bool true,C,rfl,rfl,rfl,j,a7 rfl,Ext.refl _ (by rw[a];exact Nat.le_refl _),by rw[a];exact A⟩
 |[],d=>simp[MT] at d
 |[_],d=>simp[MT] at d
 |_::_::_::_,d=>simp[MT] at d
noncomputable def EJ κ:=((EJ2 κ).aw 156 (aO (stJ κ) Io (YF κ))).aw 108 (aO (stI κ) Io (ad0 κ))
theorem eJ κ:aE (EJ κ):=((eJ2 _).aw (mJ2 _) (cJ _)).fT (qI _)
theorem mJ κ:aj (EJ κ):=((mJ2 _).aw aH).aw aH
theorem y17 κ a K:(a9 (EJ κ) 12 107 [au a] [] K)=(
 letI b:=AV.ptr 0 0 []
 letI c:=AV.ptr
 letI d:=AV.lit
 letI e:=Obj.box
 letI f:=Obj.row
 letI g:=Dn.Obj.map
 letI h:=AV.ah
 letI i:=AV.an
 letI j:=AV.mp
 letI o:=Value.iface 273 (Value.pointer (some (Kp.stuck κ)))
 letI n:=∃(v0:Unit),([h 171 [d o]],aL)=([h 171 [d o]],aL)/\True/\K (AV.aJ [AV.nil,AV.jx 253 (b 0)]) [e 255
  (AV.agg [i 1 0 1]),f 171 [d o]]
 letI m:=a.bl.length
 letI p:=Value×AV
 letI q:=Pg.toProgram (Env.P (Sl κ))
 letI r:=Int.toNat (↑m:Int)
 aR (true&&decide ((↑m:Int)<=(↑m:Int))&&decide ((Int.toNat (↑m:Int)+1)*2<=70368744177664)&&true) (ae q 169 3=ae q 169 3/\∃(v4:Za),letI k:=ints (v4.ks++e9 v4);letI s:=K (AV.aJ [i 0 0 (List.length k),d Value.nilIface]) [f 3 k];letI t:=[g 9 4 (bR (v4.b++fa (aM v4.a) (e9 v4)))];letI l:=List.length v4.a.bl;letI u:=ak (decide ((↑(List.length k):Int)<(↑l:Int))) (n/\n) ((∃(v2:List AV),([h 38 v4.a.hl],aL)=([h 38 v2],aL)/\bF v2/\∃(v1:List AV×List p),([j 0,h 9 (List.take (List.length (ax (aa v2))) (List.drop 0 (strs (ax (aa v2)))))],t)=([j 0,h 9 v1.1],[g 9 4 v1.2])/\bq v1/\ak (!gg v1.2 v1.1) n s)/\∃(v2:List AV),([h 38 v4.a.hl],aL)=([h 38 v2],aL)/\bF v2/\∃(v1:List AV×List p),([j 0,h 9 (List.take (List.length (ax (aa v2))) (List.drop 0 (strs (ax (aa v2)))))],t)=([j 0,h 9 v1.1],[g 9 4 v1.2])/\bq v1/\ak (!gg v1.2 v1.1) n s);sp 38 [(0,AV.cf 5),(1,c 4 0 [] 0),(3,j 7),(4,i 8 0 r),(13,AV.int (↑m:Int)),(14,AV.int 0)] [e 48 (au a),e 35 (i 6 0 0),g 9 4 [],e 178 (j 2),e 48 (au a),Dn.Obj.loop (iM Tryz.prog 107 4 LoopState.ready none (ic (bM 40) [(0,au a),(1,b 0),(2,AV.nil),(3,d Value.nilIface),(4,c 1 0 [] 0),(5,c 3 0 [] 0),(7,j 2),(8,au a),(9,AV.bn 169 [c 4 0 [] 0])])),f 3 [],g 9 4 [],f 4 (fQ (AV.bool false) r)]=sp 38 [(0,AV.cf 5),(1,c 4 0 [] 0),(3,j 7),(4,i 8 0 (List.length (b9 v4.done))),(13,AV.int (↑l:Int)),(14,AV.int v4.i)] [e 48 (au v4.a),e 35 (i 6 0 (List.length (ints v4.ks))),g 9 4 (bR v4.b),e 178 (j 2),e 48 (au v4.a),Dn.Obj.loop (iM Tryz.prog 107 4 LoopState.ready none (ic (bM 40) [(0,au v4.a),(1,b 0),(2,AV.nil),(3,d Value.nilIface),(4,c 1 0 [] 0),(5,c 3 0 [] 0),(7,j 2),(8,au v4.a),(9,AV.bn 169 [c 4 0 [] 0])])),f 3 (ints v4.ks),g 9 4 (bR v4.b),f 4 (b9 v4.done)]/\(ba (aM v4.a)=true/\(bk (aa (bo 38 v4.a.hl v4.a.bl))<=100000/\List.length v4.a.bl<=100000)/\(0:Int)<=v4.i/\v4.i<=(↑l:Int)/\v4.done.length=List.length v4.a.bl/\v4.ks.length<=v4.i.toNat)/\∀(v3:Bool),True->ak v3 u u)):=by kernel_rfl
def DW(a:dk):List AV×List Dn.Obj:=([au a],[])
def O6 a:=ba (aM a)=true/\c9 a
noncomputable def Py(κ:Kp)(a:dk):Out (AV×List Dn.Obj):= .ak (jY (aM a)) (.one (.aJ [.an 0 0 (cO (aM a)).length, .lit .nilIface],[.row 3 (ints (cO (aM a)))])) (.one (.aJ [.nil,Bo],AK κ))
theorem uv n:fQ (.lit (.bool false)) n=b9 (List.replicate n false):=by simp[fQ,b9]
theorem c17 κ:bg (EJ κ) 12 107 (aO DW O6 (Py κ)):=by
 refine aU ?_;rintro a K ⟨f,d⟩ b;refine Eq.mpr (y17 κ a K) ?_;simp only[and_self];simp only[Py,Out.run,ad] at b;have k:=d.2;have g:e9 ⟨a,[],List.replicate a.bl.length false,[],0⟩=cO (aM a):=by
  unfold e9 cO;rw[fY];rfl
 have h:=po d;have j:=cF (aa a.hl);have i:jY (aM a)=(decide (a.bl.length<=(cO (aM a)).length)&&hasB (fa (aM a) (cO (aM a))) (ax (aa a.hl))):=by
  unfold jY;rw[fY];rfl
 rw[i] at b;simp only[ai,ao0,an9,Int.toNat_natCast];refine⟨⟨⟨⟨trivial,by omega⟩,by omega⟩,trivial⟩,trivial,⟨a,[],List.replicate a.bl.length false,[],0⟩,?_,⟨f,d,by simp only;omega,by simp only;omega,by simp,by simp⟩,?_⟩
 ·simp only[uv,jF,List.length_replicate];rfl
 ·intro y _
  rw[g];cases y<;>
  ·simp only[r7,List.nil_append,ad,an9,ao1,Bool.not_eq_true',ap1,reduceCtorEq,false_implies,true_implies,and_true,true_and]
   refine⟨fun e=>?_,fun e=>?_⟩
   ·rw[ao3 (show ¬ a.bl.length<=(cO (aM a)).length by omega),Bool.false_and] at b
    exact⟨(),b.2 rfl⟩
   ·rw[ao5 (show a.bl.length<=(cO (aM a)).length by omega),ap5] at b
    refine⟨a.hl,rfl,h,(strs (ax (aa a.hl)),bR (fa (aM a) (cO (aM a)))),?_,?_,?_⟩
    ·simp only[ao9,cM]
    ·simp only[bq,bd,aW];omega
    ·simp only[fp]
     exact⟨fun c=>⟨(),b.2 c⟩,fun c=>b.1 c⟩
noncomputable def Yh κ:=(EJ κ).aw 107 (aO DW O6 (Py κ))
theorem e17 κ:aE (Yh κ):=(eJ _).aw (mJ _) (c17 _)
theorem m17 κ:aj (Yh κ):=(mJ _).aw aH
theorem y7 κ a K:(a9 (Yh κ) 12 62 [au a] [] K)=(
 letI b:=AV.int
 letI c:=AV.agg
 letI d:=Value.iface 273 (Value.pointer (some (Kp.stuck κ)))
 aR (decide (a.hl.length<=9223372036854775807)&&decide (a.bl.length<=9223372036854775807)) (ak (!ba {head:={rel:=a.rel,l:=aa a.hl},body:=dv a.bl}) (K (AV.aJ [AV.nil,b 30]) []) (∃(e1:dk),([c [c [AV.str a.rel,AV.ah 38 a.hl],AV.ah 80 a.bl,b a.line]],aL)=([c [c [AV.str e1.rel,AV.ah 38 e1.hl],AV.ah 80 e1.bl,b e1.line]],aL)/\(ba (aM e1)=true/\bk (aa (bo 38 e1.hl e1.bl))<=100000/\e1.bl.length<=100000)/\ak (jY (aM e1)) (K (AV.aJ [AV.an 0 0 (List.length (cO (aM e1))),b 0]) [Obj.row 3 (ints (cO (aM e1)))]) (∃(e0:Unit),([AV.jx 253 (AV.ptr 0 0 [] 0),AV.lit d],[Obj.box 255 (c [AV.an 1 0 1]),Obj.row 171 [AV.lit d]])=([AV.jx 253 (AV.ptr 0 0 [] 0),AV.lit d],[Obj.box 255 (c [AV.an 1 0 1]),Obj.row 171 [AV.lit d]])/\True/\K (AV.aJ [AV.nil,b 60]) [])))):=by kernel_rfl
def Ld(a:dk):Out (AV×List Dn.Obj):= .ak (ba (aM a)) (.ak (jY (aM a)) (.one (.aJ [.an 0 0 (cO (aM a)).length, .int 0],[.row 3 (ints (cO (aM a)))])) (.one (.aJ [.nil, .int 60],[]))) (.one (.aJ [.nil, .int 30],[]))
theorem c7 κ:bg (Yh κ) 12 62 (aO DW c9 Ld):=by
 refine aU ?_;rintro a K c d;refine Eq.mpr (y7 κ a K) ?_;simp only[Ld,Out.run,ad] at d;have h:=po c;have b:=gF (aa a.hl);rw[eE] at b;have i:=c.2;rw[ai,ao0,an9,an9];refine⟨⟨by omega,by omega⟩,?_⟩;have g:ba ⟨_,dv a.bl⟩=ba (aM a):=rfl;rw[g];simp only[ad,Bool.not_eq_true',ap1];refine⟨fun e=>d.2 e,fun e=>⟨a,rfl,⟨e,c⟩,fun f=>(d.1 e).1 f,by simp_all⟩⟩
noncomputable def E7 κ:=(Yh κ).aw 62 (aO DW c9 Ld)
theorem e7 κ:aE (E7 κ):=(e17 _).aw (m17 _) (c7 _)
theorem m7 κ:aj (E7 κ):=(m17 _).aw aH
def eP es s:=yC es s
structure DB where
 vs:List ByteArray
 i:Int
 es:List (Value×AV)
abbrev Dx(R:List AV)(a:List (Value×AV)):List Dn.Obj:=[.row 9 R, .box 178 (.mp 2), .map 9 4 a]
abbrev QO:AV:= .bn 116 [.ptr 1 0 [] 0]
abbrev JD(a:DB):=sp 19 [(0, .an 0 0 (strs a.vs).length),(1,QO),(7, .int (strs a.vs).length),(8, .int a.i)] (Dx (strs a.vs) a.es)
theorem xFB κ a I n K:(vc (pe κ) 12 161 none 3 (ae (Pr κ).toProgram 161 2) (JD a) (bj (pe κ) 161 2 3 I n K))=(
 letI b:=Dn.Obj.map
 letI c:=List.length (strs a.vs)
 ak (decide (a.i<(↑c:Int))) (aR (decide ((0:Int)<=a.i)&&decide (a.i<(↑c:Int))) (ak (!Dn.toBool (cX a.es (Value.string (toStr (nth (strs a.vs) (0+
 a.i.toNat)))) (AV.bool false))) (K Exit.ret (sp 19 [(4,AV.int a.i)] [Obj.row 9 (strs a.vs),Obj.box 178 (AV.mp 2),b 9 4 a.es])) (∃(e0:Nat),e0<n
 /\I e0 (sp 19 [(0,AV.an 0 0 c),(1,AV.bn 116 [AV.ptr 1 0 [] 0]),(7,AV.int (↑c:Int)),(8,AV.int (IntKind.wrap IntKind.i64 (a.i+(1:Int))))] [Obj.row
 9 (strs a.vs),Obj.box 178 (AV.mp 2),b 9 4 a.es])))) (K (Exit.exit 0) (sp 19 [] [Obj.row 9 (strs a.vs),Obj.box 178 (AV.mp 2),b 9 4 a.es]))):=by kernel_rfl
def ET(a:DB):=a.vs.length<=aW/\0<=a.i/\a.i<=a.vs.length/\∀s,s∈a.vs.take a.i.toNat->eP a.es s=true
def Ei(a:DB):Out (Exit×S):=
 .ak (a.vs.all (eP a.es)) (.one (.exit 0,sp 19 [] (Dx (strs a.vs) a.es)))
  (.all (fun j=>xK (eP a.es) a.vs j) fun j=> .one (.ret,sp 19 [(4, .int j)] (Dx (strs a.vs) a.es)))
theorem lFB κ:aX (pe κ) 12 161 2 (aG 3 JD ET Ei):=by
 refine aD (fun a=>a.vs.length - a.i.toNat) ?_;rintro⟨b,i,f⟩ K ⟨l,p,r,j⟩ k;simp only at l p r j;rw[show(pe κ).P=Pr κ from rfl];refine Eq.mpr (xFB κ ⟨b,i,f⟩ _ _ K) ?_;simp only[aW] at l;simp only[Ei,Out.run,ad] at k;have v:=bd b;simp only[bd,Nat.zero_add];have o:i<b.length->∀(d:i.toNat<b.length),(eP f b[i.toNat]=false->K .ret (sp 19 [(4, .int i)] (Dx (strs b) f)))/\
   (eP f b[i.toNat]=true->∃m,m<b.length - i.toNat/\et JD ET Ei (fun a=>a.vs.length - a.i.toNat) K m (JD ⟨b,i+1,f⟩)):=by
  intro t d;refine⟨fun e=>k.2 ?_ i ⟨p,d,j,e⟩,fun e=>⟨_,?_,⟨b,i+1,f⟩,rfl,⟨by simpa[aW] using l,by simp only;omega,by simp only;omega,?_⟩,rfl,?_⟩⟩
  ·rw[Bool.eq_false_iff]
   intro g;rw[List.all_eq_true.1 g _ (List.getElem_mem d)] at e;cases e
  ·simp only;omega
  ·intro s c
   simp only at c;rw[show(i+1).toNat=i.toNat+1 by omega,List.take_succ_eq_append_getElem d,List.mem_append,List.mem_singleton] at c;rcases c with c|c
   ·exact j s c
   ·rw[c];exact e
  ·simp only[Ei,Out.run,ad]
   exact k
 simp only[ad,ai,an9,ao1,ao0,Bool.not_eq_true',ap1];refine⟨fun d=>⟨⟨p,d⟩,?_⟩,fun d=>?_⟩
 ·have h:i.toNat<b.length:=by omega
  have u:toStr (nth (strs b) i.toNat)=b[i.toNat]:=by rw[wE b _ h];rfl
  rw[az (n:=i+1) (by omega) (by omega),u];have q:=o d h;simp only[JD,bd] at q;exact⟨fun e=>q.1 e,fun e=>q.2 e⟩
 ·refine k.1 (List.all_eq_true.2 fun s c=>j s ?_)
  rw[List.take_of_length_le (by omega)];exact c
noncomputable def Sj κ:=(pe κ).aq 161 2 (aG 3 JD ET Ei)
theorem eFB κ:aE (Sj κ):=(Ur _).aq (Mx _) (lFB _)
theorem mFB κ:aj (Sj κ):=(Mx _).aq aI
structure GB where
 R:List AV
 i:Int
 j:Int
 es:List (Value×AV)
 P:List ByteArray
 ws:List ByteArray
abbrev Dh(a:GB):=sp 42 [(0, .an 0 0 a.R.length),(1,QO),(5, .int a.i),(6, .int a.j)] (Dx a.R a.es)
theorem xGB κ a I n K:(vc (Sj κ) 12 114 none 3 (ae (Pr κ).toProgram 114 5) (Dh a) (bj (Sj κ) 114 5 3 I n K))=(
 letI b:=AV.int
 letI c:=Dn.Obj.map
 letI d:=IntKind.wrap IntKind.i64 (a.j+(1:Int))
 letI e:=toStr (nth a.R (0+a.j.toNat))
 letI f:=a.j<(↑(a.R.length):Int)
 ak (decide f) (aR (decide ((0:Int)<=a.j)&&decide f) (ak (!!Dn.toBool (cX a.es (Value.string e) (AV.bool false))) (aR (decide ((0:Int)<=a.i)&&decide
 (a.i<(↑(a.R.length):Int))) (∃(e0:Nat),e0<n/\I e0 (sp 42 [(0,AV.an 0 0 a.R.length),(1,AV.bn 116 [AV.ptr 1 0 [] 0]),(5,b (IntKind.wrap
 IntKind.i64 (a.i+(1:Int)))),(6,b d)] [Obj.row 9 (bt a.R (0+a.i.toNat) (AV.str e)),Obj.box 178 (AV.mp 2),c 9 4 a.es]))) (∃(e0:Nat),
 e0<n/\I e0 (sp 42 [(0,AV.an 0 0 a.R.length),(1,AV.bn 116 [AV.ptr 1 0 [] 0]),(5,b a.i),(6,b d)] [Obj.row 9 a.R,Obj.box 178 (AV.mp 2),
 c 9 4 a.es])))) (K (Exit.exit 0) (sp 42 [(0,AV.an 0 0 a.R.length),(5,b a.i)] [Obj.row 9 a.R,Obj.box 178 (AV.mp 2),c 9 4 a.es]))):=by kernel_rfl
def Ah(a:GB):=a.R.length<=aW/\0<=a.i/\a.i<a.j/\a.j<=a.R.length/\a.R.take a.i.toNat=strs a.P/\a.R.drop a.j.toNat=strs a.ws
def Cj(a:GB):Out (Exit×S):= .all (fun R=>R.length=a.R.length/\R.take (a.P++a.ws.filter (eP a.es)).length=strs (a.P++a.ws.filter (eP a.es)))
 fun R=> .one (.exit 0,sp 42 [(0, .an 0 0 a.R.length),(5, .int (a.P++a.ws.filter (eP a.es)).length)] (Dx R a.es))
theorem lGB κ:aX (Sj κ) 12 114 5 (aG 3 Dh Ah Cj):=by
 refine aD (fun a=>a.R.length - a.j.toNat) ?_;rintro⟨R,i,j,b,P,g⟩ K ⟨k,q,z,x,c,f⟩ h;simp only at k q z x c f;rw[show(Sj κ).P=Pr κ from rfl];refine Eq.mpr (xGB κ ⟨R,i,j,b,P,g⟩ _ _ K) ?_;simp only[aW] at k;simp only[Cj,Out.run] at h;simp only[Nat.zero_add];have v:P.length=i.toNat:=by
  have:=congrArg List.length c
  rw[List.length_take,bd] at this;omega
 have p: ∀(s:ByteArray) (l:List ByteArray),g=s::l->j<R.length->nth R j.toNat= .lit (.string s)->
   (eP b s=false->∃m,m<R.length - j.toNat/\et Dh Ah Cj (fun a=>a.R.length - a.j.toNat) K m (Dh ⟨R,i,j+1,b,P,l⟩))/\
   (eP b s=true->∃m,m<R.length - j.toNat/\et Dh Ah Cj (fun a=>a.R.length - a.j.toNat) K m (Dh ⟨bt R i.toNat (.lit (.string s)),i+1,j+1,b,P++[s],l⟩)):=by
  rintro s l rfl o r;obtain⟨_,_,w⟩:=jN (l:=strs l) f;refine⟨fun e=>⟨_,?_,_,rfl,⟨by simpa[aW] using k,q,by simp only;omega,by simp only;omega,c,?_⟩,rfl,?_⟩,fun e=>⟨_,?_,_,rfl,⟨by simpa[aW,gR] using k,by simp only;omega,by simp only;omega,by simp only[gR];omega,?_,?_⟩,rfl,?_⟩⟩
  ·simp only;omega
  ·simp only[show(j+1).toNat=j.toNat+1 by omega];exact w
  ·intro y d
   have:=h y
   simp only[List.filter_cons,e,Bool.false_eq_true,if_false] at d this⊢;exact this d
  ·simp only[gR];omega
  ·simp only[show(i+1).toNat=i.toNat+1 by omega]
   rw[tM _ _ _ (by omega),c,jr];rfl
  ·simp only[show(j+1).toNat=j.toNat+1 by omega]
   rw[sU _ _ _ _ (by omega)];exact w
  ·intro y d
   have:=h y
   simp only[List.filter_cons,e,if_true,gR,List.append_assoc,List.singleton_append] at d this⊢;exact this d
 simp only[ad,ai,an9,ao1,ao0,Bool.not_eq_true',ap1];refine⟨fun o=>⟨⟨by omega,o⟩,?_⟩,fun o=>?_⟩
 ·cases g with
  |nil=>
   have:=congrArg List.length f
   rw[List.length_drop,bd] at this;simp at this;omega
  |cons s l=>
   obtain⟨_,r,_⟩:=jN (l:=strs l) f;have t:toStr (nth R j.toNat)=s:=by rw[r];rfl
   have u:=p s l rfl o r;simp only[Dh,gR] at u;rw[az (n:=i+1) (by omega) (by omega),az (n:=j+1) (by omega) (by omega),t];exact⟨fun e=>⟨⟨by omega,by omega⟩,u.2 e⟩,fun e=>u.1 e⟩
 ·have A:g=[]:=by
   have:=congrArg List.length f
   rw[List.length_drop,bd] at this;cases g with
   |nil=>rfl
   |cons=>simp at this;omega
  subst A;have:=h R ⟨rfl,by simp only[List.filter_nil,List.append_nil,v];exact c⟩
  simp only[List.filter_nil,List.append_nil,v,Int.toNat_of_nonneg q] at this;exact this
noncomputable def EGB κ:=(Sj κ).aq 114 5 (aG 3 Dh Ah Cj)
theorem eGB κ:aE (EGB κ):=(eFB _).aq (mFB _) (lGB _)
theorem mGB κ:aj (EGB κ):=(mFB _).aq aI
theorem yGB κ(a:DB) K:(a9 (EGB κ) 12 114 [.an 0 0 (strs a.vs).length,QO] (Dx (strs a.vs) a.es) K)=(
 letI b:=AV.int
 letI c:=Obj.box
 letI d:=Dn.Obj.map
 letI j:=List.length (strs a.vs)
 letI k:=Pg.toProgram (Env.P (pe κ))
 letI l:=Pg.toProgram (Env.P (Sj κ))
 ae k 161 2=ae k 161 2/\∃(e3:DB),letI f:=strs e3.vs;letI m:=K (AV.ah 9 (List.take j (List.drop 0 f))) [Obj.lx 9 f,c 178 (AV.mp 2),d 9 4 e3.es];letI n:=[Obj.row 9 f,c 178 (AV.mp 2),d 9 4 e3.es];sp 19 [(0,AV.an 0 0 j),(1,AV.bn 116 [AV.ptr 1 0 [] 0]),(7,b (↑j:Int)),(8,b 0)] [Obj.row 9 (strs a.vs),c 178 (AV.mp 2),d 9 4 a.es]=sp 19 [(0,AV.an 0 0 (List.length f)),(1,AV.bn 116 [AV.ptr 1 0 [] 0]),(7,b (↑(List.length f):Int)),(8,b e3.i)] n/\(e3.vs.length<=9223372036854775807/\(0:Int)<=e3.i/\e3.i<=(↑(e3.vs.length):Int)/\∀(e0:ByteArray),List.Mem e0 (List.take e3.i.toNat e3.vs)->eP e3.es e0=true)/\ak (List.all e3.vs (eP e3.es)) m (∀(e2:Int),((0:Int)<=e2/\∃(e1:e2.toNat<e3.vs.length),(∀(e0:ByteArray),List.Mem e0 (List.take e2.toNat e3.vs)->eP e3.es e0=true)/\eP e3.es e3.vs[e2.toNat]=false)->ak (e2==(-1:Int)) m (ae l 114 5=ae l 114 5/\∃(e1:GB),letI o:=e1.P++List.filter (eP e1.es) e1.ws;letI e:=List.length o;letI g:=e1.R.length;sp 42 [(0,AV.an 0 0 j),(1,AV.bn 116 [AV.ptr 1 0 [] 0]),(5,b e2),(6,b (IntKind.wrap IntKind.i64 (e2+(1:Int))))] n=sp 42 [(0,AV.an 0 0 e1.R.length),(1,AV.bn 116 [AV.ptr 1 0 [] 0]),(5,b e1.i),(6,b e1.j)] [Obj.row 9 e1.R,c 178 (AV.mp 2),d 9 4 e1.es]/\(e1.R.length<=9223372036854775807/\(0:Int)<=e1.i/\e1.i<e1.j/\e1.j<=(↑g:Int)/\List.take e1.i.toNat e1.R=strs e1.P/\List.drop e1.j.toNat e1.R=strs e1.ws)/\∀(e0:List AV),letI h:=Int.toNat ((↑g:Int) - (↑e:Int));letI i:=(↑e:Int)<=(↑g:Int);e0.length=e1.R.length/\List.take e e0=strs o->aR (true&&decide i&&decide ((↑g:Int)<=(↑g:Int))) (aR (true&&decide i) (K (AV.ah 9 (List.take (Int.toNat ((↑e:Int) - (0:Int))) (List.drop 0 (db e0 (0+Int.toNat (↑e:Int)) h (AV.str {data:= #[]}))))) [Obj.lx 9 (db e0 (0+Int.toNat (↑e:Int)) h (AV.str {data:= #[]})),c 178 (AV.mp 2),d 9 4 e1.es]))))):=by kernel_rfl
def HT(a:DB):=([.an 0 0 a.vs.length,QO],Dx (strs a.vs) a.es)
def pf(a:DB):=a.vs.length<=aW
def Gg(a:DB):Out (AV×List Dn.Obj):= .all (fun _=>True) fun R=> .one (.ah 9 (strs (a.vs.filter (eP a.es))),[.lx 9 R, .box 178 (.mp 2), .map 9 4 a.es])
theorem af2 κ:bg (EGB κ) 12 114 (aO HT pf Gg):=by
 refine aU ?_;rintro⟨a,i,b⟩ K d h;simp only[pf] at d;simp only[HT];rw[←bd a];refine Eq.mpr (yGB κ ⟨a,i,b⟩ K) ?_;refine⟨rfl,⟨a,0,b⟩,rfl,⟨d,by simp only;omega,by simp only;omega,fun s p=>nomatch p⟩,?_⟩;rw[ad];refine⟨fun e=>?_,fun e y g=>?_⟩
 ·have k:a.filter (eP b)=a:=List.filter_eq_self.2 (List.all_eq_true.1 e)
  have:=h (strs a) trivial
  simp only[k] at this;rw[ao9,List.take_length];exact this
 ·have o:=ss g
  obtain⟨j,m,t,q⟩:=g;simp only at j m;simp only[aW] at d;rw[ad,beq_iff_eq,beq_eq_false_iff_ne];refine⟨fun r=>by omega,fun _=>⟨rfl,⟨strs a,y,y+1,b,a.take y.toNat,a.drop (y.toNat+1)⟩,?_,⟨by simp only[bd];omega,j,by simp only;omega,by simp only[bd];omega,?_,?_⟩,?_⟩⟩
  ·rw[az (n:=y+1) (by omega) (by omega)]
  ·simp only[strs,List.map_take]
  ·simp only[strs,List.map_drop,show(y+1).toNat=y.toNat+1 by omega]
  ·rintro R ⟨l,f⟩
   simp only at l f;rw[←o] at f⊢;have c:(a.filter (eP b)).length<=a.length:=List.length_filter_le _ _;rw[ai,ai];refine⟨by simp[bd,c],by simp[bd,c],?_⟩;have:=h (db R (0+Int.toNat ((a.filter (eP b)).length:Int)) (Int.toNat (((strs a).length:Int) - ((a.filter (eP b)).length:Int))) (.lit (.string (ByteArray.mk #[])))) trivial
   simp only[Int.toNat_natCast,Nat.zero_add,Int.sub_zero,ao9,pb,f] at this⊢;exact this
theorem an2 κ: ∀a st K,aO HT pf Gg a st K->bZ (Pr κ) 114 a st K:=fun a st K h=>gW (eGB _) (mGB _) (af2 _ _ _ K h)
structure Zn where
 a:dk
 ws:List Nat
 n:Nat
 i:Int
 vs:List ByteArray
abbrev Tc(a:Zn):=sp 48 [(2, .ptr 0 0 [] 0),(8, .ptr 1 0 [] 0),(32, .an 3 0 a.n),(33, .int a.n),(34, .int a.i)] [.box 48 (au a.a), .box 178 (.mp 2), .map 9 4 (bR a.vs), .row 3 (ints a.ws)]
theorem x10(κ:Kp)(a:Zn) ws es I n K:(vc (E7 κ) 12 65 none 0 (ae (Pr κ).toProgram 65 8) (sp 48 [(2, .ptr 0 0 [] 0),(8, .ptr 1 0 [] 0),(32, .an 3 0 a.n),(33, .int a.n),(34, .int a.i)] [.box 48 (au a.a), .box 178 (.mp 2), .map 9 4 es, .row 3 ws]) (bj (E7 κ) 65 8 0 I n K))=(
 letI b:=Obj.box
 letI c:=Dn.Obj.map
 letI d:=∃(e2:dk×Int),([au a.a,AV.int (toInt (nth ws (0+a.i.toNat)))],aL)=([au e2.1,AV.int e2.2],aL)/\(ba (aM e2.1)=true/\(bk (aa (bo 38
  e2.1.hl e2.1.bl))<=100000/\e2.1.bl.length<=100000)/\(0:Int)<=e2.2/\e2.2<(↑(e2.1.bl.length):Int))/\∃(e1:List AV×List (Value×AV)),([AV.mp 0,
  AV.ah 9 (strs (cI (aM e2.1) e2.2.toNat))],[c 9 4 es])=([AV.mp 0,AV.ah 9 e1.1],[c 9 4 e1.2])/\bq e1/\∃(e0:Nat),e0<n/\I e0 (sp 48
  [(2,AV.ptr 0 0 [] 0),(8,AV.ptr 1 0 [] 0),(32,AV.an 3 0 a.n),(33,AV.int (↑(a.n):Int)),(34,AV.int (IntKind.wrap IntKind.i64 (a.i+(1:Int))))]
  [b 48 (au a.a),b 178 (AV.mp 2),c 9 4 (fF e1.2 e1.1),Obj.row 3 ws])
 ak (decide (a.i<(↑(a.n):Int))) (aR (decide ((0:Int)<=a.i)&&decide (a.i<(↑(a.n):Int))) (d/\d)) (K (Exit.exit 1) (sp 48 [(2,AV.ptr 0 0 [] 0),(8,
 AV.ptr 1 0 [] 0)] [b 48 (au a.a),b 178 (AV.mp 2),c 9 4 es]))):=by kernel_rfl
def Il(a:Zn):=ba (aM a.a)=true/\c9 a.a/\0<=a.i/\a.i<=a.n/\a.n<=a.ws.length/\a.ws.length<=a.a.bl.length/\∀k,k∈a.ws->k<a.a.bl.length
def Bx(a:Zn):Out (Exit×S):= .one (.exit 1,sp 48 [(2, .ptr 0 0 [] 0),(8, .ptr 1 0 [] 0)] [.box 48 (au a.a), .box 178 (.mp 2), .map 9 4 (bR (a.vs++fa (aM a.a) ((a.ws.take a.n).drop a.i.toNat)))])
theorem wb l i h:toInt (nth (ints l) i)=l[i]:=by
 grind [aV,ints,toInt]
theorem l10 κ:aX (E7 κ) 12 65 8 (aG 0 Tc Il Bx):=by
 refine aD (fun a=>a.n - a.i.toNat) ?_;rintro⟨a,b,n,i,f⟩ K ⟨g,e,m,p,j,l,h⟩ c;simp only at g e m p j l h;rw[show(E7 κ).P=Pr κ from rfl];refine Eq.mpr (x10 κ ⟨a,b,n,i,f⟩ (ints b) (bR f) _ _ K) ?_;simp only[Bx,Out.run] at c;simp only[and_self,Nat.zero_add];have q:=e.2;rw[ad,ai,ao0,an9,an9,ao1];refine⟨fun k=>⟨⟨m,k⟩,?_⟩,fun k=>?_⟩
 ·have d:i.toNat<b.length:=by omega
  have o:=h _ (List.getElem_mem d);have r:=th e o;have hd:(b.take n).drop i.toNat=b[i.toNat]::(b.take n).drop (i.toNat+1):=by
   rw[ap0 (by rw[List.length_take];omega)];simp
  rw[hd] at c;rw[az (n:=i+1) (by omega) (by omega),wb b _ d];refine⟨(a,(b[i.toNat]:Int)),rfl,⟨g,e,by simp only;omega,by simp only;omega⟩,(strs (cI (aM a) b[i.toNat]),bR f),rfl,by simp only[bq,bd,aW];omega,_,?_,⟨a,b,n,i+1,f++cI (aM a) b[i.toNat]⟩,?_,⟨g,e,by simp only;omega,by simp only;omega,j,l,h⟩,rfl,?_⟩
  ·simp only;omega
  ·simp only[mo]
  ·simp only[Bx,Out.run,show(i+1).toNat=i.toNat+1 by omega]
   simpa only[fa,List.flatMap_cons,List.append_assoc] using c
 ·rw[ao7 (by rw[List.length_take];omega)] at c
  simpa[fa] using c
noncomputable def NO κ:=((E7 κ).aq 65 8 (aG 0 Tc Il Bx)).aw 114 (aO HT pf Gg)
theorem ae6 κ:aE (NO κ):=((e7 _).aq (m7 _) (l10 _)).fT (an2 _)
theorem X6 κ:aj (NO κ):=((m7 _).aq aI).aw aH
theorem y10 κ a k K:(a9 (NO κ) 12 65 [au a, .int k] [] K)=(
 letI b:=AV.int
 letI c:=AV.ptr
 letI d:=Obj.box
 letI e:=Obj.row
 letI f:=Dn.Obj.map
 letI g:=K (AV.aJ [AV.nil,b 2]) []
 letI h:=Pg.toProgram (Env.P (E7 κ))
 letI i:=Int.toNat (k - (0:Int))
 ∃(e4:dk),letI j:=List.length (cO (aM e4));([au a],aL)=([au e4],aL)/\(bk (aa (bo 38 e4.hl e4.bl))<=100000/\e4.bl.length<=100000)/\ak (ba (aM e4)) (ak (jY (aM e4)) (ak (decide (k<(0:Int))) g (ak (decide (k>(↑j:Int))) g (aR (true&&decide ((0:Int)<=k)&&decide (k<=(↑j:Int))) (ae h 65 8=ae h 65 8/\∃(e3:Zn),sp 48 [(2,c 0 0 [] 0),(8,c 1 0 [] 0),(32,AV.an 3 0 i),(33,b (↑i:Int)),(34,b 0)] [d 48 (au a),d 178 (AV.mp 2),f 9 4 [],e 3 (ints (cO (aM e4)))]=sp 48 [(2,c 0 0 [] 0),(8,c 1 0 [] 0),(32,AV.an 3 0 e3.n),(33,b (↑(e3.n):Int)),(34,b e3.i)] [d 48 (au e3.a),d 178 (AV.mp 2),f 9 4 (bR e3.vs),e 3 (ints e3.ws)]/\(ba (aM e3.a)=true/\(bk (aa (bo 38 e3.a.hl e3.a.bl))<=100000/\List.length e3.a.bl<=100000)/\(0:Int)<=e3.i/\e3.i<=(↑(e3.n):Int)/\e3.n<=e3.ws.length/\e3.ws.length<=List.length e3.a.bl/\∀(e0:Nat),List.Mem e0 e3.ws->e0<List.length e3.a.bl)/\∃(e2:dk),([au e3.a],aL)=([au e2],aL)/\(ba (aM e2)=true/\bk (aa (bo 38 e2.hl e2.bl))<=100000/\e2.bl.length<=100000)/\∃(e1:DB),([AV.an 0 0 (List.length (de (aM e2))),AV.bn 116 [c 1 0 [] 0]],[e 9 (strs (de (aM e2))),d 178 (AV.mp 2),f 9 4 (bR (e3.vs++fa (aM e3.a) (List.drop e3.i.toNat (List.take e3.n e3.ws))))])=([AV.an 0 0 e1.vs.length,AV.bn 116 [c 1 0 [] 0]],[e 9 (strs e1.vs),d 178 (AV.mp 2),f 9 4 e1.es])/\pf e1/\∀(e0:List AV),True->K (AV.aJ [AV.ah 9 (strs (List.filter (eP e1.es) e1.vs)),b 0]) [])))) (K (AV.aJ [AV.nil,b 60]) [])) (K (AV.aJ [AV.nil,b 30]) [])):=by kernel_rfl
def aa7(a:dk×Int):List AV×List Dn.Obj:=([au a.1, .int a.2],[])
def Pw(a:dk×Int):Prop:=c9 a.1
def MA(a:dk×Int):Out (AV×List Dn.Obj):= .ak (ba (aM a.1)) (.ak (jY (aM a.1)) (.ak (decide (a.2<0)||decide (a.1.bl.length<a.2)) (.one (.aJ [.nil, .int 2],[]))
 (.one (.aJ [.ah 9 (strs (Fx (aM a.1) a.2.toNat)), .int 0],[]))) (.one (.aJ [.nil, .int 60],[]))) (.one (.aJ [.nil, .int 30],[]))
theorem tn{a}(h:jY (aM a)=true):(cO (aM a)).length=a.bl.length:=by
 grind [Kh,fY,jY]
theorem c10 κ:bg (NO κ) 12 65 (aO aa7 Pw MA):=by
 refine aU ?_;rintro⟨a,k⟩ K d e;refine Eq.mpr (y10 κ a k K) ?_;simp only[MA,Out.run,ad] at e;have d:c9 a:=d;have q:=d.2;refine⟨a,rfl,d,?_⟩;rw[ad];refine⟨fun c=>?_,fun c=>e.2 c⟩;rw[ad];refine⟨fun f=>?_,fun f=>(e.1 c).2 f⟩;have o:=tn f;have b:=(e.1 c).1 f;rw[ad,an9,ao1];refine⟨fun i=>b.1 (by rw[ao5 i];rfl),fun i=>?_⟩;rw[ad,an9,ao1,o];refine⟨fun h=>b.1 (by rw[ao5 (show(a.bl.length:Int)<k from h)];simp),fun h=>?_⟩;have l:=b.2 (by rw[ao3 i,ao3 (show ¬ (a.bl.length:Int)<k from h)];rfl);simp only[ai,ao0,an9,Int.sub_zero];have p:(fD (aM a)).length<=100000:=by
  have m:=cF (aa (bo 38 a.hl a.bl));rw[iJ 38 a.rel a.hl a.bl] at m;exact Nat.le_trans m d.1
 have r:=la (fD (aM a)) [];refine⟨⟨⟨trivial,by omega⟩,by omega⟩,trivial,⟨a,cO (aM a),k.toNat,0,[]⟩,rfl,⟨c,d,by simp only;omega,by simp only;omega,by simp only;omega,by simp only;omega,fun j n=>by have:=rI n;rwa [fY] at this⟩,a,rfl,⟨c,d⟩,⟨de (aM a),0,bR ([]++fa (aM a) (((cO (aM a)).take k.toNat).drop (Int.toNat 0)))⟩,rfl,?_,?_⟩
 ·simp only[pf,de,c,ao6,aW];omega
 ·intro R _
  have g:List.filter (eP (bR ([]++fa (aM a) (((cO (aM a)).take k.toNat).drop (Int.toNat 0))))) (de (aM a))=Fx (aM a) k.toNat:=by
   unfold Fx;refine congrFun (congrArg _ ?_) _;funext s
   unfold eP;rw[pF];rfl
  simp only[g];exact l
noncomputable def Rb κ:=(NO κ).aw 65 (aO aa7 Pw MA)
theorem e10 κ:aE (Rb κ):=(ae6 _).aw (X6 _) (c10 _)
theorem m10 κ:aj (Rb κ):=(X6 _).aw aH
end Go.Proofs.YtioeffnadipbaaaGreatDoor
namespace Go.Proofs.YtioeffnadipbaaaGreatDoor
open Go Go.Dn Go.Rl Go.Proofs
attribute [local irreducible] a9 vc
set_option maxRecDepth 20000
noncomputable abbrev lp8(a:dk)(b:List AV)(κ:Kp)(st:LoopState)(p:Option Code):Dn.Obj:=
 .loop (iM (Pr κ).toProgram 89 5 st p (ic (bM 63) [(0,au a),(1, .ptr 0 0 [] 0),(2, .ptr 1 0 [] 0),(3, .ptr 2 0 [] 0),(4, .an 3 0 b.length),(5, .int 0),(10, .aJ [.an 3 0 b.length, .int 0]),(11,au a),(12, .aJ [.an 3 0 b.length, .int 0]),(13, .an 3 0 b.length),(14, .int 0),(15, .int 0),(16, .bool false),(18,au a),(19, .bn 169 [.ptr 4 0 [] 0])]))
noncomputable abbrev Fq κ a c b st p:=[.box 48 (au a), .box 4 (.bool b), .box 32 (.int 0), .row 3 c, .box 48 (au a),lp8 a c κ st p]
theorem x8(κ:Kp)(a:dk) ws es done(i:Int) I(n:Nat) K:(vc (Rb κ) 12 169 none 6 (ae (Pr κ).toProgram 169 3) (sp 38 [(0, .cf 5),(1, .ptr 4 0 [] 0),(3, .mp 6),(4, .an 7 0 done.length),(13, .int a.bl.length),(14, .int i)] (Fq κ a ws false .ready none++[.map 9 4 es, .row 4 done])) (bj (Rb κ) 169 3 6 I n K))=(
 letI b:=AV.int
 letI c:=AV.ptr
 letI d:=AV.agg
 letI e:=AV.str
 letI f:=Obj.box
 letI g:=Obj.row
 letI h:=Dn.Obj.map
 letI j:=AV.ah
 letI k:=AV.an
 letI l:=AV.mp
 letI C:=ic (bM 63) [(0,au a),(1,c 0 0 [] 0),(2,c 1 0 [] 0),(3,c 2 0 [] 0),(4,k 3 0 ws.length),(5,b 0),(10,AV.aJ [k 3
  0 ws.length,b 0]),(11,au a),(12,AV.aJ [k 3 0 ws.length,b 0]),(13,k 3 0 ws.length),(14,b 0),(15,b 0),(16,AV.bool
  false),(18,au a),(19,AV.bn 169 [c 4 0 [] 0])]
 letI z:=iM Tryz.prog 89 5 LoopState.ready none C
 letI D:=IntKind.wrap IntKind.i64 (i+(1:Int))
 letI x:=a.bl.length
 letI A:=AV.bool false
 letI E:=sp 38 [] [f 48 (au a),f 4 A,f 32 (b 0),g 3 ws,f 48 (au a),Dn.Obj.loop z]
 letI F:=AV.bool true
 letI y:=K Exit.ret (sp 38 [] [f 48 (au a),f 4 F,f 32 (b 0),g 3 ws,f 48 (au a),Dn.Obj.loop (iM Tryz.prog 89 5
  LoopState.done (some Code.ret) C)])
 letI G:=done.length
 letI p:=Value×AV
 ak (decide (i<(↑x:Int))) (∃(e5:Lm),letI o:=aF (aM e5.a) e5.done e5.b;letI m:=nth a.bl (Int.toNat o);letI q:=(0:Int)<=aF (aM e5.a) e5.done e5.b;letI r:=decide q&&decide (aF (aM e5.a) e5.done e5.b<(↑G:Int));letI B:=[l 0,d [b (toInt (af (af m 3) 0)),e (toStr (af (af m 3) 1)),b (toInt (af (af m 3) 2)),j 38 (ag (af (af m 3) 3))],d [b (toInt (af (af m 2) 0)),e (toStr (af (af m 2) 1)),b (toInt (af (af m 2) 2)),j 38 (ag (af (af m 2) 3))]];letI s:=bt (b9 e5.done) (0+Int.toNat o) F;letI t:=decide ((7:Int)<=toInt (af m 0));letI u:=[h 9 4 (bR e5.b)];([au a,k 0 0 done.length,l 1],[g 4 done,h 9 4 es])=([au e5.a,k 0 0 (List.length (b9 e5.done)),l 1],[g 4 (b9 e5.done),h 9 4 (bR e5.b)])/\(ba (aM e5.a)=true/\(bk (aa (bo 38 e5.a.hl e5.a.bl))<=100000/\List.length e5.a.bl<=100000)/\e5.done.length=List.length e5.a.bl)/\ak (decide (aF (aM e5.a) e5.done e5.b<(0:Int))) (K Exit.ret E) (aR (decide q&&decide (aF (aM e5.a) e5.done e5.b<(↑x:Int))) (ak (toInt (af m 0)==(3:Int)) (∃(e4:TA),letI v:=∃(e3:TA),letI w:=ak t y (aR r (∃(e2:dk×Int),([au a,b o],aL)=([au e2.1,b e2.2],aL)/\(ba (aM e2.1)=true/\(bk (aa (bo 38 e2.1.hl e2.1.bl))<=100000/\e2.1.bl.length<=100000)/\(0:Int)<=e2.2/\e2.2<(↑(e2.1.bl.length):Int))/\∃(e1:List AV×List p),([l 0,j 9 (strs (cI (aM e2.1) e2.2.toNat))],[h 9 4 e3.es])=([l 0,j 9 e1.1],[h 9 4 e1.2])/\bq e1/\∃(e0:Nat),e0<n/\I e0 (sp 38 [(0,AV.cf 5),(1,c 4 0 [] 0),(3,l 6),(4,k 7 0 done.length),(13,b (↑x:Int)),(14,b D)] [f 48 (au a),f 4 A,f 32 (b 0),g 3 ws,f 48 (au a),Dn.Obj.loop z,h 9 4 (fF e1.2 e1.1),g 4 s])));(B,[h 9 4 e4.es])=([l 0,d [b e3.o1,e e3.s1,b e3.n1,j 38 e3.l1],d [b e3.o2,e e3.s2,b e3.n2,j 38 e3.l2]],[h 9 4 e3.es])/\jd e3/\ak (mh e3.es (TA.x e3) (TA.y e3)) (ak (decide (toInt (af (af m 2) 0)>=(5:Int))) y w) w;([l 0,d [b (toInt (af (af m 2) 0)),e (toStr (af (af m 2) 1)),b (toInt (af (af m 2) 2)),j 38 (ag (af (af m 2) 3))],d [b (toInt (af (af m 3) 0)),e (toStr (af (af m 3) 1)),b (toInt (af (af m 3) 2)),j 38 (ag (af (af m 3) 3))]],u)=([l 0,d [b e4.o1,e e4.s1,b e4.n1,j 38 e4.l1],d [b e4.o2,e e4.s2,b e4.n2,j 38 e4.l2]],[h 9 4 e4.es])/\jd e4/\ak (mh e4.es (TA.x e4) (TA.y e4)) (ak (decide (toInt (af (af m 3) 0)>=(5:Int))) y v) v) (ak t y (aR r (∃(e2:dk×Int),([au a,b o],aL)=([au e2.1,b e2.2],aL)/\(ba (aM e2.1)=true/\(bk (aa (bo 38 e2.1.hl e2.1.bl))<=100000/\e2.1.bl.length<=100000)/\(0:Int)<=e2.2/\e2.2<(↑(e2.1.bl.length):Int))/\∃(e1:List AV×List p),([l 0,j 9 (strs (cI (aM e2.1) e2.2.toNat))],u)=([l 0,j 9 e1.1],[h 9 4 e1.2])/\bq e1/\∃(e0:Nat),e0<n/\I e0 (sp 38 [(0,AV.cf 5),(1,c 4 0 [] 0),(3,l 6),(4,k 7 0 done.length),(13,b (↑x:Int)),(14,b D)] [f 48 (au a),f 4 A,f 32 (b 0),g 3 ws,f 48 (au a),Dn.Obj.loop z,h 9 4 (fF e1.2 e1.1),g 4 s]))))))) (K (Exit.exit 0) E)):=by kernel_rfl
structure A8 where
 a:dk
 ws:List AV
 done:List Bool
 b:List ByteArray
 i:Int
noncomputable abbrev Qr κ(a:A8):=sp 38 [(0, .cf 5),(1, .ptr 4 0 [] 0),(3, .mp 6),(4, .an 7 0 (b9 a.done).length),(13, .int a.a.bl.length),(14, .int a.i)] (Fq κ a.a a.ws false .ready none++[.map 9 4 (bR a.b), .row 4 (b9 a.done)])
def FI(a:A8):=ba (aM a.a)=true/\c9 a.a/\0<=a.i/\a.i<=a.a.bl.length/\a.done.length=a.a.bl.length
noncomputable def Kb(a:A8):=LX (aM a.a) (a.a.bl.length - a.i.toNat) a.done a.b
noncomputable def DM(κ:Kp)(a:A8):Out (Exit×S):= .ak (Kb a) (.one (.ret,sp 38 [] (Fq κ a.a a.ws true .done (some .ret)))) (.all (fun _=>True) fun e=> .ak e (.one (.ret,sp 38 [] (Fq κ a.a a.ws false .ready none))) (.one (.exit 0,sp 38 [] (Fq κ a.a a.ws false .ready none))))
theorem JE r n done b:LX r (n+1) done b=
  bif decide (aF r done b<0) then false else K7 r b (aF r done b).toNat||LX r n (done.set (aF r done b).toNat true) (b++cI r (aF r done b).toNat):=rfl
theorem l8 κ:aX (Rb κ) 12 169 3 (aG 6 (Qr κ) FI (DM κ)):=by
 refine aD (fun a=>a.a.bl.length - a.i.toNat) ?_;rintro⟨a,F,done,b,i⟩ K ⟨v,p,W,U,H⟩ s;simp only at v p W U H;rw[show(Rb κ).P=Pr κ from rfl];refine Eq.mpr (x8 κ a F (bR b) (b9 done) i _ _ K) ?_;simp only[DM,Out.run,ad,Kb] at s;simp only[and_self];have I:=jF done;have hl:=p.2;rw[ad,an9,ao1];refine⟨fun V=>⟨⟨a,done,b,0,0⟩,rfl,⟨v,p,H⟩,?_⟩,fun V=>?_⟩
 ·have N:=JE (aM a) (a.bl.length - (i.toNat+1)) done b
  rw[show a.bl.length - (i.toNat+1)+1=a.bl.length - i.toNat by omega] at N;rw[ad,an9,ao1];refine⟨fun e=>?_,fun e=>?_⟩
  ·rw[N,ao5 e] at s
   exact(s.2 rfl true trivial).1 rfl
  ·rw[N,ao3 e,ao4] at s
   rcases qP (aM a) done b with e0|⟨z,X,Y,_⟩
   ·rw[e0] at e;omega
   have r:=X;rw[fY] at r;have Z:=th p r;have Q:=lq p r;have l:aF (aM a) done b<a.bl.length:=by omega
   have q:bq (strs (cI (aM a) (aF (aM a) done b).toNat),bR b):=by simp only[bq,bd,aW];omega
   have u:(decide (0<=aF (aM a) done b)&&decide (aF (aM a) done b<(a.bl.length:Int)))=true:=by simp[z,l]
   have d:(decide (0<=aF (aM a) done b)&&decide (aF (aM a) done b<((b9 done).length:Int)))=true:=by rw[I,H];exact u
   have O:jT (cZ (nth a.bl (aF (aM a) done b).toNat))=bk [cH (af (nth a.bl (aF (aM a) done b).toNat) 2),cH (af (nth a.bl (aF (aM a) done b).toNat) 3)]+bk (aa (ag (af (af (nth a.bl (aF (aM a) done b).toNat) 1) 1))):=rfl;have A:bk [cH (af (nth a.bl (aF (aM a) done b).toNat) 2)]<=100000/\bk [cH (af (nth a.bl (aF (aM a) done b).toNat) 3)]<=100000:=by
    simp only[bk] at O⊢;omega
   have L:jd (mb (af (nth a.bl (aF (aM a) done b).toNat) 2) (af (nth a.bl (aF (aM a) done b).toNat) 3) (bR b)):=by unfold jd mb;rw[oz];exact A.2
   have C:jd (mb (af (nth a.bl (aF (aM a) done b).toNat) 3) (af (nth a.bl (aF (aM a) done b).toNat) 2) (bR b)):=by unfold jd mb;rw[oz];exact A.1
   have J:mh (mb (af (nth a.bl (aF (aM a) done b).toNat) 2) (af (nth a.bl (aF (aM a) done b).toNat) 3) (bR b)).es (mb (af (nth a.bl (aF (aM a) done b).toNat) 2) (af (nth a.bl (aF (aM a) done b).toNat) 3) (bR b)).x (mb (af (nth a.bl (aF (aM a) done b).toNat) 2) (af (nth a.bl (aF (aM a) done b).toNat) 3) (bR b)).y=mc b (cH (af (nth a.bl (aF (aM a) done b).toNat) 2)) (cH (af (nth a.bl (aF (aM a) done b).toNat) 3)):=by
    unfold mb;rw[Cc,oz,pE]
   have B:mh (mb (af (nth a.bl (aF (aM a) done b).toNat) 3) (af (nth a.bl (aF (aM a) done b).toNat) 2) (bR b)).es (mb (af (nth a.bl (aF (aM a) done b).toNat) 3) (af (nth a.bl (aF (aM a) done b).toNat) 2) (bR b)).x (mb (af (nth a.bl (aF (aM a) done b).toNat) 3) (af (nth a.bl (aF (aM a) done b).toNat) 2) (bR b)).y=mc b (cH (af (nth a.bl (aF (aM a) done b).toNat) 3)) (cH (af (nth a.bl (aF (aM a) done b).toNat) 2)):=by
    unfold mb;rw[Cc,oz,pE]
   have c:K7 (aM a) b (aF (aM a) done b).toNat=((decide (toInt (af (nth a.bl (aF (aM a) done b).toNat) 0)=3)&&(mc b (cH (af (nth a.bl (aF (aM a) done b).toNat) 2)) (cH (af (nth a.bl (aF (aM a) done b).toNat) 3))&&decide (toInt (af (af (nth a.bl (aF (aM a) done b).toNat) 3) 0)>=5)||mc b (cH (af (nth a.bl (aF (aM a) done b).toNat) 3)) (cH (af (nth a.bl (aF (aM a) done b).toNat) 2))&&decide (toInt (af (af (nth a.bl (aF (aM a) done b).toNat) 2) 0)>=5)))||decide (7<=toInt (af (nth a.bl (aF (aM a) done b).toNat) 0))):=by
    have T:(cH (af (nth a.bl (aF (aM a) done b).toNat) 2)).op=toInt (af (af (nth a.bl (aF (aM a) done b).toNat) 2) 0):=by rw[dc];rfl
    have R:(cH (af (nth a.bl (aF (aM a) done b).toNat) 3)).op=toInt (af (af (nth a.bl (aF (aM a) done b).toNat) 3) 0):=by rw[dc];rfl
    unfold K7;rw[show(aM a).body=dv a.bl from rfl,kH _ r,show(cZ (nth a.bl (aF (aM a) done b).toNat)).op=toInt (af (nth a.bl (aF (aM a) done b).toNat) 0) from rfl,show(cZ (nth a.bl (aF (aM a) done b).toNat)).x=cH (af (nth a.bl (aF (aM a) done b).toNat) 2) from rfl,show(cZ (nth a.bl (aF (aM a) done b).toNat)).y=cH (af (nth a.bl (aF (aM a) done b).toNat) 3) from rfl,T,R]
   have f:(toInt (af (nth a.bl (aF (aM a) done b).toNat) 0)==3)=true->decide (toInt (af (nth a.bl (aF (aM a) done b).toNat) 0)=3)=true:=fun e=>by simpa using e
   have D:(toInt (af (nth a.bl (aF (aM a) done b).toNat) 0)==3)=false->decide (toInt (af (nth a.bl (aF (aM a) done b).toNat) 0)=3)=false:=fun e=>by simpa using e
   have h:K7 (aM a) b (aF (aM a) done b).toNat=true->K .ret (sp 38 [] (Fq κ a F true .done (some .ret))):=fun e=>s.1 (by rw[e];rfl)
   have E:K7 (aM a) b (aF (aM a) done b).toNat=false->∃m,m<a.bl.length - i.toNat/\et (Qr κ) FI (DM κ) (fun a=>a.a.bl.length - a.i.toNat) K m (sp 38 [(0, .cf 5),(1, .ptr 4 0 [] 0),(3, .mp 6),(4, .an 7 0 (b9 done).length),(13, .int a.bl.length),(14, .int (IntKind.wrap .i64 (i+1)))] (Fq κ a F false .ready none++[.map 9 4 (fF (bR b) (strs (cI (aM a) (aF (aM a) done b).toNat))), .row 4 (bt (b9 done) (0+(aF (aM a) done b).toNat) (.lit (.bool true)))])):=by
    intro e;rw[e,Bool.false_or] at s;rw[az (n:=i+1) (by omega) (by omega)];refine⟨_,?_,⟨a,F,done.set (aF (aM a) done b).toNat true,b++cI (aM a) (aF (aM a) done b).toNat,i+1⟩,?_,⟨v,p,by simp only;omega,by simp only;omega,by simpa using H⟩,rfl,?_⟩
    ·simp only;omega
    ·simp only[Qr,Nat.zero_add,qt,mo,jF,List.length_set]
    ·simp only[DM,Out.run,ad,Kb,show(i+1).toNat=i.toNat+1 by omega]
     exact s
   rw[ai];refine⟨u,?_⟩;rw[ad];exact⟨fun j=>⟨mb (af (nth a.bl (aF (aM a) done b).toNat) 2) (af (nth a.bl (aF (aM a) done b).toNat) 3) (bR b),rfl,L,by
   rw[J];exact ad.2 ⟨fun o=>ad.2 ⟨fun w=>h (by rw[c,f j,o,w];simp),fun w=>⟨mb (af (nth a.bl (aF (aM a) done b).toNat) 3) (af (nth a.bl (aF (aM a) done b).toNat) 2) (bR b),rfl,C,by
   rw[B];exact ad.2 ⟨fun k=>ad.2 ⟨fun t=>h (by rw[c,f j,o,w,k,t];simp),fun t=>ad.2 ⟨fun g=>h (by rw[c,f j,o,w,k,t,g];simp),fun g=>ai.2 ⟨d,(a,(aF (aM a) done b)),rfl,⟨v,p,z,l⟩,(strs (cI (aM a) (aF (aM a) done b).toNat),bR b),rfl,q,E (by rw[c,f j,o,w,k,t,g];simp)⟩⟩⟩,fun k=>ad.2 ⟨fun g=>h (by rw[c,f j,o,w,k,g];simp),fun g=>ai.2 ⟨d,(a,(aF (aM a) done b)),rfl,⟨v,p,z,l⟩,(strs (cI (aM a) (aF (aM a) done b).toNat),bR b),rfl,q,E (by rw[c,f j,o,w,k,g];simp)⟩⟩⟩⟩⟩,fun o=>⟨mb (af (nth a.bl (aF (aM a) done b).toNat) 3) (af (nth a.bl (aF (aM a) done b).toNat) 2) (bR b),rfl,C,by
   rw[B];exact ad.2 ⟨fun k=>ad.2 ⟨fun t=>h (by rw[c,f j,o,k,t];simp),fun t=>ad.2 ⟨fun g=>h (by rw[c,f j,o,k,t,g];simp),fun g=>ai.2 ⟨d,(a,(aF (aM a) done b)),rfl,⟨v,p,z,l⟩,(strs (cI (aM a) (aF (aM a) done b).toNat),bR b),rfl,q,E (by rw[c,f j,o,k,t,g];simp)⟩⟩⟩,fun k=>ad.2 ⟨fun g=>h (by rw[c,f j,o,k,g];simp),fun g=>ai.2 ⟨d,(a,(aF (aM a) done b)),rfl,⟨v,p,z,l⟩,(strs (cI (aM a) (aF (aM a) done b).toNat),bR b),rfl,q,E (by rw[c,f j,o,k,g];simp)⟩⟩⟩⟩⟩⟩,fun j=>ad.2 ⟨fun g=>h (by rw[c,D j,g];simp),fun g=>ai.2 ⟨d,(a,(aF (aM a) done b)),rfl,⟨v,p,z,l⟩,(strs (cI (aM a) (aF (aM a) done b).toNat),bR b),rfl,q,E (by rw[c,D j,g];simp)⟩⟩⟩
 ·rw[show a.bl.length - i.toNat=0 by omega] at s
  exact(s.2 rfl false trivial).2 rfl
noncomputable def X7 κ:=(Rb κ).aq 169 3 (aG 6 (Qr κ) FI (DM κ))
theorem e8l κ:aE (X7 κ):=(e10 _).aq (m10 _) (l8 _)
theorem m8l κ:aj (X7 κ):=(m10 _).aq aI
theorem y8 κ a K:(a9 (X7 κ) 12 89 [au a] [] K)=(
 letI b:=AV.int
 letI c:=AV.ptr
 letI d:=AV.bool
 letI e:=Obj.box
 letI f:=Obj.row
 letI g:=AV.aJ
 letI h:=AV.an
 letI i:=a.bl.length
 letI l:=K (g [d false,b 0]) []
 letI m:=Pg.toProgram (Env.P (Rb κ))
 letI k:=d false
 letI n:=Int.toNat (↑i:Int)
 ∃(e2:dk),letI j:=List.length (cO (aM e2));([au a],aL)=([au e2],aL)/\(bk (aa (bo 38 e2.hl e2.bl))<=100000/\e2.bl.length<=100000)/\ak (ba (aM e2)) (ak (jY (aM e2)) (aR (true&&decide ((↑i:Int)<=(↑i:Int))&&decide ((Int.toNat (↑i:Int)+1)*2<=70368744177664)&&true) (ae m 169 3=ae m 169 3/\∃(e1:A8),letI o:=[h 3 0 e1.ws.length,b 0];sp 38 [(0,AV.cf 5),(1,c 4 0 [] 0),(3,AV.mp 6),(4,h 7 0 n),(13,b (↑i:Int)),(14,b 0)] [e 48 (au a),e 4 k,e 32 (b 0),f 3 (ints (cO (aM e2))),e 48 (au a),Dn.Obj.loop (iM Tryz.prog 89 5 LoopState.ready none (ic (bM 63) [(0,au a),(1,c 0 0 [] 0),(2,c 1 0 [] 0),(3,c 2 0 [] 0),(4,h 3 0 j),(5,b 0),(10,g [h 3 0 j,b 0]),(11,au a),(12,g [h 3 0 j,b 0]),(13,h 3 0 j),(14,b 0),(15,b 0),(16,d false),(18,au a),(19,AV.bn 169 [c 4 0 [] 0])])),Dn.Obj.map 9 4 [],f 4 (fQ k n)]=sp 38 [(0,AV.cf 5),(1,c 4 0 [] 0),(3,AV.mp 6),(4,h 7 0 (List.length (b9 e1.done))),(13,b (↑(List.length e1.a.bl):Int)),(14,b e1.i)] [e 48 (au e1.a),e 4 k,e 32 (b 0),f 3 e1.ws,e 48 (au e1.a),Dn.Obj.loop (iM Tryz.prog 89 5 LoopState.ready none (ic (bM 63) [(0,au e1.a),(1,c 0 0 [] 0),(2,c 1 0 [] 0),(3,c 2 0 [] 0),(4,h 3 0 e1.ws.length),(5,b 0),(10,g o),(11,au e1.a),(12,g o),(13,h 3 0 e1.ws.length),(14,b 0),(15,b 0),(16,d false),(18,au e1.a),(19,AV.bn 169 [c 4 0 [] 0])])),Dn.Obj.map 9 4 (bR e1.b),f 4 (b9 e1.done)]/\(ba (aM e1.a)=true/\(bk (aa (bo 38 e1.a.hl e1.a.bl))<=100000/\List.length e1.a.bl<=100000)/\(0:Int)<=e1.i/\e1.i<=(↑(List.length e1.a.bl):Int)/\e1.done.length=List.length e1.a.bl)/\ak (Kb e1) (K (g [d true,b 0]) []) (∀(e0:Bool),True->ak e0 l l))) (K (g [d false,b 60]) [])) (K (g [d false,b 30]) [])):=by kernel_rfl
def U8(a:dk):Out (AV×List Dn.Obj):= .ak (ba (aM a)) (.ak (jY (aM a)) (.one (.aJ [.bool (Ok (aM a)), .int 0],[])) (.one (.aJ [.bool false, .int 60],[]))) (.one (.aJ [.bool false, .int 30],[]))
theorem c8 κ:bg (X7 κ) 12 89 (aO DW c9 U8):=by
 refine aU ?_;rintro a K e c;refine Eq.mpr (y8 κ a K) ?_;simp only[U8,Out.run,ad] at c;have i:=e.2;refine⟨a,rfl,e,?_⟩;rw[ad];refine⟨fun b=>?_,fun b=>c.2 b⟩;rw[ad];refine⟨fun d=>?_,fun d=>(c.1 b).2 d⟩;have h:=tn d;have f:=(c.1 b).1 d;simp only[ai,ao0,an9,Int.toNat_natCast];have g:Kb ⟨a,ints (cO (aM a)),List.replicate a.bl.length false,[],0⟩=Ok (aM a):=by
  unfold Kb Ok;rw[fY];rfl
 refine⟨by grind,trivial,⟨a,ints (cO (aM a)),List.replicate a.bl.length false,[],0⟩,?_,⟨b,e,by simp only;omega,by simp only;omega,by simp⟩,?_⟩
 ·simp only[uv,jF,r7,List.length_replicate];rfl
 grind [ad]
noncomputable def E8 κ:=(X7 κ).aw 89 (aO DW c9 U8)
theorem e8 κ:aE (E8 κ):=(e8l _).aw (m8l _) (c8 _)
theorem m8 κ:aj (E8 κ):=(m8l _).aw aH
def W5:List AV->Option (Bool×AV)
 |[.agg [.lit (.int .i64 b), .lit (.string s), .lit (.int .i64 n), .ah 38 l], .lit (.int .i64 a)]=>some (decide (0<=a)&&decide (a<=100000), .int ((Tm.mk b s n (aa l)).size a))
 |_=>none
def Kj:List AV->Nat
 |[.agg [_,_,_, .ah _ l],_]=>bk (aa l)
 |_=>0
noncomputable def EW κ n:=(E8 κ).aK 105 (below W5 Kj n)
structure A54 where
 op:Int
 s:ByteArray
 n:Int
 l:List AV
 left:Int
 i:Int
abbrev Po(a:A54):=sp 31 [(1, .int a.left),(2, .ptr 0 0 [] 0),(5, .int a.i)] [.box 38 (.agg [.int a.op, .lit (.string a.s), .int a.n, .ah 38 a.l])]
theorem x54 κ r a I n K:(vc (EW κ r) 12 105 none 0 (ae (Pr κ).toProgram 105 5) (Po a) (bj (EW κ r) 105 5 0 I n K))=(
 letI b:=AV.int
 letI c:=nth a.l a.i.toNat
 letI d:=K (Exit.exit 0) (sp 31 [(1,b a.left)] [])
 letI e:=a.i<(↑(a.l.length):Int)
 ak (decide e) (ak (decide (a.left>=(0:Int))) (aR (decide ((0:Int)<=a.i)&&decide e) (aR (decide ((0:Int)<=a.left)&&decide (a.left<=(100000:
 Int))&&Nat.blt (Kj [AV.agg [b (toInt (af c 0)),AV.str (toStr (af c 1)),b (toInt (af c 2)),AV.ah 38 (ag (af c 3))],b a.left]) r) (∃(e0
 :Nat),e0<n/\I e0 (sp 31 [(1,b (Tm.size (Tm.mk (toInt (af c 0)) (toStr (af c 1)) (toInt (af c 2)) (aa (ag (af c 3)))) a.left)),(2,AV.ptr 0 0 []
 0),(5,b (IntKind.wrap IntKind.i64 (a.i+(1:Int))))] [Obj.box 38 (AV.agg [b a.op,AV.str a.s,b a.n,AV.ah 38 a.l])])))) d) d):=by kernel_rfl
def Ic r(a:A54):= -1<=a.left/\a.i+a.left<=100000/\0<=a.i/\a.i<=a.l.length/\bk (aa (a.l.drop a.i.toNat))<=r
def A5(a:A54):Out (Exit×S):= .one (.exit 0,sp 31 [(1, .int (jg (aa (a.l.drop a.i.toNat)) a.left))] [])
theorem l54 κ r:aX (EW κ r) 12 105 5 (aG 0 Po (Ic r) A5):=by
 refine aD (fun a=>a.l.length - a.i.toNat) ?_;rintro⟨f,s,n,l,b,i⟩ K ⟨j,k,g,h,m⟩ c;simp only at j k g h m;rw[show(EW κ r).P=Pr κ from rfl];refine Eq.mpr (x54 κ r ⟨f,s,n,l,b,i⟩ _ _ K) ?_;simp only[A5,Out.run] at c;simp only[ad,ai,an9,ao1,ao0,Nat.blt_eq,←dc];refine⟨fun e=>⟨fun d=>⟨⟨g,e⟩,?_⟩,fun d=>?_⟩,fun e=>?_⟩
 ·have o:=xu l i.toNat (by omega)
  have p:=Tm.size_le (cH (nth l i.toNat)) b d;have q:(cH (nth l i.toNat)).mP=1+bk (aa (ag (af (nth l i.toNat) 3))):=by rw[dc,Tm.mP]
  rw[eL l i.toNat (by omega),jg,ao5 d,ao6] at c;rw[az (n:=i+1) (by omega) (by omega)];refine⟨⟨⟨d,by omega⟩,by simp only[Kj];omega⟩,_,?_,⟨f,s,n,l,(cH (nth l i.toNat)).size b,i+1⟩,rfl,⟨by simp only;omega,by simp only;omega,by simp only;omega,by simp only;omega,?_⟩,rfl,?_⟩
  ·simp only;omega
  ·simp only[show(i+1).toNat=i.toNat+1 by omega];omega
  ·simp only[A5,Out.run,show(i+1).toNat=i.toNat+1 by omega]
   exact c
 ·rw[eL l i.toNat (by omega),jg,ao3 (show ¬ 0<=b from d),ao4] at c
  exact c
 ·rw[ao7 (by omega)] at c
  exact c
noncomputable def OC κ r:=(EW κ r).aq 105 5 (aG 0 Po (Ic r) A5)
theorem y54 κ r op s n l left K:(a9 (OC κ r) 12 105 [.agg [.int op, .lit (.string s), .int n, .ah 38 l], .int left] [] K)=(
 letI b:=AV.int
 ak (decide ((↑(ByteArray.size s):Int)>(1000:Int))) (K (b (-1)) []) (ae (Pg.toProgram (Env.P (EW κ r))) 105 5=ae (Pg.toProgram (Env.P (EW κ r))) 105 5/\∃(a:A54),letI c:=aa (List.drop a.i.toNat a.l);sp 31 [(1,b (IntKind.wrap IntKind.i64 (left - (1:Int)))),(2,AV.ptr 0 0 [] 0),(5,b 0)] [Obj.box 38 (AV.agg [b op,AV.str s,b n,AV.ah 38 l])]=sp 31 [(1,b a.left),(2,AV.ptr 0 0 [] 0),(5,b a.i)] [Obj.box 38 (AV.agg [b a.op,AV.str a.s,b a.n,AV.ah 38 a.l])]/\((-1:Int)<=a.left/\a.i+a.left<=(100000:Int)/\(0:Int)<=a.i/\a.i<=(↑(a.l.length):Int)/\bk c<=r)/\K (b (jg c a.left)) [])):=by kernel_rfl
theorem ae1 κ r(b:gr (Pr κ) 105 (below W5 Kj r)):aE (OC κ r)/\aj (OC κ r)/\(OC κ r).P=Pr κ:=
 have h:=(e8 _).eT b;have a:=(m8 _).aK
 ⟨h.aq a (l54 _ r),a.aq aI,rfl⟩
theorem p54 κ r:cg (OC κ r) 12 105 fun xs=>bif Nat.beq (Kj xs) r then W5 xs else none:=by
 intro c x b;cases d:Nat.beq (Kj c) r with
 |false=>simp only[d] at b;cases b
 | true=>
  simp only[d,ao6] at b;unfold W5 at b;split at b
  ·rename_i f s n l a
   simp only[ao2,ao8,ao0,an9] at b;obtain⟨⟨h,i⟩,rfl⟩:=b;have g:bk (aa l)=r:=Nat.eq_of_beq_eq_true d;refine⟨_,rfl,rfl,?_⟩;refine Eq.mpr (y54 κ r f s n l a _) ?_;rw[ad,an9,ao1];refine⟨fun e=>?_,fun e=>?_⟩
   ·unfold Tm.size;rw[ao5 (show(1000:Int)<s.size from e)];rfl
   ·rw[az (n:=a - 1) (by omega) (by omega)]
    refine⟨rfl,⟨f,s,n,l,a - 1,0⟩,rfl,⟨by simp only;omega,by simp only;omega,by simp only;omega,by simp only;omega,?_⟩,?_⟩
    ·simp only[Int.toNat_zero,ao9];omega
    ·unfold Tm.size;rw[ao3 (show ¬ (1000:Int)<s.size from e)];rfl
  ·cases b
theorem q54 κ:gr (Pr κ) 105 W5:=aE.wj _ _ _ (ae1 _) (p54 _)
noncomputable def Ru κ:=(E8 κ).aK 105 W5
theorem e54 κ:aE (Ru κ):=(e8 _).eT (q54 _)
theorem m54 κ:aj (Ru κ):=(m8 _).aK
structure A53 where
 s:ByteArray
 l:List AV
 left:Int
 i:Int
abbrev MO(a:A53):=sp 29 [(1, .int a.left),(2, .ptr 0 0 [] 0),(5, .int a.i)] [.box 45 (.agg [.lit (.string a.s), .ah 38 a.l])]
theorem x53 κ a I n K:(vc (Ru κ) 12 104 none 0 (ae (Pr κ).toProgram 104 4) (MO a) (bj (Ru κ) 104 4 0 I n K))=(
 letI b:=nth a.l a.i.toNat
 letI c:=K (Exit.exit 0) (sp 29 [(1,AV.int a.left)] [])
 letI d:=a.i<(↑(a.l.length):Int)
 ak (decide d) (ak (decide (a.left>=(0:Int))) (aR (decide ((0:Int)<=a.i)&&decide d) (aR (decide ((0:Int)<=a.left)&&decide (a.left<=(100000:
 Int))) (∃(e0:Nat),e0<n/\I e0 (sp 29 [(1,AV.int (Tm.size (Tm.mk (toInt (af b 0)) (toStr (af b 1)) (toInt (af b 2)) (aa (ag (af b 3)))) a.left)),(2,
 AV.ptr 0 0 [] 0),(5,AV.int (IntKind.wrap IntKind.i64 (a.i+(1:Int))))] [Obj.box 45 (AV.agg [AV.str a.s,AV.ah 38 a.l])])))) c) c):=by kernel_rfl
def IB(a:A53):= -1<=a.left/\a.i+a.left<=100000/\0<=a.i/\a.i<=a.l.length
def BV(a:A53):Out (Exit×S):= .one (.exit 0,sp 29 [(1, .int (jg (aa (a.l.drop a.i.toNat)) a.left))] [])
theorem l53 κ:aX (Ru κ) 12 104 4 (aG 0 MO IB BV):=by
 refine aD (fun a=>a.l.length - a.i.toNat) ?_;rintro⟨s,l,b,i⟩ K ⟨g,j,f,h⟩ c;simp only at g j f h;rw[show(Ru κ).P=Pr κ from rfl];refine Eq.mpr (x53 κ ⟨s,l,b,i⟩ _ _ K) ?_;simp only[BV,Out.run] at c;simp only[ad,ai,an9,ao1,ao0,←dc];refine⟨fun e=>⟨fun d=>⟨⟨f,e⟩,?_⟩,fun d=>?_⟩,fun e=>?_⟩
 ·have k:=Tm.size_le (cH (nth l i.toNat)) b d
  rw[eL l i.toNat (by omega),jg,ao5 d,ao6] at c;rw[az (n:=i+1) (by omega) (by omega)];refine⟨⟨d,by omega⟩,_,?_,⟨s,l,(cH (nth l i.toNat)).size b,i+1⟩,rfl,⟨by simp only;omega,by simp only;omega,by simp only;omega,by simp only;omega⟩,rfl,?_⟩
  ·simp only;omega
  ·simp only[BV,Out.run,show(i+1).toNat=i.toNat+1 by omega]
   exact c
 ·rw[eL l i.toNat (by omega),jg,ao3 (show ¬ 0<=b from d),ao4] at c
  exact c
 ·rw[ao7 (by omega)] at c
  exact c
noncomputable def Mb κ:=(Ru κ).aq 104 4 (aG 0 MO IB BV)
theorem ah6 κ:aE (Mb κ):=(e54 _).aq (m54 _) (l53 _)
theorem XH κ:aj (Mb κ):=(m54 _).aq aI
theorem y53 κ s l left K:(a9 (Mb κ) 12 104 [.agg [.lit (.string s), .ah 38 l], .int left] [] K)=(
 letI a:=AV.int
 letI b:=Pg.toProgram (Env.P (Ru κ))
 ak (decide ((↑(ByteArray.size s):Int)>(1000:Int))) (K (a (-1)) []) (ae b 104 4=ae b 104 4/\∃(e0:A53),sp 29 [(1,a left),(2,AV.ptr 0 0
 [] 0),(5,a 0)] [Obj.box 45 (AV.agg [AV.str s,AV.ah 38 l])]=sp 29 [(1,a e0.left),(2,AV.ptr 0 0 [] 0),(5,a e0.i)] [Obj.box 45 (AV.agg
 [AV.str e0.s,AV.ah 38 e0.l])]/\((-1:Int)<=e0.left/\e0.i+e0.left<=(100000:Int)/\(0:Int)<=e0.i/\e0.i<=(↑(e0.l.length):Int))/\K (a (jg (aa
 (List.drop e0.i.toNat e0.l)) e0.left)) [])):=by kernel_rfl
def g53:List AV->Option (Bool×AV)
 |[.agg [.lit (.string s), .ah 38 l], .lit (.int .i64 a)]=>some (decide (-1<=a)&&decide (a<=100000), .int (du ⟨s,aa l⟩ a))
 |_=>none
theorem p53 κ:cg (Mb κ) 12 104 g53:=by
 intro c x b;unfold g53 at b;split at b
 ·rename_i s l a
  simp only[ao2,ao8,ao0,an9] at b;obtain⟨⟨f,d⟩,rfl⟩:=b;refine⟨_,rfl,rfl,?_⟩;refine Eq.mpr (y53 κ s l a _) ?_;rw[ad,an9,ao1];refine⟨fun e=>?_,fun e=>?_⟩
  ·unfold du;rw[ao5 (show(1000:Int)<s.size from e)];rfl
  ·refine⟨rfl,⟨s,l,a,0⟩,rfl,by grind,?_⟩
   unfold du;grind
 ·cases b
noncomputable def Rm κ:=(Mb κ).aK 104 g53
theorem e53 κ:aE (Rm κ):=(ah6 _).aK (XH _) (p53 _)
theorem m53 κ:aj (Rm κ):=(XH _).aK
structure Yb where
 a:dk
 left:Int
 i:Int
abbrev Eg(a:Yb):=sp 52 [(1, .int a.left),(2, .ptr 0 0 [] 0),(5, .int a.i)] [.box 48 (au a.a)]
theorem x38(κ:Kp)(a:Yb) I(n:Nat) K:(vc (Rm κ) 12 60 none 0 (ae (Pr κ).toProgram 60 3) (Eg a) (bj (Rm κ) 60 3 0 I n K))=(
 letI b:=IntKind.wrap IntKind.i64
 letI c:=AV.ptr 0 0 []
 letI d:=AV.int
 letI e:=Obj.box
 letI f:=nth a.a.bl a.i.toNat
 letI p:=Tm.mk (toInt (af (af f 2) 0)) (toStr (af (af f 2) 1)) (toInt (af (af f 2) 2)) (aa (ag (af (af f 2) 3)))
 letI t:=AV.agg [AV.agg [AV.str a.a.rel,AV.ah 38 a.a.hl],AV.ah 80 a.a.bl,d a.a.line]
 letI k:=ag (af (af f 1) 1)
 letI m:=af (af f 1) 0
 letI u:=b (a.i+(1:Int))
 letI q:=Tm.mk (toInt (af (af f 3) 0)) (toStr (af (af f 3) 1)) (toInt (af (af f 3) 2)) (aa (ag (af (af f 3) 3)))
 letI r:=K (Exit.exit 0) (sp 52 [(1,d a.left)] [])
 letI s:=a.i<(↑(List.length a.a.bl):Int)
 letI v:=decide ((0:Int)<=a.i)&&decide s
 letI h:=a.left - (1:Int)
 letI o:=b h
 letI g:=du {rel:=toStr m,l:=aa k} o
 letI i:=du {rel:=toStr m,l:=aa k} o
 letI j:=(100000:Int)
 letI w:=decide ((0:Int)<=du {rel:=toStr m,l:=aa k} o)&&decide (du {rel:=toStr m,l:=aa k} o<=j)
 ak (decide s) (ak (decide (a.left>=(0:Int))) (aR v (aR (decide ((-1:Int)<=b h)&&decide (b h<=j)) (ak (decide (du {rel:=toStr m,l:=aa k} o>=(0:Int))) (aR v (aR w (ak (decide (Tm.size p g>=(0:Int))) (aR v (aR (decide ((0:Int)<=Tm.size p i)&&decide (Tm.size p g<=j)) (∃(e0:Nat),e0<n/\I e0 (sp 52 [(1,AV.lit (Value.int IntKind.i64 (Tm.size q (Tm.size p g)))),(2,c 0),(5,d u)] [e 48 t])))) (∃(e0:Nat),e0<n/\I e0 (sp 52 [(1,AV.lit (Value.int IntKind.i64 (Tm.size p i))),(2,c 0),(5,d u)] [e 48 t]))))) (ak (decide (du {rel:=toStr m,l:=aa k} o>=(0:Int))) (aR v (aR w (∃(e0:Nat),e0<n/\I e0 (sp 52 [(1,AV.lit (Value.int IntKind.i64 (Tm.size q i))),(2,c 0),(5,d u)] [e 48 t])))) (∃(e0:Nat),e0<n/\I e0 (sp 52 [(1,AV.lit (Value.int IntKind.i64 g)),(2,c 0),(5,d u)] [e 48 t])))))) r) r):=by kernel_rfl
def AZ(a:Yb):= -1<=a.left/\a.i+a.left<=100000/\0<=a.i/\a.i<=a.a.bl.length
def xQ(a:Yb):Out (Exit×S):= .one (.exit 0,sp 52 [(1, .int (lR (dv (a.a.bl.drop a.i.toNat)) a.left))] [])
theorem l38 κ:aX (Rm κ) 12 60 3 (aG 0 Eg AZ xQ):=by
 refine aD (fun a=>a.a.bl.length - a.i.toNat) ?_;rintro⟨a,b,i⟩ K ⟨o,t,j,v⟩ c;simp only at o t j v;rw[show(Rm κ).P=Pr κ from rfl];refine Eq.mpr (x38 κ ⟨a,b,i⟩ _ _ K) ?_;simp only[xQ,Out.run] at c;by_cases f:i<a.bl.length
 ·by_cases g:b>=0
  ·have r:i.toNat<a.bl.length:=by omega
   rw[nY a.bl i.toNat r,lR,ao5 g,ao6] at c;have u:(⟨toStr (af (af (nth a.bl i.toNat) 1) 0),aa (ag (af (af (nth a.bl i.toNat) 1) 1))⟩:At)=(cZ (nth a.bl i.toNat)).a:=rfl;have p:cH (af (nth a.bl i.toNat) 2)=(cZ (nth a.bl i.toNat)).x:=rfl;have q:cH (af (nth a.bl i.toNat) 3)=(cZ (nth a.bl i.toNat)).y:=rfl;have w:=tu (cZ (nth a.bl i.toNat)) b g;have s:=oW (cZ (nth a.bl i.toNat)).a (b - 1) (by omega);have l:=Tm.size_le (cZ (nth a.bl i.toNat)).x (du (cZ (nth a.bl i.toNat)).a (b - 1));have k: ∀z,sizeLt (cZ (nth a.bl i.toNat)) b=z->∃m,m<a.bl.length - i.toNat/\et Eg AZ xQ (fun a=>a.a.bl.length - a.i.toNat) K m (Eg ⟨a,z,i+1⟩):=by
    rintro z rfl;refine⟨_,?_,⟨a,sizeLt (cZ (nth a.bl i.toNat)) b,i+1⟩,rfl,⟨by simp only;omega,by simp only;omega,by simp only;omega,by simp only;omega⟩,rfl,?_⟩
    ·simp only;omega
    ·simp only[xQ,Out.run,show(i+1).toNat=i.toNat+1 by omega]
     exact c
   simp only[az (n:=i+1) (by omega) (by omega),az (n:=b - 1) (by omega) (by omega),u,←dc,p,q];simp only[ad,ai,an9,ao1,ao0];refine⟨fun _=>⟨fun _=>⟨⟨j,f⟩,⟨by omega,by omega⟩,fun d=>⟨⟨j,f⟩,⟨d,by omega⟩,fun h=>⟨⟨j,f⟩,⟨h,by have:=l d;omega⟩,k _ ?_⟩,fun h=>k _ ?_⟩,fun d=>⟨fun e=>absurd e d,fun _=>k _ ?_⟩⟩,fun e=>absurd g e⟩,fun e=>absurd f e⟩
   ·unfold sizeLt;rw[ao5 (show 0<=du (cZ (nth a.bl i.toNat)).a (b - 1) from d),ao6,ao5 (show 0<=(cZ (nth a.bl i.toNat)).x.size _ from h),ao6]
   ·unfold sizeLt;rw[ao5 (show 0<=du (cZ (nth a.bl i.toNat)).a (b - 1) from d),ao6,ao3 (show ¬ 0<=(cZ (nth a.bl i.toNat)).x.size _ from h),ao4]
   ·unfold sizeLt;rw[ao3 (show ¬ 0<=du (cZ (nth a.bl i.toNat)).a (b - 1) from d),ao4];rfl
  ·rw[nY a.bl i.toNat (by omega),lR,ao3 (show ¬ 0<=b from g),ao4] at c
   rw[ao5 (show i<(a.bl.length:Int) from f),ao3 g];exact c
 ·rw[ao7 (by omega)] at c
  rw[ao3 (show ¬ i<(a.bl.length:Int) from f)];exact c
noncomputable def Pq κ:=(Rm κ).aq 60 3 (aG 0 Eg AZ xQ)
theorem al9 κ:aE (Pq κ):=(e53 _).aq (m53 _) (l38 _)
theorem XX κ:aj (Pq κ):=(m53 _).aq aI
theorem y38 κ a left K:(a9 (Pq κ) 12 60 [au a, .int left] [] K)=(
 letI b:=IntKind.wrap IntKind.i64
 letI c:=AV.int
 letI d:=left - (1:Int)
 letI e:=Pg.toProgram (Env.P (Rm κ))
 aR (decide ((-1:Int)<=b d)&&decide (b d<=(100000:Int))) (ae e 60 3=ae e 60 3/\∃(e0:Yb),sp 52 [(1,AV.lit (Value.int IntKind.i64 (du {rel:=a.rel,l:=aa a.hl} (b d)))),(2,AV.ptr 0 0 [] 0),(5,c 0)] [Obj.box 48 (AV.agg [AV.agg [AV.str a.rel,AV.ah 38 a.hl],AV.ah 80 a.bl,c a.line])]=sp 52 [(1,c e0.left),(2,AV.ptr 0 0 [] 0),(5,c e0.i)] [Obj.box 48 (AV.agg [AV.agg [AV.str e0.a.rel,AV.ah 38 e0.a.hl],AV.ah 80 e0.a.bl,c e0.a.line])]/\((-1:Int)<=e0.left/\e0.i+e0.left<=(100000:Int)/\(0:Int)<=e0.i/\e0.i<=(↑(List.length e0.a.bl):Int))/\K (AV.lit (Value.int IntKind.i64 (lR (dv (List.drop e0.i.toNat e0.a.bl)) e0.left))) [])):=by kernel_rfl
def g38:List AV->Option (Bool×AV)
 |[.agg [.agg [.lit (.string b), .ah 38 d], .ah 80 c, .lit (.int .i64 _)], .lit (.int .i64 a)]=>some (decide (0<=a)&&decide (a<=100000), .int (nN ⟨⟨b,aa d⟩,dv c⟩ a))
 |_=>none
theorem p38 κ:cg (Pq κ) 12 60 g38:=by
 intro g x d;unfold g38 at d;split at d
 ·rename_i b e f c a
  simp only[ao2,ao8,ao0,an9] at d;obtain⟨⟨i,j⟩,rfl⟩:=d;refine⟨_,rfl,rfl,?_⟩;refine Eq.mpr (y38 κ ⟨[],[],b,e,f,c,0⟩ a _) ?_;have h:=oW ⟨b,aa e⟩ (a - 1) (by omega);simp only[az (n:=a - 1) (by omega) (by omega)];rw[ai,ao0,an9,an9];exact⟨⟨by omega,by omega⟩,trivial,⟨⟨[],[],b,e,f,c,0⟩,du ⟨b,aa e⟩ (a - 1),0⟩,rfl,by grind,rfl⟩
 ·cases d
noncomputable def QR κ:=(Pq κ).aK 60 g38
theorem e38 κ:aE (QR κ):=(al9 _).aK (XX _) (p38 _)
theorem m38 κ:aj (QR κ):=(XX _).aK
abbrev N1(a:List _×Int):=sp 16 [(0, .ah 9 a.1),(3, .int a.2)] []
theorem x37 κ l i I n K:(vc (QR κ) 12 59 none 0 (ae (Pr κ).toProgram 59 2) (N1 (l,i)) (bj (QR κ) 59 2 0 I n K))=(
 letI a:=i<(↑(l.length):Int)
 ak (decide a) (aR (decide ((0:Int)<=i)&&decide a) (ak (decide ((↑(ByteArray.size (toStr (nth l i.toNat))):Int)>(1000:Int))) (K Exit.ret (sp 16 [(2,
 AV.bool true)] [])) (∃(e0:Nat),e0<n/\I e0 (sp 16 [(0,AV.ah 9 l),(3,AV.int (IntKind.wrap IntKind.i64 (i+(1:Int))))] [])))) (K (Exit.exit 0) (sp 16
 [] []))):=by kernel_rfl
def Hz(a:List AV×Int):=a.1.length<=aW/\0<=a.2/\a.2<=a.1.length
def Ca(a:List AV×Int):Out (Exit×S):= .ak (zh (a.1.drop a.2.toNat)) (.one (.ret,sp 16 [(2, .bool true)] [])) (.one (.exit 0,sp 16 [] []))
theorem l37 κ:aX (QR κ) 12 59 2 (aG 0 N1 Hz Ca):=by
 refine aD (fun a=>a.1.length - a.2.toNat) ?_;rintro⟨l,i⟩ K ⟨c,f,g⟩ b;simp only at c f g;rw[show(QR κ).P=Pr κ from rfl];refine Eq.mpr (x37 κ l i _ _ K) ?_;simp only[aW] at c;simp only[Ca,Out.run,ad] at b;simp only[ad,ai,an9,ao1,ao0];refine⟨fun d=>⟨⟨f,d⟩,?_⟩,fun d=>?_⟩
 ·rw[ap0 (show i.toNat<l.length by omega),←aV l i.toNat (by omega)] at b
  simp only[zh,List.any_cons] at b;refine⟨by grind,fun e=>?_⟩;rw[ao3 (show ¬ (1000:Int)<_ from e),Bool.false_or] at b;rw[az (n:=i+1) (by omega) (by omega)];refine⟨_,?_,(l,i+1),rfl,⟨by simpa[aW] using c,by simp only;omega,by simp only;omega⟩,rfl,?_⟩
  ·simp only;omega
  ·simp only[Ca,Out.run,ad,show(i+1).toNat=i.toNat+1 by omega]
   exact b
 ·rw[ao7 (by omega)] at b
  exact b.2 rfl
noncomputable def PG κ:=(QR κ).aq 59 2 (aG 0 N1 Hz Ca)
theorem aj9 κ:aE (PG κ):=(e38 _).aq (m38 _) (l37 _)
theorem YB κ:aj (PG κ):=(m38 _).aq aI
theorem y37 κ l K:(a9 (PG κ) 12 59 [.ah 9 l] [] K)=(
 letI a:=Pg.toProgram (Env.P (QR κ))
 ae a 59 2=ae a 59 2/\∃(e0:List AV×Int),sp 16 [(0,AV.ah 9 l),(3,AV.int 0)] []=sp 16 [(0,AV.ah 9 e0.1),(3,AV.int e0.2)] []/\(e0.1.length<=
 9223372036854775807/\(0:Int)<=e0.2/\e0.2<=(↑(e0.1.length):Int))/\ak (zh (List.drop e0.2.toNat e0.1)) (K (AV.bool true) []) (K (AV.bool false) [])):=by kernel_rfl
def g37:List AV->Option (Bool×AV)
 |[.ah 9 l]=>some (decide (l.length<=aW), .bool (zh l))
 |_=>none
theorem p37 κ:cg (PG κ) 12 59 g37:=by
 intro b x a;unfold g37 at a;split at a
 ·rename_i l
  simp only[ao2,ao8,an9] at a;obtain⟨c,rfl⟩:=a;refine⟨_,rfl,rfl,?_⟩;refine Eq.mpr (y37 κ l _) ?_;refine⟨rfl,(l,0),rfl,⟨c,by simp only;omega,by simp only;omega⟩,?_⟩;rw[ad];simp
 ·cases a
noncomputable def RJ κ:=(PG κ).aK 59 g37
theorem e37 κ:aE (RJ κ):=(aj9 _).aK (YB _) (p37 _)
theorem m37 κ:aj (RJ κ):=(YB _).aK
structure Ww where
 ds:List AV
 rs:List AV
 left:Int
 i:Int
abbrev K8(a:Ww):AV:= .agg [.ah 43 a.ds, .ah 48 a.rs]
abbrev H7 a:=sp 62 [(1, .ptr 0 0 [] 0),(3, .int a.left),(4, .int a.i)] [.box 25 (K8 a)]
theorem ad8 κ a I n K:(vc (RJ κ) 12 29 none 0 (ae (Pr κ).toProgram 29 3) (H7 a) (bj (RJ κ) 29 3 0 I n K))=(
 letI c:=K Exit.ret (sp 62 [(2,AV.int 0)] [])
 letI d:=AV.agg [AV.ah 43 a.ds,AV.ah 48 a.rs]
 letI b:=nth a.ds a.i.toNat
 letI e:=a.i<(↑(a.ds.length):Int)
 letI f:=decide ((0:Int)<=a.i)&&decide e
 ak (decide e) (aR f (ak (decide ((↑(ByteArray.size (toStr (af b 0))):Int)>(1000:Int))) c (aR f (aR (decide (List.length (ag (af b 1))<=
 9223372036854775807)) (ak (zh (ag (af b 1))) c (∃(e0:Nat),e0<n/\I e0 (sp 62 [(1,AV.ptr 0 0 [] 0),(3,AV.int a.left),(4,AV.int (IntKind.wrap
 IntKind.i64 (a.i+(1:Int))))] [Obj.box 25 d]))))))) (K (Exit.exit 0) (sp 62 [(1,AV.ptr 0 0 [] 0),(3,AV.int a.left)] [Obj.box 25 d]))):=by kernel_rfl
def Bm(a:Ww):=a.ds.length<=aW/\(∀d,d∈a.ds->(ag (af d 1)).length<=aW)/\0<=a.i/\a.i<=a.ds.length
def xO(a:Ww):Out (Exit×S):= .ak ((a.ds.drop a.i.toNat).any J8) (.one (.ret,sp 62 [(2, .int 0)] [])) (.one (.exit 0,sp 62 [(1, .ptr 0 0 [] 0),(3, .int a.left)] [.box 25 (K8 a)]))
theorem am2 κ:aX (RJ κ) 12 29 3 (aG 0 H7 Bm xO):=by
 refine aD (fun a=>a.ds.length - a.i.toNat) ?_;rintro⟨ds,f,b,i⟩ K ⟨j,d,l,q⟩ c;simp only at j d l q;rw[show(RJ κ).P=Pr κ from rfl];refine Eq.mpr (ad8 κ ⟨ds,f,b,i⟩ _ _ K) ?_;simp only[aW] at j;simp only[xO,Out.run,ad] at c;simp only[ad,ai,ao0,an9,ao1];refine⟨fun k=>⟨⟨l,k⟩,?_⟩,fun k=>?_⟩
 ·have e:i.toNat<ds.length:=by omega
  have r:nth ds i.toNat∈ds:=by rw[aV ds _ e];exact List.getElem_mem _
  rw[ap0 e,←aV ds i.toNat e] at c;simp only[List.any_cons,J8] at c;have p:(∀h:((ds.drop (i.toNat+1)).any J8=true->K .ret (sp 62 [(2, .int 0)] []))/\((ds.drop (i.toNat+1)).any J8=false->K (.exit 0) (sp 62 [(1, .ptr 0 0 [] 0),(3, .int b)] [.box 25 (K8 ⟨ds,f,b,i⟩)])),∃m,m<ds.length - i.toNat/\et H7 Bm xO (fun a=>a.ds.length - a.i.toNat) K m (sp 62 [(1, .ptr 0 0 [] 0),(3, .int b),(4, .int (IntKind.wrap .i64 (i+1)))] [.box 25 (K8 ⟨ds,f,b,i⟩)])):=by
   intro h;rw[az (n:=i+1) (by omega) (by omega)];refine⟨_,?_,⟨ds,f,b,i+1⟩,rfl,⟨by simpa[aW] using j,d,by simp only;omega,by simp only;omega⟩,rfl,?_⟩
   ·simp only;omega
   ·simp only[xO,Out.run,ad,show(i+1).toNat=i.toNat+1 by omega]
    exact h
  refine⟨fun o=>c.1 (by rw[ao5 (show(1000:Int)<_ from o)];rfl),fun o=>⟨⟨l,k⟩,d _ r,fun g=>c.1 (by rw[g];simp),fun g=>p ?_⟩⟩;rw[ao3 (show ¬ (1000:Int)<_ from o),g] at c;exact c
 ·rw[ao7 (by omega)] at c
  exact c.2 rfl
noncomputable def AA κ:=(RJ κ).aq 29 3 (aG 0 H7 Bm xO)
theorem ag2 κ:aE (AA κ):=(e37 _).aq (m37 _) (am2 _)
theorem Xx κ:aj (AA κ):=(m37 _).aq aI
abbrev Ni a:=sp 62 [(1, .ptr 0 0 [] 0),(3, .int a.left),(5, .int a.i)] [.box 25 (K8 a)]
theorem ag8 κ a I n K:(vc (AA κ) 12 29 none 0 (ae (Pr κ).toProgram 29 8) (Ni a) (bj (AA κ) 29 8 0 I n K))=(
 letI c:=AV.agg [AV.ah 43 a.ds,AV.ah 48 a.rs]
 letI d:=K (Exit.exit 2) (sp 62 [(1,AV.ptr 0 0 [] 0),(3,AV.int a.left)] [Obj.box 25 c])
 letI b:=nth a.rs a.i.toNat
 letI e:=a.i<(↑(a.rs.length):Int)
 ak (decide e) (ak (decide (a.left>=(0:Int))) (aR (decide ((0:Int)<=a.i)&&decide e) (aR (decide ((0:Int)<=a.left)&&decide (a.left<=(100000:Int))) (∃(e0:Nat),e0<n/\I e0 (sp 62 [(1,AV.ptr 0 0 [] 0),(3,AV.lit (Value.int IntKind.i64 (nN {head:={rel:=toStr (af (af b 0) 0),l:=aa (ag (af (af b 0) 1))},body:=dv (ag (af b 1))} a.left))),(5,AV.int (IntKind.wrap IntKind.i64 (a.i+(1:Int))))] [Obj.box 25 c])))) d) d):=by kernel_rfl
def HZ(a:Ww):= -1<=a.left/\a.i+a.left<=100000/\0<=a.i/\a.i<=a.rs.length
def BJ(a:Ww):Out (Exit×S):= .one (.exit 2,sp 62 [(1, .ptr 0 0 [] 0),(3, .int (nL ((a.rs.drop a.i.toNat).map xJ) a.left))] [.box 25 (K8 a)])
theorem ag0 κ:aX (AA κ) 12 29 8 (aG 0 Ni HZ BJ):=by
 refine aD (fun a=>a.rs.length - a.i.toNat) ?_;rintro⟨ds,c,b,i⟩ K ⟨l,k,h,j⟩ d;simp only at l k h j;rw[show(AA κ).P=Pr κ from rfl];refine Eq.mpr (ag8 κ ⟨ds,c,b,i⟩ _ _ K) ?_;simp only[BJ,Out.run] at d;by_cases g:i<c.length
 ·have f:i.toNat<c.length:=by omega
  rw[ap0 f,←aV c i.toNat f,ap6,nL] at d;by_cases e:b>=0
  ·have m:=wO (xJ (nth c i.toNat)) b e
   rw[ao5 (show 0<=b from e),ao6] at d;rw[ao5 (show i<(c.length:Int) from g),ao5 e,az (n:=i+1) (by omega) (by omega)];simp only[ak,ai,ao0,an9];refine⟨⟨h,trivial⟩,⟨trivial,by omega⟩,_,?_,⟨ds,c,nN (xJ (nth c i.toNat)) b,i+1⟩,rfl,⟨by simp only;omega,by simp only;omega,by simp only;omega,by simp only;omega⟩,rfl,?_⟩
   ·simp only;omega
   ·simp only[BJ,Out.run,show(i+1).toNat=i.toNat+1 by omega]
    exact d
  ·rw[ao3 (show ¬ 0<=b from e),ao4] at d
   rw[ao5 (show i<(c.length:Int) from g),ao3 e];exact d
 ·rw[ao7 (by omega)] at d
  rw[ao3 (show ¬ i<(c.length:Int) from g)];exact d
noncomputable def ME κ:=(AA κ).aq 29 8 (aG 0 Ni HZ BJ)
theorem ak6 κ:aE (ME κ):=(ag2 _).aq (Xx _) (ag0 _)
theorem XR κ:aj (ME κ):=(Xx _).aq aI
theorem y22 κ ds rs K:(a9 (ME κ) 12 29 [.agg [.ah 43 ds, .ah 48 rs]] [] K)=(
 letI a:=AV.ptr 0 0 []
 letI b:=AV.int
 letI c:=AV.ah
 letI d:=K (b 0) []
 letI e:=Pg.toProgram (Env.P (RJ κ))
 letI f:=Pg.toProgram (Env.P (AA κ))
 ae e 29 3=ae e 29 3/\∃(e1:Ww),letI g:=[Obj.box 25 (AV.agg [c 43 e1.ds,c 48 e1.rs])];sp 62 [(1,a 0),(3,b 2000),(4,b 0)] [Obj.box 25 (AV.agg [c 43 ds,c 48 rs])]=sp 62 [(1,a 0),(3,b e1.left),(4,b e1.i)] g/\(e1.ds.length<=9223372036854775807/\(∀(e0:AV),List.Mem e0 e1.ds->List.length (ag (af e0 1))<=9223372036854775807)/\(0:Int)<=e1.i/\e1.i<=(↑(e1.ds.length):Int))/\ak (List.any (List.drop e1.i.toNat e1.ds) J8) d (ae f 29 8=ae f 29 8/\∃(e0:Ww),sp 62 [(1,a 0),(3,b e1.left),(5,b 0)] g=sp 62 [(1,a 0),(3,b e0.left),(5,b e0.i)] [Obj.box 25 (AV.agg [c 43 e0.ds,c 48 e0.rs])]/\((-1:Int)<=e0.left/\e0.i+e0.left<=(100000:Int)/\(0:Int)<=e0.i/\e0.i<=(↑(e0.rs.length):Int))/\ak (decide (nL (List.map xJ (List.drop e0.i.toNat e0.rs)) e0.left<(0:Int))) d (ak (decide ((↑(e0.ds.length):Int)>(100:Int))) d (ak (decide ((↑(e0.rs.length):Int)>(300:Int))) d (K (b 1) []))))):=by kernel_rfl
def g22:List AV->Option (Bool×AV)
 |[.agg [.ah 43 ds, .ah 48 a]]=>some (decide (ds.length<=aW)&&ds.all fun d=>decide ((ag (af d 1)).length<=aW), .int (bif na ds a then 1 else 0))
 |_=>none
theorem p22 κ:cg (ME κ) 12 29 g22:=by
 intro c x a;unfold g22 at a;split at a
 ·rename_i ds b
  simp only[ao2,ao8,ao0,an9,List.all_eq_true] at a;obtain⟨⟨f,d⟩,rfl⟩:=a;refine⟨_,rfl,rfl,?_⟩;refine Eq.mpr (y22 κ ds b _) ?_;refine⟨rfl,⟨ds,b,2000,0⟩,rfl,⟨f,d,by simp only;omega,by simp only;omega⟩,?_⟩;simp only[Int.toNat_zero,ao9,ad];refine⟨fun e=>?_,fun e=>⟨trivial,⟨ds,b,2000,0⟩,rfl,⟨by simp only;omega,by simp only;omega,by simp only;omega,by simp only;omega⟩,?_⟩⟩
  ·unfold na;rw[e];rfl
  ·simp only[Int.toNat_zero,ao9,an9,ao1]
   grind [na,decide_eq_false,nL,xJ,decide_eq_true]
 ·cases a
noncomputable def E22 κ:=(ME κ).aK 29 g22
theorem e22 κ:aE (E22 κ):=(ak6 _).aK (XR _) (p22 _)
theorem m22 κ:aj (E22 κ):=(XR _).aK
end Go.Proofs.YtioeffnadipbaaaGreatDoor
namespace Go.Proofs.YtioeffnadipbaaaGreatDoor
open Go Go.Dn Go.Rl Go.Proofs
noncomputable abbrev E15(κ:Kp):Env:=E22 κ
theorem e15(κ:Kp):aE (E15 κ):=e22 κ
theorem m15(κ:Kp):aj (E15 κ):=m22 κ
theorem nZ{b c}(h:b=c):AV.bool b= .lit (.bool c):=by grind
theorem Xd(a b:Int):(a==b)=decide (a=b):=rfl
theorem LU(a b:Int):(a != b)= !decide (a=b):=rfl
structure AT where
 op:Int
 s:ByteArray
 n:Int
 l:List AV
def AT.tm(a:AT):Tm:= .mk a.op a.s a.n (aa a.l)
def eI(x:AV):AT:=⟨toInt (af x 0),toStr (af x 1),toInt (af x 2),ag (af x 3)⟩
theorem iC x:(eI x).tm=cH x:=by rw[dc];rfl
abbrev dm(a:AT):AV:= .agg [.int a.op, .lit (.string a.s), .int a.n, .ah 38 a.l]
theorem J5{a}(h:c9 a):(de (aM a)).length<=100000:=by
 have b:=cF (aa (bo 38 a.hl a.bl));rw[iJ _ _ _ _] at b;have c:=la (fD (aM a)) [];unfold de;cases ba _
 ·simp
 ·exact Nat.le_trans c (Nat.le_trans b h.1)
end Go.Proofs.YtioeffnadipbaaaGreatDoor
