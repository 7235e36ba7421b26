import Derived.Test.YtioeffnadipbaaaGreatDoorDePB
namespace Go.Proofs.YtioeffnadipbaaaGreatDoor
open Go Go.Dn Go.Rl Go.Proofs
attribute [local irreducible] a7 vc
set_option maxRecDepth 20000
def jS:List AV->RL->RL
 |_,[]=>[]
 |p,b::l=>bif bC b p==0 then jS b l else b::jS b l
def kb:RL->RL
 |[]=>[]
 |a::l=>a::jS a l
theorem xCi κ L(n0 k k0 k2:Nat) I n K:(vc (Uu κ).E 12 80 none 1 (ad (Pr κ).toProgram 80 9) (sp 66 [(0, .ak 0 0 L.length),(1, .bm 81 []),(5, .int k),(6, .ak 0 k0 n0),(7, .int k2)] [.row 70 (rws L)]) (bh (Uu κ).E 80 9 1 I n K))=(
 letI a:=IntKind.wrap IntKind.i64
 letI b:=AV.int
 letI c:=ag (nth (rws L) (k0+Int.toNat (↑k2:Int)))
 letI d:=(↑k2:Int)<(↑n0:Int)
 letI f:=a ((↑k2:Int)+(1:Int))
 letI e:=(↑k2:Int) - (1:Int)
 aq (decide d) (aW (true&&decide d) (aW (decide ((0:Int)<=a e)&&decide (a e<(↑n0:Int))) (aW (decide
 (List.length c<=9223372036854775807)) (aq (!bC c (ag (nth (rws L) (k0+Int.toNat (a e))))==(0:Int)) (aW (true&&decide d) (aW
 (true&&decide ((↑k:Int)<(↑(L.length):Int))) (∃(e0:Nat),e0<n/\I e0 (sp 66 [(0,AV.ak 0 0 L.length),(1,AV.bm 81 []),(5,b (IntKind.wrap
 IntKind.i64 ((↑k:Int)+(1:Int)))),(6,AV.ak 0 k0 n0),(7,b f)] [Obj.row 70 (bM (rws L) (0+Int.toNat (↑k:Int)) (AV.ah 72 c))])))) (∃(e0:
 Nat),e0<n/\I e0 (sp 66 [(0,AV.ak 0 0 L.length),(1,AV.bm 81 []),(5,b (↑k:Int)),(6,AV.ak 0 k0 n0),(7,b f)] [Obj.row 70 (rws L)])))))) (K
 (Exit.exit 2) (sp 66 [(0,AV.ak 0 0 L.length),(5,b (↑k:Int))] [Obj.row 70 (rws L)]))):=by kernel_rfl
structure ACi where
 L0:RL
 L:RL
 n0:Nat
 k0:Nat
 k:Nat
 k2:Nat
abbrev Rk(x:ACi):=sp 66 [(0, .ak 0 0 x.L.length),(1, .bm 81 []),(5, .int x.k),(6, .ak 0 x.k0 x.n0),(7, .int x.k2)] [.row 70 (rws x.L)]
structure XL(x:ACi):Prop where
 len:x.L.length=x.L0.length/\x.L0.length=x.k0+x.n0
 k:x.k0<=x.k/\x.k+1<=x.k0+x.k2
 k2:1<=x.k2/\x.k2<=x.n0
 l:x.L0.length<=100000000
 s:ft x.L0
 o: ∀j,x.k0+x.k2<=j+1->rat x.L j=rat x.L0 j
 e:kb x.L0=x.L.take x.k++jS (rat x.L0 (x.k0+x.k2 - 1)) (x.L0.drop (x.k0+x.k2))
def YV(x:ACi):Out (Exit×S):= .all (fun r:Nat×RL=>r.2.length=x.L0.length/\r.1<=x.L0.length/\r.2.take r.1=kb x.L0) fun r=> .one (.exit 2,sp 66 [(0, .ak 0 0 r.2.length),(5, .int r.1)] [.row 70 (rws r.2)])
theorem lCi κ:aR (Uu κ).E 12 80 9 (aG 1 Rk XL YV):=by
 refine aD (fun x=>x.n0 - x.k2) ?_;rintro⟨L0,L,n0,k0,k,k2⟩ K ⟨h1,h2,h3,h4,h5,h6,h7⟩ ho;simp only at h1 h2 h3 h4 h5 h6 h7;rw[show(Uu κ).E.P=Pr κ from rfl];refine Eq.mpr (xCi κ L n0 k k0 k2 _ _ K) ?_;rw[ae,an2,an4];refine⟨fun h=>?_,fun h=>?_⟩
 ·have hk:k0+k2<L0.length:=by omega
  rw[az (n:=(k2:Int) - 1) (by omega) (by omega),az (n:=(k2:Int)+1) (by omega) (by omega),az (n:=(k:Int)+1) (by omega) (by omega),show k0+(k2:Int).toNat=k0+k2 by omega,show k0+((k2:Int) - 1).toNat=k0+k2 - 1 by omega,Nat.zero_add,Int.toNat_natCast,fQ,fQ,vz,h6 (k0+k2) (by omega),h6 (k0+k2 - 1) (by omega)];rw[ao3 hk,←zw hk,jS] at h7;refine ai.2 ⟨by simp;omega,ai.2 ⟨by simp;omega,ai.2 ⟨an8 (kD h5 _),ae.2 ⟨fun e=>?_,fun e=>?_⟩⟩⟩⟩
  ·have e:(bC (rat L0 (k0+k2)) (rat L0 (k0+k2 - 1))==0)=false:=by simpa using e
   rw[e,an7] at h7;refine ai.2 ⟨by simp;omega,ai.2 ⟨by simp;omega,_,?_,⟨L0,L.set k (rat L0 (k0+k2)),n0,k0,k+1,k2+1⟩,?_,⟨by simp only[List.length_set];omega,by simp only;omega,by simp only;omega,h4,h5,fun j hj=>?_,?_⟩,rfl,ho⟩⟩
   ·simp only;omega
   ·simp only[Rk,List.length_set];rfl
   ·simp only at hj
    rw[IG _ _ _ _ (by omega),if_neg (by omega)];exact h6 j (by omega)
   ·simp only
    rw[h7,show k0+(k2+1) - 1=k0+k2 by omega,List.take_succ_eq_append_getElem (by rw[List.length_set];omega)];rw[List.getElem_set_self,List.take_set_of_le (Nat.le_refl _)];simp[Nat.add_assoc]
  ·have e:(bC (rat L0 (k0+k2)) (rat L0 (k0+k2 - 1))==0)=true:=by simpa using e
   rw[e,an9] at h7;refine⟨_,?_,⟨L0,L,n0,k0,k,k2+1⟩,rfl,⟨h1,by simp only;omega,by simp only;omega,h4,h5,fun j hj=>h6 j (by simp only at hj;omega),?_⟩,rfl,ho⟩
   ·simp only;omega
   ·simp only
    rw[h7,show k0+(k2+1) - 1=k0+k2 by omega];rfl
 ·refine ho (k,L) ⟨h1.1,by simp only;omega,?_⟩
  rw[ao0 (by omega),jS,List.append_nil] at h7;exact h7.symm
noncomputable def WK κ:=(Uu κ).loop (lCi _)
theorem xCo κ L(k:Nat) I n K:(vc (WK κ).E 12 80 none 1 (ad (Pr κ).toProgram 80 4) (sp 66 [(0, .ak 0 0 L.length),(1, .bm 81 []),(5, .int k)] [.row 70 (rws L)]) (bh (WK κ).E 80 4 1 I n K))=(
 letI a:=IntKind.wrap IntKind.i64
 letI b:=Obj.row
 letI d:=(↑k:Int) - (1:Int)
 letI e:=ag (nth (rws L) (0+Int.toNat (↑k:Int)))
 letI f:=(↑k:Int)<(↑(L.length):Int)
 letI g:=Pg.toProgram (Env.P (EB.E (Uu κ)))
 aq (decide f) (aW (true&&decide f) (aW (decide ((0:Int)<=a d)&&decide (a d<(↑(L.length):Int))) (aW (decide (List.length e<=9223372036854775807)) (aq (bC e (ag (nth (rws L) (0+Int.toNat (a d))))==(0:Int)) (aW (true&&decide ((↑k:Int)<=(↑(L.length):Int))&&decide ((↑(L.length):Int)<=(↑(L.length):Int))) (ad g 80 9=ad g 80 9/\∃(e1:ACi),sp 66 [(0,AV.ak 0 0 L.length),(1,AV.bm 81 []),(5,AV.int (↑k:Int)),(6,AV.ak 0 (0+Int.toNat (↑k:Int)) (Int.toNat ((↑(L.length):Int) - (↑k:Int)))),(7,AV.int 1)] [b 70 (rws L)]=Rk e1/\XL e1/\∀(e0:Nat×RL),letI c:=e0.2.length;letI h:=(↑(e0.1):Int)<=(↑c:Int);e0.2.length=e1.L0.length/\e0.1<=e1.L0.length/\List.take e0.1 e0.2=kb e1.L0->aW (true&&decide h&&decide ((↑c:Int)<=(↑c:Int))) (aW (true&&decide h) (K Exit.ret (sp 66 [(4,AV.ak 0 0 (Int.toNat ((↑(e0.1):Int) - (0:Int))))] [b 70 (c6 (rws e0.2) (0+Int.toNat (↑(e0.1):Int)) (Int.toNat ((↑c:Int) - (↑(e0.1):Int))) AV.nil)]))))) (∃(e0:Nat),e0<n/\I e0 (sp 66 [(0,AV.ak 0 0 L.length),(1,AV.bm 81 []),(5,AV.int (a ((↑k:Int)+(1:Int))))] [b 70 (rws L)])))))) (K (Exit.exit 0) (sp 66 [(0,AV.ak 0 0 L.length)] [b 70 (rws L)]))):=by kernel_rfl
structure ACo where
 L:RL
 k:Nat
abbrev ab1(x:ACo):=sp 66 [(0, .ak 0 0 x.L.length),(1, .bm 81 []),(5, .int x.k)] [.row 70 (rws x.L)]
def XN(x:ACo):=(1<=x.k/\x.k<=x.L.length)/\x.L.length<=100000000/\ft x.L/\kb x.L=x.L.take x.k++jS (rat x.L (x.k - 1)) (x.L.drop x.k)
def PM(x:ACo):Out (Exit×S):= .aq (decide ((kb x.L).length=x.L.length)) (.one (.exit 0,sp 66 [(0, .ak 0 0 x.L.length)] [.row 70 (rws x.L)]))
 (.all (fun ys=>(kb x.L).length<=ys.length/\ys.take (kb x.L).length=rws (kb x.L)) fun ys=> .one (.ret,sp 66 [(4, .ak 0 0 (kb x.L).length)] [.row 70 ys]))
theorem sX: ∀p l,(jS p l).length<=l.length
 |_,[]=>Nat.le_refl _
 |p,b::l=>by
  have:=sX b l
  grind [jS]
theorem zX: ∀p l,(jS p l).length=l.length->jS p l=l
 |_,[],_=>rfl
 | p,b::l,h=>by
  have h1:=sX b l;rw[jS] at h⊢;cases e:bC b p==0 with
  |true=>grind
  |false=>
   rw[e,an7,List.length_cons,List.length_cons] at h;rw[an7,zX b l (by omega)]
theorem sg z: ∀xs k m,(c6 xs k m z).take k=xs.take k
 |[],_,_=>by rfl
 |a::l,0,_=>by rfl
 |a::l,k+1,m=>by
  have:=sg z l k m
  grind [c6]
theorem qB z: ∀xs k m,(c6 xs k m z).length=xs.length
 |[],_,_=>by rfl
 |a::l,0,0=>rfl
 |a::l,0,m+1=>by simp[c6,qB z l 0 m]
 |a::l,k+1,m=>by simp[c6,qB z l k m]
theorem lCo κ:aR (WK κ).E 12 80 4 (aG 1 ab1 XN PM):=by
 refine aD (fun x=>x.L.length - x.k) ?_;rintro⟨L,k⟩ K ⟨h1,h2,h3,h4⟩ ho;simp only at h1 h2 h3 h4;rw[show(WK κ).E.P=Pr κ from rfl];refine Eq.mpr (xCo κ L k _ _ K) ?_;simp only[PM,Out.run,ae,an2,an4] at ho;rw[ae,an2,an4];refine⟨fun h=>?_,fun h=>?_⟩
 ·have hk:k<L.length:=by omega
  rw[az (n:=(k:Int) - 1) (by omega) (by omega),az (n:=(k:Int)+1) (by omega) (by omega),show 0+((k:Int) - 1).toNat=k - 1 by omega,Nat.zero_add,Int.toNat_natCast,fQ,fQ];rw[ao3 hk,←zw hk,jS] at h4;refine ai.2 ⟨by simp;omega,ai.2 ⟨by simp;omega,ai.2 ⟨an8 (kD h3 _),ae.2 ⟨fun e=>?_,fun e=>?_⟩⟩⟩⟩
  ·rw[e,an9] at h4
   have hlt:(kb L).length<L.length:=by
    have:=sX (rat L k) (L.drop (k+1))
    rw[h4,ao7,List.length_take];rw[List.length_drop] at this;omega
   refine ai.2 ⟨by simp;omega,rfl,⟨L,L,L.length - k,k,k,1⟩,?_,⟨⟨rfl,by simp only;omega⟩,⟨Nat.le_refl _,Nat.le_refl _⟩,⟨Nat.le_refl _,by simp only;omega⟩,h2,h3,fun _ _=>rfl,?_⟩,fun r hr=>?_⟩
   ·simp only[Rk,show((L.length:Int) - k).toNat=L.length - k by omega];rfl
   ·simp only[Nat.add_sub_cancel]
    exact h4
   ·obtain⟨k',M⟩:=r
    obtain⟨r1,r2,r3⟩:=hr;simp only at r1 r2 r3;have hk':(kb L).length=k':=by rw[←r3,List.length_take];omega
    simp only;refine ai.2 ⟨by simp;omega,ai.2 ⟨by simp;omega,?_⟩⟩;have:=ho.2 (by omega) (c6 (rws M) k' ((M.length:Int) - k').toNat .nil) ⟨by rw[qB,dU];omega,by rw[hk',sg,←List.map_take,r3]⟩
    rw[hk'] at this;rw[show((k':Int) - 0).toNat=k' by omega,show 0+(k':Int).toNat=k' by omega];exact this
  ·rw[e,an7] at h4
   refine⟨_,?_,⟨L,k+1⟩,rfl,⟨by simp only;omega,h2,h3,?_⟩,rfl,?_⟩
   ·simp only;omega
   ·simp only[Nat.add_sub_cancel]
    rw[h4,List.take_succ_eq_append_getElem hk,←zw hk];simp
   ·simp only[PM,Out.run,ae,an2,an4]
    exact ho
 ·rw[ao0 (by omega),jS,List.append_nil,List.take_of_length_le (by omega)] at h4
  exact ho.1 (by rw[h4])
noncomputable def UX κ:=(WK κ).loop (lCo _)
theorem af6 κ L K:(a7 (UX κ).E 12 80 [.ak 0 0 L.length, .bm 81 []] [.row 70 (rws L)] K)=(
 letI a:=Pg.toProgram (Env.P (EB.E (WK κ)))
 aq (decide ((↑(L.length):Int)<(2:Int))) (K (AV.ah 70 (List.take L.length (List.drop 0 (rws L)))) [Obj.lz 70 (rws L)]) (ad a 80 4=ad a 80 4/\∃(e1:
 ACo),sp 66 [(0,AV.ak 0 0 L.length),(1,AV.bm 81 []),(5,AV.int 1)] [Obj.row 70 (rws L)]=ab1 e1/\XN e1/\aq (decide (List.length (kb e1.L)=e1.L.length))
 (K (AV.ah 70 (List.take e1.L.length (List.drop 0 (rws e1.L)))) [Obj.lz 70 (rws e1.L)]) (∀(e0:List AV),List.length (kb e1.L)<=e0.length/\List.take
 (List.length (kb e1.L)) e0=rws (kb e1.L)->K (AV.ah 70 (List.take (List.length (kb e1.L)) (List.drop 0 e0))) [Obj.lz 70 e0]))):=by kernel_rfl
def CX(L:RL):List AV×List Dn.Obj:=([.ak 0 0 L.length, .bm 81 []],[.row 70 (rws L)])
def OV(L:RL):Out (AV×List Dn.Obj):= .all (fun _=>True) fun ys=> .one (.ah 70 (rws (kb L)),[.lz 70 ys])
theorem cCo κ:bg (UX κ).E 12 80 (aO CX (fun L=>L.length<=100000000/\ft L) OV):=by
 refine aQ ?_;rintro L K ⟨h1,h2⟩ ho;refine Eq.mpr (af6 κ L K) ?_;have ho: ∀ys,K (.ah 70 (rws (kb L))) [.lz 70 ys]:=fun ys=>ho ys trivial
 rw[ae,an2,an4];refine⟨fun h=>?_,fun h=>⟨rfl,⟨L,1⟩,rfl,⟨by simp only;omega,h1,h2,?_⟩,ae.2 ⟨fun e=>?_,fun e ys hy=>?_⟩⟩⟩
 ·have e:kb L=L:=by
   match L,h with
   |[],_=>rfl
   |[a],_=>rfl
   |a::b::l,h=>simp at h;omega
  have:=ho (rws L)
  rw[e] at this;rw[ao2,←dU,List.take_length];exact this
 ·match L,h with
  |[],h=>simp at h
  |a::l,_=>rfl
 ·rw[an2] at e
  have e2:kb L=L:=by
   match L,h with
   |a::l,_=>
    simp only[kb,List.length_cons,Nat.add_right_cancel_iff] at e;rw[kb,zX _ _ e]
  have:=ho (rws L)
  rw[e2] at this;simp only;rw[ao2,←dU,List.take_length];exact this
 ·simp only at hy
  rw[ao2,hy.2];exact ho ys
theorem yTy κ v k K:(a7 (UX κ).E 12 97 [eZ v, .int k] [] K)=(
 aq (k==(1:Int)) (K (AV.lit (Value.bool (v.y==false&&(v.n==v.n&&(ByteArray.toList v.s==ByteArray.toList {data:= #[]}&&true))))) []) (K (AV.lit (Value.bool (v.y==true&&(v.n==(0:Int)&&(ByteArray.toList v.s==ByteArray.toList v.s&&true))))) [])):=by kernel_rfl
def WV(v:eI)(k:Int):=bif k==1 then !v.y&&decide (v.s=ByteArray.mk #[]) else v.y&&decide (v.n=0)
def gTy:List AV->Option (Bool×AV)
 |[.agg [.lit (.bool y), .lit (.int .i64 n), .lit (.string s)], .lit (.int .i64 k)]=>some (true, .bool (WV ⟨y,n,s⟩ k))
 |_=>none
theorem aa5 s t:(ByteArray.toList s==ByteArray.toList t)=decide (s=t):=by
 rw[Bool.eq_iff_iff,beq_iff_eq,an2];exact toList_inj
theorem pTy κ:cj (UX κ).E 12 97 gTy:=by
 intro args x hh;unfold gTy at hh;split at hh
 ·rename_i y n s k
  simp only[an5,ao1,true_and] at hh;subst hh;refine⟨_,rfl,rfl,Eq.mpr (yTy κ ⟨y,n,s⟩ k _) (ae.2 ⟨fun e=>?_,fun e=>?_⟩)⟩
  ·simp only[WV,e,an9,aa5]
   cases y<;>simp
  simp_all[WV,W2]
 ·cases hh
noncomputable def VL κ:=EB.JB ((UX κ).pure (pTy _)) [97,49,23]
theorem xFj κ xs t rel ns ts a o li(j i:Nat) I n K:(vc (VL κ).E 12 49 none 0 (ad (Pr κ).toProgram 49 7) (sp 40 [(1, .ah 70 xs),(2, .ptr 0 0 [] 0),(9, .ah 70 xs),(10, .int xs.length),(11, .int j),(21, .ah 72 t),(22, .int t.length),(23, .int i)] [.box 43 (.agg [.lit (.string rel), .ah 9 ns, .ah 3 ts, .bool a, .bool o, .int li])]) (bh (VL κ).E 49 7 0 I n K))=(
 letI b:=AV.int
 letI c:=AV.ah
 letI e:=AV.agg [AV.str rel,c 9 ns,c 3 ts,AV.bool a,AV.bool o,b li]
 letI d:=Int.toNat (↑i:Int)
 letI f:=(↑i:Int)<(↑(t.length):Int)
 aq (decide f) (aW (true&&decide f) (aW (true&&decide ((↑i:Int)<(↑(ts.length):Int))) (aq (!WV {y:=Dn.toBool (af (nth t d) 0),n:=toInt (af (nth t d) 1),s:=toStr (af (nth t d) 2)} (toInt (nth ts d))) (K Exit.ret (sp 40 [(4,AV.bool false)] [])) (∃(e0:Nat),e0<n/\I e0 (sp 40 [(1,c 70 xs),(2,AV.ptr 0 0 [] 0),(9,c 70 xs),(10,b (↑(xs.length):Int)),(11,b (↑j:Int)),(21,c 72 t),(22,b (↑(t.length):Int)),(23,b (IntKind.wrap IntKind.i64 ((↑i:Int)+(1:Int))))] [Obj.box 43 e]))))) (K (Exit.exit 2) (sp 40 [(1,c 70 xs),(2,AV.ptr 0 0 [] 0),(9,c 70 xs),(10,b (↑(xs.length):Int)),(11,b (↑j:Int))] [Obj.box 43 e]))):=by kernel_rfl
def Jz:List AV->List AV->Bool
 |[],[]=>true
 |v::t,k::ts=>WV (Ey v) (toInt k)&&Jz t ts
 |_,_=>false
theorem B2: ∀t ts,Jz t ts=true->t.length=ts.length
 |[],[],_=>rfl
 |v::t,k::ts,h=>by
  simp[Jz] at h;simp[B2 t _ h.2]
 |[],_::_,h=>by grind [Jz]
 |_::_,[],h=>by grind [Jz]
structure AFj where
 xs:List AV
 t:List AV
 d:Vf
 j:Nat
 i:Nat
abbrev ac4(x:AFj):=sp 40 [(1, .ah 70 x.xs),(2, .ptr 0 0 [] 0),(9, .ah 70 x.xs),(10, .int x.xs.length),(11, .int x.j),(21, .ah 72 x.t),(22, .int x.t.length),(23, .int x.i)] [.box 43 (SZ x.d)]
def Np(x:AFj):=x.t.length=x.d.types.length/\x.i<=x.t.length/\x.t.length<=100000000
def Ps(x:AFj):Out (Exit×S):= .aq (Jz (x.t.drop x.i) (x.d.types.drop x.i)) (.one (.exit 2,sp 40 [(1, .ah 70 x.xs),(2, .ptr 0 0 [] 0),(9, .ah 70 x.xs),(10, .int x.xs.length),(11, .int x.j)] [.box 43 (SZ x.d)])) (.one (.ret,sp 40 [(4, .bool false)] []))
theorem lFj κ:aR (VL κ).E 12 49 7 (aG 0 ac4 Np Ps):=by
 refine aD (fun x=>x.t.length - x.i) ?_;rintro⟨xs,t,⟨rel,ns,ts,a,o,li⟩,j,i⟩ K ⟨h1,h2,h3⟩ ho;simp only at h1 h2 h3;rw[show(VL κ).E.P=Pr κ from rfl];refine Eq.mpr (xFj κ xs t rel ns ts a o li j i _ _ K) ?_;simp only[Ps,Out.run,ae] at ho;rw[ae,an2,an4];refine⟨fun h=>?_,fun h=>?_⟩
 ·have hk:i<t.length:=by omega
  rw[ao3 hk,←aX _ _ hk,ao3 (show i<ts.length by omega),←aX ts i (by omega),Jz] at ho;rw[Int.toNat_natCast,az (n:=(i:Int)+1) (by omega) (by omega)];refine ai.2 ⟨by simp;omega,ai.2 ⟨by simp;omega,?_⟩⟩;rw[show(⟨Dn.toBool (af (nth t i) 0),toInt (af (nth t i) 1),toStr (af (nth t i) 2)⟩:eI)=Ey (nth t i) from rfl,ae,Bool.not_eq_true',ao4];refine⟨fun e=>ho.2 (by rw[e];rfl),fun e=>?_⟩;rw[e,ao8] at ho;refine⟨_,?_,⟨xs,t,⟨rel,ns,ts,a,o,li⟩,j,i+1⟩,rfl,⟨h1,hk,h3⟩,rfl,?_⟩
  ·simp only;omega
  ·simp only[Ps,Out.run,ae]
   exact ho
 ·rw[ao0 (show t.length<=i by omega),ao0 (show ts.length<=i by omega)] at ho
  exact ho.1 rfl
noncomputable def VF κ:=(VL κ).loop (lFj _)
theorem xFk κ xs d(j:Nat) I n K:(vc (VF κ).E 12 49 none 0 (ad (Pr κ).toProgram 49 2) (sp 40 [(1, .ah 70 xs),(2, .ptr 0 0 [] 0),(9, .ah 70 xs),(10, .int xs.length),(11, .int j)] [.box 43 (SZ d)]) (bh (VF κ).E 49 2 0 I n K))=(
 letI a:=AV.int
 letI b:=AV.bool
 letI c:=AV.ah
 letI e:=ag (nth xs (Int.toNat (↑j:Int)))
 letI f:=K Exit.ret (sp 40 [(4,b false)] [])
 letI g:=(↑j:Int)<(↑(xs.length):Int)
 letI h:=Pg.toProgram (Env.P (EB.E (VL κ)))
 aq (decide g) (aW (true&&decide g) (aq ((↑(List.length e):Int) != (↑(d.types.length):Int)) f (ad h 49 7=ad h 49 7/\∃(e1:AFj),sp 40 [(1,c
 70 xs),(2,AV.ptr 0 0 [] 0),(9,c 70 xs),(10,a (↑(xs.length):Int)),(11,a (↑j:Int)),(21,c 72 e),(22,a (↑(List.length e):
 Int)),(23,a 0)] [Obj.box 43 (AV.agg [AV.str d.rel,c 9 d.names,c 3 d.types,b d.i,b d.o,a d.line])]=ac4 e1/\Np e1/\aq (Jz
 (List.drop e1.i e1.t) (List.drop e1.i e1.d.types)) (∃(e0:Nat),e0<n/\I e0 (sp 40 [(1,c 70 e1.xs),(2,AV.ptr 0 0 [] 0),(9,c 70 e1.xs),(10,
 a (↑(e1.xs.length):Int)),(11,a (IntKind.wrap IntKind.i64 ((↑(e1.j):Int)+(1:Int))))] [Obj.box 43 (AV.agg [AV.str e1.d.rel,c 9
 e1.d.names,c 3 e1.d.types,b e1.d.i,b e1.d.o,a e1.d.line])])) f))) (K (Exit.exit 0) (sp 40 [(1,c 70 xs)] []))):=by kernel_rfl
structure AFk where
 xs:List AV
 d:Vf
 j:Nat
abbrev Z6(x:AFk):=sp 40 [(1, .ah 70 x.xs),(2, .ptr 0 0 [] 0),(9, .ah 70 x.xs),(10, .int x.xs.length),(11, .int x.j)] [.box 43 (SZ x.d)]
def W0(xs ts:List _):=xs.all fun x=>Jz (ag x) ts
def MV(x:AFk):Out (Exit×S):= .aq (W0 (x.xs.drop x.j) x.d.types) (.one (.exit 0,sp 40 [(1, .ah 70 x.xs)] [])) (.one (.ret,sp 40 [(4, .bool false)] []))
theorem lFk κ:aR (VF κ).E 12 49 2 (aG 0 Z6 (fun x=>x.j<=x.xs.length/\fD x.xs=true) MV):=by
 refine aD (fun x=>x.xs.length - x.j) ?_;rintro⟨xs,d,j⟩ K ⟨h1,h2⟩ ho;simp only at h1 h2;rw[show(VF κ).E.P=Pr κ from rfl];refine Eq.mpr (xFk κ xs d j _ _ K) ?_;have hl:=jV h2;simp only[MV,Out.run,ae] at ho;rw[ae,an2,an4];refine⟨fun h=>?_,fun h=>?_⟩
 ·have hk:j<xs.length:=by omega
  rw[ao3 hk,←aX _ _ hk,W0,List.all_cons,←W0] at ho;rw[Int.toNat_natCast];refine ai.2 ⟨by simp;omega,?_⟩;rw[ae,bne_iff_ne,bne_eq_false_iff_eq];refine⟨fun e=>ho.2 ?_,fun e=>⟨rfl,⟨xs,ag (nth xs j),d,j,0⟩,rfl,⟨by simp only;omega,Nat.zero_le _,lS h2 j⟩,?_⟩⟩
  ·rw[show Jz (ag (nth xs j)) d.types=false from by
    grind [Jz,ag,nth,B2],Bool.false_and]
  ·simp only[ao2]
   rw[az (n:=(j:Int)+1) (by omega) (by omega),ae];refine⟨fun e2=>⟨_,?_,⟨xs,d,j+1⟩,rfl,⟨hk,h2⟩,rfl,?_⟩,fun e2=>ho.2 (by rw[e2];rfl)⟩
   ·simp only;omega
   ·rw[e2,ao8] at ho
    simp only[MV,Out.run,ae];exact ho
 ·rw[ao0 (by omega)] at ho
  exact ho.1 rfl
noncomputable def BFk κ:=(VF κ).loop (lFk _)
theorem yFk κ xs d K:(a7 (BFk κ).E 12 49 [SZ d, .ah 70 xs] [] K)=(
 letI a:=AV.bool
 letI b:=Pg.toProgram (Env.P (EB.E (VF κ)))
 ad b 49 2=ad b 49 2/\∃(e0:AFk),sp 40 [(1,AV.ah 70 xs),(2,AV.ptr 0 0 [] 0),(9,AV.ah 70 xs),(10,AV.int (↑(xs.length):Int)),(11,AV.int 0)]
 [Obj.box 43 (AV.agg [AV.str d.rel,AV.ah 9 d.names,AV.ah 3 d.types,a d.i,a d.o,AV.int d.line])]=Z6 e0/\(e0.j<=e0.xs.length/\fD e0.xs=
 true)/\aq (W0 (List.drop e0.j e0.xs) e0.d.types) (aW (fD e0.xs) (K (a (ec (dm e0.xs))) [])) (K (a false) [])):=by kernel_rfl
def zJ xs ts:=W0 xs ts&&ec (dm xs)
def gFk:List AV->Option (Bool×AV)
 |[.agg [.lit (.string _), .ah 9 _, .ah 3 ts, .lit (.bool _), .lit (.bool _), .lit (.int .i64 _)], .ah 70 xs]=>some (fD xs, .bool (zJ xs ts))
 |_=>none
theorem pFk κ:cj (BFk κ).E 12 49 gFk:=by
 intro args x hh;unfold gFk at hh;split at hh
 ·rename_i rel ns ts a o li xs
  simp only[an5,ao1] at hh;obtain⟨h1,rfl⟩:=hh;refine⟨_,rfl,rfl,Eq.mpr (yFk κ xs ⟨rel,ns,ts,a,o,li⟩ _) ⟨rfl,⟨xs,⟨rel,ns,ts,a,o,li⟩,0⟩,rfl,⟨Nat.zero_le _,h1⟩,?_⟩⟩
  simp_all[zJ,ae,ai]
 ·cases hh
noncomputable def UC κ:=(BFk κ).pure (pFk _)
theorem xFm κ ds rs xs(i:Nat) I n K:(vc (UC κ).E 12 23 none 0 (ad (Pr κ).toProgram 23 4) (sp 34 [(2, .ptr 0 0 [] 0),(18, .ah 51 xs),(19, .int xs.length),(20, .int i)] [.box 25 (fq ds rs)]) (bh (UC κ).E 23 4 0 I n K))=(
 letI a:=Int.toNat (↑i:Int)
 letI b:=(↑i:Int)<(↑(xs.length):Int)
 aq (decide b) (aW (true&&decide b) (aW (true&&decide ((↑i:Int)<(↑(ds.length):Int))) (aW (fD (ag (nth xs a))) (aq (!zJ (ag (nth xs a)) (ag (af (nth
 ds a) 2))) (K Exit.ret (sp 34 [(4,AV.bool false)] [])) (∃(e0:Nat),e0<n/\I e0 (sp 34 [(2,AV.ptr 0 0 [] 0),(18,AV.ah 51 xs),(19,AV.int (↑(xs.length)
 :Int)),(20,AV.int (IntKind.wrap IntKind.i64 ((↑i:Int)+(1:Int))))] [Obj.box 25 (AV.agg [AV.ah 43 ds,AV.ah 48 rs])])))))) (K (Exit.exit 0) (sp 34 []
 []))):=by kernel_rfl
structure AFm where
 ds:List AV
 rs:List AV
 xs:List AV
 i:Nat
abbrev ZW(x:AFm):=sp 34 [(2, .ptr 0 0 [] 0),(18, .ah 51 x.xs),(19, .int x.xs.length),(20, .int x.i)] [.box 25 (fq x.ds x.rs)]
def vM:List AV->List AV->Bool
 |[],_=>true
 |x::xs,d::ds=>zJ (ag x) (ag (af d 2))&&vM xs ds
 |_::_,[]=>false
def gj(xs:List _):=decide (xs.length<=100000000)&&xs.all fun x=>fD (ag x)
def N3(x:AFm):Out (Exit×S):= .aq (vM (x.xs.drop x.i) (x.ds.drop x.i)) (.one (.exit 0,sp 34 [] [])) (.one (.ret,sp 34 [(4, .bool false)] []))
theorem py{xs}(h:gj xs=true) i:fD (ag (nth xs i))=true:=by
 simp[gj] at h;rcases Nat.lt_or_ge i xs.length with h1|h1
 ·grind [aX]
 ·rw[fT _ _ h1];rfl
theorem lFm κ:aR (UC κ).E 12 23 4 (aG 0 ZW (fun x=>x.i<=x.xs.length/\x.xs.length=x.ds.length/\gj x.xs=true) N3):=by
 refine aD (fun x=>x.xs.length - x.i) ?_;rintro⟨ds,rs,xs,i⟩ K ⟨h1,h2,h3⟩ ho;simp only at h1 h2 h3;rw[show(UC κ).E.P=Pr κ from rfl];refine Eq.mpr (xFm κ ds rs xs i _ _ K) ?_;have hl:xs.length<=100000000:=by
  simp only[gj,an3,an2] at h3;exact h3.1
 simp only[N3,Out.run,ae] at ho;rw[ae,an2,an4];refine⟨fun h=>?_,fun h=>?_⟩
 ·have hk:i<xs.length:=by omega
  rw[ao3 hk,←aX _ _ hk,ao3 (show i<ds.length by omega),←aX ds i (by omega),vM] at ho;rw[Int.toNat_natCast,az (n:=(i:Int)+1) (by omega) (by omega)];refine ai.2 ⟨by simp;omega,ai.2 ⟨by simp;omega,ai.2 ⟨py h3 i,?_⟩⟩⟩;rw[ae,Bool.not_eq_true',ao4];refine⟨fun e=>ho.2 (by rw[e];rfl),fun e=>?_⟩;rw[e,ao8] at ho;refine⟨_,?_,⟨ds,rs,xs,i+1⟩,rfl,⟨hk,h2,h3⟩,rfl,?_⟩
  ·simp only;omega
  ·simp only[N3,Out.run,ae]
   exact ho
 ·rw[ao0 (show xs.length<=i by omega)] at ho
  exact ho.1 rfl
noncomputable def BFm κ:=(UC κ).loop (lFm _)
theorem yFm κ ds rs xs K:(a7 (BFm κ).E 12 23 [fq ds rs, .ah 51 xs] [] K)=(
 letI a:=K (AV.bool false) []
 letI b:=Pg.toProgram (Env.P (EB.E (UC κ)))
 aW (List.all rs fj) (aq (!fF ds rs) a (aq ((↑(xs.length):Int) != (↑(ds.length):Int)) a (ad b 23 4=ad b 23 4/\∃(e0:AFm),sp 34 [(2,AV.ptr 0 0 []
 0),(18,AV.ah 51 xs),(19,AV.int (↑(xs.length):Int)),(20,AV.int 0)] [Obj.box 25 (AV.agg [AV.ah 43 ds,AV.ah 48 rs])]=ZW e0/\(e0.i<=e0.xs.length/\
 e0.xs.length=e0.ds.length/\gj e0.xs=true)/\aq (vM (List.drop e0.i e0.xs) (List.drop e0.i e0.ds)) (K (AV.bool true) []) a)))):=by kernel_rfl
def nT ds rs xs:=fF ds rs&&(decide (xs.length=ds.length)&&vM xs ds)
def gFm:List AV->Option (Bool×AV)
 |[.agg [.ah 43 ds, .ah 48 rs], .ah 51 xs]=>some (rs.all fj&&gj xs, .bool (nT ds rs xs))
 |_=>none
theorem pFm κ:cj (BFm κ).E 12 23 gFm:=by
 intro args x hh;unfold gFm at hh;split at hh
 ·rename_i ds rs xs
  simp only[an5,ao1,an3] at hh;obtain⟨⟨h1,h2⟩,rfl⟩:=hh;refine⟨_,rfl,rfl,Eq.mpr (yFm κ ds rs xs _) (ai.2 ⟨h1,?_⟩)⟩;unfold nT;rw[ae,Bool.not_eq_true',ao4];refine⟨fun e=>by rw[e];rfl,fun e=>?_⟩;rw[e,ao8,ae,bne_iff_ne,bne_eq_false_iff_eq];refine⟨fun e2=>by rw[an6 (by omega)];rfl,fun e2=>⟨rfl,⟨ds,rs,xs,0⟩,rfl,⟨Nat.zero_le _,by simp only;omega,h2⟩,?_⟩⟩;rw[an8 (by omega),ao8]
  simp_all[ae]
 ·cases hh
noncomputable def BFn κ:=(BFm κ).pure (pFm _)
def Sy v:=v=eZ (Ey v)/\bif (Ey v).y then(Ey v).n=0 else(Ey v).s=ByteArray.mk #[]
def u9(r:List _):=∀v,v∈r->Sy v
def jU(L:RL):=∀r,r∈L->u9 r
theorem P9{v w}(hv:Sy v)(hw:Sy w)(h:oV v w=0):v=w:=by
 obtain⟨h1,h2⟩:=hv;obtain⟨k1,k2⟩:=hw;rw[h1,k1] at h⊢;generalize Ey v=a at*
 generalize Ey w=b at*
 obtain⟨y,n,s⟩:=a;obtain⟨y',n',s'⟩:=b;cases y<;>cases y'
 ·obtain rfl:=JI.1 (show yD n n'=0 from h)
  grind
 ·cases(show(-1:Int)=0 from h)
 ·cases(show(1:Int)=0 from h)
 ·obtain rfl:=J1.1 (show Be s s'=0 from h)
  grind
theorem rW: ∀{l m},u9 l->u9 m->bC l m=0->l=m
 |[],[],_,_,_=>rfl
 |[],_::_,_,_,h=>by simp[bC,qi] at h
 |_::_,[],_,_,h=>by simp[bC,qi] at h
 | a::l,b::m,hl,hm,h=>by
  simp only[bC,qi] at h;by_cases e:oV a b=0
  ·rw[an8 e] at h
   rw[P9 (hl a (by simp)) (hm b (by simp)) e,rW (fun v hv=>hl v (by simp[hv])) (fun v hv=>hm v (by simp[hv])) h]
  grind
theorem eG{a}{l:RL}:ec (a::l)=true↔(∀b,b∈l->bC a b<0)/\ec l=true:=by
 induction l generalizing a with
 |nil=>simp[ec]
 |cons b l ih=>
  rw[ec,an3,an2,ih];refine⟨fun⟨h1,h2,h3⟩=>⟨fun c hc=>?_,h2,h3⟩,by grind⟩;rcases List.mem_cons.1 hc with rfl|hc
  ·exact h1
  ·exact cm.Jr h1 (by grind)
theorem y4: ∀{l m},ec l=true->ec m=true->(∀r,r∈l↔r∈m)->l=m
 |[],[],_,_,_=>rfl
 |[],b::m,_,_,h=>by have:=(h b).2 (by simp);simp at this
 |a::l,[],_,_,h=>by have:=(h a).1 (by simp);simp at this
 | a ::l,b::m,hl,hm,h=>by
  obtain⟨h1,h2⟩:=eG.1 hl;obtain⟨k1,k2⟩:=eG.1 hm;have e:a=b:=by
   rcases List.mem_cons.1 ((h a).1 (by simp)) with e|e
   ·exact e
   ·rcases List.mem_cons.1 ((h b).2 (by simp)) with f|f
    ·exact f.symm
    ·have:=k1 a e
     have:=h1 b f
     rw[cm.swap b a] at this;omega
  subst e;rw[y4 h2 k2 fun r=>?_];have hr:=h r;simp only[ap0] at hr;have n1:r∈l->r≠a:=fun q e=>by
   subst e;have:=h1 r q
   rw[cm.self] at this;omega
  have n2:r∈m->r≠a:=fun q e=>by
   subst e;have:=k1 r q
   rw[cm.self] at this;omega
  grind
def yx(r:List AV):RL->RL
 |[]=>[r]
 |a::l=>bif decide (bC r a<0) then r::a::l else bif decide (bC r a=0) then a::l else a::yx r l
def eT(L:RL):RL:=L.foldr yx []
theorem v9{r x}: ∀{l},u9 r->jU l->(x∈yx r l↔x=r\/x∈l)
 |[],_,_=>by simp[yx]
 | a::l,hr,hl=>by
  have ih:=v9 (x:=x) hr (l:=l) fun s hs=>hl s (by simp[hs])
  rw[yx];by_cases h1:bC r a<0
  ·grind
  ·rw[an6 h1]
   by_cases h2:bC r a=0
   ·rw[an8 h2,an9,rW hr (hl a (by simp)) h2]
    simp
   grind
theorem y0{r}: ∀{l},u9 r->jU l->ec l=true->ec (yx r l)=true
 |[],_,_,_=>rfl
 | a::l,hr,hl,h=>by
  obtain⟨k1,k2⟩:=eG.1 h;have hl':jU l:=fun s hs=>hl s (by simp[hs])
  rw[yx];by_cases h1:bC r a<0
  ·rw[an8 h1,an9]
   refine eG.2 ⟨fun b hb=>?_,h⟩;rcases List.mem_cons.1 hb with rfl|hb
   ·exact h1
   ·exact cm.Jr h1 (by grind)
  ·rw[an6 h1,an7]
   by_cases h2:bC r a=0
   ·grind
   ·rw[an6 h2,an7]
    refine eG.2 ⟨fun b hb=>?_,y0 hr hl' k2⟩;rcases(v9 hr hl').1 hb with rfl|hb
    ·rw[cm.swap b a];omega
    ·exact k1 b hb
theorem mY: ∀{L},jU L->ec (eT L)=true/\(∀r,r∈eT L↔r∈L)/\jU (eT L)
 |[],h=>⟨rfl,fun _=>Iff.rfl,h⟩
 |a::L,h=>by
  have hL:jU L:=fun s hs=>h s (by grind)
  obtain⟨h1,h2,h3⟩:=mY hL;have ha:=h a (by simp);have hm: ∀r,r∈yx a _↔r∈a::L:=fun r=>by rw[v9 ha h3,h2,ap0]
  exact⟨y0 ha h3 h1,hm,fun s hs=>h s ((hm s).1 hs)⟩
theorem PJ{L M}(hL:jU L)(h1:ec M=true)(h2: ∀r,r∈M↔r∈L):M=eT L:=
 y4 h1 (mY hL).1 fun r=>(h2 r).trans ((mY hL).2.1 r).symm
theorem xE: ∀p l,u9 p->jU l->(∀b,b∈l->bC p b<=0)->Up l 0 l.length->ec (p::jS p l)=true/\∀r,r∈p::jS p l↔r∈p::l
 |p,[],_,_,_,_=>⟨rfl,fun _=>Iff.rfl⟩
 | p,b::l,hp,hl,hle,hu=>by
  have hb:=hl b (by simp);have hl':jU l:=fun s hs=>hl s (by simp[hs])
  have hu':Up l 0 l.length:=fun i j h1 h2 h3=>by
   have:=hu (i+1) (j+1) (by omega) (by omega) (by simp;omega)
   simpa[rat] using this
  have hble: ∀c,c∈l->bC b c<=0:=fun c hc=>by
   obtain⟨j,hj,rfl⟩:=List.getElem_of_mem hc;have:=hu 0 (j+1) (by omega) (by omega) (by simp;omega)
   simpa[rat,hj] using this
  obtain⟨h1,h2⟩:=xE b l hb hl' hble hu';rw[jS];by_cases e:bC b p=0
  ·rw[show(bC b p==0)=true by simpa using e,an9]
   obtain rfl:=rW hb hp e;exact⟨h1,fun r=>by rw[h2 r];simp⟩
  ·rw[show(bC b p==0)=false by simpa using e,an7]
   have hlt:bC p b<0:=by
    have h3:=hle b (by simp);have h4:=cm.swap p b;omega
   refine⟨eG.2 ⟨fun c hc=>?_,h1⟩,by grind⟩;rcases List.mem_cons.1 ((h2 c).1 hc) with rfl|hc
   ·exact hlt
   ·exact cm.Jr hlt (hble c hc)
theorem Sm{L M}(hL:jU L)(hp:M.Perm L)(hu:Up M 0 L.length):kb M=eT L:=by
 have hM:jU M:=fun r hr=>hL r (hp.mem_iff.1 hr)
 have hlen:=hp.length_eq;refine PJ hL ?_ fun r=>?_
 ·cases M with
  |nil=>rfl
  | cons a M=>exact(xE a M (hM a (by simp)) (fun s hs=>hM s (by simp[hs])) (fun b hb=>by
    obtain⟨j,hj,rfl⟩:=List.getElem_of_mem hb;have:=hu 0 (j+1) (by omega) (by omega) (by rw[←hlen];simp;omega)
    simpa[rat,hj] using this) (fun i j h1 h2 h3=>by
    have:=hu (i+1) (j+1) (by omega) (by omega) (by rw[←hlen];simp;omega)
    simpa[rat] using this)).1
 ·rw[←hp.mem_iff]
  cases M with
  |nil=>exact Iff.rfl
  | cons a M=>exact(xE a M (hM a (by simp)) (fun s hs=>hM s (by simp[hs])) (fun b hb=>by
    obtain⟨j,hj,rfl⟩:=List.getElem_of_mem hb;have:=hu 0 (j+1) (by omega) (by omega) (by rw[←hlen];simp;omega)
    simpa[rat,hj] using this) (fun i j h1 h2 h3=>by
    have:=hu (i+1) (j+1) (by omega) (by omega) (by rw[←hlen];simp;omega)
    simpa[rat] using this)).2 r
theorem aj7 κ: ∀args st K,aO CX (fun L=>L.length<=100000000/\ft L) OV args st K->b6 (Pr κ) 80 args st K:=fun _args _st K h=>gW (UX _).ok (UX _).mono (cCo _ _ _ K h)
noncomputable def ae0 κ:=(BFn κ).mat [(0,some 70)] aH (ae4 _)
noncomputable def BSo(κ:Kp):EB:=(ae0 κ).mat [(0,some 70)] aH (aj7 κ)
theorem ySo κ L K:(a7 (BSo κ).E 12 36 [.ah 70 (rws L)] [] K)=(
 letI b:=Obj.row
 (LB (rws L)=true->∃(a:RL),([AV.ak 0 0 0,AV.bm 54 []],[b 70 []])=DE a/\pN a/\∀(y:RL),(List.Perm y a/\∀(i j:Nat),0<=i->i
 <j->j<a.length->bC (rat y i) (rat y j)<=(0:Int))->∃(a:RL),([AV.ak 0 0 0,AV.bm 81 []],[b 70 []])=CX a/\(a.length<=100000000/\
 ft a)/\∀(_y:List AV),True->∃(a_2:List AV),([AV.ah 70 (rws (kb a))],[])=UI a_2/\fD a_2=true/\K (AV.ah 70 (rws (dm a_2))) [])/\aW
 (decide ((0+List.length (rws L)+1)*25<=70368744177664)) (∃(a:RL),([AV.ak 0 0 (0+List.length (rws L)),AV.bm 54 []],[b 70 ([]++rws L)])
 =DE a/\pN a/\∀(y:RL),(List.Perm y a/\∀(i j:Nat),0<=i->i<j->j<a.length->bC (rat y i) (rat y j)<=(0:Int))->∃(a:RL),([AV.ak
 0 0 (0+List.length (rws L)),AV.bm 81 []],[b 70 (rws y)])=CX a/\(a.length<=100000000/\ft a)/\∀(_y:List AV),True->∃(a_2:List AV),
 ([AV.ah 70 (rws (kb a))],[])=UI a_2/\fD a_2=true/\K (AV.ah 70 (rws (dm a_2))) [])):=by kernel_rfl
theorem sF{L}(h:L.length<=100000000)(h2: ∀r,r∈L->r.length<=100000000):fD (rws L)=true:=by
 simp only[fD,dU,an3,an2,List.all_eq_true];refine⟨h,fun x hx=>?_⟩;obtain⟨r,hr,rfl⟩:=List.mem_map.1 hx;exact h2 r hr
structure xe(L:RL):Prop where
 n:L.length<=100000000
 s: ∀r,r∈L->r.length<=100000000
 v:jU L
theorem xe.short{L}(h:xe L):ft L:=fun r hr=>by have:=h.s r hr;grind [aU]
theorem sE: ∀L,(eT L).length<=L.length
 |[]=>Nat.le_refl _
 | a::L=>by
  have h: ∀l,(yx a l).length<=l.length+1:=fun l=>by
   induction l with
   |nil=>exact Nat.le_refl _
   |cons b l ih=>
    grind [yx]
  have h1:=sE L
  grind [eT]
theorem R9{L}(h:xe L):xe (eT L):=
 ⟨Nat.le_trans (sE L) h.n,fun r hr=>h.s r (((mY h.v).2.1 r).1 hr),(mY h.v).2.2⟩
def QX(L:RL):List AV×List Dn.Obj:=([.ah 70 (rws L)],[])
def Yf(L:RL):Out (AV×List Dn.Obj):= .one (.ah 70 (rws (eT L)),[])
theorem cSo κ:bg (BSo κ).E 12 36 (aO QX xe Yf):=by
 refine aQ ?_;rintro L K h ho;have hf:=R9 h;have fin:K (.ah 70 (rws (dm (rws (eT L))))) []:=by rw[nt];exact ho
 refine Eq.mpr (ySo κ L K) ⟨fun e=>?_,ai.2 ⟨by have:=h.n;simp;omega,L,?_,⟨h.n,h.short⟩,fun M hM=>?_⟩⟩
 ·cases L with
  |nil=>
   refine⟨[],rfl,⟨Nat.zero_le _,fun r hr=>(nomatch hr)⟩,fun M hM=>?_⟩;exact⟨[],rfl,⟨Nat.zero_le _,fun r hr=>(nomatch hr)⟩,fun ys _=>⟨[],rfl,rfl,ho⟩⟩
  |cons a L=>cases e
 ·simp only[DE,dU,Nat.zero_add,List.nil_append]
 ·have hp:M.Perm L:=hM.1
  have hl:=hp.length_eq;refine⟨M,?_,⟨by rw[hl];exact h.n,fk h.short hp⟩,fun ys _=>⟨rws (eT L),?_,sF hf.n hf.s,fin⟩⟩
  ·simp only[CX,dU,Nat.zero_add,hl]
  ·rw[Sm h.v hp hM.2];rfl
noncomputable def af1 κ:=((BSo κ).call (cSo _)).calm [36]
end Go.Proofs.YtioeffnadipbaaaGreatDoor
namespace Go.Proofs.YtioeffnadipbaaaGreatDoor
open Go Go.Dn Go.Rl Go.Proofs Go.Shelf
attribute [local irreducible] a7 vc
set_option maxRecDepth 20000
abbrev dF:=List (ByteArray×eI)
abbrev cK(e:dF):AV:= .eP 9 72 (e.map fun x=>Value.string x.1) (e.map fun x=>eZ x.2)
def dF.put:dF->ByteArray->eI->dF
 |[],s,v=>[(s,v)]
 |(t,w)::e,s,v=>bif decide (s=t) then(s,v)::e else(t,w)::dF.put e s v
def dF.get:dF->ByteArray->eI
 |[],_=>⟨false,0,ByteArray.mk #[]⟩
 |(t,w)::e,s=>bif decide (s=t) then w else dF.get e s
abbrev Z9(e:dF):=e.map fun x=>(Value.string x.1,eZ x.2)
theorem MI: ∀e,(e.map fun x=>Value.string x.1).zip (e.map fun x=>eZ x.2)=Z9 e
 |[]=>rfl
 |x::e=>by
  grind
theorem U4 s t:eg (.string s) (.string t)=decide (s=t):=by
 show(s==t)=_
 grind
theorem O7 s v: ∀e,eC (Z9 e) (.string s) (eZ v)=Z9 (e.put s v)
 |[]=>rfl
 |(t,w)::e=>by
  have ih:=O7 s v e
  grind [eC,U4,dF.put]
theorem NM s: ∀e,cV (Z9 e) (.string s) (eZ ⟨false,0,ByteArray.mk #[]⟩)=eZ (e.get s)
 |[]=>rfl
 |(t,w)::e=>by
  have ih:=NM s e
  grind [cV,U4,dF.get]
structure Ew where
 e:dF
 s:ByteArray
 v:eI
def qP(x:Ew):List AV×List Dn.Obj:=([cK x.e, .lit (.string x.s),eZ x.v],[])
def ac3(x:Ew):Out (AV×List Dn.Obj):= .one (cK (x.e.put x.s x.v),[])
def Z1(op:Int):List eI->eI
 |[a,b]=>⟨false,bif op==5 then IntKind.wrap .i64 (a.n+b.n) else bif op==6 then IntKind.wrap .i64 (a.n - b.n) else IntKind.wrap .i64 (a.n*b.n),ByteArray.mk #[]⟩
 |_=>⟨false,0,ByteArray.mk #[]⟩
mutual
def bK(e:dF):Tm->eI
 | .mk op s n l=>bif op==1 then e.get s else bif op==2 then⟨false,n,ByteArray.mk #[]⟩ else bif op==3 then⟨true,0,s⟩ else Z1 op (Tw e l)
def Tw(e:dF):List Tm->List eI
 |[]=>[]
 |t::l=>bK e t::Tw e l
end
def bL:Tm->Bool
 | .mk op _ _ l=>op==1||(op==2||(op==3||match l with|[a,b]=>bL a&&bL b|_=>false))
structure gD where
 e:dF
 t:AT
def dR(x:gD):List AV×List Dn.Obj:=([cK x.e,dn x.t],[])
def q9 n(x:gD):=x.t.tm.mS=n/\bL x.t.tm=true
def SW(x:gD):Out (AV×List Dn.Obj):= .one (eZ (bK x.e x.t.tm),[])
def Ur n:=aO dR (q9 n) SW
theorem M8{t:AT}(h1:(t.op==1)=false)(h2:(t.op==2)=false)(h3:(t.op==3)=false)(h:bL t.tm=true): ∃a b,t.l=[a,b]/\bL (cE a)=true/\bL (cE b)=true:=by
 obtain⟨op,s,n,l⟩:=t;simp only[AT.tm] at h;match l,h with
 |[a,b],h=>
  simp only[aa,ao9,List.map_nil,bL,h1,h2,h3,Bool.false_or] at h
  grind
 |[],h=>simp[aa,bL,h1,h2,h3] at h
 |[_],h=>simp[aa,bL,h1,h2,h3] at h
 |_::_::_::_,h=>simp[aa,bL,h1,h2,h3] at h
theorem MH e op s n a b(h1:(op==1)=false)(h2:(op==2)=false)(h3:(op==3)=false):bK e (AT.mk op s n [a,b]).tm=⟨false,bif op==5 then IntKind.wrap .i64 ((bK e (eE a).tm).n+(bK e (eE b).tm).n) else bif op==6 then IntKind.wrap .i64 ((bK e (eE a).tm).n - (bK e (eE b).tm).n) else IntKind.wrap .i64 ((bK e (eE a).tm).n*(bK e (eE b).tm).n),ByteArray.mk #[]⟩:=by
 rw[iI,iI,AT.tm];rw[bK,h1,h2,h3];rfl
end Go.Proofs.YtioeffnadipbaaaGreatDoor
namespace Go.Proofs.YtioeffnadipbaaaGreatDoor
open Go Go.Dn Go.Rl Go.Proofs
attribute [local irreducible] a7 vc
set_option maxRecDepth 20000
abbrev BI:=List AV×Bool×Bool
def V8(a:List AV)(f:RL->List BI):RL->List BI
 |[]=>(a,true,false)::f []
 |b::bs=>bif decide (bC a b<0) then(a,true,false)::f (b::bs) else bif decide (bC a b=0) then(a,true,true)::f bs else(b,false,true)::V8 a f bs
def jP:RL->RL->List BI
 |[],bs=>bs.map fun b=>(b,false,true)
 |a::cs,bs=>V8 a (jP cs) bs
def eF(A B:RL):RL:=(jP A B).map (·.1)
theorem Ce B:eF [] B=B:=by
 rw[eF,jP,List.map_map];exact List.map_id' B
theorem AM a(cs:RL):eF (a::cs) []=a::eF cs []:=rfl
theorem BU a b(cs bs:RL):eF (a::cs) (b::bs)=bif decide (bC a b<0) then a::eF cs (b::bs) else bif decide (bC a b=0) then a::eF cs bs else b::eF (a::cs) bs:=by
 grind [eF,jP,V8]
theorem jq{A B r}(hA:jU A)(hB:jU B):r∈eF A B↔r∈A\/r∈B:=by
 match A,B with
 |[],B=>rw[Ce];simp
 |a::cs,[]=>
  rw[AM,ap0,jq (fun s hs=>hA s (by simp[hs])) hB,ap0,or_assoc]
 | a::cs,b::bs=>
  have hA':jU cs:=fun s hs=>hA s (by simp[hs])
  have hB':jU bs:=fun s hs=>hB s (by simp[hs])
  rw[BU];by_cases h1:bC a b<0
  ·rw[an8 h1,an9,ap0,jq hA' hB,ap0,ap0,or_assoc]
  ·rw[an6 h1,an7]
   by_cases h2:bC a b=0
   ·obtain rfl:=rW (hA a (by simp)) (hB b (by simp)) h2
    rw[an8 h2,an9,ap0,jq hA' hB',ap0,ap0]
    grind
   ·rw[an6 h2,an7,ap0,jq hA hB',ap0,ap0]
    grind
termination_by A.length+B.length
theorem oi{A B}(hA:jU A)(hB:jU B)(rA:ec A=true)(rB:ec B=true):ec (eF A B)=true:=by
 match A,B with
 |[],B=>rw[Ce];exact rB
 |a::cs,[]=>
  have hA':jU cs:=fun s hs=>hA s (by simp[hs])
  obtain⟨k1,k2⟩:=eG.1 rA;rw[AM];refine eG.2 ⟨fun c hc=>?_,oi hA' hB k2 rB⟩;rcases(jq hA' hB).1 hc with hc|hc
  ·exact k1 c hc
  ·cases hc
 | a ::cs,b::bs=>
  have hA':jU cs:=fun s hs=>hA s (by simp[hs])
  have hB':jU bs:=fun s hs=>hB s (by simp[hs])
  obtain⟨k1,k2⟩:=eG.1 rA;obtain⟨l1,l2⟩:=eG.1 rB;rw[BU];by_cases h1:bC a b<0
  ·rw[an8 h1,an9]
   refine eG.2 ⟨fun c hc=>?_,oi hA' hB k2 rB⟩;rcases(jq hA' hB).1 hc with hc|hc
   ·exact k1 c hc
   ·rcases List.mem_cons.1 hc with rfl|hc
    ·exact h1
    ·exact cm.Jr h1 (Int.le_of_lt (l1 c hc))
  ·rw[an6 h1,an7]
   by_cases h2:bC a b=0
   ·obtain rfl:=rW (hA a (by simp)) (hB b (by simp)) h2
    rw[an8 h2,an9];refine eG.2 ⟨fun c hc=>?_,oi hA' hB' k2 l2⟩;rcases(jq hA' hB').1 hc with hc|hc
    ·exact k1 c hc
    ·exact l1 c hc
   ·rw[an6 h2,an7]
    have h3:bC b a<0:=by have:=cm.swap a b;omega
    refine eG.2 ⟨fun c hc=>?_,oi hA hB' rA l2⟩;rcases(jq hA hB').1 hc with hc|hc
    ·rcases List.mem_cons.1 hc with rfl|hc
     ·exact h3
     ·exact cm.Jr h3 (Int.le_of_lt (k1 c hc))
    ·exact l1 c hc
termination_by A.length+B.length
noncomputable abbrev VY(κ:Kp):EB:=af1 κ
abbrev Wa V m(i:Nat):=sp 25 [(0, .ah 2 V),(3, .int m),(4, .int i)] []
theorem xMn κ V m i I N K:(vc (VY κ).E 12 126 none 0 (ad (Pr κ).toProgram 126 5) (Wa V m i) (bh (VY κ).E 126 5 0 I N K))=(
 letI a:=(↑i:Int)<(↑(V.length):Int)
 letI b:=nth V (Int.toNat (↑i:Int))
 aq (decide a) (aW (true&&decide a) (∃(e0:Nat),e0<N/\I e0 (sp 25 [(0,AV.ah 2 V),(3,AV.int (if toInt b<m then toInt b else m)),(4,AV.int
 (IntKind.wrap IntKind.i64 ((↑i:Int)+(1:Int))))] []))) (K (Exit.exit 0) (sp 25 [(3,AV.int m)] []))):=by kernel_rfl
structure W3 where
 V:List AV
 m:Int
 i:Nat
abbrev Ie(x:W3):S:=Wa x.V x.m x.i
def A9(x:W3):=x.i<=x.V.length/\x.V.length<=100000000
def LZ m(l:List _):=l.foldl (fun m x=>if toInt x<m then toInt x else m) m
def Tk(x:W3):Out (Exit×S):= .one (.exit 0,sp 25 [(3, .int (LZ x.m (x.V.drop x.i)))] [])
theorem lMn κ:aR (VY κ).E 12 126 5 (aG 0 Ie A9 Tk):=by
 refine aD (fun x=>x.V.length - x.i) ?_;rintro⟨V,m,i⟩ K ⟨h1,h2⟩ ho;simp only at h1 h2;rw[show(VY κ).E.P=Pr κ from rfl];refine Eq.mpr (xMn κ V m i _ _ K) ?_;rw[ae,an2,an4];simp only[Tk,Out.run] at ho;refine⟨fun h=>ai.2 ⟨by simp;omega,_,?_,⟨V,if toInt (nth V i)<m then toInt (nth V i) else m,i+1⟩,?_,⟨by simp only;omega,h2⟩,rfl,?_⟩,fun h=>?_⟩
 ·simp only;omega
 ·rw[az (n:=(i:Int)+1) (by omega) (by omega)];rfl
 ·have hi:i<V.length:=by omega
  rw[ao3 hi,←aX V i hi] at ho;exact ho
 ·rw[ao0 (by omega)] at ho
  exact ho
noncomputable def UY κ:=(VY κ).loop (lMn _)
theorem yMn κ V K:(a7 (UY κ).E 12 126 [.ah 2 V] [] K)=(
 letI a:=Pg.toProgram (Env.P (EB.E (VY κ)))
 aq (decide ((↑(V.length):Int)<(1:Int))) False (aW (true&&decide ((0:Int)<(↑(V.length):Int))) (ad a 126 5=ad a 126 5/\∃(e0:W3),sp 25 [(0,
 AV.ah 2 V),(3,AV.int (toInt (nth V 0))),(4,AV.int 1)] []=Ie e0/\A9 e0/\K (AV.int (LZ e0.m (List.drop e0.i e0.V))) []))):=by kernel_rfl
def gMn:List AV->Option (Bool×AV)
 |[.ah 2 V]=>some (decide (1<=V.length)&&decide (V.length<=100000000), .int (LZ (toInt (nth V 0)) (V.drop 1)))
 |_=>none
theorem pMn κ:cj (UY κ).E 12 126 gMn:=by
 intro args x hh;unfold gMn at hh;split at hh
 ·rename_i V
  simp only[an5,ao1,an3,an2] at hh;obtain⟨⟨h1,h2⟩,rfl⟩:=hh;refine⟨_,rfl,rfl,Eq.mpr (yMn κ V _) (ae.2 ⟨by grind,fun _=>ai.2 ⟨by simp;omega,rfl,⟨V,_,1⟩,rfl,⟨h1,h2⟩,rfl⟩⟩)⟩
 ·cases hh
noncomputable def VQ(κ:Kp):EB:=(UY κ).pure (pMn κ)
theorem xMg κ V m i I N K:(vc (VQ κ).E 12 127 none 0 (ad (Pr κ).toProgram 127 5) (Wa V m i) (bh (VQ κ).E 127 5 0 I N K))=(
 letI a:=(↑i:Int)<(↑(V.length):Int)
 letI b:=nth V (Int.toNat (↑i:Int))
 aq (decide a) (aW (true&&decide a) (∃(e0:Nat),e0<N/\I e0 (sp 25 [(0,AV.ah 2 V),(3,AV.int (if toInt b>m then toInt b else m)),(4,AV.int
 (IntKind.wrap IntKind.i64 ((↑i:Int)+(1:Int))))] []))) (K (Exit.exit 0) (sp 25 [(3,AV.int m)] []))):=by kernel_rfl
def Od m(l:List _):=l.foldl (fun m x=>if toInt x>m then toInt x else m) m
def TW(x:W3):Out (Exit×S):= .one (.exit 0,sp 25 [(3, .int (Od x.m (x.V.drop x.i)))] [])
theorem lMg κ:aR (VQ κ).E 12 127 5 (aG 0 Ie A9 TW):=by
 refine aD (fun x=>x.V.length - x.i) ?_;rintro⟨V,m,i⟩ K ⟨h1,h2⟩ ho;simp only at h1 h2;rw[show(VQ κ).E.P=Pr κ from rfl];refine Eq.mpr (xMg κ V m i _ _ K) ?_;rw[ae,an2,an4];simp only[TW,Out.run] at ho;refine⟨fun h=>ai.2 ⟨by simp;omega,_,?_,⟨V,if toInt (nth V i)>m then toInt (nth V i) else m,i+1⟩,?_,⟨by simp only;omega,h2⟩,rfl,?_⟩,fun h=>?_⟩
 ·simp only;omega
 ·rw[az (n:=(i:Int)+1) (by omega) (by omega)];rfl
 ·have hi:i<V.length:=by omega
  rw[ao3 hi,←aX V i hi] at ho;exact ho
 ·rw[ao0 (by omega)] at ho
  exact ho
noncomputable def NS κ:=(VQ κ).loop (lMg _)
theorem yMg κ V K:(a7 (NS κ).E 12 127 [.ah 2 V] [] K)=(
 letI a:=Pg.toProgram (Env.P (EB.E (VQ κ)))
 aq (decide ((↑(V.length):Int)<(1:Int))) False (aW (true&&decide ((0:Int)<(↑(V.length):Int))) (ad a 127 5=ad a 127 5/\∃(e0:W3),sp 25 [(0,
 AV.ah 2 V),(3,AV.int (toInt (nth V 0))),(4,AV.int 1)] []=Ie e0/\A9 e0/\K (AV.int (Od e0.m (List.drop e0.i e0.V))) []))):=by kernel_rfl
def gMg:List AV->Option (Bool×AV)
 |[.ah 2 V]=>some (decide (1<=V.length)&&decide (V.length<=100000000), .int (Od (toInt (nth V 0)) (V.drop 1)))
 |_=>none
theorem pMg κ:cj (NS κ).E 12 127 gMg:=by
 intro args x hh;unfold gMg at hh;split at hh
 ·rename_i V
  simp only[an5,ao1,an3,an2] at hh;obtain⟨⟨h1,h2⟩,rfl⟩:=hh;refine⟨_,rfl,rfl,Eq.mpr (yMg κ V _) (ae.2 ⟨by grind,fun _=>ai.2 ⟨by simp;omega,rfl,⟨V,_,1⟩,rfl,⟨h1,h2⟩,rfl⟩⟩)⟩
 ·cases hh
noncomputable def ak7(κ:Kp):EB:=(NS κ).pure (pMg κ)
end Go.Proofs.YtioeffnadipbaaaGreatDoor
