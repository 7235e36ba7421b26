import Derived.Test.YtioeffnadipbaaaGreatDoorDeMA
namespace Go.Proofs.YtioeffnadipbaaaGreatDoor
open Go Go.Dn Go.Rl Go.Proofs
attribute [local irreducible] ba vc
set_option maxRecDepth 20000
def jo:List AV->RL->RL
 |_,[]=>[]
 |p,b::l=>bif cw b p==0 then jo b l else b::jo b l
def jx:RL->RL
 |[]=>[]
 |a::l=>a::jo a l
theorem xCi(κ:Kp)(L:RL)(n0 k k0 k2:Nat)(I:Nat->S->Prop)(n:Nat)(K:Exit->S->Prop):(vc (PN κ).E 12 80 none 1 (ag (Pr κ).toProgram 80 9) (sp 66 [(0, .aB 0 0 L.length),(1, .bq 81 []),(5, .int k),(6, .aB 0 k0 n0),(7, .int k2)] [.row 70 (rws L)]) (bB (PN κ).E 80 9 1 I n K))=(
 letI z1:=ah (nth (rws L) (k0+Int.toNat (↑k2:Int)))
 letI z2:=(↑k2:Int)<(↑n0:Int)
 letI z3:=IntKind.wrap IntKind.i64 ((↑k2:Int)+(1:Int))
 letI z4:=(↑k2:Int) - (1:Int)
 aw (decide z2) (aP (true&&decide z2) (aP (decide ((0:Int)<=IntKind.wrap IntKind.i64 z4)&&decide (IntKind.wrap IntKind.i64 z4<(↑n0:Int))) (aP (decide
 (List.length z1<=9223372036854775807)) (aw (!cw z1 (ah (nth (rws L) (k0+Int.toNat (IntKind.wrap IntKind.i64 z4))))==(0:Int)) (aP (true&&decide z2) (aP
 (true&&decide ((↑k:Int)<(↑(L.length):Int))) (∃(e0:Nat),e0<n/\I e0 (sp 66 [(0,AV.aB 0 0 L.length),(1,AV.bq 81 []),(5,AV.int (IntKind.wrap
 IntKind.i64 ((↑k:Int)+(1:Int)))),(6,AV.aB 0 k0 n0),(7,AV.int z3)] [Obj.row 70 (bJ (rws L) (0+Int.toNat (↑k:Int)) (AV.ad 72 z1))])))) (∃(e0:
 Nat),e0<n/\I e0 (sp 66 [(0,AV.aB 0 0 L.length),(1,AV.bq 81 []),(5,AV.int (↑k:Int)),(6,AV.aB 0 k0 n0),(7,AV.int z3)] [Obj.row 70 (rws L)])))))) (K
 (Exit.exit 2) (sp 66 [(0,AV.aB 0 0 L.length),(5,AV.int (↑k:Int))] [Obj.row 70 (rws L)]))):=by kernel_rfl
structure Ui where
 L0:RL
 L:RL
 n0:Nat
 k0:Nat
 k:Nat
 k2:Nat
abbrev LZ(x:Ui):S:=sp 66 [(0, .aB 0 0 x.L.length),(1, .bq 81 []),(5, .int x.k),(6, .aB 0 x.k0 x.n0),(7, .int x.k2)] [.row 70 (rws x.L)]
structure Rh(x:Ui):Prop where
 len:x.L.length=x.L0.length/\x.L0.length=x.k0+x.n0
 k:x.k0<=x.k/\x.k+1<=x.k0+x.k2
 k2:1<=x.k2/\x.k2<=x.n0
 l:x.L0.length<=100000000
 s:fb x.L0
 o: ∀j,x.k0+x.k2<=j+1->rat x.L j=rat x.L0 j
 e:jx x.L0=x.L.take x.k++jo (rat x.L0 (x.k0+x.k2 - 1)) (x.L0.drop (x.k0+x.k2))
def Ti(x:Ui):Out (Exit×S):= .all (fun r:Nat×RL=>r.2.length=x.L0.length/\r.1<=x.L0.length/\r.2.take r.1=jx x.L0) fun r=> .one (.exit 2,sp 66 [(0, .aB 0 0 r.2.length),(5, .int r.1)] [.row 70 (rws r.2)])
theorem lCi(κ:Kp):bf (PN κ).E 12 80 9 (aR 1 LZ Rh Ti):=by
 refine aG (fun x=>x.n0 - x.k2) ?_
 rintro⟨L0,L,n0,k0,k,k2⟩ K ⟨h1,h2,h3,h4,h5,h6,h7⟩ ho
 simp only at h1 h2 h3 h4 h5 h6 h7
 rw[show(PN κ).E.P=Pr κ from rfl]
 refine Eq.mpr (xCi κ L n0 k k0 k2 _ _ K) ?_
 rw[ae,aa0,aa2]
 refine⟨fun h=>?_,fun h=>?_⟩
 ·have hk:k0+k2<L0.length:=by omega
  rw[aC (n:=(k2:Int) - 1) (by omega) (by omega),aC (n:=(k2:Int)+1) (by omega) (by omega),aC (n:=(k:Int)+1) (by omega) (by omega),show k0+(k2:Int).toNat=k0+k2 by omega,show k0+((k2:Int) - 1).toNat=k0+k2 - 1 by omega,Nat.zero_add,Int.toNat_natCast,fE,fE,tf,h6 (k0+k2) (by omega),h6 (k0+k2 - 1) (by omega)]
  rw[ab1 hk,←sn hk,jo] at h7
  refine ai.2 ⟨by simp;omega,ai.2 ⟨by simp;omega,ai.2 ⟨aa6 (jW h5 _),ae.2 ⟨fun e=>?_,fun e=>?_⟩⟩⟩⟩
  ·have e:(cw (rat L0 (k0+k2)) (rat L0 (k0+k2 - 1))==0)=false:=by simpa using e
   rw[e,aa5] at h7
   refine ai.2 ⟨by simp;omega,ai.2 ⟨by simp;omega,_,?_,⟨L0,L.set k (rat L0 (k0+k2)),n0,k0,k+1,k2+1⟩,?_,⟨by simp only[List.length_set];omega,by simp only;omega,by simp only;omega,h4,h5,fun j hj=>?_,?_⟩,rfl,ho⟩⟩
   ·simp only;omega
   ·simp only[LZ,List.length_set];rfl
   ·simp only at hj
    rw[De _ _ _ _ (by omega),if_neg (by omega)]
    exact h6 j (by omega)
   ·simp only
    rw[h7,show k0+(k2+1) - 1=k0+k2 by omega,List.take_succ_eq_append_getElem (by rw[List.length_set];omega)]
    rw[List.getElem_set_self,List.take_set_of_le (Nat.le_refl _)]
    simp[Nat.add_assoc]
  ·have e:(cw (rat L0 (k0+k2)) (rat L0 (k0+k2 - 1))==0)=true:=by simpa using e
   rw[e,aa7] at h7
   refine⟨_,?_,⟨L0,L,n0,k0,k,k2+1⟩,rfl,⟨h1,by simp only;omega,by simp only;omega,h4,h5,fun j hj=>h6 j (by simp only at hj;omega),?_⟩,rfl,ho⟩
   ·simp only;omega
   ·simp only
    rw[h7,show k0+(k2+1) - 1=k0+k2 by omega];rfl
 ·refine ho (k,L) ⟨h1.1,by simp only;omega,?_⟩
  rw[aa8 (by omega),jo,List.append_nil] at h7
  exact h7.symm
noncomputable def Ou(κ:Kp):EB:=(PN κ).loop (lCi κ)
theorem xCo(κ:Kp)(L:RL)(k:Nat)(I:Nat->S->Prop)(n:Nat)(K:Exit->S->Prop):(vc (Ou κ).E 12 80 none 1 (ag (Pr κ).toProgram 80 4) (sp 66 [(0, .aB 0 0 L.length),(1, .bq 81 []),(5, .int k)] [.row 70 (rws L)]) (bB (Ou κ).E 80 4 1 I n K))=(
 letI z1:=(↑k:Int) - (1:Int)
 letI z2:=ah (nth (rws L) (0+Int.toNat (↑k:Int)))
 letI z3:=(↑k:Int)<(↑(L.length):Int)
 letI z4:=Pg.toProgram (Env.P (EB.E (PN κ)))
 aw (decide z3) (aP (true&&decide z3) (aP (decide ((0:Int)<=IntKind.wrap IntKind.i64 z1)&&decide (IntKind.wrap IntKind.i64 z1<(↑(L.length):Int))) (aP
 (decide (List.length z2<=9223372036854775807)) (aw (cw z2 (ah (nth (rws L) (0+Int.toNat (IntKind.wrap IntKind.i64 z1))))==(0:Int)) (aP (true&&decide
 ((↑k:Int)<=(↑(L.length):Int))&&decide ((↑(L.length):Int)<=(↑(L.length):Int))) (ag z4 80 9=ag z4 80 9/\∃(e1:Ui),sp 66 [(0,AV.aB 0 0
 L.length),(1,AV.bq 81 []),(5,AV.int (↑k:Int)),(6,AV.aB 0 (0+Int.toNat (↑k:Int)) (Int.toNat ((↑(L.length):Int) - (↑k:Int)))),(7,AV.int 1)]
 [Obj.row 70 (rws L)]=LZ e1/\Rh e1/\∀(e0:Nat×RL),e0.2.length=e1.L0.length/\e0.1<=e1.L0.length/\List.take e0.1 e0.2=jx e1.L0->aP (true&&decide
 ((↑(e0.1):Int)<=(↑(e0.2.length):Int))&&decide ((↑(e0.2.length):Int)<=(↑(e0.2.length):Int))) (aP (true&&decide ((↑(e0.1):Int)<=(↑(e0.2.length):
 Int))) (K Exit.ret (sp 66 [(4,AV.aB 0 0 (Int.toNat ((↑(e0.1):Int) - (0:Int))))] [Obj.row 70 (cO (rws e0.2) (0+Int.toNat (↑(e0.1):Int)) (Int.toNat
 ((↑(e0.2.length):Int) - (↑(e0.1):Int))) AV.nil)]))))) (∃(e0:Nat),e0<n/\I e0 (sp 66 [(0,AV.aB 0 0 L.length),(1,AV.bq 81 []),(5,AV.int
 (IntKind.wrap IntKind.i64 ((↑k:Int)+(1:Int))))] [Obj.row 70 (rws L)])))))) (K (Exit.exit 0) (sp 66 [(0,AV.aB 0 0 L.length)] [Obj.row 70 (rws L)]))):=by kernel_rfl
structure Un where
 L:RL
 k:Nat
abbrev Rb(x:Un):S:=sp 66 [(0, .aB 0 0 x.L.length),(1, .bq 81 []),(5, .int x.k)] [.row 70 (rws x.L)]
def SA(x:Un):Prop:=(1<=x.k/\x.k<=x.L.length)/\x.L.length<=100000000/\fb x.L/\jx x.L=x.L.take x.k++jo (rat x.L (x.k - 1)) (x.L.drop x.k)
def Iv(x:Un):Out (Exit×S):= .aw (decide ((jx x.L).length=x.L.length)) (.one (.exit 0,sp 66 [(0, .aB 0 0 x.L.length)] [.row 70 (rws x.L)]))
 (.all (fun ys:List AV=>(jx x.L).length<=ys.length/\ys.take (jx x.L).length=rws (jx x.L)) fun ys=> .one (.ret,sp 66 [(4, .aB 0 0 (jx x.L).length)] [.row 70 ys]))
theorem rr: ∀(p:List AV) (l:RL),(jo p l).length<=l.length
 |_,[]=>Nat.le_refl _
 |p,b::l=>by
  have:=rr b l
  rw[jo]
  cases cw b p==0<;>simp<;>omega
theorem wZ: ∀(p:List AV) (l:RL),(jo p l).length=l.length->jo p l=l
 |_,[],_=>rfl
 | p,b::l,h=>by
  have h1:=rr b l
  rw[jo] at h⊢
  cases e:cw b p==0 with
  |true=>rw[e,aa7,List.length_cons] at h;omega
  |false=>
   rw[e,aa5,List.length_cons,List.length_cons] at h
   rw[aa5,wZ b l (by omega)]
theorem qa(z:AV): ∀(xs:List AV) (k m:Nat),(cO xs k m z).take k=xs.take k
 |[],_,_=>by simp[cO]
 |a::l,0,_=>by simp
 |a::l,k+1,m=>by
  have:=qa z l k m
  simp only[cO,List.take_succ_cons,this]
theorem pL(z:AV): ∀(xs:List AV) (k m:Nat),(cO xs k m z).length=xs.length
 |[],_,_=>by simp[cO]
 |a::l,0,0=>rfl
 |a::l,0,m+1=>by simp[cO,pL z l 0 m]
 |a::l,k+1,m=>by simp[cO,pL z l k m]
theorem lCo(κ:Kp):bf (Ou κ).E 12 80 4 (aR 1 Rb SA Iv):=by
 refine aG (fun x=>x.L.length - x.k) ?_
 rintro⟨L,k⟩ K ⟨h1,h2,h3,h4⟩ ho
 simp only at h1 h2 h3 h4
 rw[show(Ou κ).E.P=Pr κ from rfl]
 refine Eq.mpr (xCo κ L k _ _ K) ?_
 simp only[Iv,Out.run,ae,aa0,aa2] at ho
 rw[ae,aa0,aa2]
 refine⟨fun h=>?_,fun h=>?_⟩
 ·have hk:k<L.length:=by omega
  rw[aC (n:=(k:Int) - 1) (by omega) (by omega),aC (n:=(k:Int)+1) (by omega) (by omega),show 0+((k:Int) - 1).toNat=k - 1 by omega,Nat.zero_add,Int.toNat_natCast,fE,fE]
  rw[ab1 hk,←sn hk,jo] at h4
  refine ai.2 ⟨by simp;omega,ai.2 ⟨by simp;omega,ai.2 ⟨aa6 (jW h3 _),ae.2 ⟨fun e=>?_,fun e=>?_⟩⟩⟩⟩
  ·rw[e,aa7] at h4
   have hlt:(jx L).length<L.length:=by
    have:=rr (rat L k) (L.drop (k+1))
    rw[h4,ab8,List.length_take]
    rw[List.length_drop] at this;omega
   refine ai.2 ⟨by simp;omega,rfl,⟨L,L,L.length - k,k,k,1⟩,?_,⟨⟨rfl,by simp only;omega⟩,⟨Nat.le_refl _,Nat.le_refl _⟩,⟨Nat.le_refl _,by simp only;omega⟩,h2,h3,fun _ _=>rfl,?_⟩,fun r hr=>?_⟩
   ·simp only[LZ,show((L.length:Int) - k).toNat=L.length - k by omega];rfl
   ·simp only[Nat.add_sub_cancel]
    exact h4
   ·obtain⟨k',M⟩:=r
    obtain⟨r1,r2,r3⟩:=hr
    simp only at r1 r2 r3
    have hk':(jx L).length=k':=by rw[←r3,List.length_take];omega
    simp only
    refine ai.2 ⟨by simp;omega,ai.2 ⟨by simp;omega,?_⟩⟩
    have:=ho.2 (by omega) (cO (rws M) k' ((M.length:Int) - k').toNat .nil) ⟨by rw[pL,gZ];omega,by rw[hk',qa,←List.map_take,r3]⟩
    rw[hk'] at this
    rw[show((k':Int) - 0).toNat=k' by omega,show 0+(k':Int).toNat=k' by omega]
    exact this
  ·rw[e,aa5] at h4
   refine⟨_,?_,⟨L,k+1⟩,rfl,⟨by simp only;omega,h2,h3,?_⟩,rfl,?_⟩
   ·simp only;omega
   ·simp only[Nat.add_sub_cancel]
    rw[h4,List.take_succ_eq_append_getElem hk,←sn hk];simp
   ·simp only[Iv,Out.run,ae,aa0,aa2]
    exact ho
 ·rw[aa8 (by omega),jo,List.append_nil,List.take_of_length_le (by omega)] at h4
  exact ho.1 (by rw[h4])
noncomputable def PM(κ:Kp):EB:=(Ou κ).loop (lCo κ)
theorem W4(κ:Kp)(L:RL)(K:AV->List Dn.Obj->Prop):(ba (PM κ).E 12 80 [.aB 0 0 L.length, .bq 81 []] [.row 70 (rws L)] K)=(
 letI z1:=Pg.toProgram (Env.P (EB.E (Ou κ)))
 aw (decide ((↑(L.length):Int)<(2:Int))) (K (AV.ad 70 (List.take L.length (List.drop 0 (rws L)))) [Obj.kC 70 (rws L)]) (ag z1 80 4=ag z1 80 4/\∃(e1:
 Un),sp 66 [(0,AV.aB 0 0 L.length),(1,AV.bq 81 []),(5,AV.int 1)] [Obj.row 70 (rws L)]=Rb e1/\SA e1/\aw (decide (List.length (jx e1.L)=e1.L.length))
 (K (AV.ad 70 (List.take e1.L.length (List.drop 0 (rws e1.L)))) [Obj.kC 70 (rws e1.L)]) (∀(e0:List AV),List.length (jx e1.L)<=e0.length/\List.take
 (List.length (jx e1.L)) e0=rws (jx e1.L)->K (AV.ad 70 (List.take (List.length (jx e1.L)) (List.drop 0 e0))) [Obj.kC 70 e0]))):=by kernel_rfl
def BW(L:RL):List AV×List Dn.Obj:=([.aB 0 0 L.length, .bq 81 []],[.row 70 (rws L)])
def Ke(L:RL):Out (AV×List Dn.Obj):= .all (fun _:List AV=>True) fun ys=> .one (.ad 70 (rws (jx L)),[.kC 70 ys])
theorem cCo(κ:Kp):bG (PM κ).E 12 80 (a0 BW (fun L=>L.length<=100000000/\fb L) Ke):=by
 refine bc ?_
 rintro L K ⟨h1,h2⟩ ho
 refine Eq.mpr (W4 κ L K) ?_
 have ho: ∀ys,K (.ad 70 (rws (jx L))) [.kC 70 ys]:=fun ys=>ho ys trivial
 rw[ae,aa0,aa2]
 refine⟨fun h=>?_,fun h=>⟨rfl,⟨L,1⟩,rfl,⟨by simp only;omega,h1,h2,?_⟩,ae.2 ⟨fun e=>?_,fun e ys hy=>?_⟩⟩⟩
 ·have e:jx L=L:=by
   match L,h with
   |[],_=>rfl
   |[a],_=>rfl
   |a::b::l,h=>simp at h;omega
  have:=ho (rws L)
  rw[e] at this
  rw[ab0,←gZ,List.take_length];exact this
 ·match L,h with
  |[],h=>simp at h
  |a::l,_=>rfl
 ·rw[aa0] at e
  have e2:jx L=L:=by
   match L,h with
   |a::l,_=>
    simp only[jx,List.length_cons,Nat.add_right_cancel_iff] at e
    rw[jx,wZ _ _ e]
  have:=ho (rws L)
  rw[e2] at this
  simp only
  rw[ab0,←gZ,List.take_length];exact this
 ·simp only at hy
  rw[ab0,hy.2];exact ho ys
theorem yTy(κ:Kp)(v:mI)(k:Int)(K:AV->List Dn.Obj->Prop):(ba (PM κ).E 12 97 [wM v, .int k] [] K)=(
 aw (k==(1:Int)) (K (AV.lit (Value.bool (v.y==false&&(v.n==v.n&&(ByteArray.toList v.s==ByteArray.toList {data:= #[]}&&true))))) []) (K (AV.lit (Value.bool (v.y==true&&(v.n==(0:Int)&&(ByteArray.toList v.s==ByteArray.toList v.s&&true))))) [])):=by kernel_rfl
def Sx(v:mI)(k:Int):Bool:=bif k==1 then !v.y&&decide (v.s=ByteArray.mk #[]) else v.y&&decide (v.n=0)
def Y6:List AV->Option (Bool×AV)
 |[.agg [.lit (.bool y), .lit (.int .i64 n), .lit (.string s)], .lit (.int .i64 k)]=>some (true, .bool (Sx ⟨y,n,s⟩ k))
 |_=>none
theorem HF(s t:ByteArray):(ByteArray.toList s==ByteArray.toList t)=decide (s=t):=by
 rw[Bool.eq_iff_iff,beq_iff_eq,aa0];exact toList_inj
theorem pTy(κ:Kp):cj (PM κ).E 12 97 Y6:=by
 intro args x hh
 unfold Y6 at hh
 split at hh
 ·rename_i y n s k
  simp only[aa3,aa9,true_and] at hh
  subst hh
  refine⟨_,rfl,rfl,Eq.mpr (yTy κ ⟨y,n,s⟩ k _) (ae.2 ⟨fun e=>?_,fun e=>?_⟩)⟩
  ·simp only[Sx,e,aa7,HF]
   cases y<;>simp
  ·simp only[Sx,e,aa5,HF]
   cases y<;>simp[UB]
 ·cases hh
noncomputable def Oo(κ:Kp):EB:=EB.Ml ((PM κ).pure (pTy κ)) [97,49,23]
theorem xFj(κ:Kp)(xs t:List AV)(rel:ByteArray)(ns ts:List AV)(a o:Bool)(li:Int)(j i:Nat)(I:Nat->S->Prop)(n:Nat)(K:Exit->S->Prop):(vc (Oo κ).E 12 49 none 0 (ag (Pr κ).toProgram 49 7) (sp 40 [(1, .ad 70 xs),(2, .ptr 0 0 [] 0),(9, .ad 70 xs),(10, .int xs.length),(11, .int j),(21, .ad 72 t),(22, .int t.length),(23, .int i)] [.box 43 (.agg [.lit (.string rel), .ad 9 ns, .ad 3 ts, .bool a, .bool o, .int li])]) (bB (Oo κ).E 49 7 0 I n K))=(
 letI z1:=AV.agg [AV.str rel,AV.ad 9 ns,AV.ad 3 ts,AV.bool a,AV.bool o,AV.int li]
 letI z2:=Int.toNat (↑i:Int)
 letI z3:=(↑i:Int)<(↑(t.length):Int)
 aw (decide z3) (aP (true&&decide z3) (aP (true&&decide ((↑i:Int)<(↑(ts.length):Int))) (aw (!Sx {y:=Dn.toBool (af (nth t z2) 0),n:=toInt (af (nth t z2) 1),s:=toStr (af (nth t z2) 2)} (toInt (nth ts z2))) (K Exit.ret (sp 40 [(4,AV.bool false)] [])) (∃(e0:Nat),e0<n/\I e0 (sp 40 [(1,AV.ad 70 xs),(2,AV.ptr 0 0 [] 0),(9,AV.ad 70 xs),(10,AV.int (↑(xs.length):Int)),(11,AV.int (↑j:Int)),(21,AV.ad 72 t),(22,AV.int (↑(t.length):Int)),(23,AV.int (IntKind.wrap IntKind.i64 ((↑i:Int)+(1:Int))))] [Obj.box 43 z1]))))) (K (Exit.exit 2) (sp 40 [(1,AV.ad 70 xs),(2,AV.ptr 0 0 [] 0),(9,AV.ad 70 xs),(10,AV.int (↑(xs.length):Int)),(11,AV.int (↑j:Int))] [Obj.box 43 z1]))):=by kernel_rfl
def JO:List AV->List AV->Bool
 |[],[]=>true
 |v::t,k::ts=>Sx (H0 v) (toInt k)&&JO t ts
 |_,_=>false
theorem Fp: ∀(t ts:List AV),JO t ts=true->t.length=ts.length
 |[],[],_=>rfl
 |v::t,k::ts,h=>by
  simp only[JO,aa1] at h
  simp[Fp t ts h.2]
 |[],_::_,h=>by simp[JO] at h
 |_::_,[],h=>by simp[JO] at h
structure Ux where
 xs:List AV
 t:List AV
 d:J0
 j:Nat
 i:Nat
abbrev Sd(x:Ux):S:=sp 40 [(1, .ad 70 x.xs),(2, .ptr 0 0 [] 0),(9, .ad 70 x.xs),(10, .int x.xs.length),(11, .int x.j),(21, .ad 72 x.t),(22, .int x.t.length),(23, .int x.i)] [.box 43 (Oc x.d)]
def JQ(x:Ux):Prop:=x.t.length=x.d.types.length/\x.i<=x.t.length/\x.t.length<=100000000
def Ko(x:Ux):Out (Exit×S):= .aw (JO (x.t.drop x.i) (x.d.types.drop x.i)) (.one (.exit 2,sp 40 [(1, .ad 70 x.xs),(2, .ptr 0 0 [] 0),(9, .ad 70 x.xs),(10, .int x.xs.length),(11, .int x.j)] [.box 43 (Oc x.d)])) (.one (.ret,sp 40 [(4, .bool false)] []))
theorem Z6(κ:Kp):bf (Oo κ).E 12 49 7 (aR 0 Sd JQ Ko):=by
 refine aG (fun x=>x.t.length - x.i) ?_
 rintro⟨xs,t,⟨rel,ns,ts,a,o,li⟩,j,i⟩ K ⟨h1,h2,h3⟩ ho
 simp only at h1 h2 h3
 rw[show(Oo κ).E.P=Pr κ from rfl]
 refine Eq.mpr (xFj κ xs t rel ns ts a o li j i _ _ K) ?_
 simp only[Ko,Out.run,ae] at ho
 rw[ae,aa0,aa2]
 refine⟨fun h=>?_,fun h=>?_⟩
 ·have hk:i<t.length:=by omega
  rw[ab1 hk,←a7 _ _ hk,ab1 (show i<ts.length by omega),←a7 ts i (by omega),JO] at ho
  rw[Int.toNat_natCast,aC (n:=(i:Int)+1) (by omega) (by omega)]
  refine ai.2 ⟨by simp;omega,ai.2 ⟨by simp;omega,?_⟩⟩
  rw[show(⟨Dn.toBool (af (nth t i) 0),toInt (af (nth t i) 1),toStr (af (nth t i) 2)⟩:mI)=H0 (nth t i) from rfl,ae,Bool.not_eq_true',ab2]
  refine⟨fun e=>ho.2 (by rw[e];rfl),fun e=>?_⟩
  rw[e,ab9] at ho
  refine⟨_,?_,⟨xs,t,⟨rel,ns,ts,a,o,li⟩,j,i+1⟩,rfl,⟨h1,hk,h3⟩,rfl,?_⟩
  ·simp only;omega
  ·simp only[Ko,Out.run,ae]
   exact ho
 ·rw[aa8 (show t.length<=i by omega),aa8 (show ts.length<=i by omega)] at ho
  exact ho.1 rfl
noncomputable def P7(κ:Kp):EB:=(Oo κ).loop (Z6 κ)
theorem xFk(κ:Kp)(xs:List AV)(d:J0)(j:Nat)(I:Nat->S->Prop)(n:Nat)(K:Exit->S->Prop):(vc (P7 κ).E 12 49 none 0 (ag (Pr κ).toProgram 49 2) (sp 40 [(1, .ad 70 xs),(2, .ptr 0 0 [] 0),(9, .ad 70 xs),(10, .int xs.length),(11, .int j)] [.box 43 (Oc d)]) (bB (P7 κ).E 49 2 0 I n K))=(
 letI z1:=ah (nth xs (Int.toNat (↑j:Int)))
 letI z2:=K Exit.ret (sp 40 [(4,AV.bool false)] [])
 letI z3:=(↑j:Int)<(↑(xs.length):Int)
 letI z4:=Pg.toProgram (Env.P (EB.E (Oo κ)))
 aw (decide z3) (aP (true&&decide z3) (aw ((↑(List.length z1):Int) != (↑(d.types.length):Int)) z2 (ag z4 49 7=ag z4 49 7/\∃(e1:Ux),sp 40 [(1,AV.ad
 70 xs),(2,AV.ptr 0 0 [] 0),(9,AV.ad 70 xs),(10,AV.int (↑(xs.length):Int)),(11,AV.int (↑j:Int)),(21,AV.ad 72 z1),(22,AV.int (↑(List.length z1):
 Int)),(23,AV.int 0)] [Obj.box 43 (AV.agg [AV.str d.rel,AV.ad 9 d.names,AV.ad 3 d.types,AV.bool d.i,AV.bool d.o,AV.int d.line])]=Sd e1/\JQ e1/\aw (JO
 (List.drop e1.i e1.t) (List.drop e1.i e1.d.types)) (∃(e0:Nat),e0<n/\I e0 (sp 40 [(1,AV.ad 70 e1.xs),(2,AV.ptr 0 0 [] 0),(9,AV.ad 70 e1.xs),(10,
 AV.int (↑(e1.xs.length):Int)),(11,AV.int (IntKind.wrap IntKind.i64 ((↑(e1.j):Int)+(1:Int))))] [Obj.box 43 (AV.agg [AV.str e1.d.rel,AV.ad 9
 e1.d.names,AV.ad 3 e1.d.types,AV.bool e1.d.i,AV.bool e1.d.o,AV.int e1.d.line])])) z2))) (K (Exit.exit 0) (sp 40 [(1,AV.ad 70 xs)] []))):=by kernel_rfl
structure XF where
 xs:List AV
 d:J0
 j:Nat
abbrev Ub(x:XF):S:=sp 40 [(1, .ad 70 x.xs),(2, .ptr 0 0 [] 0),(9, .ad 70 x.xs),(10, .int x.xs.length),(11, .int x.j)] [.box 43 (Oc x.d)]
def Rz(xs ts:List AV):Bool:=xs.all fun x=>JO (ah x) ts
def Im(x:XF):Out (Exit×S):= .aw (Rz (x.xs.drop x.j) x.d.types) (.one (.exit 0,sp 40 [(1, .ad 70 x.xs)] [])) (.one (.ret,sp 40 [(4, .bool false)] []))
theorem lFk(κ:Kp):bf (P7 κ).E 12 49 2 (aR 0 Ub (fun x=>x.j<=x.xs.length/\ki x.xs=true) Im):=by
 refine aG (fun x=>x.xs.length - x.j) ?_
 rintro⟨xs,d,j⟩ K ⟨h1,h2⟩ ho
 simp only at h1 h2
 rw[show(P7 κ).E.P=Pr κ from rfl]
 refine Eq.mpr (xFk κ xs d j _ _ K) ?_
 have hl:=qi h2
 simp only[Im,Out.run,ae] at ho
 rw[ae,aa0,aa2]
 refine⟨fun h=>?_,fun h=>?_⟩
 ·have hk:j<xs.length:=by omega
  rw[ab1 hk,←a7 _ _ hk,Rz,List.all_cons,←Rz] at ho
  rw[Int.toNat_natCast]
  refine ai.2 ⟨by simp;omega,?_⟩
  rw[ae,bne_iff_ne,bne_eq_false_iff_eq]
  refine⟨fun e=>ho.2 ?_,fun e=>⟨rfl,⟨xs,ah (nth xs j),d,j,0⟩,rfl,⟨by simp only;omega,Nat.zero_le _,tu h2 j⟩,?_⟩⟩
  ·rw[show JO (ah (nth xs j)) d.types=false from by
    cases q:JO (ah (nth xs j)) d.types with
    |false=>rfl
    |true=>exact absurd (by rw[Fp _ _ q]) e,Bool.false_and]
  ·simp only[ab0]
   rw[aC (n:=(j:Int)+1) (by omega) (by omega),ae]
   refine⟨fun e2=>⟨_,?_,⟨xs,d,j+1⟩,rfl,⟨hk,h2⟩,rfl,?_⟩,fun e2=>ho.2 (by rw[e2];rfl)⟩
   ·simp only;omega
   ·rw[e2,ab9] at ho
    simp only[Im,Out.run,ae]
    exact ho
 ·rw[aa8 (by omega)] at ho
  exact ho.1 rfl
noncomputable def W7(κ:Kp):EB:=(P7 κ).loop (lFk κ)
theorem yFk(κ:Kp)(xs:List AV)(d:J0)(K:AV->List Dn.Obj->Prop):(ba (W7 κ).E 12 49 [Oc d, .ad 70 xs] [] K)=(
 letI z1:=Pg.toProgram (Env.P (EB.E (P7 κ)))
 ag z1 49 2=ag z1 49 2/\∃(e0:XF),sp 40 [(1,AV.ad 70 xs),(2,AV.ptr 0 0 [] 0),(9,AV.ad 70 xs),(10,AV.int (↑(xs.length):Int)),(11,AV.int 0)]
 [Obj.box 43 (AV.agg [AV.str d.rel,AV.ad 9 d.names,AV.ad 3 d.types,AV.bool d.i,AV.bool d.o,AV.int d.line])]=Ub e0/\(e0.j<=e0.xs.length/\ki e0.xs=
 true)/\aw (Rz (List.drop e0.j e0.xs) e0.d.types) (aP (ki e0.xs) (K (AV.bool (gP (kj e0.xs))) [])) (K (AV.bool false) [])):=by kernel_rfl
def EV(xs ts:List AV):Bool:=Rz xs ts&&gP (kj xs)
def Yo:List AV->Option (Bool×AV)
 |[.agg [.lit (.string _), .ad 9 _, .ad 3 ts, .lit (.bool _), .lit (.bool _), .lit (.int .i64 _)], .ad 70 xs]=>some (ki xs, .bool (EV xs ts))
 |_=>none
theorem pFk(κ:Kp):cj (W7 κ).E 12 49 Yo:=by
 intro args x hh
 unfold Yo at hh
 split at hh
 ·rename_i rel ns ts a o li xs
  simp only[aa3,aa9] at hh
  obtain⟨h1,rfl⟩:=hh
  refine⟨_,rfl,rfl,Eq.mpr (yFk κ xs ⟨rel,ns,ts,a,o,li⟩ _) ⟨rfl,⟨xs,⟨rel,ns,ts,a,o,li⟩,0⟩,rfl,⟨Nat.zero_le _,h1⟩,?_⟩⟩
  simp only[ab0,EV]
  refine ae.2 ⟨fun e=>ai.2 ⟨h1,by rw[e,ab9]⟩,fun e=>by rw[e,Bool.false_and]⟩
 ·cases hh
noncomputable def OY(κ:Kp):EB:=(W7 κ).pure (pFk κ)
theorem xFm(κ:Kp)(ds rs xs:List AV)(i:Nat)(I:Nat->S->Prop)(n:Nat)(K:Exit->S->Prop):(vc (OY κ).E 12 23 none 0 (ag (Pr κ).toProgram 23 4) (sp 34 [(2, .ptr 0 0 [] 0),(18, .ad 51 xs),(19, .int xs.length),(20, .int i)] [.box 25 (mO ds rs)]) (bB (OY κ).E 23 4 0 I n K))=(
 letI z1:=Int.toNat (↑i:Int)
 letI z2:=(↑i:Int)<(↑(xs.length):Int)
 aw (decide z2) (aP (true&&decide z2) (aP (true&&decide ((↑i:Int)<(↑(ds.length):Int))) (aP (ki (ah (nth xs z1))) (aw (!EV (ah (nth xs z1)) (ah (af (nth
 ds z1) 2))) (K Exit.ret (sp 34 [(4,AV.bool false)] [])) (∃(e0:Nat),e0<n/\I e0 (sp 34 [(2,AV.ptr 0 0 [] 0),(18,AV.ad 51 xs),(19,AV.int (↑(xs.length)
 :Int)),(20,AV.int (IntKind.wrap IntKind.i64 ((↑i:Int)+(1:Int))))] [Obj.box 25 (AV.agg [AV.ad 43 ds,AV.ad 48 rs])])))))) (K (Exit.exit 0) (sp 34 []
 []))):=by kernel_rfl
structure WJ where
 ds:List AV
 rs:List AV
 xs:List AV
 i:Nat
abbrev QI(x:WJ):S:=sp 34 [(2, .ptr 0 0 [] 0),(18, .ad 51 x.xs),(19, .int x.xs.length),(20, .int x.i)] [.box 25 (mO x.ds x.rs)]
def Af:List AV->List AV->Bool
 |[],_=>true
 |x::xs,d::ds=>EV (ah x) (ah (af d 2))&&Af xs ds
 |_::_,[]=>false
def xq(xs:List AV):Bool:=decide (xs.length<=100000000)&&xs.all fun x=>ki (ah x)
def JD(x:WJ):Out (Exit×S):= .aw (Af (x.xs.drop x.i) (x.ds.drop x.i)) (.one (.exit 0,sp 34 [] [])) (.one (.ret,sp 34 [(4, .bool false)] []))
theorem Ij{xs:List AV}(h:xq xs=true)(i:Nat):ki (ah (nth xs i))=true:=by
 simp only[xq,aa1,List.all_eq_true] at h
 rcases Nat.lt_or_ge i xs.length with h1|h1
 ·rw[a7 _ _ h1];exact h.2 _ (List.getElem_mem _)
 ·rw[jN _ _ h1];rfl
theorem Zk(κ:Kp):bf (OY κ).E 12 23 4 (aR 0 QI (fun x=>x.i<=x.xs.length/\x.xs.length=x.ds.length/\xq x.xs=true) JD):=by
 refine aG (fun x=>x.xs.length - x.i) ?_
 rintro⟨ds,rs,xs,i⟩ K ⟨h1,h2,h3⟩ ho
 simp only at h1 h2 h3
 rw[show(OY κ).E.P=Pr κ from rfl]
 refine Eq.mpr (xFm κ ds rs xs i _ _ K) ?_
 have hl:xs.length<=100000000:=by
  simp only[xq,aa1,aa0] at h3
  exact h3.1
 simp only[JD,Out.run,ae] at ho
 rw[ae,aa0,aa2]
 refine⟨fun h=>?_,fun h=>?_⟩
 ·have hk:i<xs.length:=by omega
  rw[ab1 hk,←a7 _ _ hk,ab1 (show i<ds.length by omega),←a7 ds i (by omega),Af] at ho
  rw[Int.toNat_natCast,aC (n:=(i:Int)+1) (by omega) (by omega)]
  refine ai.2 ⟨by simp;omega,ai.2 ⟨by simp;omega,ai.2 ⟨Ij h3 i,?_⟩⟩⟩
  rw[ae,Bool.not_eq_true',ab2]
  refine⟨fun e=>ho.2 (by rw[e];rfl),fun e=>?_⟩
  rw[e,ab9] at ho
  refine⟨_,?_,⟨ds,rs,xs,i+1⟩,rfl,⟨hk,h2,h3⟩,rfl,?_⟩
  ·simp only;omega
  ·simp only[JD,Out.run,ae]
   exact ho
 ·rw[aa8 (show xs.length<=i by omega)] at ho
  exact ho.1 rfl
noncomputable def VS(κ:Kp):EB:=(OY κ).loop (Zk κ)
theorem yFm(κ:Kp)(ds rs xs:List AV)(K:AV->List Dn.Obj->Prop):(ba (VS κ).E 12 23 [mO ds rs, .ad 51 xs] [] K)=(
 letI z1:=K (AV.bool false) []
 letI z2:=Pg.toProgram (Env.P (EB.E (OY κ)))
 aP (List.all rs fX) (aw (!fB ds rs) z1 (aw ((↑(xs.length):Int) != (↑(ds.length):Int)) z1 (ag z2 23 4=ag z2 23 4/\∃(e0:WJ),sp 34 [(2,AV.ptr 0 0 []
 0),(18,AV.ad 51 xs),(19,AV.int (↑(xs.length):Int)),(20,AV.int 0)] [Obj.box 25 (AV.agg [AV.ad 43 ds,AV.ad 48 rs])]=QI e0/\(e0.i<=e0.xs.length/\
 e0.xs.length=e0.ds.length/\xq e0.xs=true)/\aw (Af (List.drop e0.i e0.xs) (List.drop e0.i e0.ds)) (K (AV.bool true) []) z1)))):=by kernel_rfl
def N8(ds rs xs:List AV):Bool:=fB ds rs&&(decide (xs.length=ds.length)&&Af xs ds)
def Yh:List AV->Option (Bool×AV)
 |[.agg [.ad 43 ds, .ad 48 rs], .ad 51 xs]=>some (rs.all fX&&xq xs, .bool (N8 ds rs xs))
 |_=>none
theorem pFm(κ:Kp):cj (VS κ).E 12 23 Yh:=by
 intro args x hh
 unfold Yh at hh
 split at hh
 ·rename_i ds rs xs
  simp only[aa3,aa9,aa1] at hh
  obtain⟨⟨h1,h2⟩,rfl⟩:=hh
  refine⟨_,rfl,rfl,Eq.mpr (yFm κ ds rs xs _) (ai.2 ⟨h1,?_⟩)⟩
  unfold N8
  rw[ae,Bool.not_eq_true',ab2]
  refine⟨fun e=>by rw[e];rfl,fun e=>?_⟩
  rw[e,ab9,ae,bne_iff_ne,bne_eq_false_iff_eq]
  refine⟨fun e2=>by rw[aa4 (by omega)];rfl,fun e2=>⟨rfl,⟨ds,rs,xs,0⟩,rfl,⟨Nat.zero_le _,by simp only;omega,h2⟩,?_⟩⟩
  rw[aa6 (by omega),ab9]
  simp only[ab0]
  exact ae.2 ⟨fun e=>by rw[e],fun e=>by rw[e]⟩
 ·cases hh
noncomputable def ZG(κ:Kp):EB:=(VS κ).pure (pFm κ)
def PO(v:AV):Prop:=v=wM (H0 v)/\(bif (H0 v).y then(H0 v).n=0 else(H0 v).s=ByteArray.mk #[])
def GZ(r:List AV):Prop:=∀v,v∈r->PO v
def te(L:RL):Prop:=∀r,r∈L->GZ r
theorem LF{v w:AV}(hv:PO v)(hw:PO w)(h:nP v w=0):v=w:=by
 obtain⟨h1,h2⟩:=hv
 obtain⟨k1,k2⟩:=hw
 rw[h1,k1] at h⊢
 generalize H0 v=a at*
 generalize H0 w=b at*
 obtain⟨y,n,s⟩:=a
 obtain⟨y',n',s'⟩:=b
 cases y<;>cases y'
 ·obtain rfl:=Hu.1 (show wI n n'=0 from h)
  simp only[aa5] at h2 k2
  rw[h2,k2]
 ·cases(show(-1:Int)=0 from h)
 ·cases(show(1:Int)=0 from h)
 ·obtain rfl:=Ga.1 (show yP s s'=0 from h)
  simp only[aa7] at h2 k2
  rw[h2,k2]
theorem zK: ∀{l m:List AV},GZ l->GZ m->cw l m=0->l=m
 |[],[],_,_,_=>rfl
 |[],_::_,_,_,h=>by simp[cw,oS] at h
 |_::_,[],_,_,h=>by simp[cw,oS] at h
 | a::l,b::m,hl,hm,h=>by
  simp only[cw,oS] at h
  by_cases e:nP a b=0
  ·rw[aa6 e,aa7] at h
   rw[LF (hl a (by simp)) (hm b (by simp)) e,zK (fun v hv=>hl v (by simp[hv])) (fun v hv=>hm v (by simp[hv])) h]
  ·rw[aa4 e,aa5] at h
   exact absurd h e
theorem j3{a:List AV}{l:RL}:gP (a::l)=true↔(∀b,b∈l->cw a b<0)/\gP l=true:=by
 induction l generalizing a with
 |nil=>simp[gP]
 |cons b l ih=>
  rw[gP,aa1,aa0,ih]
  refine⟨fun⟨h1,h2,h3⟩=>⟨fun c hc=>?_,h2,h3⟩,fun⟨h1,h2⟩=>⟨h1 b (by simp),h2⟩⟩
  rcases List.mem_cons.1 hc with rfl|hc
  ·exact h1
  ·exact cE.Ls h1 (Int.le_of_lt (h2 c hc))
theorem x4: ∀{l m:RL},gP l=true->gP m=true->(∀r,r∈l↔r∈m)->l=m
 |[],[],_,_,_=>rfl
 |[],b::m,_,_,h=>by have:=(h b).2 (by simp);simp at this
 |a::l,[],_,_,h=>by have:=(h a).1 (by simp);simp at this
 | a ::l,b::m,hl,hm,h=>by
  obtain⟨h1,h2⟩:=j3.1 hl
  obtain⟨k1,k2⟩:=j3.1 hm
  have e:a=b:=by
   rcases List.mem_cons.1 ((h a).1 (by simp)) with e|e
   ·exact e
   ·rcases List.mem_cons.1 ((h b).2 (by simp)) with f|f
    ·exact f.symm
    ·have:=k1 a e
     have:=h1 b f
     rw[cE.swap b a] at this
     omega
  subst e
  rw[x4 h2 k2 fun r=>?_]
  have hr:=h r
  simp only[ac1] at hr
  have n1:r∈l->r≠a:=fun q e=>by
   subst e
   have:=h1 r q
   rw[cE.self] at this;omega
  have n2:r∈m->r≠a:=fun q e=>by
   subst e
   have:=k1 r q
   rw[cE.self] at this;omega
  exact⟨fun q=>(hr.1 (.inr q)).resolve_left (n1 q),fun q=>(hr.2 (.inr q)).resolve_left (n2 q)⟩
def wD(r:List AV):RL->RL
 |[]=>[r]
 |a::l=>bif decide (cw r a<0) then r::a::l else bif decide (cw r a=0) then a::l else a::wD r l
def qt(L:RL):RL:=L.foldr wD []
theorem wm{r x:List AV}: ∀{l:RL},GZ r->te l->(x∈wD r l↔x=r\/x∈l)
 |[],_,_=>by simp[wD]
 | a::l,hr,hl=>by
  have ih:=wm (x:=x) hr (l:=l) fun s hs=>hl s (by simp[hs])
  rw[wD]
  by_cases h1:cw r a<0
  ·rw[aa6 h1,aa7,ac1]
  ·rw[aa4 h1,aa5]
   by_cases h2:cw r a=0
   ·rw[aa6 h2,aa7,zK hr (hl a (by simp)) h2]
    simp
   ·rw[aa4 h2,aa5,ac1,ih,ac1]
    exact or_left_comm
theorem wT{r:List AV}: ∀{l:RL},GZ r->te l->gP l=true->gP (wD r l)=true
 |[],_,_,_=>rfl
 | a::l,hr,hl,h=>by
  obtain⟨k1,k2⟩:=j3.1 h
  have hl':te l:=fun s hs=>hl s (by simp[hs])
  rw[wD]
  by_cases h1:cw r a<0
  ·rw[aa6 h1,aa7]
   refine j3.2 ⟨fun b hb=>?_,h⟩
   rcases List.mem_cons.1 hb with rfl|hb
   ·exact h1
   ·exact cE.Ls h1 (Int.le_of_lt (k1 b hb))
  ·rw[aa4 h1,aa5]
   by_cases h2:cw r a=0
   ·rw[aa6 h2];exact h
   ·rw[aa4 h2,aa5]
    refine j3.2 ⟨fun b hb=>?_,wT hr hl' k2⟩
    rcases(wm hr hl').1 hb with rfl|hb
    ·rw[cE.swap b a];omega
    ·exact k1 b hb
theorem uB: ∀{L:RL},te L->gP (qt L)=true/\(∀r,r∈qt L↔r∈L)/\te (qt L)
 |[],h=>⟨rfl,fun _=>Iff.rfl,h⟩
 |a::L,h=>by
  have hL:te L:=fun s hs=>h s (by simp[hs])
  obtain⟨h1,h2,h3⟩:=uB hL
  have ha:=h a (by simp)
  have hm: ∀r,r∈wD a (qt L)↔r∈a::L:=fun r=>by rw[wm ha h3,h2,ac1]
  exact⟨wT ha h3 h1,hm,fun s hs=>h s ((hm s).1 hs)⟩
theorem IT{L M:RL}(hL:te L)(h1:gP M=true)(h2: ∀r,r∈M↔r∈L):M=qt L:=
 x4 h1 (uB hL).1 fun r=>(h2 r).trans ((uB hL).2.1 r).symm
theorem vt: ∀(p:List AV) (l:RL),GZ p->te l->(∀b,b∈l->cw p b<=0)->Up l 0 l.length->gP (p::jo p l)=true/\∀r,r∈p::jo p l↔r∈p::l
 |p,[],_,_,_,_=>⟨rfl,fun _=>Iff.rfl⟩
 | p,b::l,hp,hl,hle,hu=>by
  have hb:=hl b (by simp)
  have hl':te l:=fun s hs=>hl s (by simp[hs])
  have hu':Up l 0 l.length:=fun i j h1 h2 h3=>by
   have:=hu (i+1) (j+1) (by omega) (by omega) (by simp;omega)
   simpa[rat] using this
  have hble: ∀c,c∈l->cw b c<=0:=fun c hc=>by
   obtain⟨j,hj,rfl⟩:=List.getElem_of_mem hc
   have:=hu 0 (j+1) (by omega) (by omega) (by simp;omega)
   simpa[rat,hj] using this
  obtain⟨h1,h2⟩:=vt b l hb hl' hble hu'
  rw[jo]
  by_cases e:cw b p=0
  ·rw[show(cw b p==0)=true by simpa using e,aa7]
   obtain rfl:=zK hb hp e
   exact⟨h1,fun r=>by rw[h2 r];simp⟩
  ·rw[show(cw b p==0)=false by simpa using e,aa5]
   have hlt:cw p b<0:=by
    have h3:=hle b (by simp)
    have h4:=cE.swap p b
    omega
   refine⟨j3.2 ⟨fun c hc=>?_,h1⟩,fun r=>by
    have:=h2 r
    simp only[ac1] at this⊢
    rw[this]⟩
   rcases List.mem_cons.1 ((h2 c).1 hc) with rfl|hc
   ·exact hlt
   ·exact cE.Ls hlt (hble c hc)
theorem Nx{L M:RL}(hL:te L)(hp:M.Perm L)(hu:Up M 0 L.length):jx M=qt L:=by
 have hM:te M:=fun r hr=>hL r (hp.mem_iff.1 hr)
 have hlen:=hp.length_eq
 refine IT hL ?_ fun r=>?_
 ·cases M with
  |nil=>rfl
  | cons a M=>exact(vt a M (hM a (by simp)) (fun s hs=>hM s (by simp[hs])) (fun b hb=>by
    obtain⟨j,hj,rfl⟩:=List.getElem_of_mem hb
    have:=hu 0 (j+1) (by omega) (by omega) (by rw[←hlen];simp;omega)
    simpa[rat,hj] using this) (fun i j h1 h2 h3=>by
    have:=hu (i+1) (j+1) (by omega) (by omega) (by rw[←hlen];simp;omega)
    simpa[rat] using this)).1
 ·rw[←hp.mem_iff]
  cases M with
  |nil=>exact Iff.rfl
  | cons a M=>exact(vt a M (hM a (by simp)) (fun s hs=>hM s (by simp[hs])) (fun b hb=>by
    obtain⟨j,hj,rfl⟩:=List.getElem_of_mem hb
    have:=hu 0 (j+1) (by omega) (by omega) (by rw[←hlen];simp;omega)
    simpa[rat,hj] using this) (fun i j h1 h2 h3=>by
    have:=hu (i+1) (j+1) (by omega) (by omega) (by rw[←hlen];simp;omega)
    simpa[rat] using this)).2 r
theorem Wl(κ:Kp): ∀args st K,a0 BW (fun L=>L.length<=100000000/\fb L) Ke args st K->bD (Pr κ) 80 args st K:=fun args st K h=>cZ (PM κ).ok (PM κ).mono (cCo κ args st K h)
noncomputable def Xk(κ:Kp):EB:=(ZG κ).Yt [(0,some 70)] aZ (XC κ)
noncomputable def Tc(κ:Kp):EB:=(Xk κ).Yt [(0,some 70)] aZ (Wl κ)
theorem ySo(κ:Kp)(L:RL)(K:AV->List Dn.Obj->Prop):(ba (Tc κ).E 12 36 [.ad 70 (rws L)] [] K)=(
 (Kd (rws L)=true->∃(a:RL),([AV.aB 0 0 0,AV.bq 54 []],[Obj.row 70 []])=AY a/\oB a/\∀(y:RL),(List.Perm y a/\∀(i j:Nat),0<=i->i
 <j->j<a.length->cw (rat y i) (rat y j)<=(0:Int))->∃(a:RL),([AV.aB 0 0 0,AV.bq 81 []],[Obj.row 70 []])=BW a/\(a.length<=100000000/\
 fb a)/\∀(y:List AV),True->∃(a_2:List AV),([AV.ad 70 (rws (jx a))],[])=OH a_2/\ki a_2=true/\K (AV.ad 70 (rws (kj a_2))) [])/\aP
 (decide ((0+List.length (rws L)+1)*25<=70368744177664)) (∃(a:RL),([AV.aB 0 0 (0+List.length (rws L)),AV.bq 54 []],[Obj.row 70 ([]++rws L)])
 =AY a/\oB a/\∀(y:RL),(List.Perm y a/\∀(i j:Nat),0<=i->i<j->j<a.length->cw (rat y i) (rat y j)<=(0:Int))->∃(a:RL),([AV.aB
 0 0 (0+List.length (rws L)),AV.bq 81 []],[Obj.row 70 (rws y)])=BW a/\(a.length<=100000000/\fb a)/\∀(y:List AV),True->∃(a_2:List AV),
 ([AV.ad 70 (rws (jx a))],[])=OH a_2/\ki a_2=true/\K (AV.ad 70 (rws (kj a_2))) [])):=by kernel_rfl
theorem KI{L:RL}(h:L.length<=100000000)(h2: ∀r,r∈L->r.length<=100000000):ki (rws L)=true:=by
 simp only[ki,gZ,aa1,aa0,List.all_eq_true]
 refine⟨h,fun x hx=>?_⟩
 obtain⟨r,hr,rfl⟩:=List.mem_map.1 hx
 exact h2 r hr
structure BB(L:RL):Prop where
 n:L.length<=100000000
 s: ∀r,r∈L->r.length<=100000000
 v:te L
theorem BB.short{L:RL}(h:BB L):fb L:=fun r hr=>by have:=h.s r hr;simp only[aL];omega
theorem FA: ∀L:RL,(qt L).length<=L.length
 |[]=>Nat.le_refl _
 | a::L=>by
  have h: ∀l:RL,(wD a l).length<=l.length+1:=fun l=>by
   induction l with
   |nil=>exact Nat.le_refl _
   |cons b l ih=>
    rw[wD]
    cases decide (cw a b<0)<;>cases decide (cw a b=0)<;>simp<;>omega
  have h1:=FA L
  have h2:=h (qt L)
  simp only[qt,List.foldr_cons,List.length_cons] at h1 h2⊢
  omega
theorem MK{L:RL}(h:BB L):BB (qt L):=
 ⟨Nat.le_trans (FA L) h.n,fun r hr=>h.s r (((uB h.v).2.1 r).1 hr),(uB h.v).2.2⟩
def Q0(L:RL):List AV×List Dn.Obj:=([.ad 70 (rws L)],[])
def QQ(L:RL):Out (AV×List Dn.Obj):= .one (.ad 70 (rws (qt L)),[])
theorem X9(κ:Kp):bG (Tc κ).E 12 36 (a0 Q0 BB QQ):=by
 refine bc ?_
 rintro L K h ho
 have hf:=MK h
 have fin:K (.ad 70 (rws (kj (rws (qt L))))) []:=by rw[EM];exact ho
 refine Eq.mpr (ySo κ L K) ⟨fun e=>?_,ai.2 ⟨by have:=h.n;simp;omega,L,?_,⟨h.n,h.short⟩,fun M hM=>?_⟩⟩
 ·cases L with
  |nil=>
   refine⟨[],rfl,⟨Nat.zero_le _,fun r hr=>(nomatch hr)⟩,fun M hM=>?_⟩
   obtain rfl:M=[]:=List.Perm.eq_nil hM.1
   exact⟨[],rfl,⟨Nat.zero_le _,fun r hr=>(nomatch hr)⟩,fun ys _=>⟨[],rfl,rfl,ho⟩⟩
  |cons a L=>cases e
 ·simp only[AY,gZ,Nat.zero_add,List.nil_append]
 ·have hp:M.Perm L:=hM.1
  have hl:=hp.length_eq
  refine⟨M,?_,⟨by rw[hl];exact h.n,eS h.short hp⟩,fun ys _=>⟨rws (qt L),?_,KI hf.n hf.s,fin⟩⟩
  ·simp only[BW,gZ,Nat.zero_add,hl]
  ·rw[Nx h.v hp hM.2];rfl
noncomputable def W0(κ:Kp):EB:=((Tc κ).call (X9 κ)).calm [36]
noncomputable def yU(a b:Tm):Bool:= @decide (a=b) (Classical.propDecidable _)
noncomputable def jm(a b:List Tm):Bool:= @decide (a=b) (Classical.propDecidable _)
theorem F6(a:Tm):yU a a=true:=by unfold yU;simp
theorem pC(a:List Tm):jm a a=true:=by unfold jm;simp
theorem DR(a b:Tm)(l m:List Tm):jm (a::l) (b::m)=(yU a b&&jm l m):=by
 unfold jm yU
 rw[Bool.eq_iff_iff,aa1]
 simp
theorem ES(o1 o2:Int)(s1 s2:ByteArray)(n1 n2:Int)(l m:List Tm):yU (.mk o1 s1 n1 l) (.mk o2 s2 n2 m)=(decide (o1=o2)&&(decide (s1=s2)&&(decide (n1=n2)&&jm l m))):=by
 unfold jm yU
 rw[Bool.eq_iff_iff]
 simp
theorem F9{l m:List Tm}(h:l.length≠m.length):jm l m=false:=by
 unfold jm
 simp
 rintro rfl
 exact h rfl
def Gb:List AV->Nat
 | .ad 38 l::_=>aI (aa l)
 |_=>0
noncomputable def Qs:List AV->Option (Bool×AV)
 |[.ad 38 l, .ad 38 m, .bq 70 []]=>some (decide (aI (aa l)<=100000), .bool (jm (aa l) (aa m)))
 |_=>none
noncomputable def Mv(κ:Kp):EB:=EB.inline (EB.Ml (W0 κ) [69,70,120,121,72]) [70]
noncomputable def Ad(κ:Kp)(n:Nat):Env:=(Mv κ).E.aK 69 (below Qs Gb n)
theorem xEf(κ:Kp)(r:Nat)(l m:List AV)(i:Nat)(I:Nat->S->Prop)(n:Nat)(K:Exit->S->Prop):(vc (Ad κ r) 12 69 none 0 (ag (Pr κ).toProgram 69 4) (sp 32 [(1, .ad 38 m),(2, .bq 70 []),(15, .ad 38 l),(16, .int l.length),(17, .int i)] []) (bB (Ad κ r) 69 4 0 I n K))=(
 letI z1:=Int.toNat (↑i:Int)
 letI z2:=K Exit.ret (sp 32 [(6,AV.bool false)] [])
 letI z3:=ah (af (nth l z1) 3)
 letI z4:=(↑i:Int)<(↑(l.length):Int)
 aw (decide z4) (aP (true&&decide z4) (aP (true&&decide ((↑i:Int)<(↑(m.length):Int))) (aw (toInt (af (nth l z1) 0)==toInt (af (nth m z1) 0)) (aw
 (ByteArray.toList (toStr (af (nth l z1) 1))==ByteArray.toList (toStr (af (nth m z1) 1))) (aw (toInt (af (nth l z1) 2)==toInt (af (nth m z1) 2)) (aP (decide
 (aI (aa z3)<=100000)&&Nat.blt (Gb [AV.ad 38 z3,AV.ad 38 (ah (af (nth m z1) 3)),AV.bq 70 []]) r) (aw (!jm (aa z3) (aa (ah (af (nth m z1) 3)))) z2 (∃(e0:
 Nat),e0<n/\I e0 (sp 32 [(1,AV.ad 38 m),(2,AV.bq 70 []),(15,AV.ad 38 l),(16,AV.int (↑(l.length):Int)),(17,AV.int (IntKind.wrap IntKind.i64 ((↑i:
 Int)+(1:Int))))] [])))) z2) z2) z2))) (K (Exit.exit 0) (sp 32 [] []))):=by kernel_rfl
structure Ez where
 l:List AV
 m:List AV
 i:Nat
abbrev PJ(x:Ez):S:=sp 32 [(1, .ad 38 x.m),(2, .bq 70 []),(15, .ad 38 x.l),(16, .int x.l.length),(17, .int x.i)] []
def Dw(r:Nat)(x:Ez):Prop:=x.l.length=x.m.length/\aI (aa x.l)<=100000/\aI (aa x.l)<=r/\x.i<=x.l.length
noncomputable def EI(x:Ez):Out (Exit×S):= .aw (jm (aa (x.l.drop x.i)) (aa (x.m.drop x.i))) (.one (.exit 0,sp 32 [] [])) (.one (.ret,sp 32 [(6, .bool false)] []))
theorem lEf(κ:Kp)(r:Nat):bf (Ad κ r) 12 69 4 (aR 0 PJ (Dw r) EI):=by
 refine aG (fun x=>x.l.length - x.i) ?_
 rintro⟨l,m,i⟩ K ⟨h1,h2,h3,h4⟩ ho
 simp only at h1 h2 h3 h4
 rw[show(Ad κ r).P=Pr κ from rfl]
 refine Eq.mpr (xEf κ r l m i _ _ K) ?_
 simp only[EI,Out.run,ae] at ho
 have hlen:=ee (aa l)
 rw[du] at hlen
 simp only[Int.toNat_natCast]
 rw[ae,aa0,aa2]
 refine⟨fun h=>?_,fun h=>?_⟩
 ·have hk:i<l.length:=by omega
  have hx:nth l i∈l:=by rw[a7 _ _ hk];exact List.getElem_mem _
  have hc:=yk hx
  have hc2:(cI (nth l i)).fS=1+aI (aa (ah (af (nth l i) 3))):=by rw[cP];rfl
  rw[dR l i hk,dR m i (by omega),DR,cP (nth l i),cP (nth m i),ES] at ho
  rw[HF]
  refine ai.2 ⟨by simp;omega,ai.2 ⟨by simp;omega,ae.2 ⟨fun e1=>ae.2 ⟨fun e2=>ae.2 ⟨fun e3=>ai.2 ⟨?_,ae.2 ⟨fun e4=>ho.2 ?_,fun e4=>?_⟩⟩,fun e3=>ho.2 ?_⟩,fun e2=>ho.2 ?_⟩,fun e1=>ho.2 ?_⟩⟩⟩
  ·rw[aa1,aa0,Nat.blt_eq]
   exact⟨by omega,by show aI _<r;omega⟩
  ·rw[Bool.not_eq_true'] at e4
   rw[e4];simp
  ·rw[ab2] at e4
   rw[beq_iff_eq] at e1 e3
   rw[aa6 e1,e2,aa6 e3,e4,ab9,ab9,ab9,ab9] at ho
   rw[aC (n:=(i:Int)+1) (by omega) (by omega)]
   refine⟨_,?_,⟨l,m,i+1⟩,rfl,⟨h1,h2,h3,hk⟩,rfl,?_⟩
   ·simp only;omega
   ·simp only[EI,Out.run,ae]
    exact ho
  ·rw[aa4 (show ¬ toInt (af (nth l i) 2)=toInt (af (nth m i) 2) by simpa using e3)];simp
  ·rw[e2];simp
  ·rw[aa4 (show ¬ toInt (af (nth l i) 0)=toInt (af (nth m i) 0) by simpa using e1)];simp
 ·rw[aa8 (by omega),aa8 (by omega)] at ho
  exact ho.1 (pC [])
noncomputable def HK(κ:Kp)(r:Nat):Env:=(Ad κ r).ar 69 4 (aR 0 PJ (Dw r) EI)
theorem yEf(κ:Kp)(r:Nat)(l m:List AV)(K:AV->List Dn.Obj->Prop):(ba (HK κ r) 12 69 [.ad 38 l, .ad 38 m, .bq 70 []] [] K)=(
 letI z1:=Pg.toProgram (Env.P (Ad κ r))
 aw ((↑(l.length):Int) != (↑(m.length):Int)) (K (AV.bool false) []) (ag z1 69 4=ag z1 69 4/\∃(e0:Ez),sp 32 [(1,AV.ad 38 m),(2,AV.bq 70 []),(15,
 AV.ad 38 l),(16,AV.int (↑(l.length):Int)),(17,AV.int 0)] []=PJ e0/\Dw r e0/\aw (jm (aa (List.drop e0.i e0.l)) (aa (List.drop e0.i e0.m))) (K (AV.bool
 true) []) (K (AV.bool false) []))):=by kernel_rfl
theorem We(κ:Kp)(r:Nat)(hp:fg (Pr κ) 69 (below Qs Gb r)):aE (HK κ r)/\aj (HK κ r)/\(HK κ r).P=Pr κ:=
 have h:aE (Ad κ r):=(Mv κ).ok.dZ hp
 have hm:aj (Ad κ r):=(Mv κ).mono.aK
 ⟨h.ar hm (lEf κ r),hm.ar aW,rfl⟩
theorem pEf(κ:Kp)(r:Nat):cj (HK κ r) 12 69 (fun xs=>bif Nat.beq (Gb xs) r then Qs xs else none):=by
 intro args x hh
 cases hb:Nat.beq (Gb args) r with
 |false=>simp only[hb] at hh;cases hh
 | true=>
  simp only[hb,aa7] at hh
  unfold Qs at hh
  split at hh
  ·rename_i l m
   simp only[aa3,aa9,aa0] at hh
   obtain⟨h1,rfl⟩:=hh
   have hr:aI (aa l)=r:=Nat.eq_of_beq_eq_true hb
   refine⟨_,rfl,rfl,Eq.mpr (yEf κ r l m _) ?_⟩
   rw[ae,bne_iff_ne,bne_eq_false_iff_eq]
   refine⟨fun e=>by rw[F9 (by rw[du,du];omega)],fun e=>⟨rfl,⟨l,m,0⟩,rfl,⟨by simp only;omega,h1,Nat.le_of_eq hr,Nat.zero_le _⟩,?_⟩⟩
   simp only[ab0]
   exact ae.2 ⟨fun e=>by rw[e],fun e=>by rw[e]⟩
  ·cases hh
theorem qEf(κ:Kp):fg (Pr κ) 69 Qs:=aE.pT Qs Gb (HK κ) (We κ) (pEf κ)
noncomputable def Wq(κ:Kp):EB:=(Mv κ).yn (qEf κ)
theorem ySq(κ:Kp)(a b:AT)(K:AV->List Dn.Obj->Prop):(ba (Wq κ).E 12 70 [cz a,cz b] [] K)=(
 letI z1:=K (AV.bool false) []
 aw (a.op==b.op) (aw (ByteArray.toList a.s==ByteArray.toList b.s) (aw (a.n==b.n) (aP (decide (aI (aa a.l)<=100000)) (K (AV.bool (jm (aa a.l) (aa b.l)))
 [])) z1) z1) z1):=by kernel_rfl
noncomputable def X7:List AV->Option (Bool×AV)
 |[.agg [.lit (.int .i64 o1), .lit (.string s1), .lit (.int .i64 n1), .ad 38 l1], .agg [.lit (.int .i64 o2), .lit (.string s2), .lit (.int .i64 n2), .ad 38 l2]]=>some (decide (aI (aa l1)<=100000), .bool (yU (.mk o1 s1 n1 (aa l1)) (.mk o2 s2 n2 (aa l2))))
 |_=>none
theorem Zq(κ:Kp):cj (Wq κ).E 12 70 X7:=by
 intro args x hh
 unfold X7 at hh
 split at hh
 ·rename_i o1 s1 n1 l1 o2 s2 n2 l2
  simp only[aa3,aa9] at hh
  obtain⟨h1,rfl⟩:=hh
  refine⟨_,rfl,rfl,Eq.mpr (ySq κ ⟨o1,s1,n1,l1⟩ ⟨o2,s2,n2,l2⟩ _) ?_⟩
  rw[ES]
  simp only[HF]
  refine ae.2 ⟨fun e1=>ae.2 ⟨fun e2=>ae.2 ⟨fun e3=>ai.2 ⟨h1,?_⟩,fun e3=>?_⟩,fun e2=>?_⟩,fun e1=>?_⟩
  ·rw[aa6 (by simpa using e1),e2,aa6 (by simpa using e3)];rfl
  ·rw[aa4 (show ¬ n1=n2 by simpa using e3)];simp
  ·rw[e2];simp
  ·rw[aa4 (show ¬ o1=o2 by simpa using e1)];simp
 ·cases hh
noncomputable def OC(κ:Kp):EB:=((Wq κ).pure (Zq κ)).Fm [70]
def y3(x:Ez):Prop:=x.l.length=x.m.length/\x.l.length<=aL/\x.i<=x.l.length
theorem Vu(κ:Kp)(l m:List AV)(i:Nat)(I:Nat->S->Prop)(n:Nat)(K:Exit->S->Prop):(vc (OC κ).E 12 120 none 0 (ag (Pr κ).toProgram 120 4) (sp 26 [(0, .ad 3 l),(1, .ad 3 m),(12, .int l.length),(13, .int i)] []) (bB (OC κ).E 120 4 0 I n K))=(
 letI z1:=(↑i:Int)<(↑(l.length):Int)
 aw (decide z1) (aP (true&&decide z1) (aP (true&&decide ((↑i:Int)<(↑(m.length):Int))) (aw (toInt (nth l (Int.toNat (↑i:Int))) != toInt (nth m
 (Int.toNat (↑i:Int)))) (K Exit.ret (sp 26 [(4,AV.bool false)] [])) (∃(e0:Nat),e0<n/\I e0 (sp 26 [(0,AV.ad 3 l),(1,AV.ad 3 m),(12,AV.int
 (↑(l.length):Int)),(13,AV.int (IntKind.wrap IntKind.i64 ((↑i:Int)+(1:Int))))] []))))) (K (Exit.exit 0) (sp 26 [] []))):=by kernel_rfl
def mP(l m:List AV):Bool:=decide (l.map toInt=m.map toInt)
abbrev N3(x:Ez):S:=sp 26 [(0, .ad 3 x.l),(1, .ad 3 x.m),(12, .int x.l.length),(13, .int x.i)] []
def C5(x:Ez):Out (Exit×S):= .aw (mP (x.l.drop x.i) (x.m.drop x.i)) (.one (.exit 0,sp 26 [] [])) (.one (.ret,sp 26 [(4, .bool false)] []))
theorem WN(κ:Kp):bf (OC κ).E 12 120 4 (aR 0 N3 y3 C5):=by
 refine aG (fun x=>x.l.length - x.i) ?_
 rintro⟨l,m,i⟩ K ⟨h1,h2,h3⟩ ho
 simp only at h1 h2 h3
 simp only[aL] at h2
 rw[show(OC κ).E.P=Pr κ from rfl]
 refine Eq.mpr (Vu κ l m i _ _ K) ?_
 simp only[C5,Out.run,ae] at ho
 rw[ae,aa0,aa2]
 refine⟨fun h=>?_,fun h=>?_⟩
 ·have hk:i<l.length:=by omega
  rw[ab1 hk,←a7 l i hk,ab1 (show i<m.length by omega),←a7 m i (by omega)] at ho
  simp only[mP,ac0,List.cons.injEq] at ho
  rw[Int.toNat_natCast,aC (n:=(i:Int)+1) (by omega) (by omega)]
  refine ai.2 ⟨by simp;omega,ai.2 ⟨by simp;omega,ae.2 ⟨fun e=>ho.2 ?_,fun e=>⟨_,?_,⟨l,m,i+1⟩,rfl,⟨h1,by simpa[aL] using h2,hk⟩,rfl,?_⟩⟩⟩⟩
  ·have e: ¬ toInt (nth l i)=toInt (nth m i):=by simpa using e
   simp[e]
  ·simp only;omega
  ·have e:toInt (nth l i)=toInt (nth m i):=by simpa using e
   simp only[C5,Out.run,ae,mP]
   simpa[e] using ho
 ·rw[aa8 (by omega),aa8 (by omega)] at ho
  exact ho.1 rfl
noncomputable def JR(κ:Kp):EB:=(OC κ).loop (WN κ)
theorem VQ(κ:Kp)(l m:List AV)(K:AV->List Dn.Obj->Prop):(ba (JR κ).E 12 120 [.ad 3 l, .ad 3 m] [] K)=(
 letI z1:=Pg.toProgram (Env.P (EB.E (OC κ)))
 aw ((↑(l.length):Int) != (↑(m.length):Int)) (K (AV.bool false) []) (ag z1 120 4=ag z1 120 4/\∃(e0:Ez),sp 26 [(0,AV.ad 3 l),(1,AV.ad 3 m),(12,
 AV.int (↑(l.length):Int)),(13,AV.int 0)] []=N3 e0/\y3 e0/\aw (mP (List.drop e0.i e0.l) (List.drop e0.i e0.m)) (K (AV.bool true) []) (K (AV.bool false)
 []))):=by kernel_rfl
def SZ:List AV->Option (Bool×AV)
 |[.ad 3 l, .ad 3 m]=>some (decide (l.length<=aL), .bool (mP l m))
 |_=>none
theorem Xm(κ:Kp):cj (JR κ).E 12 120 SZ:=by
 intro args x hh
 unfold SZ at hh
 split at hh
 ·rename_i l m
  simp only[aa3,aa9,aa0] at hh
  obtain⟨h1,rfl⟩:=hh
  refine⟨_,rfl,rfl,Eq.mpr (VQ κ l m _) (ae.2 ⟨fun e=>?_,fun e=>⟨rfl,⟨l,m,0⟩,rfl,⟨?_,h1,Nat.zero_le _⟩,?_⟩⟩)⟩
  ·have:mP l m=false:=aa4 fun h=>by
    have:=congrArg List.length h
    simp at this e;omega
   rw[this]
  ·have:(l.length:Int)=m.length:=by simpa using e
   show l.length=m.length
   omega
  ·simp only[ab0]
   exact ae.2 ⟨fun e=>by rw[e],fun e=>by rw[e]⟩
 ·cases hh
noncomputable def Cr(κ:Kp):EB:=(JR κ).pure (Xm κ)
theorem Xh(κ:Kp)(l m:List AV)(i:Nat)(I:Nat->S->Prop)(n:Nat)(K:Exit->S->Prop):(vc (Cr κ).E 12 121 none 0 (ag (Pr κ).toProgram 121 4) (sp 26 [(0, .ad 9 l),(1, .ad 9 m),(12, .int l.length),(13, .int i)] []) (bB (Cr κ).E 121 4 0 I n K))=(
 letI z1:=(↑i:Int)<(↑(l.length):Int)
 aw (decide z1) (aP (true&&decide z1) (aP (true&&decide ((↑i:Int)<(↑(m.length):Int))) (aw (!ByteArray.toList (toStr (nth l (Int.toNat (↑i:Int))))==
 ByteArray.toList (toStr (nth m (Int.toNat (↑i:Int))))) (K Exit.ret (sp 26 [(4,AV.bool false)] [])) (∃(e0:Nat),e0<n/\I e0 (sp 26 [(0,AV.ad 9 l),(1,
 AV.ad 9 m),(12,AV.int (↑(l.length):Int)),(13,AV.int (IntKind.wrap IntKind.i64 ((↑i:Int)+(1:Int))))] []))))) (K (Exit.exit 0) (sp 26 [] []))):=by kernel_rfl
def lf(l m:List AV):Bool:=decide (l.map toStr=m.map toStr)
abbrev N7(x:Ez):S:=sp 26 [(0, .ad 9 x.l),(1, .ad 9 x.m),(12, .int x.l.length),(13, .int x.i)] []
def DH(x:Ez):Out (Exit×S):= .aw (lf (x.l.drop x.i) (x.m.drop x.i)) (.one (.exit 0,sp 26 [] [])) (.one (.ret,sp 26 [(4, .bool false)] []))
theorem Vp(κ:Kp):bf (Cr κ).E 12 121 4 (aR 0 N7 y3 DH):=by
 refine aG (fun x=>x.l.length - x.i) ?_
 rintro⟨l,m,i⟩ K ⟨h1,h2,h3⟩ ho
 simp only at h1 h2 h3
 simp only[aL] at h2
 rw[show(Cr κ).E.P=Pr κ from rfl]
 refine Eq.mpr (Xh κ l m i _ _ K) ?_
 simp only[DH,Out.run,ae] at ho
 rw[ae,aa0,aa2]
 refine⟨fun h=>?_,fun h=>?_⟩
 ·have hk:i<l.length:=by omega
  rw[ab1 hk,←a7 l i hk,ab1 (show i<m.length by omega),←a7 m i (by omega)] at ho
  simp only[lf,ac0,List.cons.injEq] at ho
  rw[Int.toNat_natCast,aC (n:=(i:Int)+1) (by omega) (by omega),HF]
  refine ai.2 ⟨by simp;omega,ai.2 ⟨by simp;omega,ae.2 ⟨fun e=>ho.2 ?_,fun e=>⟨_,?_,⟨l,m,i+1⟩,rfl,⟨h1,by simpa[aL] using h2,hk⟩,rfl,?_⟩⟩⟩⟩
  ·have e: ¬ toStr (nth l i)=toStr (nth m i):=by simpa using e
   simp[e]
  ·simp only;omega
  ·have e:toStr (nth l i)=toStr (nth m i):=by simpa using e
   simp only[DH,Out.run,ae,lf]
   simpa[e] using ho
 ·rw[aa8 (by omega),aa8 (by omega)] at ho
  exact ho.1 rfl
noncomputable def J3(κ:Kp):EB:=(Cr κ).loop (Vp κ)
theorem Wa(κ:Kp)(l m:List AV)(K:AV->List Dn.Obj->Prop):(ba (J3 κ).E 12 121 [.ad 9 l, .ad 9 m] [] K)=(
 letI z1:=Pg.toProgram (Env.P (EB.E (Cr κ)))
 aw ((↑(l.length):Int) != (↑(m.length):Int)) (K (AV.bool false) []) (ag z1 121 4=ag z1 121 4/\∃(e0:Ez),sp 26 [(0,AV.ad 9 l),(1,AV.ad 9 m),(12,
 AV.int (↑(l.length):Int)),(13,AV.int 0)] []=N7 e0/\y3 e0/\aw (lf (List.drop e0.i e0.l) (List.drop e0.i e0.m)) (K (AV.bool true) []) (K (AV.bool false)
 []))):=by kernel_rfl
def SK:List AV->Option (Bool×AV)
 |[.ad 9 l, .ad 9 m]=>some (decide (l.length<=aL), .bool (lf l m))
 |_=>none
theorem XN(κ:Kp):cj (J3 κ).E 12 121 SK:=by
 intro args x hh
 unfold SK at hh
 split at hh
 ·rename_i l m
  simp only[aa3,aa9,aa0] at hh
  obtain⟨h1,rfl⟩:=hh
  refine⟨_,rfl,rfl,Eq.mpr (Wa κ l m _) (ae.2 ⟨fun e=>?_,fun e=>⟨rfl,⟨l,m,0⟩,rfl,⟨?_,h1,Nat.zero_le _⟩,?_⟩⟩)⟩
  ·have:lf l m=false:=aa4 fun h=>by
    have:=congrArg List.length h
    simp at this e;omega
   rw[this]
  ·have:(l.length:Int)=m.length:=by simpa using e
   show l.length=m.length
   omega
  ·simp only[ab0]
   exact ae.2 ⟨fun e=>by rw[e],fun e=>by rw[e]⟩
 ·cases hh
noncomputable def O5(κ:Kp):EB:=(J3 κ).pure (XN κ)
structure Lp where
 op:Int
 pZ:Int
 rl:Int
 c:List AV
 t:List AV
 b:List AV
 bs:List AV
 e:List AV
 es:List AV
 s:ByteArray
 X:AT
 Y:AT
abbrev UK(d:Lp):AV:= .agg [.int d.op, .int d.pZ, .int d.rl, .ad 3 d.c, .ad 38 d.t, .ad 3 d.b, .ad 9 d.bs, .ad 3 d.e, .ad 9 d.es, .lit (.string d.s),cz d.X,cz d.Y]
def r8(x:AV):Lp:=⟨toInt (af x 0),toInt (af x 1),toInt (af x 2),ah (af x 3),ah (af x 4),ah (af x 5),ah (af x 6),ah (af x 7),ah (af x 8),toStr (af x 9),sQ (af x 10),sQ (af x 11)⟩
structure DI(d:Lp):Prop where
 c:d.c.length<=aL
 b:d.b.length<=aL
 bs:d.bs.length<=aL
 e:d.e.length<=aL
 es:d.es.length<=aL
 t:aI (aa d.t)<=100000
 X:aI (aa d.X.l)<=100000
 Y:aI (aa d.Y.l)<=100000
theorem Wn(κ:Kp)(a b:Lp)(K:AV->List Dn.Obj->Prop):(ba (O5 κ).E 12 72 [UK a,UK b] [] K)=(
 letI z2:=K (AV.bool false) []
 letI z5:=ByteArray.toList a.s==ByteArray.toList b.s
 letI z6:=decide (a.bs.length<=9223372036854775807)
 letI z7:=decide (a.es.length<=9223372036854775807)
 letI z8:=decide (a.c.length<=9223372036854775807)
 letI z9:=decide (a.b.length<=9223372036854775807)
 letI z10:=decide (a.e.length<=9223372036854775807)
 letI z11:=lf a.bs b.bs
 letI z3:=aP z6 (aw z11 (aP z7 z2) z2)
 letI z1:=aP z8 (aw (mP a.c b.c) (aP z9 (aw (mP a.b b.b) (aP z10 z3) z3)) z3)
 letI z4:=aP z6 (aw z11 (aP z7 (aw z5 z2 z2)) (aw z5 z2 z2))
 aw (a.op==b.op) (aw (a.pZ==b.pZ) (aw (a.rl==b.rl) (aP z8 (aw (mP a.c b.c) (aP z9 (aw (mP a.b b.b) (aP z10 (aP z6 (aw z11 (aP z7 (aw z5 (aw (mP a.e b.e)
 (aw (lf a.es b.es) (aP (decide (aI (aa a.X.l)<=100000)) (aw (yU (Tm.mk a.X.op a.X.s a.X.n (aa a.X.l)) (Tm.mk b.X.op b.X.s b.X.n (aa b.X.l))) (aP (decide (aI
 (aa a.Y.l)<=100000)) (aw (yU (Tm.mk a.Y.op a.Y.s a.Y.n (aa a.Y.l)) (Tm.mk b.Y.op b.Y.s b.Y.n (aa b.Y.l))) (aP (decide (aI (aa a.t)<=100000)) (K (AV.bool (jm
 (aa a.t) (aa b.t))) [])) z2)) z2)) z2) z2) z2)) (aw z5 (aw (mP a.e b.e) z2 z2) z2)))) z4)) z4)) z1) z1) z1):=by kernel_rfl
def NK(x:Lp×Lp):List AV×List Dn.Obj:=([UK x.1,UK x.2],[])
def P8(x:Lp×Lp):Out (AV×List Dn.Obj):= .all (fun r:Bool=>x.1=x.2->r=true) fun r=> .one (.bool r,[])
theorem HQ(l:List AV):mP l l=true:=by simp[mP]
theorem HD(l:List AV):lf l l=true:=by simp[lf]
theorem XM(κ:Kp):bG (O5 κ).E 12 72 (a0 NK (fun x=>DI x.1) P8):=by
 refine bc ?_
 rintro⟨a,b⟩ K ⟨h1,h2,h3,h4,h5,h6,h7,h8⟩ ho
 simp only[aL] at h1 h2 h3 h4 h5 h6 h7 h8
 have ho: ∀r:Bool,(a=b->r=true)->K (.bool r) []:=ho
 refine Eq.mpr (Wn κ a b K) ?_
 simp only[ae,ai,aa0]
 have no:a≠b->K (.bool false) []:=fun h=>ho false fun e=>absurd e h
 by_cases hab:a=b
 ·subst hab
  have yes:=ho true fun _=>rfl
  simp only[beq_self_eq_true,HQ,HD,F6,pC]
  simp[h1,h2,h3,h4,h5,h6,h7,h8,yes]
 ·have no:=no hab
  have any:=fun r=>ho r fun e=>absurd e hab
  simp[h1,h2,h3,h4,h5,h6,h7,h8,no,any]
noncomputable def C9(κ:Kp):EB:=((O5 κ).call (XM κ))
theorem xEt(κ:Kp)(l m:List AV)(i:Nat)(I:Nat->S->Prop)(n:Nat)(K:Exit->S->Prop):(vc (C9 κ).E 12 71 none 0 (ag (Pr κ).toProgram 71 4) (sp 32 [(1, .ad 40 m),(2, .bq 72 []),(15, .ad 40 l),(16, .int l.length),(17, .int i)] []) (bB (C9 κ).E 71 4 0 I n K))=(
 letI z1:=Int.toNat (↑i:Int)
 letI z2:=af (nth l z1) 10
 letI z3:=af (nth l z1) 11
 letI z4:=af (nth m z1) 10
 letI z5:=af (nth m z1) 11
 letI z6:=(↑i:Int)<(↑(l.length):Int)
 aw (decide z6) (aP (true&&decide z6) (aP (true&&decide ((↑i:Int)<(↑(m.length):Int))) (∃(e2:Lp×Lp),([AV.agg [AV.int (toInt (af (nth l z1) 0)),
 AV.int (toInt (af (nth l z1) 1)),AV.int (toInt (af (nth l z1) 2)),AV.ad 3 (ah (af (nth l z1) 3)),AV.ad 38 (ah (af (nth l z1) 4)),AV.ad 3 (ah (af (nth l z1)
 5)),AV.ad 9 (ah (af (nth l z1) 6)),AV.ad 3 (ah (af (nth l z1) 7)),AV.ad 9 (ah (af (nth l z1) 8)),AV.str (toStr (af (nth l z1) 9)),AV.agg [AV.int (toInt (af
 z2 0)),AV.str (toStr (af z2 1)),AV.int (toInt (af z2 2)),AV.ad 38 (ah (af z2 3))],AV.agg [AV.int (toInt (af z3 0)),AV.str (toStr (af z3 1)),AV.int (toInt
 (af z3 2)),AV.ad 38 (ah (af z3 3))]],AV.agg [AV.int (toInt (af (nth m z1) 0)),AV.int (toInt (af (nth m z1) 1)),AV.int (toInt (af (nth m z1) 2)),AV.ad 3 (ah
 (af (nth m z1) 3)),AV.ad 38 (ah (af (nth m z1) 4)),AV.ad 3 (ah (af (nth m z1) 5)),AV.ad 9 (ah (af (nth m z1) 6)),AV.ad 3 (ah (af (nth m z1) 7)),AV.ad 9 (ah
 (af (nth m z1) 8)),AV.str (toStr (af (nth m z1) 9)),AV.agg [AV.int (toInt (af z4 0)),AV.str (toStr (af z4 1)),AV.int (toInt (af z4 2)),AV.ad 38 (ah (af z4
 3))],AV.agg [AV.int (toInt (af z5 0)),AV.str (toStr (af z5 1)),AV.int (toInt (af z5 2)),AV.ad 38 (ah (af z5 3))]]],[])=NK e2/\DI e2.1/\∀(e1:Bool),
 (e2.1=e2.2->e1=true)->aw (!e1) (K Exit.ret (sp 32 [(6,AV.bool false)] [])) (∃(e0:Nat),e0<n/\I e0 (sp 32 [(1,AV.ad 40 m),(2,AV.bq 72 []),(15,
 AV.ad 40 l),(16,AV.int (↑(l.length):Int)),(17,AV.int (IntKind.wrap IntKind.i64 ((↑i:Int)+(1:Int))))] []))))) (K (Exit.exit 0) (sp 32 [] []))):=by kernel_rfl
abbrev Sb(x:Ez):S:=sp 32 [(1, .ad 40 x.m),(2, .bq 72 []),(15, .ad 40 x.l),(16, .int x.l.length),(17, .int x.i)] []
def Kx(l:List AV):Prop:=l.length<=100000/\∀x,x∈l->DI (r8 x)
def QB(x:Ez):Out (Exit×S):= .all (fun r:Bool=>(x.l.drop x.i).map r8=(x.m.drop x.i).map r8->r=true) fun r=> .aw r (.one (.exit 0,sp 32 [] [])) (.one (.ret,sp 32 [(6, .bool false)] []))
theorem lEt(κ:Kp):bf (C9 κ).E 12 71 4 (aR 0 Sb (fun x=>x.l.length=x.m.length/\Kx x.l/\x.i<=x.l.length) QB):=by
 refine aG (fun x=>x.l.length - x.i) ?_
 rintro⟨l,m,i⟩ K ⟨h1,h2,h3⟩ ho
 simp only at h1 h2 h3
 have hl:=h2.1
 rw[show(C9 κ).E.P=Pr κ from rfl]
 refine Eq.mpr (xEt κ l m i _ _ K) ?_
 replace ho: ∀r:Bool,((l.drop i).map r8=(m.drop i).map r8->r=true)->aw r (K (.exit 0) (sp 32 [] [])) (K .ret (sp 32 [(6, .bool false)] [])):=ho
 rw[ae,aa0,aa2]
 refine⟨fun h=>?_,fun h=>?_⟩
 ·have hk:i<l.length:=by omega
  have hx:nth l i∈l:=by rw[a7 _ _ hk];exact List.getElem_mem _
  rw[ab1 hk,←a7 l i hk,ab1 (show i<m.length by omega),←a7 m i (by omega)] at ho
  simp only[ac0,List.cons.injEq] at ho
  rw[Int.toNat_natCast,aC (n:=(i:Int)+1) (by omega) (by omega)]
  refine ai.2 ⟨by simp;omega,ai.2 ⟨by simp;omega,(r8 (nth l i),r8 (nth m i)),rfl,h2.2 _ hx,fun r hr=>ae.2 ⟨fun e=>?_,fun e=>⟨_,?_,⟨l,m,i+1⟩,rfl,⟨h1,h2,hk⟩,rfl,?_⟩⟩⟩⟩
  ·refine ho false fun q=>?_
   rw[hr q.1] at e;cases e
  ·simp only;omega
  ·by_cases q:r8 (nth l i)=r8 (nth m i)
   ·exact fun r hr=>ho r fun q2=>hr q2.2
   ·intro r hr
    exact ho r fun q2=>absurd q2.1 q
 ·exact ho true fun _=>rfl
noncomputable def U7(κ:Kp):EB:=(C9 κ).loop (lEt κ)
theorem yEt(κ:Kp)(l m:List AV)(K:AV->List Dn.Obj->Prop):(ba (U7 κ).E 12 71 [.ad 40 l, .ad 40 m, .bq 72 []] [] K)=(
 letI z1:=Pg.toProgram (Env.P (EB.E (C9 κ)))
 aw ((↑(l.length):Int) != (↑(m.length):Int)) (K (AV.bool false) []) (ag z1 71 4=ag z1 71 4/\∃(e1:Ez),sp 32 [(1,AV.ad 40 m),(2,AV.bq 72 []),(15,
 AV.ad 40 l),(16,AV.int (↑(l.length):Int)),(17,AV.int 0)] []=Sb e1/\(e1.l.length=e1.m.length/\(e1.l.length<=100000/\∀(e0:AV),List.Mem e0 e1.l->
 DI (r8 e0))/\e1.i<=e1.l.length)/\∀(e0:Bool),(List.map r8 (List.drop e1.i e1.l)=List.map r8 (List.drop e1.i e1.m)->e0=true)->aw e0 (K (AV.bool true)
 []) (K (AV.bool false) []))):=by kernel_rfl
def TW(x:List AV×List AV):List AV×List Dn.Obj:=([.ad 40 x.1, .ad 40 x.2, .bq 72 []],[])
def QR(x:List AV×List AV):Out (AV×List Dn.Obj):= .all (fun r:Bool=>x.1.map r8=x.2.map r8->r=true) fun r=> .one (.bool r,[])
theorem ZS(κ:Kp):bG (U7 κ).E 12 71 (a0 TW (fun x=>Kx x.1) QR):=by
 refine bc ?_
 rintro⟨l,m⟩ K h ho
 have ho: ∀r:Bool,(l.map r8=m.map r8->r=true)->K (.bool r) []:=ho
 refine Eq.mpr (yEt κ l m K) ?_
 rw[ae,bne_iff_ne,bne_eq_false_iff_eq]
 refine⟨fun e=>ho false fun q=>?_,fun e=>⟨rfl,⟨l,m,0⟩,rfl,⟨by simp only;omega,h,Nat.zero_le _⟩,fun r hr=>?_⟩⟩
 ·have:=congrArg List.length q
  simp only[List.length_map] at this;omega
 ·simp only[ab0] at hr
  exact ae.2 ⟨fun e=>ho true fun _=>rfl,fun e=>ho false fun q=>by rw[hr q] at e;cases e⟩
noncomputable def Pf(κ:Kp):EB:=EB.inline ((U7 κ).call (ZS κ)) [68,67,119]
abbrev Fc(ds rs:List AV)(q:QD)(i:Nat):S:=sp 19 [(0, .ad 48 rs),(1, .bq 68 [.ptr 0 0 [] 0, .ptr 1 0 [] 0]),(7, .int rs.length),(8, .int i)] [.box 25 (mO ds rs), .box 31 (qA q)]
theorem xKn(κ:Kp)(ds rs:List AV)(q:QD)(i:Nat)(I:Nat->S->Prop)(n:Nat)(K:Exit->S->Prop):(vc (Pf κ).E 12 119 none 2 (ag (Pr κ).toProgram 119 2) (Fc ds rs q i) (bB (Pf κ).E 119 2 2 I n K))=(
 letI z2:=AV.agg [AV.int q.rel,AV.ad 40 q.steps,AV.ad 38 q.out,AV.int q.delta]
 letI z3:=nth rs (Int.toNat (↑i:Int))
 letI z4:=AV.agg [AV.ad 43 ds,AV.ad 48 rs]
 letI z1:=∃(e0:Nat),e0<n/\I e0 (sp 19 [(0,AV.ad 48 rs),(1,AV.bq 68 [AV.ptr 0 0 [] 0,AV.ptr 1 0 [] 0]),(7,AV.int (↑(rs.length):Int)),(8,AV.int
  (IntKind.wrap IntKind.i64 ((↑i:Int)+(1:Int))))] [Obj.box 25 z4,Obj.box 31 z2])
 letI z5:=(↑i:Int)<(↑(rs.length):Int)
 aw (decide z5) (aP (true&&decide z5) (∃(e3:Sc),([AV.agg [AV.ad 43 ds,AV.ad 48 rs],AV.agg [AV.agg [AV.str (toStr (af (af z3 0) 0)),AV.ad 38 (ah (af (af
 z3 0) 1))],AV.ad 80 (ah (af z3 1)),AV.int (toInt (af z3 2))]],[])=O2 e3/\Cj e3/\aw (QD.rel (dx e3.ds e3.a)==q.rel) (aP (decide (aI (aa (QD.out (dx
 e3.ds e3.a)))<=100000)) (aw (jm (aa (QD.out (dx e3.ds e3.a))) (aa q.out)) (∃(e2:List AV×List AV),([AV.ad 40 (QD.steps (dx e3.ds e3.a)),AV.ad 40 q.steps,
 AV.bq 72 []],[])=TW e2/\(e2.1.length<=100000/\∀(e0:AV),List.Mem e0 e2.1->DI (r8 e0))/\∀(e1:Bool),(List.map r8 e2.1=List.map r8 e2.2->e1=
 true)->aw e1 (K Exit.ret (sp 19 [(4,AV.int (↑i:Int))] [Obj.box 25 z4,Obj.box 31 z2])) z1) z1)) z1)) (K (Exit.exit 0) (sp 19 [] [Obj.box 25 z4,Obj.box 31
 z2]))):=by kernel_rfl
theorem Ha(a b:List Tm):aI (a++b)=aI a+aI b:=by
 induction a with
 |nil=>simp[aI]
 |cons t a ih=>simp only[List.cons_append,aI,ih];omega
theorem KV(bd:List AV): ∀(l:List (Int×AT)) (s:SS),aI (aa (l.foldl (mS bd) s).cx)<=aI (aa s.cx)+(l.map fun e=>e.2.tm.fS).sum
 |[],s=>by simp
 | e ::l,s=>by
  have ih:=KV bd l (mS bd s e)
  have h:aI (aa (mS bd s e).cx)<=aI (aa s.cx)+e.2.tm.fS:=by
   unfold mS
   cases !wx bd e.2 with
   | true=>
    simp only[aa7]
    have e1:cI (LD e.2)=e.2.tm:=by
     show cI (DQ e.2.tm)=_
     exact Km _
    rw[aa,List.map_append,Ha,←aa,List.map_singleton,aI,aI,e1];omega
   |false=>cases kD e.2.s (strs s.binds)<;>exact Nat.le_add_right _ _
  rw[List.foldl_cons,ac0,List.sum_cons];omega
theorem Br: ∀(l:List AV) (i:Int),((dt l i).map fun e=>e.2.tm.fS).sum<=aI (aa l)
 |[],_=>Nat.le_refl _
 | t::l,i=>by
  have ih:=Br l (i+1)
  rw[dt,aa,ac0,aI,←aa]
  cases decide (toInt (af t 0)=4) with
  |true=>rw[aa7];omega
  |false=>
   rw[aa5,ac0,List.sum_cons]
   simp only[j8];omega
def Fq(s:SS):Prop:=s.le 100000/\aI (aa s.cx)<=100000
theorem kZ{d:SD}(hq:Fq d.q)(hx:d.X.tm.fS<=100001)(hy:d.Y.tm.fS<=100001):DI (r8 (Qa d)):=by
 obtain⟨⟨h1,h2,h3,h4,h5,h6⟩,h7⟩:=hq
 have ex:d.X.tm.fS=1+aI (aa d.X.l):=rfl
 have ey:d.Y.tm.fS=1+aI (aa d.Y.l):=rfl
 have i1:(iA d.q.dS).length=d.q.dS.length:=gq _
 have i2:(iA d.q.cg).length=d.q.cg.length:=gq _
 have i3:(iA d.q.ck).length=d.q.ck.length:=gq _
 have i4:(strs d.q.binds).length=d.q.binds.length:=aO _
 have i5:(strs d.q.eqs).length=d.q.eqs.length:=aO _
 exact⟨by show(iA d.q.dS).length<=_;simp only[aL];omega,by show(iA d.q.cg).length<=_;simp only[aL];omega,by show(strs d.q.binds).length<=_;simp only[aL];omega,by show(iA d.q.ck).length<=_;simp only[aL];omega,by show(strs d.q.eqs).length<=_;simp only[aL];omega,h7,by show aI (aa d.X.l)<=_;omega,by show aI (aa d.Y.l)<=_;omega⟩
theorem IN(ds bd:List AV)(rel:ByteArray){l:List AV}(op:Int){u v:AT}(hl:aI (aa l)<=100000)(hu:u.tm.fS<=100000)(hv:v.tm.fS<=100000):DI (r8 (Qa (s7 ds bd rel l op u v))):=by
 have hlen:=ee (aa l)
 rw[du] at hlen
 have q0:Fq HO:=⟨⟨by decide,by decide,by decide,by decide,by decide,by decide⟩,by decide⟩
 have q1:Fq (fA bd (dt l 0)):=by
  have h:=Jp (bd:=bd) (dt l 0) JP
  have hc:=qL l 0
  obtain⟨h1,h2,h3,h4,h5,h6⟩:=h
  have h7:=KV bd (dt l 0) HO
  have h8:=Br l 0
  have h9:aI (aa HO.cx)=0:=rfl
  unfold fA
  exact⟨⟨by omega,by omega,by omega,by omega,by omega,by omega⟩,by omega⟩
 have x0:zT.tm.fS<=100001:=by decide
 have en: ∀w:AT,(nN w).tm.fS=w.tm.fS:=fun w=>by
  have:(nN w).tm=w.tm:=by
   unfold nN AT.tm
   simp only
   rw[th]
  rw[this]
 have xu:u.tm.fS<=100001:=by omega
 have xv:v.tm.fS<=100001:=by omega
 have yu:(nN u).tm.fS<=100001:=by rw[en];omega
 have yv:(nN v).tm.fS<=100001:=by rw[en];omega
 unfold s7
 cases op==2 with
 |true=>exact kZ q1 x0 x0
 | false=>cases op==1 with
  |true=>exact kZ q1 x0 x0
  | false=>cases op==3 with
   | true=>cases wx bd u with
    |true=>exact kZ q0 yv x0
    |false=>cases wx bd v with
     |true=>exact kZ q0 yu x0
     |false=>exact kZ q0 yu yv
   | false=>cases op==4||(op==5||op==6) with
    |true=>exact kZ q0 yu yv
    |false=>cases wx bd u with
     |true=>exact kZ q1 x0 xv
     |false=>exact kZ q1 xu xv
theorem Ds{a:cf}(ds:List AV)(h:Ln a):Kx (dx ds a).steps:=by
 have hw:=lC h.f
 have hbl:=h.s.2
 refine⟨by show(iD ds a _).length<=_;rw[pJ];omega,fun x hx=>?_⟩
 obtain⟨k,hk,rfl⟩:=List.mem_map.1 hx
 have hk:=List.mem_range.1 hk
 have hwk:(bP (aF a))[k]<a.bl.length:=by
  have:=qb (List.getElem_mem hk)
  rwa [fp] at this
 have hgd:(bP (aF a)).getD k 0=(bP (aF a))[k]:=by simp[List.getD_eq_getElem?_getD,hk]
 have hm:nth a.bl ((bP (aF a)).getD k 0)∈a.bl:=by rw[hgd,a7 _ _ hwk];exact List.getElem_mem _
 have hf:=vZ h.s hm
 exact IN _ _ _ _ hf.1 (by rw[j8];exact hf.2.1) (by rw[j8];exact hf.2.2)
structure Re where
 ds:List AV
 rs:List AV
 q:QD
 i:Nat
def ru(ds:List AV)(q:QD)(r:AV):Prop:=(dx ds (eW r)).rel=q.rel/\aa (dx ds (eW r)).out=aa q.out/\(dx ds (eW r)).steps.map r8=q.steps.map r8
def vX(x:Re):Prop:=x.ds.length<=aL/\x.rs.length<=100000/\∀r,r∈x.rs->Ln (eW r)
def NQ(x:Re):Out (Exit×S):= .all (fun r:Option Nat=>(∃y,y∈x.rs.drop x.i/\ru x.ds x.q y)->r.isSome=true) fun r=> .aw r.isSome
 (.one (.ret,sp 19 [(4, .int (r.getD 0:Nat))] [.box 25 (mO x.ds x.rs), .box 31 (qA x.q)])) (.one (.exit 0,sp 19 [] [.box 25 (mO x.ds x.rs), .box 31 (qA x.q)]))
theorem lKn(κ:Kp):bf (Pf κ).E 12 119 2 (aR 2 (fun x:Re=>Fc x.ds x.rs x.q x.i) (fun x=>x.i<=x.rs.length/\vX x) NQ):=by
 refine aG (fun x=>x.rs.length - x.i) ?_
 rintro⟨ds,rs,q,i⟩ K ⟨h1,h2,h3,h4⟩ ho
 simp only at h1 h2 h3 h4
 rw[show(Pf κ).E.P=Pr κ from rfl]
 refine Eq.mpr (xKn κ ds rs q i _ _ K) ?_
 replace ho: ∀r:Option Nat,((∃y,y∈rs.drop i/\ru ds q y)->r.isSome=true)->aw r.isSome (K .ret (sp 19 [(4, .int (r.getD 0:Nat))] [.box 25 (mO ds rs), .box 31 (qA q)])) (K (.exit 0) (sp 19 [] [.box 25 (mO ds rs), .box 31 (qA q)])):=ho
 rw[ae,aa0,aa2]
 refine⟨fun h=>?_,fun h=>?_⟩
 ·have hk:i<rs.length:=by omega
  have hx:nth rs i∈rs:=by rw[a7 _ _ hk];exact List.getElem_mem _
  rw[ab1 hk,←a7 rs i hk] at ho
  have hok:=h4 _ hx
  have hh:aI (aa (dx ds (eW (nth rs i))).out)<=100000:=by
   have h1:=hok.s.1
   rw[lX 38 (eW (nth rs i)).rel (eW (nth rs i)).hl (eW (nth rs i)).bl] at h1
   simp only[ph] at h1
   show aI (aa (cG (aa (eW (nth rs i)).hl)))<=_
   rw[th];omega
  have next: ¬ ru ds q (nth rs i)->∃m,m<rs.length - i/\ig (fun x:Re=>Fc x.ds x.rs x.q x.i) (fun x=>x.i<=x.rs.length/\vX x) NQ (fun x=>x.rs.length - x.i) K m (Fc ds rs q (i+1)):=fun hn=>
   ⟨rs.length - (i+1),by omega,⟨ds,rs,q,i+1⟩,rfl,⟨hk,h2,h3,h4⟩,rfl,fun r hr=>ho r fun⟨y,hy,ha⟩=>by
    rcases List.mem_cons.1 hy with rfl|hy
    ·exact absurd ha hn
    ·exact hr ⟨y,hy,ha⟩⟩
  rw[Int.toNat_natCast,aC (n:=(i:Int)+1) (by omega) (by omega)]
  refine ai.2 ⟨by simp;omega,⟨ds,rs,eW (nth rs i)⟩,rfl,⟨hok,h2⟩,ae.2 ⟨fun e1=>ai.2 ⟨aa6 hh,ae.2 ⟨fun e2=>⟨((dx ds (eW (nth rs i))).steps,q.steps),rfl,Ds ds hok,fun r hr=>ae.2 ⟨fun e3=>?_,fun e3=>?_⟩⟩,fun e2=>?_⟩⟩,fun e1=>?_⟩⟩
  ·exact ho (some i) fun _=>rfl
  ·refine next fun ha=>?_
   rw[hr ha.2.2] at e3;cases e3
  ·refine next fun ha=>?_
   have e2:jm (aa (dx ds (eW (nth rs i))).out) (aa q.out)=false:=e2
   rw[ha.2.1,pC] at e2;cases e2
  ·refine next fun ha=>?_
   have e1:((dx ds (eW (nth rs i))).rel==q.rel)=false:=e1
   rw[ha.1,beq_self_eq_true] at e1;cases e1
 ·rw[aa8 (by omega)] at ho
  exact ho none fun⟨y,hy,_⟩=>(nomatch hy)
noncomputable def Q5(κ:Kp):EB:=(Pf κ).loop (lKn κ)
theorem yKn(κ:Kp)(ds rs:List AV)(q:QD)(K:AV->List Dn.Obj->Prop):(ba (Q5 κ).E 12 33 [mO ds rs,qA q] [] K)=(
 ag (Pg.toProgram (Env.P (EB.E (Pf κ)))) 119 2=ag (Pg.toProgram (Env.P (EB.E (Pf κ)))) 119 2/\∃(a:Re),sp 19 [(0,AV.ad 48 rs),(1,AV.bq
 68 [AV.ptr 0 0 [] 0,AV.ptr 1 0 [] 0]),(7,AV.int (↑(rs.length):Int)),(8,AV.int 0)] [Obj.box 25 (AV.agg [AV.ad 43 ds,AV.ad 48 rs]),Obj.box 31 (AV.agg
 [AV.int q.rel,AV.ad 40 q.steps,AV.ad 38 q.out,AV.int q.delta])]=sp 19 [(0,AV.ad 48 a.rs),(1,AV.bq 68 [AV.ptr 0 0 [] 0,AV.ptr 1 0 [] 0]),(7,
 AV.int (↑(a.rs.length):Int)),(8,AV.int (↑(a.i):Int))] [Obj.box 25 (AV.agg [AV.ad 43 a.ds,AV.ad 48 a.rs]),Obj.box 31 (AV.agg [AV.int a.q.rel,AV.ad
 40 a.q.steps,AV.ad 38 a.q.out,AV.int a.q.delta])]/\(a.i<=a.rs.length/\vX a)/\∀(y:Option Nat),((∃(y:AV),List.Mem y (List.drop a.i a.rs)/\
 QD.rel (dx a.ds (eW y))=a.q.rel/\aa (QD.out (dx a.ds (eW y)))=aa a.q.out/\List.map r8 (QD.steps (dx a.ds (eW y)))=List.map r8
 a.q.steps)->Option.isSome y=true)->aw (Option.isSome y) (K (AV.bool true) []) (K (AV.bool false) [])):=by kernel_rfl
structure X3 where
 ds:List AV
 rs:List AV
 q:QD
def Xy(x:X3):List AV×List Dn.Obj:=([mO x.ds x.rs,qA x.q],[])
def Ug(x:X3):Out (AV×List Dn.Obj):= .all (fun r:Bool=>(∃y,y∈x.rs/\ru x.ds x.q y)->r=true) fun r=> .one (.bool r,[])
theorem YF(κ:Kp):bG (Q5 κ).E 12 33 (a0 Xy (fun x=>vX ⟨x.ds,x.rs,x.q,0⟩) Ug):=by
 refine bc ?_
 rintro⟨ds,rs,q⟩ K h ho
 have ho: ∀r:Bool,((∃y,y∈rs/\ru ds q y)->r=true)->K (.bool r) []:=ho
 refine Eq.mpr (yKn κ ds rs q K) ⟨rfl,⟨ds,rs,q,0⟩,rfl,⟨Nat.zero_le _,h⟩,fun r hr=>?_⟩
 simp only[ab0] at hr
 exact ae.2 ⟨fun e=>ho true fun _=>rfl,fun e=>ho false fun q=>by rw[hr q] at e;cases e⟩
noncomputable def BKm(κ:Kp):EB:=(Q5 κ).call (YF κ)
end Go.Proofs.YtioeffnadipbaaaGreatDoor
namespace Go.Proofs.YtioeffnadipbaaaGreatDoor
open Go Go.Dn Go.Rl Go.Proofs Go.Shelf
attribute [local irreducible] ba vc
set_option maxRecDepth 20000
def xl:Go.Shelf.Ren:=⟨fun|5=>125|7=>165|n=>n,fun|23=>91|25=>9|3=>72|4=>4|20=>20|n=>n,fun n=>n⟩
theorem Tq:SlLaysW.n5 Tryz.prog xl:={mixed:=by kernel_rfl,f5:=⟨ "maps.Clone[sorites/query.env,string,sorites/api.Val]",of_decide_eq_true (by kernel_rfl),Tryz.func125.trans (congrArg some (by kernel_rfl))⟩,f7:=Tryz.func165.trans (congrArg some (by kernel_rfl)),t4:=Tryz.underlying4,a4:=Tryz.isAgg4,z4:=Tryz.sizeOf4,v4:=Tryz.zeroValue4,t20:=Tryz.underlying20,a20:=Tryz.isAgg20,z20:=Tryz.sizeOf20,v20:=Tryz.zeroValue20,t23:=Tryz.underlying91,a23:=Tryz.isAgg91,z23:=Tryz.sizeOf91,v23:=Tryz.zeroValue91}
theorem Rt(κ:Kp): ∀args st K,qy args st K->bD (Pr κ) 125 args st K:=fun _ _ _ h=>Ge (P:=Pr κ) (ρ:=xl) rfl ⟨_,Tryz.func125,rfl⟩ Tq h
noncomputable def H6(κ:Kp):EB:=(BKm κ).HV Dj (Rt κ)
abbrev pM:=List (ByteArray×mI)
abbrev UM(e:pM):AV:= .fJ 9 72 (e.map fun x=>Value.string x.1) (e.map fun x=>wM x.2)
theorem Z3(κ:Kp)(ks:List Value)(vs:List AV)(s:ByteArray)(v:mI)(K:AV->List Dn.Obj->Prop):(ba (H6 κ).E 12 76 [.fJ 9 72 ks vs, .lit (.string s),wM v] [] K)=(
 K (AV.fJ 9 72 (List.map (fun(x:Value×AV)=>x.1) (eX (List.zip ks vs) (Value.string s) (AV.agg [AV.bool v.y,AV.int v.n,AV.str v.s]))) (List.map (fun(x
 :Value×AV)=>x.2) (eX (List.zip ks vs) (Value.string s) (AV.agg [AV.bool v.y,AV.int v.n,AV.str v.s])))) []):=by kernel_rfl
def pM.put:pM->ByteArray->mI->pM
 |[],s,v=>[(s,v)]
 |(t,w)::e,s,v=>bif decide (s=t) then(s,v)::e else(t,w)::pM.put e s v
def pM.get:pM->ByteArray->mI
 |[],_=>⟨false,0,ByteArray.mk #[]⟩
 |(t,w)::e,s=>bif decide (s=t) then w else pM.get e s
abbrev UC(e:pM):List (Value×AV):=e.map fun x=>(Value.string x.1,wM x.2)
theorem Jt: ∀e:pM,(e.map fun x=>Value.string x.1).zip (e.map fun x=>wM x.2)=UC e
 |[]=>rfl
 |x::e=>by
  have:=Jt e
  simp only[ac0,List.zip_cons_cons,this]
theorem VU(s t:ByteArray):dm (.string s) (.string t)=decide (s=t):=by
 show(s==t)=_
 rw[bytes_beq,HF]
theorem Kc(s:ByteArray)(v:mI): ∀e:pM,eX (UC e) (.string s) (wM v)=UC (e.put s v)
 |[]=>rfl
 |(t,w)::e=>by
  have ih:=Kc s v e
  simp only[UC,ac0,eX,VU,pM.put] at ih⊢
  cases decide (s=t) with
  |true=>rfl
  |false=>simp only[aa5,ih,ac0]
structure XU where
 e:pM
 s:ByteArray
 v:mI
def TM(x:XU):List AV×List Dn.Obj:=([UM x.e, .lit (.string x.s),wM x.v],[])
def Sj(x:XU):Out (AV×List Dn.Obj):= .one (UM (x.e.put x.s x.v),[])
theorem Zw(κ:Kp):bG (H6 κ).E 12 76 (a0 TM (fun _=>True) Sj):=by
 refine bc ?_
 rintro⟨e,s,v⟩ K _ ho
 refine Eq.mpr (Z3 κ _ _ s v K) ?_
 rw[Jt,Kc,List.map_map,List.map_map]
 exact ho
structure AVu where
 e:pM
 t:AT
structure ARn where
 q:QD
 ins:List AV
 del:List AV
 L:RL
end Go.Proofs.YtioeffnadipbaaaGreatDoor
