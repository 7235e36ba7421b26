import Derived.Test.YtioeffnadipbaaaGreatDoorDePB
namespace Go.Proofs.YtioeffnadipbaaaGreatDoor
open Go Go.Dn Go.Rl Go.Proofs
attribute [local irreducible] a0 vc
set_option maxRecDepth 20000
def jR:List AV->RL->RL
 |_,[]=>[]
 |p,b::l=>bif bz b p==0 then jR b l else b::jR b l
def j2:RL->RL
 |[]=>[]
 |a::l=>a::jR a l
theorem xCi κ L(n0 k k0 k2:Nat) I n K:(vc (UW κ).E 12 80 none 1 (ad (Pr κ).toProgram 80 9) (sp 66 [(0, .ak 0 0 L.length),(1, .bm 81 []),(5, .int k),(6, .ak 0 k0 n0),(7, .int k2)] [.row 70 (rws L)]) (bj (UW κ).E 80 9 1 I n K))=(
 letI a:=IntKind.wrap IntKind.i64
 letI b:=AV.int
 letI c:=af (nth (rws L) (k0+Int.toNat (↑k2:Int)))
 letI d:=(↑k2:Int)<(↑n0:Int)
 letI f:=a ((↑k2:Int)+(1:Int))
 letI e:=(↑k2:Int) - (1:Int)
 aq (decide d) (aV (true&&decide d) (aV (decide ((0:Int)<=a e)&&decide (a e<(↑n0:Int))) (aV (decide
 (List.length c<=9223372036854775807)) (aq (!bz c (af (nth (rws L) (k0+Int.toNat (a e))))==(0:Int)) (aV (true&&decide d) (aV
 (true&&decide ((↑k:Int)<(↑(L.length):Int))) (∃(e0:Nat),e0<n/\I e0 (sp 66 [(0,AV.ak 0 0 L.length),(1,AV.bm 81 []),(5,b (IntKind.wrap
 IntKind.i64 ((↑k:Int)+(1:Int)))),(6,AV.ak 0 k0 n0),(7,b f)] [Obj.row 70 (bH (rws L) (0+Int.toNat (↑k:Int)) (AV.ah 72 c))])))) (∃(e0:
 Nat),e0<n/\I e0 (sp 66 [(0,AV.ak 0 0 L.length),(1,AV.bm 81 []),(5,b (↑k:Int)),(6,AV.ak 0 k0 n0),(7,b f)] [Obj.row 70 (rws L)])))))) (K
 (Exit.exit 2) (sp 66 [(0,AV.ak 0 0 L.length),(5,b (↑k:Int))] [Obj.row 70 (rws L)]))):=by kernel_rfl
structure ACi where
 L0:RL
 L:RL
 n0:Nat
 k0:Nat
 k:Nat
 k2:Nat
abbrev Sj(x:ACi):=sp 66 [(0, .ak 0 0 x.L.length),(1, .bm 81 []),(5, .int x.k),(6, .ak 0 x.k0 x.n0),(7, .int x.k2)] [.row 70 (rws x.L)]
structure Yt(x:ACi):Prop where
 len:x.L.length=x.L0.length/\x.L0.length=x.k0+x.n0
 k:x.k0<=x.k/\x.k+1<=x.k0+x.k2
 k2:1<=x.k2/\x.k2<=x.n0
 l:x.L0.length<=100000000
 s:fq x.L0
 o: ∀j,x.k0+x.k2<=j+1->rat x.L j=rat x.L0 j
 e:j2 x.L0=x.L.take x.k++jR (rat x.L0 (x.k0+x.k2 - 1)) (x.L0.drop (x.k0+x.k2))
def ZD(x:ACi):Out (Exit×S):= .all (fun r:Nat×RL=>r.2.length=x.L0.length/\r.1<=x.L0.length/\r.2.take r.1=j2 x.L0) fun r=> .one (.exit 2,sp 66 [(0, .ak 0 0 r.2.length),(5, .int r.1)] [.row 70 (rws r.2)])
theorem lCi κ:aU (UW κ).E 12 80 9 (aG 1 Sj Yt ZD):=by
 refine aC (fun x=>x.n0 - x.k2) ?_;rintro⟨c,L,m,b,k,a⟩ K ⟨p,r,s,l,g,f,d⟩ o;simp only at p r s l g f d;rw[show(UW κ).E.P=Pr κ from rfl];refine Eq.mpr (xCi κ L m k b a _ _ K) ?_;rw[ae,ar4,ar6];refine⟨fun h=>?_,fun h=>?_⟩
 ·have q:b+a<c.length:=by omega
  rw[az (n:=(a:Int) - 1) (by omega) (by omega),az (n:=(a:Int)+1) (by omega) (by omega),az (n:=(k:Int)+1) (by omega) (by omega),show b+(a:Int).toNat=b+a by omega,show b+((a:Int) - 1).toNat=b+a - 1 by omega,Nat.zero_add,Int.toNat_natCast,fS,fS,vg,f (b+a) (by omega),f (b+a - 1) (by omega)];rw[as5 q,←yK q,jR] at d;refine ai.2 ⟨by simp;omega,ai.2 ⟨by simp;omega,ai.2 ⟨as0 (kE g _),ae.2 ⟨fun e=>?_,fun e=>?_⟩⟩⟩⟩
  ·have e:(bz (rat c (b+a)) (rat c (b+a - 1))==0)=false:=by simpa using e
   rw[e,ar9] at d;refine ai.2 ⟨by simp;omega,ai.2 ⟨by simp;omega,_,?_,⟨c,L.set k (rat c (b+a)),m,b,k+1,a+1⟩,?_,⟨by simp only[List.length_set];omega,by simp only;omega,by simp only;omega,l,g,fun j i=>?_,?_⟩,rfl,o⟩⟩
   ·simp only;omega
   ·simp only[Sj,List.length_set];rfl
   ·simp only at i
    rw[Iv _ _ _ _ (by omega),if_neg (by omega)];exact f j (by omega)
   ·simp only
    rw[d,show b+(a+1) - 1=b+a by omega,List.take_succ_eq_append_getElem (by rw[List.length_set];omega)];rw[List.getElem_set_self,List.take_set_of_le (Nat.le_refl _)];simp[Nat.add_assoc]
  ·have e:(bz (rat c (b+a)) (rat c (b+a - 1))==0)=true:=by simpa using e
   rw[e,as1] at d;refine⟨_,?_,⟨c,L,m,b,k,a+1⟩,rfl,⟨p,by simp only;omega,by simp only;omega,l,g,fun j i=>f j (by simp only at i;omega),?_⟩,rfl,o⟩
   ·simp only;omega
   ·simp only
    rw[d,show b+(a+1) - 1=b+a by omega];rfl
 ·refine o (k,L) ⟨p.1,by simp only;omega,?_⟩
  rw[as2 (by omega),jR,List.append_nil] at d;exact d.symm
noncomputable def Ux κ:=(UW κ).loop (lCi _)
theorem xCo κ L(k:Nat) I n K:(vc (Ux κ).E 12 80 none 1 (ad (Pr κ).toProgram 80 4) (sp 66 [(0, .ak 0 0 L.length),(1, .bm 81 []),(5, .int k)] [.row 70 (rws L)]) (bj (Ux κ).E 80 4 1 I n K))=(
 letI a:=IntKind.wrap IntKind.i64
 letI b:=Obj.row
 letI d:=(↑k:Int) - (1:Int)
 letI e:=af (nth (rws L) (0+Int.toNat (↑k:Int)))
 letI f:=(↑k:Int)<(↑(L.length):Int)
 letI g:=Pg.toProgram (Env.P (EB.E (UW κ)))
 aq (decide f) (aV (true&&decide f) (aV (decide ((0:Int)<=a d)&&decide (a d<(↑(L.length):Int))) (aV (decide (List.length e<=9223372036854775807)) (aq (bz e (af (nth (rws L) (0+Int.toNat (a d))))==(0:Int)) (aV (true&&decide ((↑k:Int)<=(↑(L.length):Int))&&decide ((↑(L.length):Int)<=(↑(L.length):Int))) (ad g 80 9=ad g 80 9/\∃(e1:ACi),sp 66 [(0,AV.ak 0 0 L.length),(1,AV.bm 81 []),(5,AV.int (↑k:Int)),(6,AV.ak 0 (0+Int.toNat (↑k:Int)) (Int.toNat ((↑(L.length):Int) - (↑k:Int)))),(7,AV.int 1)] [b 70 (rws L)]=Sj e1/\Yt e1/\∀(e0:Nat×RL),letI c:=e0.2.length;letI h:=(↑(e0.1):Int)<=(↑c:Int);e0.2.length=e1.L0.length/\e0.1<=e1.L0.length/\List.take e0.1 e0.2=j2 e1.L0->aV (true&&decide h&&decide ((↑c:Int)<=(↑c:Int))) (aV (true&&decide h) (K Exit.ret (sp 66 [(4,AV.ak 0 0 (Int.toNat ((↑(e0.1):Int) - (0:Int))))] [b 70 (dc (rws e0.2) (0+Int.toNat (↑(e0.1):Int)) (Int.toNat ((↑c:Int) - (↑(e0.1):Int))) AV.nil)]))))) (∃(e0:Nat),e0<n/\I e0 (sp 66 [(0,AV.ak 0 0 L.length),(1,AV.bm 81 []),(5,AV.int (a ((↑k:Int)+(1:Int))))] [b 70 (rws L)])))))) (K (Exit.exit 0) (sp 66 [(0,AV.ak 0 0 L.length)] [b 70 (rws L)]))):=by kernel_rfl
structure ACo where
 L:RL
 k:Nat
abbrev ad1(x:ACo):=sp 66 [(0, .ak 0 0 x.L.length),(1, .bm 81 []),(5, .int x.k)] [.row 70 (rws x.L)]
def Yu(x:ACo):=(1<=x.k/\x.k<=x.L.length)/\x.L.length<=100000000/\fq x.L/\j2 x.L=x.L.take x.k++jR (rat x.L (x.k - 1)) (x.L.drop x.k)
def N3(x:ACo):Out (Exit×S):= .aq (decide ((j2 x.L).length=x.L.length)) (.one (.exit 0,sp 66 [(0, .ak 0 0 x.L.length)] [.row 70 (rws x.L)]))
 (.all (fun a=>(j2 x.L).length<=a.length/\a.take (j2 x.L).length=rws (j2 x.L)) fun a=> .one (.ret,sp 66 [(4, .ak 0 0 (j2 x.L).length)] [.row 70 a]))
theorem sM: ∀p l,(jR p l).length<=l.length
 |_,[]=>Nat.le_refl _
 |p,b::l=>by
  have:=sM b l
  grind [jR]
theorem y0: ∀p l,(jR p l).length=l.length->jR p l=l
 |_,[],_=>rfl
 | p,b::l,h=>by
  have a:=sM b l;rw[jR] at h⊢;cases e:bz b p==0 with
  |true=>grind
  |false=>
   rw[e,ar9,List.length_cons,List.length_cons] at h;rw[ar9,y0 b l (by omega)]
theorem rh z: ∀xs k m,(dc xs k m z).take k=xs.take k
 |[],_,_=>by rfl
 |a::l,0,_=>by rfl
 |a::l,k+1,m=>by
  have:=rh z l k m
  grind [dc]
theorem qn z: ∀xs k m,(dc xs k m z).length=xs.length
 |[],_,_=>by rfl
 |a::l,0,0=>rfl
 |a::l,0,m+1=>by simp[dc,qn z l 0 m]
 |a::l,k+1,m=>by simp[dc,qn z l k m]
theorem lCo κ:aU (Ux κ).E 12 80 4 (aG 1 ad1 Yu N3):=by
 refine aC (fun x=>x.L.length - x.k) ?_;rintro⟨L,k⟩ K ⟨l,i,g,a⟩ f;simp only at l i g a;rw[show(Ux κ).E.P=Pr κ from rfl];refine Eq.mpr (xCo κ L k _ _ K) ?_;simp only[N3,Out.run,ae,ar4,ar6] at f;rw[ae,ar4,ar6];refine⟨fun h=>?_,fun h=>?_⟩
 ·have d:k<L.length:=by omega
  rw[az (n:=(k:Int) - 1) (by omega) (by omega),az (n:=(k:Int)+1) (by omega) (by omega),show 0+((k:Int) - 1).toNat=k - 1 by omega,Nat.zero_add,Int.toNat_natCast,fS,fS];rw[as5 d,←yK d,jR] at a;refine ai.2 ⟨by simp;omega,ai.2 ⟨by simp;omega,ai.2 ⟨as0 (kE g _),ae.2 ⟨fun e=>?_,fun e=>?_⟩⟩⟩⟩
  ·rw[e,as1] at a
   have p:(j2 L).length<L.length:=by
    have:=sM (rat L k) (L.drop (k+1))
    rw[a,as9,List.length_take];rw[List.length_drop] at this;omega
   refine ai.2 ⟨by simp;omega,rfl,⟨L,L,L.length - k,k,k,1⟩,?_,⟨⟨rfl,by simp only;omega⟩,⟨Nat.le_refl _,Nat.le_refl _⟩,⟨Nat.le_refl _,by simp only;omega⟩,i,g,fun _ _=>rfl,?_⟩,fun r q=>?_⟩
   ·simp only[Sj,show((L.length:Int) - k).toNat=L.length - k by omega];rfl
   ·simp only[Nat.add_sub_cancel]
    exact a
   ·obtain⟨b,M⟩:=r
    obtain⟨m,o,j⟩:=q;simp only at m o j;have c:(j2 L).length=b:=by rw[←j,List.length_take];omega
    simp only;refine ai.2 ⟨by simp;omega,ai.2 ⟨by simp;omega,?_⟩⟩;have:=f.2 (by omega) (dc (rws M) b ((M.length:Int) - b).toNat .nil) ⟨by rw[qn,dX];omega,by rw[c,rh,←List.map_take,j]⟩
    rw[c] at this;rw[show((b:Int) - 0).toNat=b by omega,show 0+(b:Int).toNat=b by omega];exact this
  ·rw[e,ar9] at a
   refine⟨_,?_,⟨L,k+1⟩,rfl,⟨by simp only;omega,i,g,?_⟩,rfl,?_⟩
   ·simp only;omega
   ·simp only[Nat.add_sub_cancel]
    rw[a,List.take_succ_eq_append_getElem d,←yK d];simp
   ·simp only[N3,Out.run,ae,ar4,ar6]
    exact f
 ·rw[as2 (by omega),jR,List.append_nil,List.take_of_length_le (by omega)] at a
  exact f.1 (by rw[a])
noncomputable def Uz κ:=(Ux κ).loop (lCo _)
theorem aq3 κ L K:(a0 (Uz κ).E 12 80 [.ak 0 0 L.length, .bm 81 []] [.row 70 (rws L)] K)=(
 letI a:=Pg.toProgram (Env.P (EB.E (Ux κ)))
 aq (decide ((↑(L.length):Int)<(2:Int))) (K (AV.ah 70 (List.take L.length (List.drop 0 (rws L)))) [Obj.lk 70 (rws L)]) (ad a 80 4=ad a 80 4/\∃(e1:
 ACo),sp 66 [(0,AV.ak 0 0 L.length),(1,AV.bm 81 []),(5,AV.int 1)] [Obj.row 70 (rws L)]=ad1 e1/\Yu e1/\aq (decide (List.length (j2 e1.L)=e1.L.length))
 (K (AV.ah 70 (List.take e1.L.length (List.drop 0 (rws e1.L)))) [Obj.lk 70 (rws e1.L)]) (∀(e0:List AV),List.length (j2 e1.L)<=e0.length/\List.take
 (List.length (j2 e1.L)) e0=rws (j2 e1.L)->K (AV.ah 70 (List.take (List.length (j2 e1.L)) (List.drop 0 e0))) [Obj.lk 70 e0]))):=by kernel_rfl
def D3(L:RL):List AV×List Dn.Obj:=([.ak 0 0 L.length, .bm 81 []],[.row 70 (rws L)])
def N4(L:RL):Out (AV×List Dn.Obj):= .all (fun _=>True) fun a=> .one (.ah 70 (rws (j2 L)),[.lk 70 a])
theorem cCo κ:bc (Uz κ).E 12 80 (aO D3 (fun L=>L.length<=100000000/\fq L) N4):=by
 refine aR ?_;rintro L K ⟨i,j⟩ d;refine Eq.mpr (aq3 κ L K) ?_;have d: ∀c,K (.ah 70 (rws (j2 L))) [.lk 70 c]:=fun c=>d c trivial
 rw[ae,ar4,ar6];refine⟨fun h=>?_,fun h=>⟨rfl,⟨L,1⟩,rfl,⟨by simp only;omega,i,j,?_⟩,ae.2 ⟨fun e=>?_,fun e c f=>?_⟩⟩⟩
 ·have e:j2 L=L:=by
   match L,h with
   |[],_=>rfl
   |[a],_=>rfl
   |a::b::l,h=>simp at h;omega
  have:=d (rws L)
  rw[e] at this;rw[as4,←dX,List.take_length];exact this
 ·match L,h with
  |[],h=>simp at h
  |a::l,_=>rfl
 ·rw[ar4] at e
  have g:j2 L=L:=by
   match L,h with
   |a::l,_=>
    simp only[j2,List.length_cons,Nat.add_right_cancel_iff] at e;rw[j2,y0 _ _ e]
  have:=d (rws L)
  rw[g] at this;simp only;rw[as4,←dX,List.take_length];exact this
 ·simp only at f
  rw[as4,f.2];exact d c
theorem yTy κ v k K:(a0 (Uz κ).E 12 97 [e6 v, .int k] [] K)=(
 aq (k==(1:Int)) (K (AV.lit (Value.bool (v.y==false&&(v.n==v.n&&(ByteArray.toList v.s==ByteArray.toList {data:= #[]}&&true))))) []) (K (AV.lit (Value.bool (v.y==true&&(v.n==(0:Int)&&(ByteArray.toList v.s==ByteArray.toList v.s&&true))))) [])):=by kernel_rfl
def Xz(v:eU)(k:Int):=bif k==1 then !v.y&&decide (v.s=ByteArray.mk #[]) else v.y&&decide (v.n=0)
def gTy:List AV->Option (Bool×AV)
 |[.agg [.lit (.bool y), .lit (.int .i64 n), .lit (.string s)], .lit (.int .i64 k)]=>some (true, .bool (Xz ⟨y,n,s⟩ k))
 |_=>none
theorem YH s t:(ByteArray.toList s==ByteArray.toList t)=decide (s=t):=by
 rw[Bool.eq_iff_iff,beq_iff_eq,ar4];exact toList_inj
theorem pTy κ:cd (Uz κ).E 12 97 gTy:=by
 intro b x a;unfold gTy at a;split at a
 ·rename_i y n s k
  simp only[ar7,as3,true_and] at a;subst a;refine⟨_,rfl,rfl,Eq.mpr (yTy κ ⟨y,n,s⟩ k _) (ae.2 ⟨fun e=>?_,fun e=>?_⟩)⟩
  ·simp only[Xz,e,as1,YH]
   cases y<;>simp
  simp_all[Xz,ar9,YH,Xq]
 ·cases a
noncomputable def U9 κ:=EB.Fx ((Uz κ).pure (pTy _)) [97,49,23]
theorem xFj κ xs t rel ns ts a o li(j i:Nat) I n K:(vc (U9 κ).E 12 49 none 0 (ad (Pr κ).toProgram 49 7) (sp 40 [(1, .ah 70 xs),(2, .ptr 0 0 [] 0),(9, .ah 70 xs),(10, .int xs.length),(11, .int j),(21, .ah 72 t),(22, .int t.length),(23, .int i)] [.box 43 (.agg [.lit (.string rel), .ah 9 ns, .ah 3 ts, .bool a, .bool o, .int li])]) (bj (U9 κ).E 49 7 0 I n K))=(
 letI b:=AV.int
 letI c:=AV.ah
 letI e:=AV.agg [AV.str rel,c 9 ns,c 3 ts,AV.bool a,AV.bool o,b li]
 letI d:=Int.toNat (↑i:Int)
 letI f:=(↑i:Int)<(↑(t.length):Int)
 aq (decide f) (aV (true&&decide f) (aV (true&&decide ((↑i:Int)<(↑(ts.length):Int))) (aq (!Xz {y:=Dn.toBool (ag (nth t d) 0),n:=toInt (ag (nth t d) 1),s:=toStr (ag (nth t d) 2)} (toInt (nth ts d))) (K Exit.ret (sp 40 [(4,AV.bool false)] [])) (∃(e0:Nat),e0<n/\I e0 (sp 40 [(1,c 70 xs),(2,AV.ptr 0 0 [] 0),(9,c 70 xs),(10,b (↑(xs.length):Int)),(11,b (↑j:Int)),(21,c 72 t),(22,b (↑(t.length):Int)),(23,b (IntKind.wrap IntKind.i64 ((↑i:Int)+(1:Int))))] [Obj.box 43 e]))))) (K (Exit.exit 2) (sp 40 [(1,c 70 xs),(2,AV.ptr 0 0 [] 0),(9,c 70 xs),(10,b (↑(xs.length):Int)),(11,b (↑j:Int))] [Obj.box 43 e]))):=by kernel_rfl
def Lf:List AV->List AV->Bool
 |[],[]=>true
 |v::t,k::a=>Xz (Ew v) (toInt k)&&Lf t a
 |_,_=>false
theorem B1: ∀t a,Lf t a=true->t.length=a.length
 |[],[],_=>rfl
 |v::t,k::a,h=>by
  simp[Lf] at h;simp[B1 t _ h.2]
 |[],_::_,h=>by grind [Lf]
 |_::_,[],h=>by grind [Lf]
structure AFj where
 xs:List AV
 t:List AV
 d:Us
 j:Nat
 i:Nat
abbrev ad3(x:AFj):=sp 40 [(1, .ah 70 x.xs),(2, .ptr 0 0 [] 0),(9, .ah 70 x.xs),(10, .int x.xs.length),(11, .int x.j),(21, .ah 72 x.t),(22, .int x.t.length),(23, .int x.i)] [.box 43 (Tf x.d)]
def OO(x:AFj):=x.t.length=x.d.types.length/\x.i<=x.t.length/\x.t.length<=100000000
def N6(x:AFj):Out (Exit×S):= .aq (Lf (x.t.drop x.i) (x.d.types.drop x.i)) (.one (.exit 2,sp 40 [(1, .ah 70 x.xs),(2, .ptr 0 0 [] 0),(9, .ah 70 x.xs),(10, .int x.xs.length),(11, .int x.j)] [.box 43 (Tf x.d)])) (.one (.ret,sp 40 [(4, .bool false)] []))
theorem lFj κ:aU (U9 κ).E 12 49 7 (aG 0 ad3 OO N6):=by
 refine aC (fun x=>x.t.length - x.i) ?_;rintro⟨xs,t,⟨d,m,c,a,o,g⟩,j,i⟩ K ⟨k,p,l⟩ b;simp only at k p l;rw[show(U9 κ).E.P=Pr κ from rfl];refine Eq.mpr (xFj κ xs t d m c a o g j i _ _ K) ?_;simp only[N6,Out.run,ae] at b;rw[ae,ar4,ar6];refine⟨fun h=>?_,fun h=>?_⟩
 ·have f:i<t.length:=by omega
  rw[as5 f,←aM _ _ f,as5 (show i<c.length by omega),←aM c i (by omega),Lf] at b;rw[Int.toNat_natCast,az (n:=(i:Int)+1) (by omega) (by omega)];refine ai.2 ⟨by simp;omega,ai.2 ⟨by simp;omega,?_⟩⟩;rw[show(⟨Dn.toBool (ag (nth t i) 0),toInt (ag (nth t i) 1),toStr (ag (nth t i) 2)⟩:eU)=Ew (nth t i) from rfl,ae,Bool.not_eq_true',as6];refine⟨fun e=>b.2 (by rw[e];rfl),fun e=>?_⟩;rw[e,at2] at b;refine⟨_,?_,⟨xs,t,⟨d,m,c,a,o,g⟩,j,i+1⟩,rfl,⟨k,f,l⟩,rfl,?_⟩
  ·simp only;omega
  ·simp only[N6,Out.run,ae]
   exact b
 ·rw[as2 (show t.length<=i by omega),as2 (show c.length<=i by omega)] at b
  exact b.1 rfl
noncomputable def UE κ:=(U9 κ).loop (lFj _)
theorem xFk κ xs d(j:Nat) I n K:(vc (UE κ).E 12 49 none 0 (ad (Pr κ).toProgram 49 2) (sp 40 [(1, .ah 70 xs),(2, .ptr 0 0 [] 0),(9, .ah 70 xs),(10, .int xs.length),(11, .int j)] [.box 43 (Tf d)]) (bj (UE κ).E 49 2 0 I n K))=(
 letI a:=AV.int
 letI b:=AV.bool
 letI c:=AV.ah
 letI e:=af (nth xs (Int.toNat (↑j:Int)))
 letI f:=K Exit.ret (sp 40 [(4,b false)] [])
 letI g:=(↑j:Int)<(↑(xs.length):Int)
 letI h:=Pg.toProgram (Env.P (EB.E (U9 κ)))
 aq (decide g) (aV (true&&decide g) (aq ((↑(List.length e):Int) != (↑(d.types.length):Int)) f (ad h 49 7=ad h 49 7/\∃(e1:AFj),sp 40 [(1,c
 70 xs),(2,AV.ptr 0 0 [] 0),(9,c 70 xs),(10,a (↑(xs.length):Int)),(11,a (↑j:Int)),(21,c 72 e),(22,a (↑(List.length e):
 Int)),(23,a 0)] [Obj.box 43 (AV.agg [AV.str d.rel,c 9 d.names,c 3 d.types,b d.i,b d.o,a d.line])]=ad3 e1/\OO e1/\aq (Lf
 (List.drop e1.i e1.t) (List.drop e1.i e1.d.types)) (∃(e0:Nat),e0<n/\I e0 (sp 40 [(1,c 70 e1.xs),(2,AV.ptr 0 0 [] 0),(9,c 70 e1.xs),(10,
 a (↑(e1.xs.length):Int)),(11,a (IntKind.wrap IntKind.i64 ((↑(e1.j):Int)+(1:Int))))] [Obj.box 43 (AV.agg [AV.str e1.d.rel,c 9
 e1.d.names,c 3 e1.d.types,b e1.d.i,b e1.d.o,a e1.d.line])])) f))) (K (Exit.exit 0) (sp 40 [(1,c 70 xs)] []))):=by kernel_rfl
structure AFk where
 xs:List AV
 d:Us
 j:Nat
abbrev ad4(x:AFk):=sp 40 [(1, .ah 70 x.xs),(2, .ptr 0 0 [] 0),(9, .ah 70 x.xs),(10, .int x.xs.length),(11, .int x.j)] [.box 43 (Tf x.d)]
def W8(xs a:List _):=xs.all fun x=>Lf (af x) a
def N7(x:AFk):Out (Exit×S):= .aq (W8 (x.xs.drop x.j) x.d.types) (.one (.exit 0,sp 40 [(1, .ah 70 x.xs)] [])) (.one (.ret,sp 40 [(4, .bool false)] []))
theorem lFk κ:aU (UE κ).E 12 49 2 (aG 0 ad4 (fun x=>x.j<=x.xs.length/\eM x.xs=true) N7):=by
 refine aC (fun x=>x.xs.length - x.j) ?_;rintro⟨xs,d,j⟩ K ⟨g,b⟩ a;simp only at g b;rw[show(UE κ).E.P=Pr κ from rfl];refine Eq.mpr (xFk κ xs d j _ _ K) ?_;have i:=iZ b;simp only[N7,Out.run,ae] at a;rw[ae,ar4,ar6];refine⟨fun h=>?_,fun h=>?_⟩
 ·have f:j<xs.length:=by omega
  rw[as5 f,←aM _ _ f,W8,List.all_cons,←W8] at a;rw[Int.toNat_natCast];refine ai.2 ⟨by simp;omega,?_⟩;rw[ae,bne_iff_ne,bne_eq_false_iff_eq];refine⟨fun e=>a.2 ?_,fun e=>⟨rfl,⟨xs,af (nth xs j),d,j,0⟩,rfl,⟨by simp only;omega,Nat.zero_le _,lC b j⟩,?_⟩⟩
  ·rw[show Lf (af (nth xs j)) d.types=false from by
    grind [Lf,af,nth,B1],Bool.false_and]
  ·simp only[as4]
   rw[az (n:=(j:Int)+1) (by omega) (by omega),ae];refine⟨fun c=>⟨_,?_,⟨xs,d,j+1⟩,rfl,⟨f,b⟩,rfl,?_⟩,fun c=>a.2 (by rw[c];rfl)⟩
   ·simp only;omega
   ·rw[c,at2] at a
    simp only[N7,Out.run,ae];exact a
 ·rw[as2 (by omega)] at a
  exact a.1 rfl
noncomputable def BFk κ:=(UE κ).loop (lFk _)
theorem yFk κ xs d K:(a0 (BFk κ).E 12 49 [Tf d, .ah 70 xs] [] K)=(
 letI a:=AV.bool
 letI b:=Pg.toProgram (Env.P (EB.E (UE κ)))
 ad b 49 2=ad b 49 2/\∃(e0:AFk),sp 40 [(1,AV.ah 70 xs),(2,AV.ptr 0 0 [] 0),(9,AV.ah 70 xs),(10,AV.int (↑(xs.length):Int)),(11,AV.int 0)]
 [Obj.box 43 (AV.agg [AV.str d.rel,AV.ah 9 d.names,AV.ah 3 d.types,a d.i,a d.o,AV.int d.line])]=ad4 e0/\(e0.j<=e0.xs.length/\eM e0.xs=
 true)/\aq (W8 (List.drop e0.j e0.xs) e0.d.types) (aV (eM e0.xs) (K (a (cG (cU e0.xs))) [])) (K (a false) [])):=by kernel_rfl
def wc xs a:=W8 xs a&&cG (cU xs)
def gFk:List AV->Option (Bool×AV)
 |[.agg [.lit (.string _), .ah 9 _, .ah 3 a, .lit (.bool _), .lit (.bool _), .lit (.int .i64 _)], .ah 70 xs]=>some (eM xs, .bool (wc xs a))
 |_=>none
theorem pFk κ:cd (BFk κ).E 12 49 gFk:=by
 intro e x c;unfold gFk at c;split at c
 ·rename_i b d f a o g xs
  simp only[ar7,as3] at c;obtain⟨h,rfl⟩:=c;refine⟨_,rfl,rfl,Eq.mpr (yFk κ xs ⟨b,d,f,a,o,g⟩ _) ⟨rfl,⟨xs,⟨b,d,f,a,o,g⟩,0⟩,rfl,⟨Nat.zero_le _,h⟩,?_⟩⟩
  simp_all[as4,wc,ae,ai,at2,Bool.false_and]
 ·cases c
noncomputable def UF κ:=(BFk κ).pure (pFk _)
theorem xFm κ ds rs xs(i:Nat) I n K:(vc (UF κ).E 12 23 none 0 (ad (Pr κ).toProgram 23 4) (sp 34 [(2, .ptr 0 0 [] 0),(18, .ah 51 xs),(19, .int xs.length),(20, .int i)] [.box 25 (eH ds rs)]) (bj (UF κ).E 23 4 0 I n K))=(
 letI a:=Int.toNat (↑i:Int)
 letI b:=(↑i:Int)<(↑(xs.length):Int)
 aq (decide b) (aV (true&&decide b) (aV (true&&decide ((↑i:Int)<(↑(ds.length):Int))) (aV (eM (af (nth xs a))) (aq (!wc (af (nth xs a)) (af (ag (nth
 ds a) 2))) (K Exit.ret (sp 34 [(4,AV.bool false)] [])) (∃(e0:Nat),e0<n/\I e0 (sp 34 [(2,AV.ptr 0 0 [] 0),(18,AV.ah 51 xs),(19,AV.int (↑(xs.length)
 :Int)),(20,AV.int (IntKind.wrap IntKind.i64 ((↑i:Int)+(1:Int))))] [Obj.box 25 (AV.agg [AV.ah 43 ds,AV.ah 48 rs])])))))) (K (Exit.exit 0) (sp 34 []
 []))):=by kernel_rfl
structure AFm where
 ds:List AV
 rs:List AV
 xs:List AV
 i:Nat
abbrev ad5(x:AFm):=sp 34 [(2, .ptr 0 0 [] 0),(18, .ah 51 x.xs),(19, .int x.xs.length),(20, .int x.i)] [.box 25 (eH x.ds x.rs)]
def pW:List AV->List AV->Bool
 |[],_=>true
 |x::xs,d::ds=>wc (af x) (af (ag d 2))&&pW xs ds
 |_::_,[]=>false
def iJ(xs:List _):=decide (xs.length<=100000000)&&xs.all fun x=>eM (af x)
def N8(x:AFm):Out (Exit×S):= .aq (pW (x.xs.drop x.i) (x.ds.drop x.i)) (.one (.exit 0,sp 34 [] [])) (.one (.ret,sp 34 [(4, .bool false)] []))
theorem mq{xs}(h:iJ xs=true) i:eM (af (nth xs i))=true:=by
 simp[iJ] at h;rcases Nat.lt_or_ge i xs.length with a|a
 ·grind [aM]
 ·rw[fj _ _ a];rfl
theorem lFm κ:aU (UF κ).E 12 23 4 (aG 0 ad5 (fun x=>x.i<=x.xs.length/\x.xs.length=x.ds.length/\iJ x.xs=true) N8):=by
 refine aC (fun x=>x.xs.length - x.i) ?_;rintro⟨ds,f,xs,i⟩ K ⟨g,d,b⟩ a;simp only at g d b;rw[show(UF κ).E.P=Pr κ from rfl];refine Eq.mpr (xFm κ ds f xs i _ _ K) ?_;have j:xs.length<=100000000:=by
  simp only[iJ,ar5,ar4] at b;exact b.1
 simp only[N8,Out.run,ae] at a;rw[ae,ar4,ar6];refine⟨fun h=>?_,fun h=>?_⟩
 ·have c:i<xs.length:=by omega
  rw[as5 c,←aM _ _ c,as5 (show i<ds.length by omega),←aM ds i (by omega),pW] at a;rw[Int.toNat_natCast,az (n:=(i:Int)+1) (by omega) (by omega)];refine ai.2 ⟨by simp;omega,ai.2 ⟨by simp;omega,ai.2 ⟨mq b i,?_⟩⟩⟩;rw[ae,Bool.not_eq_true',as6];refine⟨fun e=>a.2 (by rw[e];rfl),fun e=>?_⟩;rw[e,at2] at a;refine⟨_,?_,⟨ds,f,xs,i+1⟩,rfl,⟨c,d,b⟩,rfl,?_⟩
  ·simp only;omega
  ·simp only[N8,Out.run,ae]
   exact a
 ·rw[as2 (show xs.length<=i by omega)] at a
  exact a.1 rfl
noncomputable def BFm κ:=(UF κ).loop (lFm _)
theorem yFm κ ds rs xs K:(a0 (BFm κ).E 12 23 [eH ds rs, .ah 51 xs] [] K)=(
 letI a:=K (AV.bool false) []
 letI b:=Pg.toProgram (Env.P (EB.E (UF κ)))
 aV (List.all rs fg) (aq (!fA ds rs) a (aq ((↑(xs.length):Int) != (↑(ds.length):Int)) a (ad b 23 4=ad b 23 4/\∃(e0:AFm),sp 34 [(2,AV.ptr 0 0 []
 0),(18,AV.ah 51 xs),(19,AV.int (↑(xs.length):Int)),(20,AV.int 0)] [Obj.box 25 (AV.agg [AV.ah 43 ds,AV.ah 48 rs])]=ad5 e0/\(e0.i<=e0.xs.length/\
 e0.xs.length=e0.ds.length/\iJ e0.xs=true)/\aq (pW (List.drop e0.i e0.xs) (List.drop e0.i e0.ds)) (K (AV.bool true) []) a)))):=by kernel_rfl
def ki ds a xs:=fA ds a&&(decide (xs.length=ds.length)&&pW xs ds)
def gFm:List AV->Option (Bool×AV)
 |[.agg [.ah 43 ds, .ah 48 a], .ah 51 xs]=>some (a.all fg&&iJ xs, .bool (ki ds a xs))
 |_=>none
theorem pFm κ:cd (BFm κ).E 12 23 gFm:=by
 intro c x a;unfold gFm at a;split at a
 ·rename_i ds b xs
  simp only[ar7,as3,ar5] at a;obtain⟨⟨f,g⟩,rfl⟩:=a;refine⟨_,rfl,rfl,Eq.mpr (yFm κ ds b xs _) (ai.2 ⟨f,?_⟩)⟩;unfold ki;rw[ae,Bool.not_eq_true',as6];refine⟨fun e=>by rw[e];rfl,fun e=>?_⟩;rw[e,at2,ae,bne_iff_ne,bne_eq_false_iff_eq];refine⟨fun d=>by rw[ar8 (by omega)];rfl,fun d=>⟨rfl,⟨ds,b,xs,0⟩,rfl,⟨Nat.zero_le _,by simp only;omega,g⟩,?_⟩⟩;rw[as0 (by omega),at2]
  simp_all[as4,ae]
 ·cases a
noncomputable def BFn κ:=(BFm κ).pure (pFm _)
def RI v:=v=e6 (Ew v)/\bif (Ew v).y then(Ew v).n=0 else(Ew v).s=ByteArray.mk #[]
def uI(r:List _):=∀v,v∈r->RI v
def fN(L:RL):=∀r,r∈L->uI r
theorem Q6{v w}(d:RI v)(e:RI w)(h:oc v w=0):v=w:=by
 obtain⟨g,j⟩:=d;obtain⟨f,k⟩:=e;rw[g,f] at h⊢;generalize Ew v=a at*
 generalize Ew w=b at*
 obtain⟨y,n,s⟩:=a;obtain⟨i,c,s'⟩:=b;cases y<;>cases i
 ·obtain rfl:=Ky.1 (show yy n c=0 from h)
  grind
 ·cases(show(-1:Int)=0 from h)
 ·cases(show(1:Int)=0 from h)
 ·obtain rfl:=Kz.1 (show Bg s s'=0 from h)
  grind
theorem po: ∀{l m},uI l->uI m->bz l m=0->l=m
 |[],[],_,_,_=>rfl
 |[],_::_,_,_,h=>by simp[bz,qu] at h
 |_::_,[],_,_,h=>by simp[bz,qu] at h
 | a::l,b::m,d,f,h=>by
  simp only[bz,qu] at h;by_cases e:oc a b=0
  ·rw[as0 e] at h
   rw[Q6 (d a (by simp)) (f b (by simp)) e,po (fun v c=>d v (by simp[c])) (fun v c=>f v (by simp[c])) h]
  grind
theorem da{a}{l:RL}:cG (a::l)=true↔(∀b,b∈l->bz a b<0)/\cG l=true:=by
 induction l generalizing a with
 |nil=>simp[cG]
 |cons b l f=>
  rw[cG,ar5,ar4,f];refine⟨fun⟨e,g,h⟩=>⟨fun c d=>?_,g,h⟩,by grind⟩;rcases List.mem_cons.1 d with rfl|d
  ·exact e
  ·exact bQ.Ki e (by grind)
theorem zF: ∀{l m},cG l=true->cG m=true->(∀r,r∈l↔r∈m)->l=m
 |[],[],_,_,_=>rfl
 |[],b::m,_,_,h=>by have:=(h b).2 (by simp);simp at this
 |a::l,[],_,_,h=>by have:=(h a).1 (by simp);simp at this
 | a ::l,b::m,i,k,h=>by
  obtain⟨c,g⟩:=da.1 i;obtain⟨d,j⟩:=da.1 k;have e:a=b:=by
   rcases List.mem_cons.1 ((h a).1 (by simp)) with e|e
   ·exact e
   ·rcases List.mem_cons.1 ((h b).2 (by simp)) with f|f
    ·exact f.symm
    ·have:=d a e
     have:=c b f
     rw[bQ.swap b a] at this;omega
  subst e;rw[zF g j fun r=>?_];have n:=h r;simp only[at4] at n;have p:r∈l->r≠a:=fun q e=>by
   subst e;have:=c r q
   rw[bQ.self] at this;omega
  have o:r∈m->r≠a:=fun q e=>by
   subst e;have:=d r q
   rw[bQ.self] at this;omega
  grind
def yr(r:List AV):RL->RL
 |[]=>[r]
 |a::l=>bif decide (bz r a<0) then r::a::l else bif decide (bz r a=0) then a::l else a::yr r l
def eo(L:RL):RL:=L.foldr yr []
theorem wF{r x}: ∀{l},uI r->fN l->(x∈yr r l↔x=r\/x∈l)
 |[],_,_=>by simp[yr]
 | a::l,c,d=>by
  have g:=wF (x:=x) c (l:=l) fun s e=>d s (by simp[e])
  rw[yr];by_cases f:bz r a<0
  ·grind
  ·rw[ar8 f]
   by_cases b:bz r a=0
   ·rw[as0 b,as1,po c (d a (by simp)) b]
    simp
   grind
theorem yY{r}: ∀{l},uI r->fN l->cG l=true->cG (yr r l)=true
 |[],_,_,_=>rfl
 | a::l,f,k,h=>by
  obtain⟨m,g⟩:=da.1 h;have d:fN l:=fun s j=>k s (by simp[j])
  rw[yr];by_cases e:bz r a<0
  ·rw[as0 e,as1]
   refine da.2 ⟨fun b c=>?_,h⟩;rcases List.mem_cons.1 c with rfl|c
   ·exact e
   ·exact bQ.Ki e (by grind)
  ·rw[ar8 e,ar9]
   by_cases i:bz r a=0
   ·grind
   ·rw[ar8 i,ar9]
    refine da.2 ⟨fun b c=>?_,yY f d g⟩;rcases(wF f d).1 c with rfl|c
    ·rw[bQ.swap b a];omega
    ·exact m b c
theorem kc: ∀{L},fN L->cG (eo L)=true/\(∀r,r∈eo L↔r∈L)/\fN (eo L)
 |[],h=>⟨rfl,fun _=>Iff.rfl,h⟩
 |a::L,h=>by
  have f:fN L:=fun s d=>h s (by grind)
  obtain⟨g,i,b⟩:=kc f;have e:=h a (by simp);have c: ∀r,r∈yr a _↔r∈a::L:=fun r=>by rw[wF e b,i,at4]
  exact⟨yY e b g,c,fun s d=>h s ((c s).1 d)⟩
theorem Ps{L M}(a:fN L)(b:cG M=true)(c: ∀r,r∈M↔r∈L):M=eo L:=
 zF b (kc a).1 fun r=>(c r).trans ((kc a).2.1 r).symm
theorem wL: ∀p l,uI p->fN l->(∀b,b∈l->bz p b<=0)->Up l 0 l.length->cG (p::jR p l)=true/\∀r,r∈p::jR p l↔r∈p::l
 |p,[],_,_,_,_=>⟨rfl,fun _=>Iff.rfl⟩
 | p,b::l,u,o,n,q=>by
  have t:=o b (by simp);have m:fN l:=fun s v=>o s (by simp[v])
  have g:Up l 0 l.length:=fun i j h k w=>by
   have:=q (i+1) (j+1) (by omega) (by omega) (by simp;omega)
   simpa[rat] using this
  have a: ∀c,c∈l->bz b c<=0:=fun c d=>by
   obtain⟨j,x,rfl⟩:=List.getElem_of_mem d;have:=q 0 (j+1) (by omega) (by omega) (by simp;omega)
   simpa[rat,x] using this
  obtain⟨h,k⟩:=wL b l t m a g;rw[jR];by_cases e:bz b p=0
  ·rw[show(bz b p==0)=true by simpa using e,as1]
   obtain rfl:=po t u e;exact⟨h,fun r=>by rw[k r];simp⟩
  ·rw[show(bz b p==0)=false by simpa using e,ar9]
   have f:bz p b<0:=by
    have w:=n b (by simp);have y:=bQ.swap p b;omega
   refine⟨da.2 ⟨fun c d=>?_,h⟩,by grind⟩;rcases List.mem_cons.1 ((k c).1 d) with rfl|d
   ·exact f
   ·exact bQ.Ki f (a c d)
theorem Q8{L M}(l:fN L)(k:M.Perm L)(e:Up M 0 L.length):j2 M=eo L:=by
 have d:fN M:=fun r m=>l r (k.mem_iff.1 m)
 have c:=k.length_eq;refine Ps l ?_ fun r=>?_
 ·cases M with
  |nil=>rfl
  | cons a M=>exact(wL a M (d a (by simp)) (fun s g=>d s (by simp[g])) (fun b h=>by
    obtain⟨j,f,rfl⟩:=List.getElem_of_mem h;have:=e 0 (j+1) (by omega) (by omega) (by rw[←c];simp;omega)
    simpa[rat,f] using this) (fun i j o p n=>by
    have:=e (i+1) (j+1) (by omega) (by omega) (by rw[←c];simp;omega)
    simpa[rat] using this)).1
 ·rw[←k.mem_iff]
  cases M with
  |nil=>exact Iff.rfl
  | cons a M=>exact(wL a M (d a (by simp)) (fun s g=>d s (by simp[g])) (fun b h=>by
    obtain⟨j,f,rfl⟩:=List.getElem_of_mem h;have:=e 0 (j+1) (by omega) (by omega) (by rw[←c];simp;omega)
    simpa[rat,f] using this) (fun i j o p n=>by
    have:=e (i+1) (j+1) (by omega) (by omega) (by rw[←c];simp;omega)
    simpa[rat] using this)).2 r
theorem an5 κ: ∀a st K,aO D3 (fun L=>L.length<=100000000/\fq L) N4 a st K->b7 (Pr κ) 80 a st K:=fun a st K h=>gP (Uz _).ok (Uz _).mono (cCo _ _ _ K h)
noncomputable def ag8 κ:=(BFn κ).mat [(0,some 70)] aI (an8 _)
noncomputable def BSo(κ:Kp):EB:=(ag8 κ).mat [(0,some 70)] aI (an5 κ)
theorem ySo κ L K:(a0 (BSo κ).E 12 36 [.ah 70 (rws L)] [] K)=(
 letI b:=Obj.row
 (NG (rws L)=true->∃(a:RL),([AV.ak 0 0 0,AV.bm 54 []],[b 70 []])=D7 a/\pI a/\∀(y:RL),(List.Perm y a/\∀(i j:Nat),0<=i->i
 <j->j<a.length->bz (rat y i) (rat y j)<=(0:Int))->∃(a:RL),([AV.ak 0 0 0,AV.bm 81 []],[b 70 []])=D3 a/\(a.length<=100000000/\
 fq a)/\∀(y:List AV),True->∃(a_2:List AV),([AV.ah 70 (rws (j2 a))],[])=WH a_2/\eM a_2=true/\K (AV.ah 70 (rws (cU a_2))) [])/\aV
 (decide ((0+List.length (rws L)+1)*25<=70368744177664)) (∃(a:RL),([AV.ak 0 0 (0+List.length (rws L)),AV.bm 54 []],[b 70 ([]++rws L)])
 =D7 a/\pI a/\∀(y:RL),(List.Perm y a/\∀(i j:Nat),0<=i->i<j->j<a.length->bz (rat y i) (rat y j)<=(0:Int))->∃(a:RL),([AV.ak
 0 0 (0+List.length (rws L)),AV.bm 81 []],[b 70 (rws y)])=D3 a/\(a.length<=100000000/\fq a)/\∀(y:List AV),True->∃(a_2:List AV),
 ([AV.ah 70 (rws (j2 a))],[])=WH a_2/\eM a_2=true/\K (AV.ah 70 (rws (cU a_2))) [])):=by kernel_rfl
theorem rk{L}(h:L.length<=100000000)(b: ∀r,r∈L->r.length<=100000000):eM (rws L)=true:=by
 simp only[eM,dX,ar5,ar4,List.all_eq_true];refine⟨h,fun x c=>?_⟩;obtain⟨r,a,rfl⟩:=List.mem_map.1 c;exact b r a
structure vt(L:RL):Prop where
 n:L.length<=100000000
 s: ∀r,r∈L->r.length<=100000000
 v:fN L
theorem vt.short{L}(h:vt L):fq L:=fun r a=>by have:=h.s r a;grind [aW]
theorem sa: ∀L,(eo L).length<=L.length
 |[]=>Nat.le_refl _
 | a::L=>by
  have h: ∀l,(yr a l).length<=l.length+1:=fun l=>by
   induction l with
   |nil=>exact Nat.le_refl _
   |cons b l d=>
    grind [yr]
  have c:=sa L
  grind [eo]
theorem R9{L}(h:vt L):vt (eo L):=
 ⟨Nat.le_trans (sa L) h.n,fun r a=>h.s r (((kc h.v).2.1 r).1 a),(kc h.v).2.2⟩
def SG(L:RL):List AV×List Dn.Obj:=([.ah 70 (rws L)],[])
def Z9(L:RL):Out (AV×List Dn.Obj):= .one (.ah 70 (rws (eo L)),[])
theorem cSo κ:bc (BSo κ).E 12 36 (aO SG vt Z9):=by
 refine aR ?_;rintro L K h i;have j:=R9 h;have c:K (.ah 70 (rws (cU (rws (eo L))))) []:=by rw[jL];exact i
 refine Eq.mpr (ySo κ L K) ⟨fun e=>?_,ai.2 ⟨by have:=h.n;simp;omega,L,?_,⟨h.n,h.short⟩,fun M d=>?_⟩⟩
 ·cases L with
  |nil=>
   refine⟨[],rfl,⟨Nat.zero_le _,fun r b=>(nomatch b)⟩,fun M d=>?_⟩;exact⟨[],rfl,⟨Nat.zero_le _,fun r b=>(nomatch b)⟩,fun k _=>⟨[],rfl,rfl,i⟩⟩
  |cons a L=>cases e
 ·simp only[D7,dX,Nat.zero_add,List.nil_append]
 ·have f:M.Perm L:=d.1
  have g:=f.length_eq;refine⟨M,?_,⟨by rw[g];exact h.n,fo h.short f⟩,fun k _=>⟨rws (eo L),?_,rk j.n j.s,c⟩⟩
  ·simp only[D3,dX,Nat.zero_add,g]
  ·rw[Q8 h.v f d.2];rfl
noncomputable def ag9 κ:=((BSo κ).call (cSo _)).calm [36]
end Go.Proofs.YtioeffnadipbaaaGreatDoor
namespace Go.Proofs.YtioeffnadipbaaaGreatDoor
open Go Go.Dn Go.Rl Go.Proofs Go.Shelf
attribute [local irreducible] a0 vc
set_option maxRecDepth 20000
abbrev dG:=List (ByteArray×eU)
abbrev cP(e:dG):AV:= .eO 9 72 (e.map fun x=>Value.string x.1) (e.map fun x=>e6 x.2)
def dG.put:dG->ByteArray->eU->dG
 |[],s,v=>[(s,v)]
 |(t,w)::e,s,v=>bif decide (s=t) then(s,v)::e else(t,w)::dG.put e s v
def dG.get:dG->ByteArray->eU
 |[],_=>⟨false,0,ByteArray.mk #[]⟩
 |(t,w)::e,s=>bif decide (s=t) then w else dG.get e s
abbrev prE(e:dG):=e.map fun x=>(Value.string x.1,e6 x.2)
theorem P4: ∀e,(e.map fun x=>Value.string x.1).zip (e.map fun x=>e6 x.2)=prE e
 |[]=>rfl
 |x::e=>by
  grind
theorem VU s t:ef (.string s) (.string t)=decide (s=t):=by
 show(s==t)=_
 grind
theorem PV s v: ∀e,eE (prE e) (.string s) (e6 v)=prE (e.put s v)
 |[]=>rfl
 |(t,w)::e=>by
  have a:=PV s v e
  grind [eE,VU,dG.put]
theorem MQ s: ∀e,c6 (prE e) (.string s) (e6 ⟨false,0,ByteArray.mk #[]⟩)=e6 (e.get s)
 |[]=>rfl
 |(t,w)::e=>by
  have a:=MQ s e
  grind [c6,VU,dG.get]
structure Ev where
 e:dG
 s:ByteArray
 v:eU
def qO(x:Ev):List AV×List Dn.Obj:=([cP x.e, .lit (.string x.s),e6 x.v],[])
def aa8(x:Ev):Out (AV×List Dn.Obj):= .one (cP (x.e.put x.s x.v),[])
def YO(c:Int):List eU->eU
 |[a,b]=>⟨false,bif c==5 then IntKind.wrap .i64 (a.n+b.n) else bif c==6 then IntKind.wrap .i64 (a.n - b.n) else IntKind.wrap .i64 (a.n*b.n),ByteArray.mk #[]⟩
 |_=>⟨false,0,ByteArray.mk #[]⟩
mutual
def bK(e:dG):Tm->eU
 | .mk op s n l=>bif op==1 then e.get s else bif op==2 then⟨false,n,ByteArray.mk #[]⟩ else bif op==3 then⟨true,0,s⟩ else YO op (Un e l)
def Un(e:dG):List Tm->List eU
 |[]=>[]
 |t::l=>bK e t::Un e l
end
def bL:Tm->Bool
 | .mk c _ _ l=>c==1||(c==2||(c==3||match l with|[a,b]=>bL a&&bL b|_=>false))
structure gy where
 e:dG
 t:AT
def dS(x:gy):List AV×List Dn.Obj:=([cP x.e,dn x.t],[])
def qK n(x:gy):=x.t.tm.mL=n/\bL x.t.tm=true
def TS(x:gy):Out (AV×List Dn.Obj):= .one (e6 (bK x.e x.t.tm),[])
def Wy n:=aO dS (qK n) TS
theorem MY{t:AT}(d:(t.op==1)=false)(c:(t.op==2)=false)(e:(t.op==3)=false)(h:bL t.tm=true): ∃a b,t.l=[a,b]/\bL (cI a)=true/\bL (cI b)=true:=by
 obtain⟨f,s,n,l⟩:=t;simp only[AT.tm] at h;match l,h with
 |[a,b],h=>
  simp only[aa,at3,List.map_nil,bL,d,c,e,Bool.false_or] at h
  grind
 |[],h=>simp[aa,bL,d,c,e] at h
 |[_],h=>simp[aa,bL,d,c,e] at h
 |_::_::_::_,h=>simp[aa,bL,d,c,e] at h
theorem PX e c s n a b(g:(c==1)=false)(d:(c==2)=false)(f:(c==3)=false):bK e (AT.mk c s n [a,b]).tm=⟨false,bif c==5 then IntKind.wrap .i64 ((bK e (eG a).tm).n+(bK e (eG b).tm).n) else bif c==6 then IntKind.wrap .i64 ((bK e (eG a).tm).n - (bK e (eG b).tm).n) else IntKind.wrap .i64 ((bK e (eG a).tm).n*(bK e (eG b).tm).n),ByteArray.mk #[]⟩:=by
 rw[iB,iB,AT.tm];rw[bK,g,d,f];rfl
end Go.Proofs.YtioeffnadipbaaaGreatDoor
namespace Go.Proofs.YtioeffnadipbaaaGreatDoor
open Go Go.Dn Go.Rl Go.Proofs
attribute [local irreducible] a0 vc
set_option maxRecDepth 20000
abbrev BI:=List AV×Bool×Bool
def VS(a:List AV)(f:RL->List BI):RL->List BI
 |[]=>(a,true,false)::f []
 |b::c=>bif decide (bz a b<0) then(a,true,false)::f (b::c) else bif decide (bz a b=0) then(a,true,true)::f c else(b,false,true)::VS a f c
def fX:RL->RL->List BI
 |[],c=>c.map fun b=>(b,false,true)
 |a::d,c=>VS a (fX d) c
def et(A B:RL):RL:=(fX A B).map (·.1)
theorem B4 B:et [] B=B:=by
 rw[et,fX,List.map_map];exact List.map_id' B
theorem B3 a(b:RL):et (a::b) []=a::et b []:=rfl
theorem B2 a b(d c:RL):et (a::d) (b::c)=bif decide (bz a b<0) then a::et d (b::c) else bif decide (bz a b=0) then a::et d c else b::et (a::d) c:=by
 grind [et,fX,VS]
theorem gu{A B r}(f:fN A)(g:fN B):r∈et A B↔r∈A\/r∈B:=by
 match A,B with
 |[],B=>rw[B4];simp
 |a::i,[]=>
  rw[B3,at4,gu (fun s d=>f s (by simp[d])) g,at4,or_assoc]
 | a::i,b::k=>
  have c:fN i:=fun s d=>f s (by simp[d])
  have e:fN k:=fun s d=>g s (by simp[d])
  rw[B2];by_cases j:bz a b<0
  ·rw[as0 j,as1,at4,gu c g,at4,at4,or_assoc]
  ·rw[ar8 j,ar9]
   by_cases h:bz a b=0
   ·obtain rfl:=po (f a (by simp)) (g b (by simp)) h
    rw[as0 h,as1,at4,gu c e,at4,at4]
    grind
   ·rw[ar8 h,ar9,at4,gu f e,at4,at4]
    grind
termination_by A.length+B.length
theorem mG{A B}(j:fN A)(g:fN B)(o:cG A=true)(m:cG B=true):cG (et A B)=true:=by
 match A,B with
 |[],B=>rw[B4];exact m
 |a::n,[]=>
  have e:fN n:=fun s h=>j s (by simp[h])
  obtain⟨i,k⟩:=da.1 o;rw[B3];refine da.2 ⟨fun c d=>?_,mG e g k m⟩;rcases(gu e g).1 d with d|d
  ·exact i c d
  ·cases d
 | a ::n,b::u=>
  have e:fN n:=fun s h=>j s (by simp[h])
  have f:fN u:=fun s h=>g s (by simp[h])
  obtain⟨i,k⟩:=da.1 o;obtain⟨p,r⟩:=da.1 m;rw[B2];by_cases l:bz a b<0
  ·rw[as0 l,as1]
   refine da.2 ⟨fun c d=>?_,mG e g k m⟩;rcases(gu e g).1 d with d|d
   ·exact i c d
   ·rcases List.mem_cons.1 d with rfl|d
    ·exact l
    ·exact bQ.Ki l (Int.le_of_lt (p c d))
  ·rw[ar8 l,ar9]
   by_cases q:bz a b=0
   ·obtain rfl:=po (j a (by simp)) (g b (by simp)) q
    rw[as0 q,as1];refine da.2 ⟨fun c d=>?_,mG e f k r⟩;rcases(gu e f).1 d with d|d
    ·exact i c d
    ·exact p c d
   ·rw[ar8 q,ar9]
    have t:bz b a<0:=by have:=bQ.swap a b;omega
    refine da.2 ⟨fun c d=>?_,mG j f o r⟩;rcases(gu j f).1 d with d|d
    ·rcases List.mem_cons.1 d with rfl|d
     ·exact t
     ·exact bQ.Ki t (Int.le_of_lt (i c d))
    ·exact p c d
termination_by A.length+B.length
noncomputable abbrev U2(κ:Kp):EB:=ag9 κ
abbrev WS V m(i:Nat):=sp 25 [(0, .ah 2 V),(3, .int m),(4, .int i)] []
theorem xMn κ V m i I N K:(vc (U2 κ).E 12 126 none 0 (ad (Pr κ).toProgram 126 5) (WS V m i) (bj (U2 κ).E 126 5 0 I N K))=(
 letI a:=(↑i:Int)<(↑(V.length):Int)
 letI b:=nth V (Int.toNat (↑i:Int))
 aq (decide a) (aV (true&&decide a) (∃(e0:Nat),e0<N/\I e0 (sp 25 [(0,AV.ah 2 V),(3,AV.int (if toInt b<m then toInt b else m)),(4,AV.int
 (IntKind.wrap IntKind.i64 ((↑i:Int)+(1:Int))))] []))) (K (Exit.exit 0) (sp 25 [(3,AV.int m)] []))):=by kernel_rfl
structure Xd where
 V:List AV
 m:Int
 i:Nat
abbrev I7(x:Xd):S:=WS x.V x.m x.i
def BO(x:Xd):=x.i<=x.V.length/\x.V.length<=100000000
def Nx m(l:List _):=l.foldl (fun m x=>if toInt x<m then toInt x else m) m
def TG(x:Xd):Out (Exit×S):= .one (.exit 0,sp 25 [(3, .int (Nx x.m (x.V.drop x.i)))] [])
theorem lMn κ:aU (U2 κ).E 12 126 5 (aG 0 I7 BO TG):=by
 refine aC (fun x=>x.V.length - x.i) ?_;rintro⟨V,m,i⟩ K ⟨d,c⟩ a;simp only at d c;rw[show(U2 κ).E.P=Pr κ from rfl];refine Eq.mpr (xMn κ V m i _ _ K) ?_;rw[ae,ar4,ar6];simp only[TG,Out.run] at a;refine⟨fun h=>ai.2 ⟨by simp;omega,_,?_,⟨V,if toInt (nth V i)<m then toInt (nth V i) else m,i+1⟩,?_,⟨by simp only;omega,c⟩,rfl,?_⟩,fun h=>?_⟩
 ·simp only;omega
 ·rw[az (n:=(i:Int)+1) (by omega) (by omega)];rfl
 ·have b:i<V.length:=by omega
  rw[as5 b,←aM V i b] at a;exact a
 ·rw[as2 (by omega)] at a
  exact a
noncomputable def UT κ:=(U2 κ).loop (lMn _)
theorem yMn κ V K:(a0 (UT κ).E 12 126 [.ah 2 V] [] K)=(
 letI a:=Pg.toProgram (Env.P (EB.E (U2 κ)))
 aq (decide ((↑(V.length):Int)<(1:Int))) False (aV (true&&decide ((0:Int)<(↑(V.length):Int))) (ad a 126 5=ad a 126 5/\∃(e0:Xd),sp 25 [(0,
 AV.ah 2 V),(3,AV.int (toInt (nth V 0))),(4,AV.int 1)] []=I7 e0/\BO e0/\K (AV.int (Nx e0.m (List.drop e0.i e0.V))) []))):=by kernel_rfl
def gMn:List AV->Option (Bool×AV)
 |[.ah 2 V]=>some (decide (1<=V.length)&&decide (V.length<=100000000), .int (Nx (toInt (nth V 0)) (V.drop 1)))
 |_=>none
theorem pMn κ:cd (UT κ).E 12 126 gMn:=by
 intro b x a;unfold gMn at a;split at a
 ·rename_i V
  simp only[ar7,as3,ar5,ar4] at a;obtain⟨⟨d,c⟩,rfl⟩:=a;refine⟨_,rfl,rfl,Eq.mpr (yMn κ V _) (ae.2 ⟨by grind,fun _=>ai.2 ⟨by simp;omega,rfl,⟨V,_,1⟩,rfl,⟨d,c⟩,rfl⟩⟩)⟩
 ·cases a
noncomputable def US(κ:Kp):EB:=(UT κ).pure (pMn κ)
theorem xMg κ V m i I N K:(vc (US κ).E 12 127 none 0 (ad (Pr κ).toProgram 127 5) (WS V m i) (bj (US κ).E 127 5 0 I N K))=(
 letI a:=(↑i:Int)<(↑(V.length):Int)
 letI b:=nth V (Int.toNat (↑i:Int))
 aq (decide a) (aV (true&&decide a) (∃(e0:Nat),e0<N/\I e0 (sp 25 [(0,AV.ah 2 V),(3,AV.int (if toInt b>m then toInt b else m)),(4,AV.int
 (IntKind.wrap IntKind.i64 ((↑i:Int)+(1:Int))))] []))) (K (Exit.exit 0) (sp 25 [(3,AV.int m)] []))):=by kernel_rfl
def Nu m(l:List _):=l.foldl (fun m x=>if toInt x>m then toInt x else m) m
def TF(x:Xd):Out (Exit×S):= .one (.exit 0,sp 25 [(3, .int (Nu x.m (x.V.drop x.i)))] [])
theorem lMg κ:aU (US κ).E 12 127 5 (aG 0 I7 BO TF):=by
 refine aC (fun x=>x.V.length - x.i) ?_;rintro⟨V,m,i⟩ K ⟨d,c⟩ a;simp only at d c;rw[show(US κ).E.P=Pr κ from rfl];refine Eq.mpr (xMg κ V m i _ _ K) ?_;rw[ae,ar4,ar6];simp only[TF,Out.run] at a;refine⟨fun h=>ai.2 ⟨by simp;omega,_,?_,⟨V,if toInt (nth V i)>m then toInt (nth V i) else m,i+1⟩,?_,⟨by simp only;omega,c⟩,rfl,?_⟩,fun h=>?_⟩
 ·simp only;omega
 ·rw[az (n:=(i:Int)+1) (by omega) (by omega)];rfl
 ·have b:i<V.length:=by omega
  rw[as5 b,←aM V i b] at a;exact a
 ·rw[as2 (by omega)] at a
  exact a
noncomputable def LD κ:=(US κ).loop (lMg _)
theorem yMg κ V K:(a0 (LD κ).E 12 127 [.ah 2 V] [] K)=(
 letI a:=Pg.toProgram (Env.P (EB.E (US κ)))
 aq (decide ((↑(V.length):Int)<(1:Int))) False (aV (true&&decide ((0:Int)<(↑(V.length):Int))) (ad a 127 5=ad a 127 5/\∃(e0:Xd),sp 25 [(0,
 AV.ah 2 V),(3,AV.int (toInt (nth V 0))),(4,AV.int 1)] []=I7 e0/\BO e0/\K (AV.int (Nu e0.m (List.drop e0.i e0.V))) []))):=by kernel_rfl
def gMg:List AV->Option (Bool×AV)
 |[.ah 2 V]=>some (decide (1<=V.length)&&decide (V.length<=100000000), .int (Nu (toInt (nth V 0)) (V.drop 1)))
 |_=>none
theorem pMg κ:cd (LD κ).E 12 127 gMg:=by
 intro b x a;unfold gMg at a;split at a
 ·rename_i V
  simp only[ar7,as3,ar5,ar4] at a;obtain⟨⟨d,c⟩,rfl⟩:=a;refine⟨_,rfl,rfl,Eq.mpr (yMg κ V _) (ae.2 ⟨by grind,fun _=>ai.2 ⟨by simp;omega,rfl,⟨V,_,1⟩,rfl,⟨d,c⟩,rfl⟩⟩)⟩
 ·cases a
noncomputable def ag7(κ:Kp):EB:=(LD κ).pure (pMg κ)
end Go.Proofs.YtioeffnadipbaaaGreatDoor
