import Derived.Test.YtioeffnadipbaaaGreatDoorDePB
namespace Go.Proofs.YtioeffnadipbaaaGreatDoor
open Go Go.Dn Go.Rl Go.Proofs
attribute [local irreducible] a9 vc
set_option maxRecDepth 20000
def jP:List AV->RL->RL
 |_,[]=>[]
 |p,b::l=>bif bE b p==0 then jP b l else b::jP b l
def ka:RL->RL
 |[]=>[]
 |a::l=>a::jP a l
theorem xCi κ L(n0 k k0 k2:Nat) I n K:(vc (Uu κ).E 12 80 none 1 (ae (Pr κ).toProgram 80 9) (sp 66 [(0, .an 0 0 L.length),(1, .bn 81 []),(5, .int k),(6, .an 0 k0 n0),(7, .int k2)] [.row 70 (rws L)]) (bj (Uu κ).E 80 9 1 I n K))=(
 letI a:=IntKind.wrap IntKind.i64
 letI b:=AV.int
 letI c:=ag (nth (rws L) (k0+Int.toNat (↑k2:Int)))
 letI d:=(↑k2:Int)<(↑n0:Int)
 letI f:=a ((↑k2:Int)+(1:Int))
 letI e:=(↑k2:Int) - (1:Int)
 ak (decide d) (aR (true&&decide d) (aR (decide ((0:Int)<=a e)&&decide (a e<(↑n0:Int))) (aR (decide
 (List.length c<=9223372036854775807)) (ak (!bE c (ag (nth (rws L) (k0+Int.toNat (a e))))==(0:Int)) (aR (true&&decide d) (aR
 (true&&decide ((↑k:Int)<(↑(L.length):Int))) (∃(e0:Nat),e0<n/\I e0 (sp 66 [(0,AV.an 0 0 L.length),(1,AV.bn 81 []),(5,b (IntKind.wrap
 IntKind.i64 ((↑k:Int)+(1:Int)))),(6,AV.an 0 k0 n0),(7,b f)] [Obj.row 70 (bt (rws L) (0+Int.toNat (↑k:Int)) (AV.ah 72 c))])))) (∃(e0:
 Nat),e0<n/\I e0 (sp 66 [(0,AV.an 0 0 L.length),(1,AV.bn 81 []),(5,b (↑k:Int)),(6,AV.an 0 k0 n0),(7,b f)] [Obj.row 70 (rws L)])))))) (K
 (Exit.exit 2) (sp 66 [(0,AV.an 0 0 L.length),(5,b (↑k:Int))] [Obj.row 70 (rws L)]))):=by kernel_rfl
structure ACi where
 L0:RL
 L:RL
 n0:Nat
 k0:Nat
 k:Nat
 k2:Nat
abbrev QG(x:ACi):=sp 66 [(0, .an 0 0 x.L.length),(1, .bn 81 []),(5, .int x.k),(6, .an 0 x.k0 x.n0),(7, .int x.k2)] [.row 70 (rws x.L)]
structure Y4(x:ACi):Prop where
 len:x.L.length=x.L0.length/\x.L0.length=x.k0+x.n0
 k:x.k0<=x.k/\x.k+1<=x.k0+x.k2
 k2:1<=x.k2/\x.k2<=x.n0
 l:x.L0.length<=100000000
 s:ft x.L0
 o: ∀j,x.k0+x.k2<=j+1->rat x.L j=rat x.L0 j
 e:ka x.L0=x.L.take x.k++jP (rat x.L0 (x.k0+x.k2 - 1)) (x.L0.drop (x.k0+x.k2))
def YZ(x:ACi):Out (Exit×S):= .all (fun r:Nat×RL=>r.2.length=x.L0.length/\r.1<=x.L0.length/\r.2.take r.1=ka x.L0) fun r=> .one (.exit 2,sp 66 [(0, .an 0 0 r.2.length),(5, .int r.1)] [.row 70 (rws r.2)])
theorem lCi κ:aX (Uu κ).E 12 80 9 (aG 1 QG Y4 YZ):=by
 refine aD (fun x=>x.n0 - x.k2) ?_;rintro⟨c,L,m,b,k,a⟩ K ⟨p,r,s,l,g,f,d⟩ o;simp only at p r s l g f d;rw[show(Uu κ).E.P=Pr κ from rfl];refine Eq.mpr (xCi κ L m k b a _ _ K) ?_;rw[ad,an9,ao1];refine⟨fun h=>?_,fun h=>?_⟩
 ·have q:b+a<c.length:=by omega
  rw[az (n:=(a:Int) - 1) (by omega) (by omega),az (n:=(a:Int)+1) (by omega) (by omega),az (n:=(k:Int)+1) (by omega) (by omega),show b+(a:Int).toNat=b+a by omega,show b+((a:Int) - 1).toNat=b+a - 1 by omega,Nat.zero_add,Int.toNat_natCast,fK,fK,vg,f (b+a) (by omega),f (b+a - 1) (by omega)];rw[ap0 q,←zU q,jP] at d;refine ai.2 ⟨by simp;omega,ai.2 ⟨by simp;omega,ai.2 ⟨ao5 (kE g _),ad.2 ⟨fun e=>?_,fun e=>?_⟩⟩⟩⟩
  ·have e:(bE (rat c (b+a)) (rat c (b+a - 1))==0)=false:=by simpa using e
   rw[e,ao4] at d;refine ai.2 ⟨by simp;omega,ai.2 ⟨by simp;omega,_,?_,⟨c,L.set k (rat c (b+a)),m,b,k+1,a+1⟩,?_,⟨by simp only[List.length_set];omega,by simp only;omega,by simp only;omega,l,g,fun j i=>?_,?_⟩,rfl,o⟩⟩
   ·simp only;omega
   ·simp only[QG,List.length_set];rfl
   ·simp only at i
    rw[Hg _ _ _ _ (by omega),if_neg (by omega)];exact f j (by omega)
   ·simp only
    rw[d,show b+(a+1) - 1=b+a by omega,List.take_succ_eq_append_getElem (by rw[List.length_set];omega)];rw[List.getElem_set_self,List.take_set_of_le (Nat.le_refl _)];simp[Nat.add_assoc]
  ·have e:(bE (rat c (b+a)) (rat c (b+a - 1))==0)=true:=by simpa using e
   rw[e,ao6] at d;refine⟨_,?_,⟨c,L,m,b,k,a+1⟩,rfl,⟨p,by simp only;omega,by simp only;omega,l,g,fun j i=>f j (by simp only at i;omega),?_⟩,rfl,o⟩
   ·simp only;omega
   ·simp only
    rw[d,show b+(a+1) - 1=b+a by omega];rfl
 ·refine o (k,L) ⟨p.1,by simp only;omega,?_⟩
  rw[ao7 (by omega),jP,List.append_nil] at d;exact d.symm
noncomputable def UF κ:=(Uu κ).loop (lCi _)
theorem xCo κ L(k:Nat) I n K:(vc (UF κ).E 12 80 none 1 (ae (Pr κ).toProgram 80 4) (sp 66 [(0, .an 0 0 L.length),(1, .bn 81 []),(5, .int k)] [.row 70 (rws L)]) (bj (UF κ).E 80 4 1 I n K))=(
 letI a:=IntKind.wrap IntKind.i64
 letI b:=Obj.row
 letI d:=(↑k:Int) - (1:Int)
 letI e:=ag (nth (rws L) (0+Int.toNat (↑k:Int)))
 letI f:=(↑k:Int)<(↑(L.length):Int)
 letI g:=Pg.toProgram (Env.P (EB.E (Uu κ)))
 ak (decide f) (aR (true&&decide f) (aR (decide ((0:Int)<=a d)&&decide (a d<(↑(L.length):Int))) (aR (decide (List.length e<=9223372036854775807)) (ak (bE e (ag (nth (rws L) (0+Int.toNat (a d))))==(0:Int)) (aR (true&&decide ((↑k:Int)<=(↑(L.length):Int))&&decide ((↑(L.length):Int)<=(↑(L.length):Int))) (ae g 80 9=ae g 80 9/\∃(e1:ACi),sp 66 [(0,AV.an 0 0 L.length),(1,AV.bn 81 []),(5,AV.int (↑k:Int)),(6,AV.an 0 (0+Int.toNat (↑k:Int)) (Int.toNat ((↑(L.length):Int) - (↑k:Int)))),(7,AV.int 1)] [b 70 (rws L)]=QG e1/\Y4 e1/\∀(e0:Nat×RL),letI c:=e0.2.length;letI h:=(↑(e0.1):Int)<=(↑c:Int);e0.2.length=e1.L0.length/\e0.1<=e1.L0.length/\List.take e0.1 e0.2=ka e1.L0->aR (true&&decide h&&decide ((↑c:Int)<=(↑c:Int))) (aR (true&&decide h) (K Exit.ret (sp 66 [(4,AV.an 0 0 (Int.toNat ((↑(e0.1):Int) - (0:Int))))] [b 70 (db (rws e0.2) (0+Int.toNat (↑(e0.1):Int)) (Int.toNat ((↑c:Int) - (↑(e0.1):Int))) AV.nil)]))))) (∃(e0:Nat),e0<n/\I e0 (sp 66 [(0,AV.an 0 0 L.length),(1,AV.bn 81 []),(5,AV.int (a ((↑k:Int)+(1:Int))))] [b 70 (rws L)])))))) (K (Exit.exit 0) (sp 66 [(0,AV.an 0 0 L.length)] [b 70 (rws L)]))):=by kernel_rfl
structure ACo where
 L:RL
 k:Nat
abbrev Xp(x:ACo):=sp 66 [(0, .an 0 0 x.L.length),(1, .bn 81 []),(5, .int x.k)] [.row 70 (rws x.L)]
def Yw(x:ACo):=(1<=x.k/\x.k<=x.L.length)/\x.L.length<=100000000/\ft x.L/\ka x.L=x.L.take x.k++jP (rat x.L (x.k - 1)) (x.L.drop x.k)
def Od(x:ACo):Out (Exit×S):= .ak (decide ((ka x.L).length=x.L.length)) (.one (.exit 0,sp 66 [(0, .an 0 0 x.L.length)] [.row 70 (rws x.L)]))
 (.all (fun a=>(ka x.L).length<=a.length/\a.take (ka x.L).length=rws (ka x.L)) fun a=> .one (.ret,sp 66 [(4, .an 0 0 (ka x.L).length)] [.row 70 a]))
theorem tg: ∀p l,(jP p l).length<=l.length
 |_,[]=>Nat.le_refl _
 |p,b::l=>by
  have:=tg b l
  grind [jP]
theorem zQ: ∀p l,(jP p l).length=l.length->jP p l=l
 |_,[],_=>rfl
 | p,b::l,h=>by
  have a:=tg b l;rw[jP] at h⊢;cases e:bE b p==0 with
  |true=>grind
  |false=>
   rw[e,ao4,List.length_cons,List.length_cons] at h;rw[ao4,zQ b l (by omega)]
theorem rf z: ∀xs k m,(db xs k m z).take k=xs.take k
 |[],_,_=>by rfl
 |a::l,0,_=>by rfl
 |a::l,k+1,m=>by
  have:=rf z l k m
  grind [db]
theorem qo z: ∀xs k m,(db xs k m z).length=xs.length
 |[],_,_=>by rfl
 |a::l,0,0=>rfl
 |a::l,0,m+1=>by simp[db,qo z l 0 m]
 |a::l,k+1,m=>by simp[db,qo z l k m]
theorem lCo κ:aX (UF κ).E 12 80 4 (aG 1 Xp Yw Od):=by
 refine aD (fun x=>x.L.length - x.k) ?_;rintro⟨L,k⟩ K ⟨l,i,g,a⟩ f;simp only at l i g a;rw[show(UF κ).E.P=Pr κ from rfl];refine Eq.mpr (xCo κ L k _ _ K) ?_;simp only[Od,Out.run,ad,an9,ao1] at f;rw[ad,an9,ao1];refine⟨fun h=>?_,fun h=>?_⟩
 ·have d:k<L.length:=by omega
  rw[az (n:=(k:Int) - 1) (by omega) (by omega),az (n:=(k:Int)+1) (by omega) (by omega),show 0+((k:Int) - 1).toNat=k - 1 by omega,Nat.zero_add,Int.toNat_natCast,fK,fK];rw[ap0 d,←zU d,jP] at a;refine ai.2 ⟨by simp;omega,ai.2 ⟨by simp;omega,ai.2 ⟨ao5 (kE g _),ad.2 ⟨fun e=>?_,fun e=>?_⟩⟩⟩⟩
  ·rw[e,ao6] at a
   have p:(ka L).length<L.length:=by
    have:=tg (rat L k) (L.drop (k+1))
    rw[a,ap4,List.length_take];rw[List.length_drop] at this;omega
   refine ai.2 ⟨by simp;omega,rfl,⟨L,L,L.length - k,k,k,1⟩,?_,⟨⟨rfl,by simp only;omega⟩,⟨Nat.le_refl _,Nat.le_refl _⟩,⟨Nat.le_refl _,by simp only;omega⟩,i,g,fun _ _=>rfl,?_⟩,fun r q=>?_⟩
   ·simp only[QG,show((L.length:Int) - k).toNat=L.length - k by omega];rfl
   ·simp only[Nat.add_sub_cancel]
    exact a
   ·obtain⟨b,M⟩:=r
    obtain⟨m,o,j⟩:=q;simp only at m o j;have c:(ka L).length=b:=by rw[←j,List.length_take];omega
    simp only;refine ai.2 ⟨by simp;omega,ai.2 ⟨by simp;omega,?_⟩⟩;have:=f.2 (by omega) (db (rws M) b ((M.length:Int) - b).toNat .nil) ⟨by rw[qo,dZ];omega,by rw[c,rf,←List.map_take,j]⟩
    rw[c] at this;rw[show((b:Int) - 0).toNat=b by omega,show 0+(b:Int).toNat=b by omega];exact this
  ·rw[e,ao4] at a
   refine⟨_,?_,⟨L,k+1⟩,rfl,⟨by simp only;omega,i,g,?_⟩,rfl,?_⟩
   ·simp only;omega
   ·simp only[Nat.add_sub_cancel]
    rw[a,List.take_succ_eq_append_getElem d,←zU d];simp
   ·simp only[Od,Out.run,ad,an9,ao1]
    exact f
 ·rw[ao7 (by omega),jP,List.append_nil,List.take_of_length_le (by omega)] at a
  exact f.1 (by rw[a])
noncomputable def Wr κ:=(UF κ).loop (lCo _)
theorem af3 κ L K:(a9 (Wr κ).E 12 80 [.an 0 0 L.length, .bn 81 []] [.row 70 (rws L)] K)=(
 letI a:=Pg.toProgram (Env.P (EB.E (UF κ)))
 ak (decide ((↑(L.length):Int)<(2:Int))) (K (AV.ah 70 (List.take L.length (List.drop 0 (rws L)))) [Obj.lx 70 (rws L)]) (ae a 80 4=ae a 80 4/\∃(e1:
 ACo),sp 66 [(0,AV.an 0 0 L.length),(1,AV.bn 81 []),(5,AV.int 1)] [Obj.row 70 (rws L)]=Xp e1/\Yw e1/\ak (decide (List.length (ka e1.L)=e1.L.length))
 (K (AV.ah 70 (List.take e1.L.length (List.drop 0 (rws e1.L)))) [Obj.lx 70 (rws e1.L)]) (∀(e0:List AV),List.length (ka e1.L)<=e0.length/\List.take
 (List.length (ka e1.L)) e0=rws (ka e1.L)->K (AV.ah 70 (List.take (List.length (ka e1.L)) (List.drop 0 e0))) [Obj.lx 70 e0]))):=by kernel_rfl
def Es(L:RL):List AV×List Dn.Obj:=([.an 0 0 L.length, .bn 81 []],[.row 70 (rws L)])
def MX(L:RL):Out (AV×List Dn.Obj):= .all (fun _=>True) fun a=> .one (.ah 70 (rws (ka L)),[.lx 70 a])
theorem cCo κ:bg (Wr κ).E 12 80 (aO Es (fun L=>L.length<=100000000/\ft L) MX):=by
 refine aU ?_;rintro L K ⟨i,j⟩ d;refine Eq.mpr (af3 κ L K) ?_;have d: ∀c,K (.ah 70 (rws (ka L))) [.lx 70 c]:=fun c=>d c trivial
 rw[ad,an9,ao1];refine⟨fun h=>?_,fun h=>⟨rfl,⟨L,1⟩,rfl,⟨by simp only;omega,i,j,?_⟩,ad.2 ⟨fun e=>?_,fun e c f=>?_⟩⟩⟩
 ·have e:ka L=L:=by
   match L,h with
   |[],_=>rfl
   |[a],_=>rfl
   |a::b::l,h=>simp at h;omega
  have:=d (rws L)
  rw[e] at this;rw[ao9,←dZ,List.take_length];exact this
 ·match L,h with
  |[],h=>simp at h
  |a::l,_=>rfl
 ·rw[an9] at e
  have g:ka L=L:=by
   match L,h with
   |a::l,_=>
    simp only[ka,List.length_cons,Nat.add_right_cancel_iff] at e;rw[ka,zQ _ _ e]
  have:=d (rws L)
  rw[g] at this;simp only;rw[ao9,←dZ,List.take_length];exact this
 ·simp only at f
  rw[ao9,f.2];exact d c
theorem yTy κ v k K:(a9 (Wr κ).E 12 97 [e6 v, .int k] [] K)=(
 ak (k==(1:Int)) (K (AV.lit (Value.bool (v.y==false&&(v.n==v.n&&(ByteArray.toList v.s==ByteArray.toList {data:= #[]}&&true))))) []) (K (AV.lit (Value.bool (v.y==true&&(v.n==(0:Int)&&(ByteArray.toList v.s==ByteArray.toList v.s&&true))))) [])):=by kernel_rfl
def WU(v:eV)(k:Int):=bif k==1 then !v.y&&decide (v.s=ByteArray.mk #[]) else v.y&&decide (v.n=0)
def gTy:List AV->Option (Bool×AV)
 |[.agg [.lit (.bool y), .lit (.int .i64 n), .lit (.string s)], .lit (.int .i64 k)]=>some (true, .bool (WU ⟨y,n,s⟩ k))
 |_=>none
theorem X3 s t:(ByteArray.toList s==ByteArray.toList t)=decide (s=t):=by
 rw[Bool.eq_iff_iff,beq_iff_eq,an9];exact toList_inj
theorem pTy κ:cg (Wr κ).E 12 97 gTy:=by
 intro b x a;unfold gTy at a;split at a
 ·rename_i y n s k
  simp only[ao2,ao8,true_and] at a;subst a;refine⟨_,rfl,rfl,Eq.mpr (yTy κ ⟨y,n,s⟩ k _) (ad.2 ⟨fun e=>?_,fun e=>?_⟩)⟩
  ·simp only[WU,e,ao6,X3]
   cases y<;>simp
  simp_all[WU,ao4,X3,Xd]
 ·cases a
noncomputable def Vw κ:=EB.Kl ((Wr κ).pure (pTy _)) [97,49,23]
theorem xFj κ xs t rel ns ts a o li(j i:Nat) I n K:(vc (Vw κ).E 12 49 none 0 (ae (Pr κ).toProgram 49 7) (sp 40 [(1, .ah 70 xs),(2, .ptr 0 0 [] 0),(9, .ah 70 xs),(10, .int xs.length),(11, .int j),(21, .ah 72 t),(22, .int t.length),(23, .int i)] [.box 43 (.agg [.lit (.string rel), .ah 9 ns, .ah 3 ts, .bool a, .bool o, .int li])]) (bj (Vw κ).E 49 7 0 I n K))=(
 letI b:=AV.int
 letI c:=AV.ah
 letI e:=AV.agg [AV.str rel,c 9 ns,c 3 ts,AV.bool a,AV.bool o,b li]
 letI d:=Int.toNat (↑i:Int)
 letI f:=(↑i:Int)<(↑(t.length):Int)
 ak (decide f) (aR (true&&decide f) (aR (true&&decide ((↑i:Int)<(↑(ts.length):Int))) (ak (!WU {y:=Dn.toBool (af (nth t d) 0),n:=toInt (af (nth t d) 1),s:=toStr (af (nth t d) 2)} (toInt (nth ts d))) (K Exit.ret (sp 40 [(4,AV.bool false)] [])) (∃(e0:Nat),e0<n/\I e0 (sp 40 [(1,c 70 xs),(2,AV.ptr 0 0 [] 0),(9,c 70 xs),(10,b (↑(xs.length):Int)),(11,b (↑j:Int)),(21,c 72 t),(22,b (↑(t.length):Int)),(23,b (IntKind.wrap IntKind.i64 ((↑i:Int)+(1:Int))))] [Obj.box 43 e]))))) (K (Exit.exit 2) (sp 40 [(1,c 70 xs),(2,AV.ptr 0 0 [] 0),(9,c 70 xs),(10,b (↑(xs.length):Int)),(11,b (↑j:Int))] [Obj.box 43 e]))):=by kernel_rfl
def Jp:List AV->List AV->Bool
 |[],[]=>true
 |v::t,k::a=>WU (EA v) (toInt k)&&Jp t a
 |_,_=>false
theorem B3: ∀t a,Jp t a=true->t.length=a.length
 |[],[],_=>rfl
 |v::t,k::a,h=>by
  simp[Jp] at h;simp[B3 t _ h.2]
 |[],_::_,h=>by grind [Jp]
 |_::_,[],h=>by grind [Jp]
structure AFj where
 xs:List AV
 t:List AV
 d:U6
 j:Nat
 i:Nat
abbrev Yr(x:AFj):=sp 40 [(1, .ah 70 x.xs),(2, .ptr 0 0 [] 0),(9, .ah 70 x.xs),(10, .int x.xs.length),(11, .int x.j),(21, .ah 72 x.t),(22, .int x.t.length),(23, .int x.i)] [.box 43 (TI x.d)]
def Mh(x:AFj):=x.t.length=x.d.types.length/\x.i<=x.t.length/\x.t.length<=100000000
def Pc(x:AFj):Out (Exit×S):= .ak (Jp (x.t.drop x.i) (x.d.types.drop x.i)) (.one (.exit 2,sp 40 [(1, .ah 70 x.xs),(2, .ptr 0 0 [] 0),(9, .ah 70 x.xs),(10, .int x.xs.length),(11, .int x.j)] [.box 43 (TI x.d)])) (.one (.ret,sp 40 [(4, .bool false)] []))
theorem lFj κ:aX (Vw κ).E 12 49 7 (aG 0 Yr Mh Pc):=by
 refine aD (fun x=>x.t.length - x.i) ?_;rintro⟨xs,t,⟨d,m,c,a,o,g⟩,j,i⟩ K ⟨k,p,l⟩ b;simp only at k p l;rw[show(Vw κ).E.P=Pr κ from rfl];refine Eq.mpr (xFj κ xs t d m c a o g j i _ _ K) ?_;simp only[Pc,Out.run,ad] at b;rw[ad,an9,ao1];refine⟨fun h=>?_,fun h=>?_⟩
 ·have f:i<t.length:=by omega
  rw[ap0 f,←aV _ _ f,ap0 (show i<c.length by omega),←aV c i (by omega),Jp] at b;rw[Int.toNat_natCast,az (n:=(i:Int)+1) (by omega) (by omega)];refine ai.2 ⟨by simp;omega,ai.2 ⟨by simp;omega,?_⟩⟩;rw[show(⟨Dn.toBool (af (nth t i) 0),toInt (af (nth t i) 1),toStr (af (nth t i) 2)⟩:eV)=EA (nth t i) from rfl,ad,Bool.not_eq_true',ap1];refine⟨fun e=>b.2 (by rw[e];rfl),fun e=>?_⟩;rw[e,ap5] at b;refine⟨_,?_,⟨xs,t,⟨d,m,c,a,o,g⟩,j,i+1⟩,rfl,⟨k,f,l⟩,rfl,?_⟩
  ·simp only;omega
  ·simp only[Pc,Out.run,ad]
   exact b
 ·rw[ao7 (show t.length<=i by omega),ao7 (show c.length<=i by omega)] at b
  exact b.1 rfl
noncomputable def VL κ:=(Vw κ).loop (lFj _)
theorem xFk κ xs d(j:Nat) I n K:(vc (VL κ).E 12 49 none 0 (ae (Pr κ).toProgram 49 2) (sp 40 [(1, .ah 70 xs),(2, .ptr 0 0 [] 0),(9, .ah 70 xs),(10, .int xs.length),(11, .int j)] [.box 43 (TI d)]) (bj (VL κ).E 49 2 0 I n K))=(
 letI a:=AV.int
 letI b:=AV.bool
 letI c:=AV.ah
 letI e:=ag (nth xs (Int.toNat (↑j:Int)))
 letI f:=K Exit.ret (sp 40 [(4,b false)] [])
 letI g:=(↑j:Int)<(↑(xs.length):Int)
 letI h:=Pg.toProgram (Env.P (EB.E (Vw κ)))
 ak (decide g) (aR (true&&decide g) (ak ((↑(List.length e):Int) != (↑(d.types.length):Int)) f (ae h 49 7=ae h 49 7/\∃(e1:AFj),sp 40 [(1,c
 70 xs),(2,AV.ptr 0 0 [] 0),(9,c 70 xs),(10,a (↑(xs.length):Int)),(11,a (↑j:Int)),(21,c 72 e),(22,a (↑(List.length e):
 Int)),(23,a 0)] [Obj.box 43 (AV.agg [AV.str d.rel,c 9 d.names,c 3 d.types,b d.i,b d.o,a d.line])]=Yr e1/\Mh e1/\ak (Jp
 (List.drop e1.i e1.t) (List.drop e1.i e1.d.types)) (∃(e0:Nat),e0<n/\I e0 (sp 40 [(1,c 70 e1.xs),(2,AV.ptr 0 0 [] 0),(9,c 70 e1.xs),(10,
 a (↑(e1.xs.length):Int)),(11,a (IntKind.wrap IntKind.i64 ((↑(e1.j):Int)+(1:Int))))] [Obj.box 43 (AV.agg [AV.str e1.d.rel,c 9
 e1.d.names,c 3 e1.d.types,b e1.d.i,b e1.d.o,a e1.d.line])])) f))) (K (Exit.exit 0) (sp 40 [(1,c 70 xs)] []))):=by kernel_rfl
structure AFk where
 xs:List AV
 d:U6
 j:Nat
abbrev Yx(x:AFk):=sp 40 [(1, .ah 70 x.xs),(2, .ptr 0 0 [] 0),(9, .ah 70 x.xs),(10, .int x.xs.length),(11, .int x.j)] [.box 43 (TI x.d)]
def Xb(xs a:List _):=xs.all fun x=>Jp (ag x) a
def Nw(x:AFk):Out (Exit×S):= .ak (Xb (x.xs.drop x.j) x.d.types) (.one (.exit 0,sp 40 [(1, .ah 70 x.xs)] [])) (.one (.ret,sp 40 [(4, .bool false)] []))
theorem lFk κ:aX (VL κ).E 12 49 2 (aG 0 Yx (fun x=>x.j<=x.xs.length/\fC x.xs=true) Nw):=by
 refine aD (fun x=>x.xs.length - x.j) ?_;rintro⟨xs,d,j⟩ K ⟨g,b⟩ a;simp only at g b;rw[show(VL κ).E.P=Pr κ from rfl];refine Eq.mpr (xFk κ xs d j _ _ K) ?_;have i:=jV b;simp only[Nw,Out.run,ad] at a;rw[ad,an9,ao1];refine⟨fun h=>?_,fun h=>?_⟩
 ·have f:j<xs.length:=by omega
  rw[ap0 f,←aV _ _ f,Xb,List.all_cons,←Xb] at a;rw[Int.toNat_natCast];refine ai.2 ⟨by simp;omega,?_⟩;rw[ad,bne_iff_ne,bne_eq_false_iff_eq];refine⟨fun e=>a.2 ?_,fun e=>⟨rfl,⟨xs,ag (nth xs j),d,j,0⟩,rfl,⟨by simp only;omega,Nat.zero_le _,lV b j⟩,?_⟩⟩
  ·rw[show Jp (ag (nth xs j)) d.types=false from by
    grind [Jp,ag,nth,B3],Bool.false_and]
  ·simp only[ao9]
   rw[az (n:=(j:Int)+1) (by omega) (by omega),ad];refine⟨fun c=>⟨_,?_,⟨xs,d,j+1⟩,rfl,⟨f,b⟩,rfl,?_⟩,fun c=>a.2 (by rw[c];rfl)⟩
   ·simp only;omega
   ·rw[c,ap5] at a
    simp only[Nw,Out.run,ad];exact a
 ·rw[ao7 (by omega)] at a
  exact a.1 rfl
noncomputable def BFk κ:=(VL κ).loop (lFk _)
theorem yFk κ xs d K:(a9 (BFk κ).E 12 49 [TI d, .ah 70 xs] [] K)=(
 letI a:=AV.bool
 letI b:=Pg.toProgram (Env.P (EB.E (VL κ)))
 ae b 49 2=ae b 49 2/\∃(e0:AFk),sp 40 [(1,AV.ah 70 xs),(2,AV.ptr 0 0 [] 0),(9,AV.ah 70 xs),(10,AV.int (↑(xs.length):Int)),(11,AV.int 0)]
 [Obj.box 43 (AV.agg [AV.str d.rel,AV.ah 9 d.names,AV.ah 3 d.types,a d.i,a d.o,AV.int d.line])]=Yx e0/\(e0.j<=e0.xs.length/\fC e0.xs=
 true)/\ak (Xb (List.drop e0.j e0.xs) e0.d.types) (aR (fC e0.xs) (K (a (dN (dn e0.xs))) [])) (K (a false) [])):=by kernel_rfl
def zC xs a:=Xb xs a&&dN (dn xs)
def gFk:List AV->Option (Bool×AV)
 |[.agg [.lit (.string _), .ah 9 _, .ah 3 a, .lit (.bool _), .lit (.bool _), .lit (.int .i64 _)], .ah 70 xs]=>some (fC xs, .bool (zC xs a))
 |_=>none
theorem pFk κ:cg (BFk κ).E 12 49 gFk:=by
 intro e x c;unfold gFk at c;split at c
 ·rename_i b d f a o g xs
  simp only[ao2,ao8] at c;obtain⟨h,rfl⟩:=c;refine⟨_,rfl,rfl,Eq.mpr (yFk κ xs ⟨b,d,f,a,o,g⟩ _) ⟨rfl,⟨xs,⟨b,d,f,a,o,g⟩,0⟩,rfl,⟨Nat.zero_le _,h⟩,?_⟩⟩
  simp_all[ao9,zC,ad,ai,ap5,Bool.false_and]
 ·cases c
noncomputable def Wx κ:=(BFk κ).pure (pFk _)
theorem xFm κ ds rs xs(i:Nat) I n K:(vc (Wx κ).E 12 23 none 0 (ae (Pr κ).toProgram 23 4) (sp 34 [(2, .ptr 0 0 [] 0),(18, .ah 51 xs),(19, .int xs.length),(20, .int i)] [.box 25 (eg ds rs)]) (bj (Wx κ).E 23 4 0 I n K))=(
 letI a:=Int.toNat (↑i:Int)
 letI b:=(↑i:Int)<(↑(xs.length):Int)
 ak (decide b) (aR (true&&decide b) (aR (true&&decide ((↑i:Int)<(↑(ds.length):Int))) (aR (fC (ag (nth xs a))) (ak (!zC (ag (nth xs a)) (ag (af (nth
 ds a) 2))) (K Exit.ret (sp 34 [(4,AV.bool false)] [])) (∃(e0:Nat),e0<n/\I e0 (sp 34 [(2,AV.ptr 0 0 [] 0),(18,AV.ah 51 xs),(19,AV.int (↑(xs.length)
 :Int)),(20,AV.int (IntKind.wrap IntKind.i64 ((↑i:Int)+(1:Int))))] [Obj.box 25 (AV.agg [AV.ah 43 ds,AV.ah 48 rs])])))))) (K (Exit.exit 0) (sp 34 []
 []))):=by kernel_rfl
structure AFm where
 ds:List AV
 rs:List AV
 xs:List AV
 i:Nat
abbrev ab3(x:AFm):=sp 34 [(2, .ptr 0 0 [] 0),(18, .ah 51 x.xs),(19, .int x.xs.length),(20, .int x.i)] [.box 25 (eg x.ds x.rs)]
def w9:List AV->List AV->Bool
 |[],_=>true
 |x::xs,d::ds=>zC (ag x) (ag (af d 2))&&w9 xs ds
 |_::_,[]=>false
def c6(xs:List _):=decide (xs.length<=100000000)&&xs.all fun x=>fC (ag x)
def PT(x:AFm):Out (Exit×S):= .ak (w9 (x.xs.drop x.i) (x.ds.drop x.i)) (.one (.exit 0,sp 34 [] [])) (.one (.ret,sp 34 [(4, .bool false)] []))
theorem oa{xs}(h:c6 xs=true) i:fC (ag (nth xs i))=true:=by
 simp[c6] at h;rcases Nat.lt_or_ge i xs.length with a|a
 ·grind [aV]
 ·rw[fS _ _ a];rfl
theorem lFm κ:aX (Wx κ).E 12 23 4 (aG 0 ab3 (fun x=>x.i<=x.xs.length/\x.xs.length=x.ds.length/\c6 x.xs=true) PT):=by
 refine aD (fun x=>x.xs.length - x.i) ?_;rintro⟨ds,f,xs,i⟩ K ⟨g,d,b⟩ a;simp only at g d b;rw[show(Wx κ).E.P=Pr κ from rfl];refine Eq.mpr (xFm κ ds f xs i _ _ K) ?_;have j:xs.length<=100000000:=by
  simp only[c6,ao0,an9] at b;exact b.1
 simp only[PT,Out.run,ad] at a;rw[ad,an9,ao1];refine⟨fun h=>?_,fun h=>?_⟩
 ·have c:i<xs.length:=by omega
  rw[ap0 c,←aV _ _ c,ap0 (show i<ds.length by omega),←aV ds i (by omega),w9] at a;rw[Int.toNat_natCast,az (n:=(i:Int)+1) (by omega) (by omega)];refine ai.2 ⟨by simp;omega,ai.2 ⟨by simp;omega,ai.2 ⟨oa b i,?_⟩⟩⟩;rw[ad,Bool.not_eq_true',ap1];refine⟨fun e=>a.2 (by rw[e];rfl),fun e=>?_⟩;rw[e,ap5] at a;refine⟨_,?_,⟨ds,f,xs,i+1⟩,rfl,⟨c,d,b⟩,rfl,?_⟩
  ·simp only;omega
  ·simp only[PT,Out.run,ad]
   exact a
 ·rw[ao7 (show xs.length<=i by omega)] at a
  exact a.1 rfl
noncomputable def BFm κ:=(Wx κ).loop (lFm _)
theorem yFm κ ds rs xs K:(a9 (BFm κ).E 12 23 [eg ds rs, .ah 51 xs] [] K)=(
 letI a:=K (AV.bool false) []
 letI b:=Pg.toProgram (Env.P (EB.E (Wx κ)))
 aR (List.all rs fh) (ak (!fc ds rs) a (ak ((↑(xs.length):Int) != (↑(ds.length):Int)) a (ae b 23 4=ae b 23 4/\∃(e0:AFm),sp 34 [(2,AV.ptr 0 0 []
 0),(18,AV.ah 51 xs),(19,AV.int (↑(xs.length):Int)),(20,AV.int 0)] [Obj.box 25 (AV.agg [AV.ah 43 ds,AV.ah 48 rs])]=ab3 e0/\(e0.i<=e0.xs.length/\
 e0.xs.length=e0.ds.length/\c6 e0.xs=true)/\ak (w9 (List.drop e0.i e0.xs) (List.drop e0.i e0.ds)) (K (AV.bool true) []) a)))):=by kernel_rfl
def iK ds a xs:=fc ds a&&(decide (xs.length=ds.length)&&w9 xs ds)
def gFm:List AV->Option (Bool×AV)
 |[.agg [.ah 43 ds, .ah 48 a], .ah 51 xs]=>some (a.all fh&&c6 xs, .bool (iK ds a xs))
 |_=>none
theorem pFm κ:cg (BFm κ).E 12 23 gFm:=by
 intro c x a;unfold gFm at a;split at a
 ·rename_i ds b xs
  simp only[ao2,ao8,ao0] at a;obtain⟨⟨f,g⟩,rfl⟩:=a;refine⟨_,rfl,rfl,Eq.mpr (yFm κ ds b xs _) (ai.2 ⟨f,?_⟩)⟩;unfold iK;rw[ad,Bool.not_eq_true',ap1];refine⟨fun e=>by rw[e];rfl,fun e=>?_⟩;rw[e,ap5,ad,bne_iff_ne,bne_eq_false_iff_eq];refine⟨fun d=>by rw[ao3 (by omega)];rfl,fun d=>⟨rfl,⟨ds,b,xs,0⟩,rfl,⟨Nat.zero_le _,by simp only;omega,g⟩,?_⟩⟩;rw[ao5 (by omega),ap5]
  simp_all[ao9,ad]
 ·cases a
noncomputable def BFn κ:=(BFm κ).pure (pFm _)
def Qv v:=v=e6 (EA v)/\bif (EA v).y then(EA v).n=0 else(EA v).s=ByteArray.mk #[]
def uy(r:List _):=∀v,v∈r->Qv v
def iE(L:RL):=∀r,r∈L->uy r
theorem RC{v w}(d:Qv v)(e:Qv w)(h:oO v w=0):v=w:=by
 obtain⟨g,j⟩:=d;obtain⟨f,k⟩:=e;rw[g,f] at h⊢;generalize EA v=a at*
 generalize EA w=b at*
 obtain⟨y,n,s⟩:=a;obtain⟨i,c,s'⟩:=b;cases y<;>cases i
 ·obtain rfl:=Ki.1 (show yy n c=0 from h)
  grind
 ·cases(show(-1:Int)=0 from h)
 ·cases(show(1:Int)=0 from h)
 ·obtain rfl:=Kw.1 (show B8 s s'=0 from h)
  grind
theorem ri: ∀{l m},uy l->uy m->bE l m=0->l=m
 |[],[],_,_,_=>rfl
 |[],_::_,_,_,h=>by simp[bE,qm] at h
 |_::_,[],_,_,h=>by simp[bE,qm] at h
 | a::l,b::m,d,f,h=>by
  simp only[bE,qm] at h;by_cases e:oO a b=0
  ·rw[ao5 e] at h
   rw[RC (d a (by simp)) (f b (by simp)) e,ri (fun v c=>d v (by simp[c])) (fun v c=>f v (by simp[c])) h]
  grind
theorem dW{a}{l:RL}:dN (a::l)=true↔(∀b,b∈l->bE a b<0)/\dN l=true:=by
 induction l generalizing a with
 |nil=>simp[dN]
 |cons b l f=>
  rw[dN,ao0,an9,f];refine⟨fun⟨e,g,h⟩=>⟨fun c d=>?_,g,h⟩,by grind⟩;rcases List.mem_cons.1 d with rfl|d
  ·exact e
  ·exact b8.KT e (by grind)
theorem tf: ∀{l m},dN l=true->dN m=true->(∀r,r∈l↔r∈m)->l=m
 |[],[],_,_,_=>rfl
 |[],b::m,_,_,h=>by have:=(h b).2 (by simp);simp at this
 |a::l,[],_,_,h=>by have:=(h a).1 (by simp);simp at this
 | a ::l,b::m,i,k,h=>by
  obtain⟨c,g⟩:=dW.1 i;obtain⟨d,j⟩:=dW.1 k;have e:a=b:=by
   rcases List.mem_cons.1 ((h a).1 (by simp)) with e|e
   ·exact e
   ·rcases List.mem_cons.1 ((h b).2 (by simp)) with f|f
    ·exact f.symm
    ·have:=d a e
     have:=c b f
     rw[b8.swap b a] at this;omega
  subst e;rw[tf g j fun r=>?_];have n:=h r;simp only[ap7] at n;have p:r∈l->r≠a:=fun q e=>by
   subst e;have:=c r q
   rw[b8.self] at this;omega
  have o:r∈m->r≠a:=fun q e=>by
   subst e;have:=d r q
   rw[b8.self] at this;omega
  grind
def yE(r:List AV):RL->RL
 |[]=>[r]
 |a::l=>bif decide (bE r a<0) then r::a::l else bif decide (bE r a=0) then a::l else a::yE r l
def eM(L:RL):RL:=L.foldr yE []
theorem v5{r x}: ∀{l},uy r->iE l->(x∈yE r l↔x=r\/x∈l)
 |[],_,_=>by simp[yE]
 | a::l,c,d=>by
  have g:=v5 (x:=x) c (l:=l) fun s e=>d s (by simp[e])
  rw[yE];by_cases f:bE r a<0
  ·grind
  ·rw[ao3 f]
   by_cases b:bE r a=0
   ·rw[ao5 b,ao6,ri c (d a (by simp)) b]
    simp
   grind
theorem z0{r}: ∀{l},uy r->iE l->dN l=true->dN (yE r l)=true
 |[],_,_,_=>rfl
 | a::l,f,k,h=>by
  obtain⟨m,g⟩:=dW.1 h;have d:iE l:=fun s j=>k s (by simp[j])
  rw[yE];by_cases e:bE r a<0
  ·rw[ao5 e,ao6]
   refine dW.2 ⟨fun b c=>?_,h⟩;rcases List.mem_cons.1 c with rfl|c
   ·exact e
   ·exact b8.KT e (by grind)
  ·rw[ao3 e,ao4]
   by_cases i:bE r a=0
   ·grind
   ·rw[ao3 i,ao4]
    refine dW.2 ⟨fun b c=>?_,z0 f d g⟩;rcases(v5 f d).1 c with rfl|c
    ·rw[b8.swap b a];omega
    ·exact m b c
theorem kW: ∀{L},iE L->dN (eM L)=true/\(∀r,r∈eM L↔r∈L)/\iE (eM L)
 |[],h=>⟨rfl,fun _=>Iff.rfl,h⟩
 |a::L,h=>by
  have f:iE L:=fun s d=>h s (by grind)
  obtain⟨g,i,b⟩:=kW f;have e:=h a (by simp);have c: ∀r,r∈yE a _↔r∈a::L:=fun r=>by rw[v5 e b,i,ap7]
  exact⟨z0 e b g,c,fun s d=>h s ((c s).1 d)⟩
theorem Ob{L M}(a:iE L)(b:dN M=true)(c: ∀r,r∈M↔r∈L):M=eM L:=
 tf b (kW a).1 fun r=>(c r).trans ((kW a).2.1 r).symm
theorem xl: ∀p l,uy p->iE l->(∀b,b∈l->bE p b<=0)->Up l 0 l.length->dN (p::jP p l)=true/\∀r,r∈p::jP p l↔r∈p::l
 |p,[],_,_,_,_=>⟨rfl,fun _=>Iff.rfl⟩
 | p,b::l,u,o,n,q=>by
  have t:=o b (by simp);have m:iE l:=fun s v=>o s (by simp[v])
  have g:Up l 0 l.length:=fun i j h k w=>by
   have:=q (i+1) (j+1) (by omega) (by omega) (by simp;omega)
   simpa[rat] using this
  have a: ∀c,c∈l->bE b c<=0:=fun c d=>by
   obtain⟨j,x,rfl⟩:=List.getElem_of_mem d;have:=q 0 (j+1) (by omega) (by omega) (by simp;omega)
   simpa[rat,x] using this
  obtain⟨h,k⟩:=xl b l t m a g;rw[jP];by_cases e:bE b p=0
  ·rw[show(bE b p==0)=true by simpa using e,ao6]
   obtain rfl:=ri t u e;exact⟨h,fun r=>by rw[k r];simp⟩
  ·rw[show(bE b p==0)=false by simpa using e,ao4]
   have f:bE p b<0:=by
    have w:=n b (by simp);have y:=b8.swap p b;omega
   refine⟨dW.2 ⟨fun c d=>?_,h⟩,by grind⟩;rcases List.mem_cons.1 ((k c).1 d) with rfl|d
   ·exact f
   ·exact b8.KT f (a c d)
theorem P6{L M}(l:iE L)(k:M.Perm L)(e:Up M 0 L.length):ka M=eM L:=by
 have d:iE M:=fun r m=>l r (k.mem_iff.1 m)
 have c:=k.length_eq;refine Ob l ?_ fun r=>?_
 ·cases M with
  |nil=>rfl
  | cons a M=>exact(xl a M (d a (by simp)) (fun s g=>d s (by simp[g])) (fun b h=>by
    obtain⟨j,f,rfl⟩:=List.getElem_of_mem h;have:=e 0 (j+1) (by omega) (by omega) (by rw[←c];simp;omega)
    simpa[rat,f] using this) (fun i j o p n=>by
    have:=e (i+1) (j+1) (by omega) (by omega) (by rw[←c];simp;omega)
    simpa[rat] using this)).1
 ·rw[←k.mem_iff]
  cases M with
  |nil=>exact Iff.rfl
  | cons a M=>exact(xl a M (d a (by simp)) (fun s g=>d s (by simp[g])) (fun b h=>by
    obtain⟨j,f,rfl⟩:=List.getElem_of_mem h;have:=e 0 (j+1) (by omega) (by omega) (by rw[←c];simp;omega)
    simpa[rat,f] using this) (fun i j o p n=>by
    have:=e (i+1) (j+1) (by omega) (by omega) (by rw[←c];simp;omega)
    simpa[rat] using this)).2 r
theorem ah0 κ: ∀a st K,aO Es (fun L=>L.length<=100000000/\ft L) MX a st K->bZ (Pr κ) 80 a st K:=fun a st K h=>gW (Wr _).ok (Wr _).mono (cCo _ _ _ K h)
noncomputable def am9 κ:=(BFn κ).mat [(0,some 70)] aH (ai6 _)
noncomputable def BSo(κ:Kp):EB:=(am9 κ).mat [(0,some 70)] aH (ah0 κ)
theorem ySo κ L K:(a9 (BSo κ).E 12 36 [.ah 70 (rws L)] [] K)=(
 letI b:=Obj.row
 (LB (rws L)=true->∃(a:RL),([AV.an 0 0 0,AV.bn 54 []],[b 70 []])=Cr a/\pD a/\∀(y:RL),(List.Perm y a/\∀(i j:Nat),0<=i->i
 <j->j<a.length->bE (rat y i) (rat y j)<=(0:Int))->∃(a:RL),([AV.an 0 0 0,AV.bn 81 []],[b 70 []])=Es a/\(a.length<=100000000/\
 ft a)/\∀(y:List AV),True->∃(a_2:List AV),([AV.ah 70 (rws (ka a))],[])=VK a_2/\fC a_2=true/\K (AV.ah 70 (rws (dn a_2))) [])/\aR
 (decide ((0+List.length (rws L)+1)*25<=70368744177664)) (∃(a:RL),([AV.an 0 0 (0+List.length (rws L)),AV.bn 54 []],[b 70 ([]++rws L)])
 =Cr a/\pD a/\∀(y:RL),(List.Perm y a/\∀(i j:Nat),0<=i->i<j->j<a.length->bE (rat y i) (rat y j)<=(0:Int))->∃(a:RL),([AV.an
 0 0 (0+List.length (rws L)),AV.bn 81 []],[b 70 (rws y)])=Es a/\(a.length<=100000000/\ft a)/\∀(y:List AV),True->∃(a_2:List AV),
 ([AV.ah 70 (rws (ka a))],[])=VK a_2/\fC a_2=true/\K (AV.ah 70 (rws (dn a_2))) [])):=by kernel_rfl
theorem rX{L}(h:L.length<=100000000)(b: ∀r,r∈L->r.length<=100000000):fC (rws L)=true:=by
 simp only[fC,dZ,ao0,an9,List.all_eq_true];refine⟨h,fun x c=>?_⟩;obtain⟨r,a,rfl⟩:=List.mem_map.1 c;exact b r a
structure wA(L:RL):Prop where
 n:L.length<=100000000
 s: ∀r,r∈L->r.length<=100000000
 v:iE L
theorem wA.short{L}(h:wA L):ft L:=fun r a=>by have:=h.s r a;grind [aW]
theorem qX: ∀L,(eM L).length<=L.length
 |[]=>Nat.le_refl _
 | a::L=>by
  have h: ∀l,(yE a l).length<=l.length+1:=fun l=>by
   induction l with
   |nil=>exact Nat.le_refl _
   |cons b l d=>
    grind [yE]
  have c:=qX L
  grind [eM]
theorem Qx{L}(h:wA L):wA (eM L):=
 ⟨Nat.le_trans (qX L) h.n,fun r a=>h.s r (((kW h.v).2.1 r).1 a),(kW h.v).2.2⟩
def Q9(L:RL):List AV×List Dn.Obj:=([.ah 70 (rws L)],[])
def Xq(L:RL):Out (AV×List Dn.Obj):= .one (.ah 70 (rws (eM L)),[])
theorem cSo κ:bg (BSo κ).E 12 36 (aO Q9 wA Xq):=by
 refine aU ?_;rintro L K h i;have j:=Qx h;have c:K (.ah 70 (rws (dn (rws (eM L))))) []:=by rw[m9];exact i
 refine Eq.mpr (ySo κ L K) ⟨fun e=>?_,ai.2 ⟨by have:=h.n;simp;omega,L,?_,⟨h.n,h.short⟩,fun M d=>?_⟩⟩
 ·cases L with
  |nil=>
   refine⟨[],rfl,⟨Nat.zero_le _,fun r b=>(nomatch b)⟩,fun M d=>?_⟩;exact⟨[],rfl,⟨Nat.zero_le _,fun r b=>(nomatch b)⟩,fun k _=>⟨[],rfl,rfl,i⟩⟩
  |cons a L=>cases e
 ·simp only[Cr,dZ,Nat.zero_add,List.nil_append]
 ·have f:M.Perm L:=d.1
  have g:=f.length_eq;refine⟨M,?_,⟨by rw[g];exact h.n,fj h.short f⟩,fun k _=>⟨rws (eM L),?_,rX j.n j.s,c⟩⟩
  ·simp only[Es,dZ,Nat.zero_add,g]
  ·rw[P6 h.v f d.2];rfl
noncomputable def aj8 κ:=((BSo κ).call (cSo _)).calm [36]
end Go.Proofs.YtioeffnadipbaaaGreatDoor
namespace Go.Proofs.YtioeffnadipbaaaGreatDoor
open Go Go.Dn Go.Rl Go.Proofs Go.Shelf
attribute [local irreducible] a9 vc
set_option maxRecDepth 20000
abbrev dI:=List (ByteArray×eV)
abbrev cL(e:dI):AV:= .eQ 9 72 (e.map fun x=>Value.string x.1) (e.map fun x=>e6 x.2)
def dI.put:dI->ByteArray->eV->dI
 |[],s,v=>[(s,v)]
 |(t,w)::e,s,v=>bif decide (s=t) then(s,v)::e else(t,w)::dI.put e s v
def dI.get:dI->ByteArray->eV
 |[],_=>⟨false,0,ByteArray.mk #[]⟩
 |(t,w)::e,s=>bif decide (s=t) then w else dI.get e s
abbrev prE(e:dI):=e.map fun x=>(Value.string x.1,e6 x.2)
theorem N2: ∀e,(e.map fun x=>Value.string x.1).zip (e.map fun x=>e6 x.2)=prE e
 |[]=>rfl
 |x::e=>by
  grind
theorem Vk s t:ei (.string s) (.string t)=decide (s=t):=by
 show(s==t)=_
 grind
theorem ON s v: ∀e,eD (prE e) (.string s) (e6 v)=prE (e.put s v)
 |[]=>rfl
 |(t,w)::e=>by
  have a:=ON s v e
  grind [eD,Vk,dI.put]
theorem Mz s: ∀e,cX (prE e) (.string s) (e6 ⟨false,0,ByteArray.mk #[]⟩)=e6 (e.get s)
 |[]=>rfl
 |(t,w)::e=>by
  have a:=Mz s e
  grind [cX,Vk,dI.get]
structure Ex where
 e:dI
 s:ByteArray
 v:eV
def qx(x:Ex):List AV×List Dn.Obj:=([cL x.e, .lit (.string x.s),e6 x.v],[])
def Xu(x:Ex):Out (AV×List Dn.Obj):= .one (cL (x.e.put x.s x.v),[])
def YA(c:Int):List eV->eV
 |[a,b]=>⟨false,bif c==5 then IntKind.wrap .i64 (a.n+b.n) else bif c==6 then IntKind.wrap .i64 (a.n - b.n) else IntKind.wrap .i64 (a.n*b.n),ByteArray.mk #[]⟩
 |_=>⟨false,0,ByteArray.mk #[]⟩
mutual
def bK(e:dI):Tm->eV
 | .mk op s n l=>bif op==1 then e.get s else bif op==2 then⟨false,n,ByteArray.mk #[]⟩ else bif op==3 then⟨true,0,s⟩ else YA op (Tq e l)
def Tq(e:dI):List Tm->List eV
 |[]=>[]
 |t::l=>bK e t::Tq e l
end
def bL:Tm->Bool
 | .mk c _ _ l=>c==1||(c==2||(c==3||match l with|[a,b]=>bL a&&bL b|_=>false))
structure gC where
 e:dI
 t:AT
def dS(x:gC):List AV×List Dn.Obj:=([cL x.e,dm x.t],[])
def qB n(x:gC):=x.t.tm.mP=n/\bL x.t.tm=true
def TQ(x:gC):Out (AV×List Dn.Obj):= .one (e6 (bK x.e x.t.tm),[])
def UH n:=aO dS (qB n) TQ
theorem PF{t:AT}(d:(t.op==1)=false)(c:(t.op==2)=false)(e:(t.op==3)=false)(h:bL t.tm=true): ∃a b,t.l=[a,b]/\bL (cH a)=true/\bL (cH b)=true:=by
 obtain⟨f,s,n,l⟩:=t;simp only[AT.tm] at h;match l,h with
 |[a,b],h=>
  simp only[aa,ap6,List.map_nil,bL,d,c,e,Bool.false_or] at h
  grind
 |[],h=>simp[aa,bL,d,c,e] at h
 |[_],h=>simp[aa,bL,d,c,e] at h
 |_::_::_::_,h=>simp[aa,bL,d,c,e] at h
theorem NQ e c s n a b(g:(c==1)=false)(d:(c==2)=false)(f:(c==3)=false):bK e (AT.mk c s n [a,b]).tm=⟨false,bif c==5 then IntKind.wrap .i64 ((bK e (eI a).tm).n+(bK e (eI b).tm).n) else bif c==6 then IntKind.wrap .i64 ((bK e (eI a).tm).n - (bK e (eI b).tm).n) else IntKind.wrap .i64 ((bK e (eI a).tm).n*(bK e (eI b).tm).n),ByteArray.mk #[]⟩:=by
 rw[iC,iC,AT.tm];rw[bK,g,d,f];rfl
end Go.Proofs.YtioeffnadipbaaaGreatDoor
namespace Go.Proofs.YtioeffnadipbaaaGreatDoor
open Go Go.Dn Go.Rl Go.Proofs
attribute [local irreducible] a9 vc
set_option maxRecDepth 20000
abbrev BI:=List AV×Bool×Bool
def Uy(a:List AV)(f:RL->List BI):RL->List BI
 |[]=>(a,true,false)::f []
 |b::c=>bif decide (bE a b<0) then(a,true,false)::f (b::c) else bif decide (bE a b=0) then(a,true,true)::f c else(b,false,true)::Uy a f c
def jW:RL->RL->List BI
 |[],c=>c.map fun b=>(b,false,true)
 |a::d,c=>Uy a (jW d) c
def ew(A B:RL):RL:=(jW A B).map (·.1)
theorem B4 B:ew [] B=B:=by
 rw[ew,jW,List.map_map];exact List.map_id' B
theorem Bz a(b:RL):ew (a::b) []=a::ew b []:=rfl
theorem AN a b(d c:RL):ew (a::d) (b::c)=bif decide (bE a b<0) then a::ew d (b::c) else bif decide (bE a b=0) then a::ew d c else b::ew (a::d) c:=by
 grind [ew,jW,Uy]
theorem gy{A B r}(f:iE A)(g:iE B):r∈ew A B↔r∈A\/r∈B:=by
 match A,B with
 |[],B=>rw[B4];simp
 |a::i,[]=>
  rw[Bz,ap7,gy (fun s d=>f s (by simp[d])) g,ap7,or_assoc]
 | a::i,b::k=>
  have c:iE i:=fun s d=>f s (by simp[d])
  have e:iE k:=fun s d=>g s (by simp[d])
  rw[AN];by_cases j:bE a b<0
  ·rw[ao5 j,ao6,ap7,gy c g,ap7,ap7,or_assoc]
  ·rw[ao3 j,ao4]
   by_cases h:bE a b=0
   ·obtain rfl:=ri (f a (by simp)) (g b (by simp)) h
    rw[ao5 h,ao6,ap7,gy c e,ap7,ap7]
    grind
   ·rw[ao3 h,ao4,ap7,gy f e,ap7,ap7]
    grind
termination_by A.length+B.length
theorem ml{A B}(j:iE A)(g:iE B)(o:dN A=true)(m:dN B=true):dN (ew A B)=true:=by
 match A,B with
 |[],B=>rw[B4];exact m
 |a::n,[]=>
  have e:iE n:=fun s h=>j s (by simp[h])
  obtain⟨i,k⟩:=dW.1 o;rw[Bz];refine dW.2 ⟨fun c d=>?_,ml e g k m⟩;rcases(gy e g).1 d with d|d
  ·exact i c d
  ·cases d
 | a ::n,b::u=>
  have e:iE n:=fun s h=>j s (by simp[h])
  have f:iE u:=fun s h=>g s (by simp[h])
  obtain⟨i,k⟩:=dW.1 o;obtain⟨p,r⟩:=dW.1 m;rw[AN];by_cases l:bE a b<0
  ·rw[ao5 l,ao6]
   refine dW.2 ⟨fun c d=>?_,ml e g k m⟩;rcases(gy e g).1 d with d|d
   ·exact i c d
   ·rcases List.mem_cons.1 d with rfl|d
    ·exact l
    ·exact b8.KT l (Int.le_of_lt (p c d))
  ·rw[ao3 l,ao4]
   by_cases q:bE a b=0
   ·obtain rfl:=ri (j a (by simp)) (g b (by simp)) q
    rw[ao5 q,ao6];refine dW.2 ⟨fun c d=>?_,ml e f k r⟩;rcases(gy e f).1 d with d|d
    ·exact i c d
    ·exact p c d
   ·rw[ao3 q,ao4]
    have t:bE b a<0:=by have:=b8.swap a b;omega
    refine dW.2 ⟨fun c d=>?_,ml j f o r⟩;rcases(gy j f).1 d with d|d
    ·rcases List.mem_cons.1 d with rfl|d
     ·exact t
     ·exact b8.KT t (Int.le_of_lt (i c d))
    ·exact p c d
termination_by A.length+B.length
noncomputable abbrev Wd(κ:Kp):EB:=aj8 κ
abbrev Vf V m(i:Nat):=sp 25 [(0, .ah 2 V),(3, .int m),(4, .int i)] []
theorem xMn κ V m i I N K:(vc (Wd κ).E 12 126 none 0 (ae (Pr κ).toProgram 126 5) (Vf V m i) (bj (Wd κ).E 126 5 0 I N K))=(
 letI a:=(↑i:Int)<(↑(V.length):Int)
 letI b:=nth V (Int.toNat (↑i:Int))
 ak (decide a) (aR (true&&decide a) (∃(e0:Nat),e0<N/\I e0 (sp 25 [(0,AV.ah 2 V),(3,AV.int (if toInt b<m then toInt b else m)),(4,AV.int
 (IntKind.wrap IntKind.i64 ((↑i:Int)+(1:Int))))] []))) (K (Exit.exit 0) (sp 25 [(3,AV.int m)] []))):=by kernel_rfl
structure WS where
 V:List AV
 m:Int
 i:Nat
abbrev HD(x:WS):S:=Vf x.V x.m x.i
def BF(x:WS):=x.i<=x.V.length/\x.V.length<=100000000
def OO m(l:List _):=l.foldl (fun m x=>if toInt x<m then toInt x else m) m
def TK(x:WS):Out (Exit×S):= .one (.exit 0,sp 25 [(3, .int (OO x.m (x.V.drop x.i)))] [])
theorem lMn κ:aX (Wd κ).E 12 126 5 (aG 0 HD BF TK):=by
 refine aD (fun x=>x.V.length - x.i) ?_;rintro⟨V,m,i⟩ K ⟨d,c⟩ a;simp only at d c;rw[show(Wd κ).E.P=Pr κ from rfl];refine Eq.mpr (xMn κ V m i _ _ K) ?_;rw[ad,an9,ao1];simp only[TK,Out.run] at a;refine⟨fun h=>ai.2 ⟨by simp;omega,_,?_,⟨V,if toInt (nth V i)<m then toInt (nth V i) else m,i+1⟩,?_,⟨by simp only;omega,c⟩,rfl,?_⟩,fun h=>?_⟩
 ·simp only;omega
 ·rw[az (n:=(i:Int)+1) (by omega) (by omega)];rfl
 ·have b:i<V.length:=by omega
  rw[ap0 b,←aV V i b] at a;exact a
 ·rw[ao7 (by omega)] at a
  exact a
noncomputable def V5 κ:=(Wd κ).loop (lMn _)
theorem yMn κ V K:(a9 (V5 κ).E 12 126 [.ah 2 V] [] K)=(
 letI a:=Pg.toProgram (Env.P (EB.E (Wd κ)))
 ak (decide ((↑(V.length):Int)<(1:Int))) False (aR (true&&decide ((0:Int)<(↑(V.length):Int))) (ae a 126 5=ae a 126 5/\∃(e0:WS),sp 25 [(0,
 AV.ah 2 V),(3,AV.int (toInt (nth V 0))),(4,AV.int 1)] []=HD e0/\BF e0/\K (AV.int (OO e0.m (List.drop e0.i e0.V))) []))):=by kernel_rfl
def gMn:List AV->Option (Bool×AV)
 |[.ah 2 V]=>some (decide (1<=V.length)&&decide (V.length<=100000000), .int (OO (toInt (nth V 0)) (V.drop 1)))
 |_=>none
theorem pMn κ:cg (V5 κ).E 12 126 gMn:=by
 intro b x a;unfold gMn at a;split at a
 ·rename_i V
  simp only[ao2,ao8,ao0,an9] at a;obtain⟨⟨d,c⟩,rfl⟩:=a;refine⟨_,rfl,rfl,Eq.mpr (yMn κ V _) (ad.2 ⟨by grind,fun _=>ai.2 ⟨by simp;omega,rfl,⟨V,_,1⟩,rfl,⟨d,c⟩,rfl⟩⟩)⟩
 ·cases a
noncomputable def WL(κ:Kp):EB:=(V5 κ).pure (pMn κ)
theorem xMg κ V m i I N K:(vc (WL κ).E 12 127 none 0 (ae (Pr κ).toProgram 127 5) (Vf V m i) (bj (WL κ).E 127 5 0 I N K))=(
 letI a:=(↑i:Int)<(↑(V.length):Int)
 letI b:=nth V (Int.toNat (↑i:Int))
 ak (decide a) (aR (true&&decide a) (∃(e0:Nat),e0<N/\I e0 (sp 25 [(0,AV.ah 2 V),(3,AV.int (if toInt b>m then toInt b else m)),(4,AV.int
 (IntKind.wrap IntKind.i64 ((↑i:Int)+(1:Int))))] []))) (K (Exit.exit 0) (sp 25 [(3,AV.int m)] []))):=by kernel_rfl
def OF m(l:List _):=l.foldl (fun m x=>if toInt x>m then toInt x else m) m
def TY(x:WS):Out (Exit×S):= .one (.exit 0,sp 25 [(3, .int (OF x.m (x.V.drop x.i)))] [])
theorem lMg κ:aX (WL κ).E 12 127 5 (aG 0 HD BF TY):=by
 refine aD (fun x=>x.V.length - x.i) ?_;rintro⟨V,m,i⟩ K ⟨d,c⟩ a;simp only at d c;rw[show(WL κ).E.P=Pr κ from rfl];refine Eq.mpr (xMg κ V m i _ _ K) ?_;rw[ad,an9,ao1];simp only[TY,Out.run] at a;refine⟨fun h=>ai.2 ⟨by simp;omega,_,?_,⟨V,if toInt (nth V i)>m then toInt (nth V i) else m,i+1⟩,?_,⟨by simp only;omega,c⟩,rfl,?_⟩,fun h=>?_⟩
 ·simp only;omega
 ·rw[az (n:=(i:Int)+1) (by omega) (by omega)];rfl
 ·have b:i<V.length:=by omega
  rw[ap0 b,←aV V i b] at a;exact a
 ·rw[ao7 (by omega)] at a
  exact a
noncomputable def PA κ:=(WL κ).loop (lMg _)
theorem yMg κ V K:(a9 (PA κ).E 12 127 [.ah 2 V] [] K)=(
 letI a:=Pg.toProgram (Env.P (EB.E (WL κ)))
 ak (decide ((↑(V.length):Int)<(1:Int))) False (aR (true&&decide ((0:Int)<(↑(V.length):Int))) (ae a 127 5=ae a 127 5/\∃(e0:WS),sp 25 [(0,
 AV.ah 2 V),(3,AV.int (toInt (nth V 0))),(4,AV.int 1)] []=HD e0/\BF e0/\K (AV.int (OF e0.m (List.drop e0.i e0.V))) []))):=by kernel_rfl
def gMg:List AV->Option (Bool×AV)
 |[.ah 2 V]=>some (decide (1<=V.length)&&decide (V.length<=100000000), .int (OF (toInt (nth V 0)) (V.drop 1)))
 |_=>none
theorem pMg κ:cg (PA κ).E 12 127 gMg:=by
 intro b x a;unfold gMg at a;split at a
 ·rename_i V
  simp only[ao2,ao8,ao0,an9] at a;obtain⟨⟨d,c⟩,rfl⟩:=a;refine⟨_,rfl,rfl,Eq.mpr (yMg κ V _) (ad.2 ⟨by grind,fun _=>ai.2 ⟨by simp;omega,rfl,⟨V,_,1⟩,rfl,⟨d,c⟩,rfl⟩⟩)⟩
 ·cases a
noncomputable def af1(κ:Kp):EB:=(PA κ).pure (pMg κ)
end Go.Proofs.YtioeffnadipbaaaGreatDoor
