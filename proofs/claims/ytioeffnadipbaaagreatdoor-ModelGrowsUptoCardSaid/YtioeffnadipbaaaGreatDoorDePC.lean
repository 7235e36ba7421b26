import Derived.Test.YtioeffnadipbaaaGreatDoorDePB
namespace Go.Proofs.YtioeffnadipbaaaGreatDoor
open Go Go.Dn Go.Rl Go.Proofs
attribute [local irreducible] a0 vc
set_option maxRecDepth 20000
def jV:List AV->RL->RL
 |_,[]=>[]
 |p,b::l=>bif bz b p==0 then jV b l else b::jV b l
def ke:RL->RL
 |[]=>[]
 |a::l=>a::jV a l
theorem xCi κ L(n0 k k0 k2:Nat) I n K:(vc (Un κ).E 12 80 none 1 (ad (Pr κ).toProgram 80 9) (sp 66 [(0, .ak 0 0 L.length),(1, .bm 81 []),(5, .int k),(6, .ak 0 k0 n0),(7, .int k2)] [.row 70 (rws L)]) (bj (Un κ).E 80 9 1 I n K))=(
 letI a:=IntKind.wrap IntKind.i64
 letI b:=AV.int
 letI c:=af (nth (rws L) (k0+Int.toNat (↑k2:Int)))
 letI d:=(↑k2:Int)<(↑n0:Int)
 letI f:=a ((↑k2:Int)+(1:Int))
 letI e:=(↑k2:Int) - (1:Int)
 aq (decide d) (aV (true&&decide d) (aV (decide ((0:Int)<=a e)&&decide (a e<(↑n0:Int))) (aV (decide
 (List.length c<=9223372036854775807)) (aq (!bz c (af (nth (rws L) (k0+Int.toNat (a e))))==(0:Int)) (aV (true&&decide d) (aV
 (true&&decide ((↑k:Int)<(↑(L.length):Int))) (∃(e0:Nat),e0<n/\I e0 (sp 66 [(0,AV.ak 0 0 L.length),(1,AV.bm 81 []),(5,b (IntKind.wrap
 IntKind.i64 ((↑k:Int)+(1:Int)))),(6,AV.ak 0 k0 n0),(7,b f)] [Obj.row 70 (bH (rws L) (0+Int.toNat (↑k:Int)) (AV.ah 72 c))])))) (∃(e0:
 Nat),e0<n/\I e0 (sp 66 [(0,AV.ak 0 0 L.length),(1,AV.bm 81 []),(5,b (↑k:Int)),(6,AV.ak 0 k0 n0),(7,b f)] [Obj.row 70 (rws L)])))))) (K
 (Exit.exit 2) (sp 66 [(0,AV.ak 0 0 L.length),(5,b (↑k:Int))] [Obj.row 70 (rws L)]))):=by kernel_rfl
structure ACi where
 L0:RL
 L:RL
 n0:Nat
 k0:Nat
 k:Nat
 k2:Nat
abbrev Qn(x:ACi):=sp 66 [(0, .ak 0 0 x.L.length),(1, .bm 81 []),(5, .int x.k),(6, .ak 0 x.k0 x.n0),(7, .int x.k2)] [.row 70 (rws x.L)]
structure Z9(x:ACi):Prop where
 len:x.L.length=x.L0.length/\x.L0.length=x.k0+x.n0
 k:x.k0<=x.k/\x.k+1<=x.k0+x.k2
 k2:1<=x.k2/\x.k2<=x.n0
 l:x.L0.length<=100000000
 s:fq x.L0
 o: ∀j,x.k0+x.k2<=j+1->rat x.L j=rat x.L0 j
 e:ke x.L0=x.L.take x.k++jV (rat x.L0 (x.k0+x.k2 - 1)) (x.L0.drop (x.k0+x.k2))
def ab2(x:ACi):Out (Exit×S):= .all (fun r:Nat×RL=>r.2.length=x.L0.length/\r.1<=x.L0.length/\r.2.take r.1=ke x.L0) fun r=> .one (.exit 2,sp 66 [(0, .ak 0 0 r.2.length),(5, .int r.1)] [.row 70 (rws r.2)])
theorem lCi κ:aU (Un κ).E 12 80 9 (aG 1 Qn Z9 ab2):=by
 refine aC (fun x=>x.n0 - x.k2) ?_;rintro⟨c,L,m,b,k,a⟩ K ⟨p,r,s,l,g,f,d⟩ o;simp only at p r s l g f d;rw[show(Un κ).E.P=Pr κ from rfl];refine Eq.mpr (xCi κ L m k b a _ _ K) ?_;rw[ae,ap6,ap8];refine⟨fun h=>?_,fun h=>?_⟩
 ·have q:b+a<c.length:=by omega
  rw[az (n:=(a:Int) - 1) (by omega) (by omega),az (n:=(a:Int)+1) (by omega) (by omega),az (n:=(k:Int)+1) (by omega) (by omega),show b+(a:Int).toNat=b+a by omega,show b+((a:Int) - 1).toNat=b+a - 1 by omega,Nat.zero_add,Int.toNat_natCast,fM,fM,u7,f (b+a) (by omega),f (b+a - 1) (by omega)];rw[aq7 q,←y9 q,jV] at d;refine ai.2 ⟨by simp;omega,ai.2 ⟨by simp;omega,ai.2 ⟨aq2 (kB g _),ae.2 ⟨fun e=>?_,fun e=>?_⟩⟩⟩⟩
  ·have e:(bz (rat c (b+a)) (rat c (b+a - 1))==0)=false:=by simpa using e
   rw[e,aq1] at d;refine ai.2 ⟨by simp;omega,ai.2 ⟨by simp;omega,_,?_,⟨c,L.set k (rat c (b+a)),m,b,k+1,a+1⟩,?_,⟨by simp only[List.length_set];omega,by simp only;omega,by simp only;omega,l,g,fun j i=>?_,?_⟩,rfl,o⟩⟩
   ·simp only;omega
   ·simp only[Qn,List.length_set];rfl
   ·simp only at i
    rw[HR _ _ _ _ (by omega),if_neg (by omega)];exact f j (by omega)
   ·simp only
    rw[d,show b+(a+1) - 1=b+a by omega,List.take_succ_eq_append_getElem (by rw[List.length_set];omega)];rw[List.getElem_set_self,List.take_set_of_le (Nat.le_refl _)];simp[Nat.add_assoc]
  ·have e:(bz (rat c (b+a)) (rat c (b+a - 1))==0)=true:=by simpa using e
   rw[e,aq3] at d;refine⟨_,?_,⟨c,L,m,b,k,a+1⟩,rfl,⟨p,by simp only;omega,by simp only;omega,l,g,fun j i=>f j (by simp only at i;omega),?_⟩,rfl,o⟩
   ·simp only;omega
   ·simp only
    rw[d,show b+(a+1) - 1=b+a by omega];rfl
 ·refine o (k,L) ⟨p.1,by simp only;omega,?_⟩
  rw[aq4 (by omega),jV,List.append_nil] at d;exact d.symm
noncomputable def UH κ:=(Un κ).loop (lCi _)
theorem xCo κ L(k:Nat) I n K:(vc (UH κ).E 12 80 none 1 (ad (Pr κ).toProgram 80 4) (sp 66 [(0, .ak 0 0 L.length),(1, .bm 81 []),(5, .int k)] [.row 70 (rws L)]) (bj (UH κ).E 80 4 1 I n K))=(
 letI a:=IntKind.wrap IntKind.i64
 letI b:=Obj.row
 letI d:=(↑k:Int) - (1:Int)
 letI e:=af (nth (rws L) (0+Int.toNat (↑k:Int)))
 letI f:=(↑k:Int)<(↑(L.length):Int)
 letI g:=Pg.toProgram (Env.P (EB.E (Un κ)))
 aq (decide f) (aV (true&&decide f) (aV (decide ((0:Int)<=a d)&&decide (a d<(↑(L.length):Int))) (aV (decide (List.length e<=9223372036854775807)) (aq (bz e (af (nth (rws L) (0+Int.toNat (a d))))==(0:Int)) (aV (true&&decide ((↑k:Int)<=(↑(L.length):Int))&&decide ((↑(L.length):Int)<=(↑(L.length):Int))) (ad g 80 9=ad g 80 9/\∃(e1:ACi),sp 66 [(0,AV.ak 0 0 L.length),(1,AV.bm 81 []),(5,AV.int (↑k:Int)),(6,AV.ak 0 (0+Int.toNat (↑k:Int)) (Int.toNat ((↑(L.length):Int) - (↑k:Int)))),(7,AV.int 1)] [b 70 (rws L)]=Qn e1/\Z9 e1/\∀(e0:Nat×RL),letI c:=e0.2.length;letI h:=(↑(e0.1):Int)<=(↑c:Int);e0.2.length=e1.L0.length/\e0.1<=e1.L0.length/\List.take e0.1 e0.2=ke e1.L0->aV (true&&decide h&&decide ((↑c:Int)<=(↑c:Int))) (aV (true&&decide h) (K Exit.ret (sp 66 [(4,AV.ak 0 0 (Int.toNat ((↑(e0.1):Int) - (0:Int))))] [b 70 (db (rws e0.2) (0+Int.toNat (↑(e0.1):Int)) (Int.toNat ((↑c:Int) - (↑(e0.1):Int))) AV.nil)]))))) (∃(e0:Nat),e0<n/\I e0 (sp 66 [(0,AV.ak 0 0 L.length),(1,AV.bm 81 []),(5,AV.int (a ((↑k:Int)+(1:Int))))] [b 70 (rws L)])))))) (K (Exit.exit 0) (sp 66 [(0,AV.ak 0 0 L.length)] [b 70 (rws L)]))):=by kernel_rfl
structure ACo where
 L:RL
 k:Nat
abbrev ZY(x:ACo):=sp 66 [(0, .ak 0 0 x.L.length),(1, .bm 81 []),(5, .int x.k)] [.row 70 (rws x.L)]
def ab5(x:ACo):=(1<=x.k/\x.k<=x.L.length)/\x.L.length<=100000000/\fq x.L/\ke x.L=x.L.take x.k++jV (rat x.L (x.k - 1)) (x.L.drop x.k)
def M1(x:ACo):Out (Exit×S):= .aq (decide ((ke x.L).length=x.L.length)) (.one (.exit 0,sp 66 [(0, .ak 0 0 x.L.length)] [.row 70 (rws x.L)]))
 (.all (fun a=>(ke x.L).length<=a.length/\a.take (ke x.L).length=rws (ke x.L)) fun a=> .one (.ret,sp 66 [(4, .ak 0 0 (ke x.L).length)] [.row 70 a]))
theorem s9: ∀p l,(jV p l).length<=l.length
 |_,[]=>Nat.le_refl _
 |p,b::l=>by
  have:=s9 b l
  grind [jV]
theorem yC: ∀p l,(jV p l).length=l.length->jV p l=l
 |_,[],_=>rfl
 | p,b::l,h=>by
  have a:=s9 b l;rw[jV] at h⊢;cases e:bz b p==0 with
  |true=>grind
  |false=>
   rw[e,aq1,List.length_cons,List.length_cons] at h;rw[aq1,yC b l (by omega)]
theorem rY z: ∀xs k m,(db xs k m z).take k=xs.take k
 |[],_,_=>by rfl
 |a::l,0,_=>by rfl
 |a::l,k+1,m=>by
  have:=rY z l k m
  grind [db]
theorem qB z: ∀xs k m,(db xs k m z).length=xs.length
 |[],_,_=>by rfl
 |a::l,0,0=>rfl
 |a::l,0,m+1=>by simp[db,qB z l 0 m]
 |a::l,k+1,m=>by simp[db,qB z l k m]
theorem lCo κ:aU (UH κ).E 12 80 4 (aG 1 ZY ab5 M1):=by
 refine aC (fun x=>x.L.length - x.k) ?_;rintro⟨L,k⟩ K ⟨l,i,g,a⟩ f;simp only at l i g a;rw[show(UH κ).E.P=Pr κ from rfl];refine Eq.mpr (xCo κ L k _ _ K) ?_;simp only[M1,Out.run,ae,ap6,ap8] at f;rw[ae,ap6,ap8];refine⟨fun h=>?_,fun h=>?_⟩
 ·have d:k<L.length:=by omega
  rw[az (n:=(k:Int) - 1) (by omega) (by omega),az (n:=(k:Int)+1) (by omega) (by omega),show 0+((k:Int) - 1).toNat=k - 1 by omega,Nat.zero_add,Int.toNat_natCast,fM,fM];rw[aq7 d,←y9 d,jV] at a;refine ai.2 ⟨by simp;omega,ai.2 ⟨by simp;omega,ai.2 ⟨aq2 (kB g _),ae.2 ⟨fun e=>?_,fun e=>?_⟩⟩⟩⟩
  ·rw[e,aq3] at a
   have p:(ke L).length<L.length:=by
    have:=s9 (rat L k) (L.drop (k+1))
    rw[a,ar1,List.length_take];rw[List.length_drop] at this;omega
   refine ai.2 ⟨by simp;omega,rfl,⟨L,L,L.length - k,k,k,1⟩,?_,⟨⟨rfl,by simp only;omega⟩,⟨Nat.le_refl _,Nat.le_refl _⟩,⟨Nat.le_refl _,by simp only;omega⟩,i,g,fun _ _=>rfl,?_⟩,fun r q=>?_⟩
   ·simp only[Qn,show((L.length:Int) - k).toNat=L.length - k by omega];rfl
   ·simp only[Nat.add_sub_cancel]
    exact a
   ·obtain⟨b,M⟩:=r
    obtain⟨m,o,j⟩:=q;simp only at m o j;have c:(ke L).length=b:=by rw[←j,List.length_take];omega
    simp only;refine ai.2 ⟨by simp;omega,ai.2 ⟨by simp;omega,?_⟩⟩;have:=f.2 (by omega) (db (rws M) b ((M.length:Int) - b).toNat .nil) ⟨by rw[qB,dX];omega,by rw[c,rY,←List.map_take,j]⟩
    rw[c] at this;rw[show((b:Int) - 0).toNat=b by omega,show 0+(b:Int).toNat=b by omega];exact this
  ·rw[e,aq1] at a
   refine⟨_,?_,⟨L,k+1⟩,rfl,⟨by simp only;omega,i,g,?_⟩,rfl,?_⟩
   ·simp only;omega
   ·simp only[Nat.add_sub_cancel]
    rw[a,List.take_succ_eq_append_getElem d,←y9 d];simp
   ·simp only[M1,Out.run,ae,ap6,ap8]
    exact f
 ·rw[aq4 (by omega),jV,List.append_nil,List.take_of_length_le (by omega)] at a
  exact f.1 (by rw[a])
noncomputable def W0 κ:=(UH κ).loop (lCo _)
theorem am7 κ L K:(a0 (W0 κ).E 12 80 [.ak 0 0 L.length, .bm 81 []] [.row 70 (rws L)] K)=(
 letI a:=Pg.toProgram (Env.P (EB.E (UH κ)))
 aq (decide ((↑(L.length):Int)<(2:Int))) (K (AV.ah 70 (List.take L.length (List.drop 0 (rws L)))) [Obj.ll 70 (rws L)]) (ad a 80 4=ad a 80 4/\∃(e1:
 ACo),sp 66 [(0,AV.ak 0 0 L.length),(1,AV.bm 81 []),(5,AV.int 1)] [Obj.row 70 (rws L)]=ZY e1/\ab5 e1/\aq (decide (List.length (ke e1.L)=e1.L.length))
 (K (AV.ah 70 (List.take e1.L.length (List.drop 0 (rws e1.L)))) [Obj.ll 70 (rws e1.L)]) (∀(e0:List AV),List.length (ke e1.L)<=e0.length/\List.take
 (List.length (ke e1.L)) e0=rws (ke e1.L)->K (AV.ah 70 (List.take (List.length (ke e1.L)) (List.drop 0 e0))) [Obj.ll 70 e0]))):=by kernel_rfl
def Cw(L:RL):List AV×List Dn.Obj:=([.ak 0 0 L.length, .bm 81 []],[.row 70 (rws L)])
def Nf(L:RL):Out (AV×List Dn.Obj):= .all (fun _=>True) fun a=> .one (.ah 70 (rws (ke L)),[.ll 70 a])
theorem cCo κ:bd (W0 κ).E 12 80 (aO Cw (fun L=>L.length<=100000000/\fq L) Nf):=by
 refine aR ?_;rintro L K ⟨i,j⟩ d;refine Eq.mpr (am7 κ L K) ?_;have d: ∀c,K (.ah 70 (rws (ke L))) [.ll 70 c]:=fun c=>d c trivial
 rw[ae,ap6,ap8];refine⟨fun h=>?_,fun h=>⟨rfl,⟨L,1⟩,rfl,⟨by simp only;omega,i,j,?_⟩,ae.2 ⟨fun e=>?_,fun e c f=>?_⟩⟩⟩
 ·have e:ke L=L:=by
   match L,h with
   |[],_=>rfl
   |[a],_=>rfl
   |a::b::l,h=>simp at h;omega
  have:=d (rws L)
  rw[e] at this;rw[aq6,←dX,List.take_length];exact this
 ·match L,h with
  |[],h=>simp at h
  |a::l,_=>rfl
 ·rw[ap6] at e
  have g:ke L=L:=by
   match L,h with
   |a::l,_=>
    simp only[ke,List.length_cons,Nat.add_right_cancel_iff] at e;rw[ke,yC _ _ e]
  have:=d (rws L)
  rw[g] at this;simp only;rw[aq6,←dX,List.take_length];exact this
 ·simp only at f
  rw[aq6,f.2];exact d c
theorem yTy κ v k K:(a0 (W0 κ).E 12 97 [e6 v, .int k] [] K)=(
 aq (k==(1:Int)) (K (AV.lit (Value.bool (v.y==false&&(v.n==v.n&&(ByteArray.toList v.s==ByteArray.toList {data:= #[]}&&true))))) []) (K (AV.lit (Value.bool (v.y==true&&(v.n==(0:Int)&&(ByteArray.toList v.s==ByteArray.toList v.s&&true))))) [])):=by kernel_rfl
def Xe(v:eU)(k:Int):=bif k==1 then !v.y&&decide (v.s=ByteArray.mk #[]) else v.y&&decide (v.n=0)
def gTy:List AV->Option (Bool×AV)
 |[.agg [.lit (.bool y), .lit (.int .i64 n), .lit (.string s)], .lit (.int .i64 k)]=>some (true, .bool (Xe ⟨y,n,s⟩ k))
 |_=>none
theorem ab3 s t:(ByteArray.toList s==ByteArray.toList t)=decide (s=t):=by
 rw[Bool.eq_iff_iff,beq_iff_eq,ap6];exact toList_inj
theorem pTy κ:cd (W0 κ).E 12 97 gTy:=by
 intro b x a;unfold gTy at a;split at a
 ·rename_i y n s k
  simp only[ap9,aq5,true_and] at a;subst a;refine⟨_,rfl,rfl,Eq.mpr (yTy κ ⟨y,n,s⟩ k _) (ae.2 ⟨fun e=>?_,fun e=>?_⟩)⟩
  ·simp only[Xe,e,aq3,ab3]
   cases y<;>simp
  simp_all[Xe,aq1,ab3,Xg]
 ·cases a
noncomputable def Wr κ:=EB.GV ((W0 κ).pure (pTy _)) [97,49,23]
theorem xFj κ xs t rel ns ts a o li(j i:Nat) I n K:(vc (Wr κ).E 12 49 none 0 (ad (Pr κ).toProgram 49 7) (sp 40 [(1, .ah 70 xs),(2, .ptr 0 0 [] 0),(9, .ah 70 xs),(10, .int xs.length),(11, .int j),(21, .ah 72 t),(22, .int t.length),(23, .int i)] [.box 43 (.agg [.lit (.string rel), .ah 9 ns, .ah 3 ts, .bool a, .bool o, .int li])]) (bj (Wr κ).E 49 7 0 I n K))=(
 letI b:=AV.int
 letI c:=AV.ah
 letI e:=AV.agg [AV.str rel,c 9 ns,c 3 ts,AV.bool a,AV.bool o,b li]
 letI d:=Int.toNat (↑i:Int)
 letI f:=(↑i:Int)<(↑(t.length):Int)
 aq (decide f) (aV (true&&decide f) (aV (true&&decide ((↑i:Int)<(↑(ts.length):Int))) (aq (!Xe {y:=Dn.toBool (ag (nth t d) 0),n:=toInt (ag (nth t d) 1),s:=toStr (ag (nth t d) 2)} (toInt (nth ts d))) (K Exit.ret (sp 40 [(4,AV.bool false)] [])) (∃(e0:Nat),e0<n/\I e0 (sp 40 [(1,c 70 xs),(2,AV.ptr 0 0 [] 0),(9,c 70 xs),(10,b (↑(xs.length):Int)),(11,b (↑j:Int)),(21,c 72 t),(22,b (↑(t.length):Int)),(23,b (IntKind.wrap IntKind.i64 ((↑i:Int)+(1:Int))))] [Obj.box 43 e]))))) (K (Exit.exit 2) (sp 40 [(1,c 70 xs),(2,AV.ptr 0 0 [] 0),(9,c 70 xs),(10,b (↑(xs.length):Int)),(11,b (↑j:Int))] [Obj.box 43 e]))):=by kernel_rfl
def Jv:List AV->List AV->Bool
 |[],[]=>true
 |v::t,k::a=>Xe (Es v) (toInt k)&&Jv t a
 |_,_=>false
theorem Ah: ∀t a,Jv t a=true->t.length=a.length
 |[],[],_=>rfl
 |v::t,k::a,h=>by
  simp[Jv] at h;simp[Ah t _ h.2]
 |[],_::_,h=>by grind [Jv]
 |_::_,[],h=>by grind [Jv]
structure AFj where
 xs:List AV
 t:List AV
 d:WX
 j:Nat
 i:Nat
abbrev ZG(x:AFj):=sp 40 [(1, .ah 70 x.xs),(2, .ptr 0 0 [] 0),(9, .ah 70 x.xs),(10, .int x.xs.length),(11, .int x.j),(21, .ah 72 x.t),(22, .int x.t.length),(23, .int x.i)] [.box 43 (Tq x.d)]
def Pb(x:AFj):=x.t.length=x.d.types.length/\x.i<=x.t.length/\x.t.length<=100000000
def L8(x:AFj):Out (Exit×S):= .aq (Jv (x.t.drop x.i) (x.d.types.drop x.i)) (.one (.exit 2,sp 40 [(1, .ah 70 x.xs),(2, .ptr 0 0 [] 0),(9, .ah 70 x.xs),(10, .int x.xs.length),(11, .int x.j)] [.box 43 (Tq x.d)])) (.one (.ret,sp 40 [(4, .bool false)] []))
theorem lFj κ:aU (Wr κ).E 12 49 7 (aG 0 ZG Pb L8):=by
 refine aC (fun x=>x.t.length - x.i) ?_;rintro⟨xs,t,⟨d,m,c,a,o,g⟩,j,i⟩ K ⟨k,p,l⟩ b;simp only at k p l;rw[show(Wr κ).E.P=Pr κ from rfl];refine Eq.mpr (xFj κ xs t d m c a o g j i _ _ K) ?_;simp only[L8,Out.run,ae] at b;rw[ae,ap6,ap8];refine⟨fun h=>?_,fun h=>?_⟩
 ·have f:i<t.length:=by omega
  rw[aq7 f,←aM _ _ f,aq7 (show i<c.length by omega),←aM c i (by omega),Jv] at b;rw[Int.toNat_natCast,az (n:=(i:Int)+1) (by omega) (by omega)];refine ai.2 ⟨by simp;omega,ai.2 ⟨by simp;omega,?_⟩⟩;rw[show(⟨Dn.toBool (ag (nth t i) 0),toInt (ag (nth t i) 1),toStr (ag (nth t i) 2)⟩:eU)=Es (nth t i) from rfl,ae,Bool.not_eq_true',aq8];refine⟨fun e=>b.2 (by rw[e];rfl),fun e=>?_⟩;rw[e,ar2] at b;refine⟨_,?_,⟨xs,t,⟨d,m,c,a,o,g⟩,j,i+1⟩,rfl,⟨k,f,l⟩,rfl,?_⟩
  ·simp only;omega
  ·simp only[L8,Out.run,ae]
   exact b
 ·rw[aq4 (show t.length<=i by omega),aq4 (show c.length<=i by omega)] at b
  exact b.1 rfl
noncomputable def Uv κ:=(Wr κ).loop (lFj _)
theorem xFk κ xs d(j:Nat) I n K:(vc (Uv κ).E 12 49 none 0 (ad (Pr κ).toProgram 49 2) (sp 40 [(1, .ah 70 xs),(2, .ptr 0 0 [] 0),(9, .ah 70 xs),(10, .int xs.length),(11, .int j)] [.box 43 (Tq d)]) (bj (Uv κ).E 49 2 0 I n K))=(
 letI a:=AV.int
 letI b:=AV.bool
 letI c:=AV.ah
 letI e:=af (nth xs (Int.toNat (↑j:Int)))
 letI f:=K Exit.ret (sp 40 [(4,b false)] [])
 letI g:=(↑j:Int)<(↑(xs.length):Int)
 letI h:=Pg.toProgram (Env.P (EB.E (Wr κ)))
 aq (decide g) (aV (true&&decide g) (aq ((↑(List.length e):Int) != (↑(d.types.length):Int)) f (ad h 49 7=ad h 49 7/\∃(e1:AFj),sp 40 [(1,c
 70 xs),(2,AV.ptr 0 0 [] 0),(9,c 70 xs),(10,a (↑(xs.length):Int)),(11,a (↑j:Int)),(21,c 72 e),(22,a (↑(List.length e):
 Int)),(23,a 0)] [Obj.box 43 (AV.agg [AV.str d.rel,c 9 d.names,c 3 d.types,b d.i,b d.o,a d.line])]=ZG e1/\Pb e1/\aq (Jv
 (List.drop e1.i e1.t) (List.drop e1.i e1.d.types)) (∃(e0:Nat),e0<n/\I e0 (sp 40 [(1,c 70 e1.xs),(2,AV.ptr 0 0 [] 0),(9,c 70 e1.xs),(10,
 a (↑(e1.xs.length):Int)),(11,a (IntKind.wrap IntKind.i64 ((↑(e1.j):Int)+(1:Int))))] [Obj.box 43 (AV.agg [AV.str e1.d.rel,c 9
 e1.d.names,c 3 e1.d.types,b e1.d.i,b e1.d.o,a e1.d.line])])) f))) (K (Exit.exit 0) (sp 40 [(1,c 70 xs)] []))):=by kernel_rfl
structure AFk where
 xs:List AV
 d:WX
 j:Nat
abbrev ac7(x:AFk):=sp 40 [(1, .ah 70 x.xs),(2, .ptr 0 0 [] 0),(9, .ah 70 x.xs),(10, .int x.xs.length),(11, .int x.j)] [.box 43 (Tq x.d)]
def WE(xs a:List _):=xs.all fun x=>Jv (af x) a
def Nr(x:AFk):Out (Exit×S):= .aq (WE (x.xs.drop x.j) x.d.types) (.one (.exit 0,sp 40 [(1, .ah 70 x.xs)] [])) (.one (.ret,sp 40 [(4, .bool false)] []))
theorem lFk κ:aU (Uv κ).E 12 49 2 (aG 0 ac7 (fun x=>x.j<=x.xs.length/\eR x.xs=true) Nr):=by
 refine aC (fun x=>x.xs.length - x.j) ?_;rintro⟨xs,d,j⟩ K ⟨g,b⟩ a;simp only at g b;rw[show(Uv κ).E.P=Pr κ from rfl];refine Eq.mpr (xFk κ xs d j _ _ K) ?_;have i:=iX b;simp only[Nr,Out.run,ae] at a;rw[ae,ap6,ap8];refine⟨fun h=>?_,fun h=>?_⟩
 ·have f:j<xs.length:=by omega
  rw[aq7 f,←aM _ _ f,WE,List.all_cons,←WE] at a;rw[Int.toNat_natCast];refine ai.2 ⟨by simp;omega,?_⟩;rw[ae,bne_iff_ne,bne_eq_false_iff_eq];refine⟨fun e=>a.2 ?_,fun e=>⟨rfl,⟨xs,af (nth xs j),d,j,0⟩,rfl,⟨by simp only;omega,Nat.zero_le _,lK b j⟩,?_⟩⟩
  ·rw[show Jv (af (nth xs j)) d.types=false from by
    grind [Jv,af,nth,Ah],Bool.false_and]
  ·simp only[aq6]
   rw[az (n:=(j:Int)+1) (by omega) (by omega),ae];refine⟨fun c=>⟨_,?_,⟨xs,d,j+1⟩,rfl,⟨f,b⟩,rfl,?_⟩,fun c=>a.2 (by rw[c];rfl)⟩
   ·simp only;omega
   ·rw[c,ar2] at a
    simp only[Nr,Out.run,ae];exact a
 ·rw[aq4 (by omega)] at a
  exact a.1 rfl
noncomputable def BFk κ:=(Uv κ).loop (lFk _)
theorem yFk κ xs d K:(a0 (BFk κ).E 12 49 [Tq d, .ah 70 xs] [] K)=(
 letI a:=AV.bool
 letI b:=Pg.toProgram (Env.P (EB.E (Uv κ)))
 ad b 49 2=ad b 49 2/\∃(e0:AFk),sp 40 [(1,AV.ah 70 xs),(2,AV.ptr 0 0 [] 0),(9,AV.ah 70 xs),(10,AV.int (↑(xs.length):Int)),(11,AV.int 0)]
 [Obj.box 43 (AV.agg [AV.str d.rel,AV.ah 9 d.names,AV.ah 3 d.types,a d.i,a d.o,AV.int d.line])]=ac7 e0/\(e0.j<=e0.xs.length/\eR e0.xs=
 true)/\aq (WE (List.drop e0.j e0.xs) e0.d.types) (aV (eR e0.xs) (K (a (cK (cU e0.xs))) [])) (K (a false) [])):=by kernel_rfl
def x1 xs a:=WE xs a&&cK (cU xs)
def gFk:List AV->Option (Bool×AV)
 |[.agg [.lit (.string _), .ah 9 _, .ah 3 a, .lit (.bool _), .lit (.bool _), .lit (.int .i64 _)], .ah 70 xs]=>some (eR xs, .bool (x1 xs a))
 |_=>none
theorem pFk κ:cd (BFk κ).E 12 49 gFk:=by
 intro e x c;unfold gFk at c;split at c
 ·rename_i b d f a o g xs
  simp only[ap9,aq5] at c;obtain⟨h,rfl⟩:=c;refine⟨_,rfl,rfl,Eq.mpr (yFk κ xs ⟨b,d,f,a,o,g⟩ _) ⟨rfl,⟨xs,⟨b,d,f,a,o,g⟩,0⟩,rfl,⟨Nat.zero_le _,h⟩,?_⟩⟩
  simp_all[aq6,x1,ae,ai,ar2,Bool.false_and]
 ·cases c
noncomputable def Wq κ:=(BFk κ).pure (pFk _)
theorem xFm κ ds rs xs(i:Nat) I n K:(vc (Wq κ).E 12 23 none 0 (ad (Pr κ).toProgram 23 4) (sp 34 [(2, .ptr 0 0 [] 0),(18, .ah 51 xs),(19, .int xs.length),(20, .int i)] [.box 25 (eG ds rs)]) (bj (Wq κ).E 23 4 0 I n K))=(
 letI a:=Int.toNat (↑i:Int)
 letI b:=(↑i:Int)<(↑(xs.length):Int)
 aq (decide b) (aV (true&&decide b) (aV (true&&decide ((↑i:Int)<(↑(ds.length):Int))) (aV (eR (af (nth xs a))) (aq (!x1 (af (nth xs a)) (af (ag (nth
 ds a) 2))) (K Exit.ret (sp 34 [(4,AV.bool false)] [])) (∃(e0:Nat),e0<n/\I e0 (sp 34 [(2,AV.ptr 0 0 [] 0),(18,AV.ah 51 xs),(19,AV.int (↑(xs.length)
 :Int)),(20,AV.int (IntKind.wrap IntKind.i64 ((↑i:Int)+(1:Int))))] [Obj.box 25 (AV.agg [AV.ah 43 ds,AV.ah 48 rs])])))))) (K (Exit.exit 0) (sp 34 []
 []))):=by kernel_rfl
structure AFm where
 ds:List AV
 rs:List AV
 xs:List AV
 i:Nat
abbrev ac2(x:AFm):=sp 34 [(2, .ptr 0 0 [] 0),(18, .ah 51 x.xs),(19, .int x.xs.length),(20, .int x.i)] [.box 25 (eG x.ds x.rs)]
def qf:List AV->List AV->Bool
 |[],_=>true
 |x::xs,d::ds=>x1 (af x) (af (ag d 2))&&qf xs ds
 |_::_,[]=>false
def iL(xs:List _):=decide (xs.length<=100000000)&&xs.all fun x=>eR (af x)
def PE(x:AFm):Out (Exit×S):= .aq (qf (x.xs.drop x.i) (x.ds.drop x.i)) (.one (.exit 0,sp 34 [] [])) (.one (.ret,sp 34 [(4, .bool false)] []))
theorem mh{xs}(h:iL xs=true) i:eR (af (nth xs i))=true:=by
 simp[iL] at h;rcases Nat.lt_or_ge i xs.length with a|a
 ·grind [aM]
 ·rw[eV _ _ a];rfl
theorem lFm κ:aU (Wq κ).E 12 23 4 (aG 0 ac2 (fun x=>x.i<=x.xs.length/\x.xs.length=x.ds.length/\iL x.xs=true) PE):=by
 refine aC (fun x=>x.xs.length - x.i) ?_;rintro⟨ds,f,xs,i⟩ K ⟨g,d,b⟩ a;simp only at g d b;rw[show(Wq κ).E.P=Pr κ from rfl];refine Eq.mpr (xFm κ ds f xs i _ _ K) ?_;have j:xs.length<=100000000:=by
  simp only[iL,ap7,ap6] at b;exact b.1
 simp only[PE,Out.run,ae] at a;rw[ae,ap6,ap8];refine⟨fun h=>?_,fun h=>?_⟩
 ·have c:i<xs.length:=by omega
  rw[aq7 c,←aM _ _ c,aq7 (show i<ds.length by omega),←aM ds i (by omega),qf] at a;rw[Int.toNat_natCast,az (n:=(i:Int)+1) (by omega) (by omega)];refine ai.2 ⟨by simp;omega,ai.2 ⟨by simp;omega,ai.2 ⟨mh b i,?_⟩⟩⟩;rw[ae,Bool.not_eq_true',aq8];refine⟨fun e=>a.2 (by rw[e];rfl),fun e=>?_⟩;rw[e,ar2] at a;refine⟨_,?_,⟨ds,f,xs,i+1⟩,rfl,⟨c,d,b⟩,rfl,?_⟩
  ·simp only;omega
  ·simp only[PE,Out.run,ae]
   exact a
 ·rw[aq4 (show xs.length<=i by omega)] at a
  exact a.1 rfl
noncomputable def BFm κ:=(Wq κ).loop (lFm _)
theorem yFm κ ds rs xs K:(a0 (BFm κ).E 12 23 [eG ds rs, .ah 51 xs] [] K)=(
 letI a:=K (AV.bool false) []
 letI b:=Pg.toProgram (Env.P (EB.E (Wq κ)))
 aV (List.all rs fc) (aq (!fB ds rs) a (aq ((↑(xs.length):Int) != (↑(ds.length):Int)) a (ad b 23 4=ad b 23 4/\∃(e0:AFm),sp 34 [(2,AV.ptr 0 0 []
 0),(18,AV.ah 51 xs),(19,AV.int (↑(xs.length):Int)),(20,AV.int 0)] [Obj.box 25 (AV.agg [AV.ah 43 ds,AV.ah 48 rs])]=ac2 e0/\(e0.i<=e0.xs.length/\
 e0.xs.length=e0.ds.length/\iL e0.xs=true)/\aq (qf (List.drop e0.i e0.xs) (List.drop e0.i e0.ds)) (K (AV.bool true) []) a)))):=by kernel_rfl
def jZ ds a xs:=fB ds a&&(decide (xs.length=ds.length)&&qf xs ds)
def gFm:List AV->Option (Bool×AV)
 |[.agg [.ah 43 ds, .ah 48 a], .ah 51 xs]=>some (a.all fc&&iL xs, .bool (jZ ds a xs))
 |_=>none
theorem pFm κ:cd (BFm κ).E 12 23 gFm:=by
 intro c x a;unfold gFm at a;split at a
 ·rename_i ds b xs
  simp only[ap9,aq5,ap7] at a;obtain⟨⟨f,g⟩,rfl⟩:=a;refine⟨_,rfl,rfl,Eq.mpr (yFm κ ds b xs _) (ai.2 ⟨f,?_⟩)⟩;unfold jZ;rw[ae,Bool.not_eq_true',aq8];refine⟨fun e=>by rw[e];rfl,fun e=>?_⟩;rw[e,ar2,ae,bne_iff_ne,bne_eq_false_iff_eq];refine⟨fun d=>by rw[aq0 (by omega)];rfl,fun d=>⟨rfl,⟨ds,b,xs,0⟩,rfl,⟨Nat.zero_le _,by simp only;omega,g⟩,?_⟩⟩;rw[aq2 (by omega),ar2]
  simp_all[aq6,ae]
 ·cases a
noncomputable def BFn κ:=(BFm κ).pure (pFm _)
def QJ v:=v=e6 (Es v)/\bif (Es v).y then(Es v).n=0 else(Es v).s=ByteArray.mk #[]
def uB(r:List _):=∀v,v∈r->QJ v
def fR(L:RL):=∀r,r∈L->uB r
theorem Qy{v w}(d:QJ v)(e:QJ w)(h:o0 v w=0):v=w:=by
 obtain⟨g,j⟩:=d;obtain⟨f,k⟩:=e;rw[g,f] at h⊢;generalize Es v=a at*
 generalize Es w=b at*
 obtain⟨y,n,s⟩:=a;obtain⟨i,c,s'⟩:=b;cases y<;>cases i
 ·obtain rfl:=K8.1 (show yj n c=0 from h)
  grind
 ·cases(show(-1:Int)=0 from h)
 ·cases(show(1:Int)=0 from h)
 ·obtain rfl:=Jt.1 (show B0 s s'=0 from h)
  grind
theorem pF: ∀{l m},uB l->uB m->bz l m=0->l=m
 |[],[],_,_,_=>rfl
 |[],_::_,_,_,h=>by simp[bz,qJ] at h
 |_::_,[],_,_,h=>by simp[bz,qJ] at h
 | a::l,b::m,d,f,h=>by
  simp only[bz,qJ] at h;by_cases e:o0 a b=0
  ·rw[aq2 e] at h
   rw[Qy (d a (by simp)) (f b (by simp)) e,pF (fun v c=>d v (by simp[c])) (fun v c=>f v (by simp[c])) h]
  grind
theorem c9{a}{l:RL}:cK (a::l)=true↔(∀b,b∈l->bz a b<0)/\cK l=true:=by
 induction l generalizing a with
 |nil=>simp[cK]
 |cons b l f=>
  rw[cK,ap7,ap6,f];refine⟨fun⟨e,g,h⟩=>⟨fun c d=>?_,g,h⟩,by grind⟩;rcases List.mem_cons.1 d with rfl|d
  ·exact e
  ·exact bQ.Ku e (by grind)
theorem zC: ∀{l m},cK l=true->cK m=true->(∀r,r∈l↔r∈m)->l=m
 |[],[],_,_,_=>rfl
 |[],b::m,_,_,h=>by have:=(h b).2 (by simp);simp at this
 |a::l,[],_,_,h=>by have:=(h a).1 (by simp);simp at this
 | a ::l,b::m,i,k,h=>by
  obtain⟨c,g⟩:=c9.1 i;obtain⟨d,j⟩:=c9.1 k;have e:a=b:=by
   rcases List.mem_cons.1 ((h a).1 (by simp)) with e|e
   ·exact e
   ·rcases List.mem_cons.1 ((h b).2 (by simp)) with f|f
    ·exact f.symm
    ·have:=d a e
     have:=c b f
     rw[bQ.swap b a] at this;omega
  subst e;rw[zC g j fun r=>?_];have n:=h r;simp only[ar4] at n;have p:r∈l->r≠a:=fun q e=>by
   subst e;have:=c r q
   rw[bQ.self] at this;omega
  have o:r∈m->r≠a:=fun q e=>by
   subst e;have:=d r q
   rw[bQ.self] at this;omega
  grind
def yg(r:List AV):RL->RL
 |[]=>[r]
 |a::l=>bif decide (bz r a<0) then r::a::l else bif decide (bz r a=0) then a::l else a::yg r l
def ej(L:RL):RL:=L.foldr yg []
theorem x9{r x}: ∀{l},uB r->fR l->(x∈yg r l↔x=r\/x∈l)
 |[],_,_=>by simp[yg]
 | a::l,c,d=>by
  have g:=x9 (x:=x) c (l:=l) fun s e=>d s (by simp[e])
  rw[yg];by_cases f:bz r a<0
  ·grind
  ·rw[aq0 f]
   by_cases b:bz r a=0
   ·rw[aq2 b,aq3,pF c (d a (by simp)) b]
    simp
   grind
theorem yU{r}: ∀{l},uB r->fR l->cK l=true->cK (yg r l)=true
 |[],_,_,_=>rfl
 | a::l,f,k,h=>by
  obtain⟨m,g⟩:=c9.1 h;have d:fR l:=fun s j=>k s (by simp[j])
  rw[yg];by_cases e:bz r a<0
  ·rw[aq2 e,aq3]
   refine c9.2 ⟨fun b c=>?_,h⟩;rcases List.mem_cons.1 c with rfl|c
   ·exact e
   ·exact bQ.Ku e (by grind)
  ·rw[aq0 e,aq1]
   by_cases i:bz r a=0
   ·grind
   ·rw[aq0 i,aq1]
    refine c9.2 ⟨fun b c=>?_,yU f d g⟩;rcases(x9 f d).1 c with rfl|c
    ·rw[bQ.swap b a];omega
    ·exact m b c
theorem jH: ∀{L},fR L->cK (ej L)=true/\(∀r,r∈ej L↔r∈L)/\fR (ej L)
 |[],h=>⟨rfl,fun _=>Iff.rfl,h⟩
 |a::L,h=>by
  have f:fR L:=fun s d=>h s (by grind)
  obtain⟨g,i,b⟩:=jH f;have e:=h a (by simp);have c: ∀r,r∈yg a _↔r∈a::L:=fun r=>by rw[x9 e b,i,ar4]
  exact⟨yU e b g,c,fun s d=>h s ((c s).1 d)⟩
theorem MS{L M}(a:fR L)(b:cK M=true)(c: ∀r,r∈M↔r∈L):M=ej L:=
 zC b (jH a).1 fun r=>(c r).trans ((jH a).2.1 r).symm
theorem w8: ∀p l,uB p->fR l->(∀b,b∈l->bz p b<=0)->Up l 0 l.length->cK (p::jV p l)=true/\∀r,r∈p::jV p l↔r∈p::l
 |p,[],_,_,_,_=>⟨rfl,fun _=>Iff.rfl⟩
 | p,b::l,u,o,n,q=>by
  have t:=o b (by simp);have m:fR l:=fun s v=>o s (by simp[v])
  have g:Up l 0 l.length:=fun i j h k w=>by
   have:=q (i+1) (j+1) (by omega) (by omega) (by simp;omega)
   simpa[rat] using this
  have a: ∀c,c∈l->bz b c<=0:=fun c d=>by
   obtain⟨j,x,rfl⟩:=List.getElem_of_mem d;have:=q 0 (j+1) (by omega) (by omega) (by simp;omega)
   simpa[rat,x] using this
  obtain⟨h,k⟩:=w8 b l t m a g;rw[jV];by_cases e:bz b p=0
  ·rw[show(bz b p==0)=true by simpa using e,aq3]
   obtain rfl:=pF t u e;exact⟨h,fun r=>by rw[k r];simp⟩
  ·rw[show(bz b p==0)=false by simpa using e,aq1]
   have f:bz p b<0:=by
    have w:=n b (by simp);have y:=bQ.swap p b;omega
   refine⟨c9.2 ⟨fun c d=>?_,h⟩,by grind⟩;rcases List.mem_cons.1 ((k c).1 d) with rfl|d
   ·exact f
   ·exact bQ.Ku f (a c d)
theorem SE{L M}(l:fR L)(k:M.Perm L)(e:Up M 0 L.length):ke M=ej L:=by
 have d:fR M:=fun r m=>l r (k.mem_iff.1 m)
 have c:=k.length_eq;refine MS l ?_ fun r=>?_
 ·cases M with
  |nil=>rfl
  | cons a M=>exact(w8 a M (d a (by simp)) (fun s g=>d s (by simp[g])) (fun b h=>by
    obtain⟨j,f,rfl⟩:=List.getElem_of_mem h;have:=e 0 (j+1) (by omega) (by omega) (by rw[←c];simp;omega)
    simpa[rat,f] using this) (fun i j o p n=>by
    have:=e (i+1) (j+1) (by omega) (by omega) (by rw[←c];simp;omega)
    simpa[rat] using this)).1
 ·rw[←k.mem_iff]
  cases M with
  |nil=>exact Iff.rfl
  | cons a M=>exact(w8 a M (d a (by simp)) (fun s g=>d s (by simp[g])) (fun b h=>by
    obtain⟨j,f,rfl⟩:=List.getElem_of_mem h;have:=e 0 (j+1) (by omega) (by omega) (by rw[←c];simp;omega)
    simpa[rat,f] using this) (fun i j o p n=>by
    have:=e (i+1) (j+1) (by omega) (by omega) (by rw[←c];simp;omega)
    simpa[rat] using this)).2 r
theorem aj9 κ: ∀a st K,aO Cw (fun L=>L.length<=100000000/\fq L) Nf a st K->b7 (Pr κ) 80 a st K:=fun a st K h=>gS (W0 _).ok (W0 _).mono (cCo _ _ _ K h)
noncomputable def ap1 κ:=(BFn κ).mat [(0,some 70)] aJ (ag3 _)
noncomputable def BSo(κ:Kp):EB:=(ap1 κ).mat [(0,some 70)] aJ (aj9 κ)
theorem ySo κ L K:(a0 (BSo κ).E 12 36 [.ah 70 (rws L)] [] K)=(
 letI b:=Obj.row
 (Nx (rws L)=true->∃(a:RL),([AV.ak 0 0 0,AV.bm 54 []],[b 70 []])=CM a/\pt a/\∀(y:RL),(List.Perm y a/\∀(i j:Nat),0<=i->i
 <j->j<a.length->bz (rat y i) (rat y j)<=(0:Int))->∃(a:RL),([AV.ak 0 0 0,AV.bm 81 []],[b 70 []])=Cw a/\(a.length<=100000000/\
 fq a)/\∀(y:List AV),True->∃(a_2:List AV),([AV.ah 70 (rws (ke a))],[])=U6 a_2/\eR a_2=true/\K (AV.ah 70 (rws (cU a_2))) [])/\aV
 (decide ((0+List.length (rws L)+1)*25<=70368744177664)) (∃(a:RL),([AV.ak 0 0 (0+List.length (rws L)),AV.bm 54 []],[b 70 ([]++rws L)])
 =CM a/\pt a/\∀(y:RL),(List.Perm y a/\∀(i j:Nat),0<=i->i<j->j<a.length->bz (rat y i) (rat y j)<=(0:Int))->∃(a:RL),([AV.ak
 0 0 (0+List.length (rws L)),AV.bm 81 []],[b 70 (rws y)])=Cw a/\(a.length<=100000000/\fq a)/\∀(y:List AV),True->∃(a_2:List AV),
 ([AV.ah 70 (rws (ke a))],[])=U6 a_2/\eR a_2=true/\K (AV.ah 70 (rws (cU a_2))) [])):=by kernel_rfl
theorem rz{L}(h:L.length<=100000000)(b: ∀r,r∈L->r.length<=100000000):eR (rws L)=true:=by
 simp only[eR,dX,ap7,ap6,List.all_eq_true];refine⟨h,fun x c=>?_⟩;obtain⟨r,a,rfl⟩:=List.mem_map.1 c;exact b r a
structure xe(L:RL):Prop where
 n:L.length<=100000000
 s: ∀r,r∈L->r.length<=100000000
 v:fR L
theorem xe.short{L}(h:xe L):fq L:=fun r a=>by have:=h.s r a;grind [aW]
theorem sk: ∀L,(ej L).length<=L.length
 |[]=>Nat.le_refl _
 | a::L=>by
  have h: ∀l,(yg a l).length<=l.length+1:=fun l=>by
   induction l with
   |nil=>exact Nat.le_refl _
   |cons b l d=>
    grind [yg]
  have c:=sk L
  grind [ej]
theorem R8{L}(h:xe L):xe (ej L):=
 ⟨Nat.le_trans (sk L) h.n,fun r a=>h.s r (((jH h.v).2.1 r).1 a),(jH h.v).2.2⟩
def QG(L:RL):List AV×List Dn.Obj:=([.ah 70 (rws L)],[])
def XF(L:RL):Out (AV×List Dn.Obj):= .one (.ah 70 (rws (ej L)),[])
theorem cSo κ:bd (BSo κ).E 12 36 (aO QG xe XF):=by
 refine aR ?_;rintro L K h i;have j:=R8 h;have c:K (.ah 70 (rws (cU (rws (ej L))))) []:=by rw[jK];exact i
 refine Eq.mpr (ySo κ L K) ⟨fun e=>?_,ai.2 ⟨by have:=h.n;simp;omega,L,?_,⟨h.n,h.short⟩,fun M d=>?_⟩⟩
 ·cases L with
  |nil=>
   refine⟨[],rfl,⟨Nat.zero_le _,fun r b=>(nomatch b)⟩,fun M d=>?_⟩;exact⟨[],rfl,⟨Nat.zero_le _,fun r b=>(nomatch b)⟩,fun k _=>⟨[],rfl,rfl,i⟩⟩
  |cons a L=>cases e
 ·simp only[CM,dX,Nat.zero_add,List.nil_append]
 ·have f:M.Perm L:=d.1
  have g:=f.length_eq;refine⟨M,?_,⟨by rw[g];exact h.n,fj h.short f⟩,fun k _=>⟨rws (ej L),?_,rz j.n j.s,c⟩⟩
  ·simp only[Cw,dX,Nat.zero_add,g]
  ·rw[SE h.v f d.2];rfl
noncomputable def al3 κ:=((BSo κ).call (cSo _)).calm [36]
end Go.Proofs.YtioeffnadipbaaaGreatDoor
namespace Go.Proofs.YtioeffnadipbaaaGreatDoor
open Go Go.Dn Go.Rl Go.Proofs Go.Shelf
attribute [local irreducible] a0 vc
set_option maxRecDepth 20000
abbrev dG:=List (ByteArray×eU)
abbrev cR(e:dG):AV:= .eS 9 72 (e.map fun x=>Value.string x.1) (e.map fun x=>e6 x.2)
def dG.put:dG->ByteArray->eU->dG
 |[],s,v=>[(s,v)]
 |(t,w)::e,s,v=>bif decide (s=t) then(s,v)::e else(t,w)::dG.put e s v
def dG.get:dG->ByteArray->eU
 |[],_=>⟨false,0,ByteArray.mk #[]⟩
 |(t,w)::e,s=>bif decide (s=t) then w else dG.get e s
abbrev Zo(e:dG):=e.map fun x=>(Value.string x.1,e6 x.2)
theorem Mv: ∀e,(e.map fun x=>Value.string x.1).zip (e.map fun x=>e6 x.2)=Zo e
 |[]=>rfl
 |x::e=>by
  grind
theorem V3 s t:eg (.string s) (.string t)=decide (s=t):=by
 show(s==t)=_
 grind
theorem Py s v: ∀e,eC (Zo e) (.string s) (e6 v)=Zo (e.put s v)
 |[]=>rfl
 |(t,w)::e=>by
  have a:=Py s v e
  grind [eC,V3,dG.put]
theorem Pm s: ∀e,c6 (Zo e) (.string s) (e6 ⟨false,0,ByteArray.mk #[]⟩)=e6 (e.get s)
 |[]=>rfl
 |(t,w)::e=>by
  have a:=Pm s e
  grind [c6,V3,dG.get]
structure Ep where
 e:dG
 s:ByteArray
 v:eU
def qu(x:Ep):List AV×List Dn.Obj:=([cR x.e, .lit (.string x.s),e6 x.v],[])
def XW(x:Ep):Out (AV×List Dn.Obj):= .one (cR (x.e.put x.s x.v),[])
def Zp(c:Int):List eU->eU
 |[a,b]=>⟨false,bif c==5 then IntKind.wrap .i64 (a.n+b.n) else bif c==6 then IntKind.wrap .i64 (a.n - b.n) else IntKind.wrap .i64 (a.n*b.n),ByteArray.mk #[]⟩
 |_=>⟨false,0,ByteArray.mk #[]⟩
mutual
def bK(e:dG):Tm->eU
 | .mk op s n l=>bif op==1 then e.get s else bif op==2 then⟨false,n,ByteArray.mk #[]⟩ else bif op==3 then⟨true,0,s⟩ else Zp op (TY e l)
def TY(e:dG):List Tm->List eU
 |[]=>[]
 |t::l=>bK e t::TY e l
end
def bL:Tm->Bool
 | .mk c _ _ l=>c==1||(c==2||(c==3||match l with|[a,b]=>bL a&&bL b|_=>false))
structure gy where
 e:dG
 t:AT
def dT(x:gy):List AV×List Dn.Obj:=([cR x.e,dn x.t],[])
def qp n(x:gy):=x.t.tm.mL=n/\bL x.t.tm=true
def S4(x:gy):Out (AV×List Dn.Obj):= .one (e6 (bK x.e x.t.tm),[])
def VD n:=aO dT (qp n) S4
theorem Ly{t:AT}(d:(t.op==1)=false)(c:(t.op==2)=false)(e:(t.op==3)=false)(h:bL t.tm=true): ∃a b,t.l=[a,b]/\bL (cI a)=true/\bL (cI b)=true:=by
 obtain⟨f,s,n,l⟩:=t;simp only[AT.tm] at h;match l,h with
 |[a,b],h=>
  simp only[aa,ar3,List.map_nil,bL,d,c,e,Bool.false_or] at h
  grind
 |[],h=>simp[aa,bL,d,c,e] at h
 |[_],h=>simp[aa,bL,d,c,e] at h
 |_::_::_::_,h=>simp[aa,bL,d,c,e] at h
theorem O8 e c s n a b(g:(c==1)=false)(d:(c==2)=false)(f:(c==3)=false):bK e (AT.mk c s n [a,b]).tm=⟨false,bif c==5 then IntKind.wrap .i64 ((bK e (eH a).tm).n+(bK e (eH b).tm).n) else bif c==6 then IntKind.wrap .i64 ((bK e (eH a).tm).n - (bK e (eH b).tm).n) else IntKind.wrap .i64 ((bK e (eH a).tm).n*(bK e (eH b).tm).n),ByteArray.mk #[]⟩:=by
 rw[iE,iE,AT.tm];rw[bK,g,d,f];rfl
end Go.Proofs.YtioeffnadipbaaaGreatDoor
namespace Go.Proofs.YtioeffnadipbaaaGreatDoor
open Go Go.Dn Go.Rl Go.Proofs
attribute [local irreducible] a0 vc
set_option maxRecDepth 20000
abbrev BI:=List AV×Bool×Bool
def UQ(a:List AV)(f:RL->List BI):RL->List BI
 |[]=>(a,true,false)::f []
 |b::c=>bif decide (bz a b<0) then(a,true,false)::f (b::c) else bif decide (bz a b=0) then(a,true,true)::f c else(b,false,true)::UQ a f c
def fZ:RL->RL->List BI
 |[],c=>c.map fun b=>(b,false,true)
 |a::d,c=>UQ a (fZ d) c
def er(A B:RL):RL:=(fZ A B).map (·.1)
theorem Ar B:er [] B=B:=by
 rw[er,fZ,List.map_map];exact List.map_id' B
theorem Bv a(b:RL):er (a::b) []=a::er b []:=rfl
theorem zY a b(d c:RL):er (a::d) (b::c)=bif decide (bz a b<0) then a::er d (b::c) else bif decide (bz a b=0) then a::er d c else b::er (a::d) c:=by
 grind [er,fZ,UQ]
theorem gq{A B r}(f:fR A)(g:fR B):r∈er A B↔r∈A\/r∈B:=by
 match A,B with
 |[],B=>rw[Ar];simp
 |a::i,[]=>
  rw[Bv,ar4,gq (fun s d=>f s (by simp[d])) g,ar4,or_assoc]
 | a::i,b::k=>
  have c:fR i:=fun s d=>f s (by simp[d])
  have e:fR k:=fun s d=>g s (by simp[d])
  rw[zY];by_cases j:bz a b<0
  ·rw[aq2 j,aq3,ar4,gq c g,ar4,ar4,or_assoc]
  ·rw[aq0 j,aq1]
   by_cases h:bz a b=0
   ·obtain rfl:=pF (f a (by simp)) (g b (by simp)) h
    rw[aq2 h,aq3,ar4,gq c e,ar4,ar4]
    grind
   ·rw[aq0 h,aq1,ar4,gq f e,ar4,ar4]
    grind
termination_by A.length+B.length
theorem ml{A B}(j:fR A)(g:fR B)(o:cK A=true)(m:cK B=true):cK (er A B)=true:=by
 match A,B with
 |[],B=>rw[Ar];exact m
 |a::n,[]=>
  have e:fR n:=fun s h=>j s (by simp[h])
  obtain⟨i,k⟩:=c9.1 o;rw[Bv];refine c9.2 ⟨fun c d=>?_,ml e g k m⟩;rcases(gq e g).1 d with d|d
  ·exact i c d
  ·cases d
 | a ::n,b::u=>
  have e:fR n:=fun s h=>j s (by simp[h])
  have f:fR u:=fun s h=>g s (by simp[h])
  obtain⟨i,k⟩:=c9.1 o;obtain⟨p,r⟩:=c9.1 m;rw[zY];by_cases l:bz a b<0
  ·rw[aq2 l,aq3]
   refine c9.2 ⟨fun c d=>?_,ml e g k m⟩;rcases(gq e g).1 d with d|d
   ·exact i c d
   ·rcases List.mem_cons.1 d with rfl|d
    ·exact l
    ·exact bQ.Ku l (Int.le_of_lt (p c d))
  ·rw[aq0 l,aq1]
   by_cases q:bz a b=0
   ·obtain rfl:=pF (j a (by simp)) (g b (by simp)) q
    rw[aq2 q,aq3];refine c9.2 ⟨fun c d=>?_,ml e f k r⟩;rcases(gq e f).1 d with d|d
    ·exact i c d
    ·exact p c d
   ·rw[aq0 q,aq1]
    have t:bz b a<0:=by have:=bQ.swap a b;omega
    refine c9.2 ⟨fun c d=>?_,ml j f o r⟩;rcases(gq j f).1 d with d|d
    ·rcases List.mem_cons.1 d with rfl|d
     ·exact t
     ·exact bQ.Ku t (Int.le_of_lt (i c d))
    ·exact p c d
termination_by A.length+B.length
noncomputable abbrev VL(κ:Kp):EB:=al3 κ
abbrev VE V m(i:Nat):=sp 25 [(0, .ah 2 V),(3, .int m),(4, .int i)] []
theorem xMn κ V m i I N K:(vc (VL κ).E 12 126 none 0 (ad (Pr κ).toProgram 126 5) (VE V m i) (bj (VL κ).E 126 5 0 I N K))=(
 letI a:=(↑i:Int)<(↑(V.length):Int)
 letI b:=nth V (Int.toNat (↑i:Int))
 aq (decide a) (aV (true&&decide a) (∃(e0:Nat),e0<N/\I e0 (sp 25 [(0,AV.ah 2 V),(3,AV.int (if toInt b<m then toInt b else m)),(4,AV.int
 (IntKind.wrap IntKind.i64 ((↑i:Int)+(1:Int))))] []))) (K (Exit.exit 0) (sp 25 [(3,AV.int m)] []))):=by kernel_rfl
structure Xk where
 V:List AV
 m:Int
 i:Nat
abbrev Il(x:Xk):S:=VE x.V x.m x.i
def BN(x:Xk):=x.i<=x.V.length/\x.V.length<=100000000
def NN m(l:List _):=l.foldl (fun m x=>if toInt x<m then toInt x else m) m
def TU(x:Xk):Out (Exit×S):= .one (.exit 0,sp 25 [(3, .int (NN x.m (x.V.drop x.i)))] [])
theorem lMn κ:aU (VL κ).E 12 126 5 (aG 0 Il BN TU):=by
 refine aC (fun x=>x.V.length - x.i) ?_;rintro⟨V,m,i⟩ K ⟨d,c⟩ a;simp only at d c;rw[show(VL κ).E.P=Pr κ from rfl];refine Eq.mpr (xMn κ V m i _ _ K) ?_;rw[ae,ap6,ap8];simp only[TU,Out.run] at a;refine⟨fun h=>ai.2 ⟨by simp;omega,_,?_,⟨V,if toInt (nth V i)<m then toInt (nth V i) else m,i+1⟩,?_,⟨by simp only;omega,c⟩,rfl,?_⟩,fun h=>?_⟩
 ·simp only;omega
 ·rw[az (n:=(i:Int)+1) (by omega) (by omega)];rfl
 ·have b:i<V.length:=by omega
  rw[aq7 b,←aM V i b] at a;exact a
 ·rw[aq4 (by omega)] at a
  exact a
noncomputable def Uz κ:=(VL κ).loop (lMn _)
theorem yMn κ V K:(a0 (Uz κ).E 12 126 [.ah 2 V] [] K)=(
 letI a:=Pg.toProgram (Env.P (EB.E (VL κ)))
 aq (decide ((↑(V.length):Int)<(1:Int))) False (aV (true&&decide ((0:Int)<(↑(V.length):Int))) (ad a 126 5=ad a 126 5/\∃(e0:Xk),sp 25 [(0,
 AV.ah 2 V),(3,AV.int (toInt (nth V 0))),(4,AV.int 1)] []=Il e0/\BN e0/\K (AV.int (NN e0.m (List.drop e0.i e0.V))) []))):=by kernel_rfl
def gMn:List AV->Option (Bool×AV)
 |[.ah 2 V]=>some (decide (1<=V.length)&&decide (V.length<=100000000), .int (NN (toInt (nth V 0)) (V.drop 1)))
 |_=>none
theorem pMn κ:cd (Uz κ).E 12 126 gMn:=by
 intro b x a;unfold gMn at a;split at a
 ·rename_i V
  simp only[ap9,aq5,ap7,ap6] at a;obtain⟨⟨d,c⟩,rfl⟩:=a;refine⟨_,rfl,rfl,Eq.mpr (yMn κ V _) (ae.2 ⟨by grind,fun _=>ai.2 ⟨by simp;omega,rfl,⟨V,_,1⟩,rfl,⟨d,c⟩,rfl⟩⟩)⟩
 ·cases a
noncomputable def UM(κ:Kp):EB:=(Uz κ).pure (pMn κ)
theorem xMg κ V m i I N K:(vc (UM κ).E 12 127 none 0 (ad (Pr κ).toProgram 127 5) (VE V m i) (bj (UM κ).E 127 5 0 I N K))=(
 letI a:=(↑i:Int)<(↑(V.length):Int)
 letI b:=nth V (Int.toNat (↑i:Int))
 aq (decide a) (aV (true&&decide a) (∃(e0:Nat),e0<N/\I e0 (sp 25 [(0,AV.ah 2 V),(3,AV.int (if toInt b>m then toInt b else m)),(4,AV.int
 (IntKind.wrap IntKind.i64 ((↑i:Int)+(1:Int))))] []))) (K (Exit.exit 0) (sp 25 [(3,AV.int m)] []))):=by kernel_rfl
def PK m(l:List _):=l.foldl (fun m x=>if toInt x>m then toInt x else m) m
def TJ(x:Xk):Out (Exit×S):= .one (.exit 0,sp 25 [(3, .int (PK x.m (x.V.drop x.i)))] [])
theorem lMg κ:aU (UM κ).E 12 127 5 (aG 0 Il BN TJ):=by
 refine aC (fun x=>x.V.length - x.i) ?_;rintro⟨V,m,i⟩ K ⟨d,c⟩ a;simp only at d c;rw[show(UM κ).E.P=Pr κ from rfl];refine Eq.mpr (xMg κ V m i _ _ K) ?_;rw[ae,ap6,ap8];simp only[TJ,Out.run] at a;refine⟨fun h=>ai.2 ⟨by simp;omega,_,?_,⟨V,if toInt (nth V i)>m then toInt (nth V i) else m,i+1⟩,?_,⟨by simp only;omega,c⟩,rfl,?_⟩,fun h=>?_⟩
 ·simp only;omega
 ·rw[az (n:=(i:Int)+1) (by omega) (by omega)];rfl
 ·have b:i<V.length:=by omega
  rw[aq7 b,←aM V i b] at a;exact a
 ·rw[aq4 (by omega)] at a
  exact a
noncomputable def LO κ:=(UM κ).loop (lMg _)
theorem yMg κ V K:(a0 (LO κ).E 12 127 [.ah 2 V] [] K)=(
 letI a:=Pg.toProgram (Env.P (EB.E (UM κ)))
 aq (decide ((↑(V.length):Int)<(1:Int))) False (aV (true&&decide ((0:Int)<(↑(V.length):Int))) (ad a 127 5=ad a 127 5/\∃(e0:Xk),sp 25 [(0,
 AV.ah 2 V),(3,AV.int (toInt (nth V 0))),(4,AV.int 1)] []=Il e0/\BN e0/\K (AV.int (PK e0.m (List.drop e0.i e0.V))) []))):=by kernel_rfl
def gMg:List AV->Option (Bool×AV)
 |[.ah 2 V]=>some (decide (1<=V.length)&&decide (V.length<=100000000), .int (PK (toInt (nth V 0)) (V.drop 1)))
 |_=>none
theorem pMg κ:cd (LO κ).E 12 127 gMg:=by
 intro b x a;unfold gMg at a;split at a
 ·rename_i V
  simp only[ap9,aq5,ap7,ap6] at a;obtain⟨⟨d,c⟩,rfl⟩:=a;refine⟨_,rfl,rfl,Eq.mpr (yMg κ V _) (ae.2 ⟨by grind,fun _=>ai.2 ⟨by simp;omega,rfl,⟨V,_,1⟩,rfl,⟨d,c⟩,rfl⟩⟩)⟩
 ·cases a
noncomputable def an9(κ:Kp):EB:=(LO κ).pure (pMg κ)
end Go.Proofs.YtioeffnadipbaaaGreatDoor
