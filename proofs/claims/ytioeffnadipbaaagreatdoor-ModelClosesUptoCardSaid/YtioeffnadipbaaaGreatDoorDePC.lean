import Derived.Test.YtioeffnadipbaaaGreatDoorDePB
namespace Go.Proofs.YtioeffnadipbaaaGreatDoor
open Go Go.Dn Go.Rl Go.Proofs
attribute [local irreducible] a8 vc
set_option maxRecDepth 20000
def kr:List AV->RL->RL
 |_,[]=>[]
 |p,b::l=>bif bD b p==0 then kr b l else b::kr b l
def kC:RL->RL
 |[]=>[]
 |a::l=>a::kr a l
theorem xCi κ L(n0 k k0 k2:Nat) I n K:(vc (W9 κ).E 12 80 none 1 (ad (Pr κ).toProgram 80 9) (sp 66 [(0, .ak 0 0 L.length),(1, .bo 81 []),(5, .int k),(6, .ak 0 k0 n0),(7, .int k2)] [.row 70 (rws L)]) (bg (W9 κ).E 80 9 1 I n K))=(
 letI a:=IntKind.wrap .i64
 letI b:=AV.int
 letI c:=ag (nth (rws L) (k0+Int.toNat ↑k2))
 letI d:=↑k2<(↑n0:Int)
 letI f:=a (↑k2+1)
 letI e:=↑k2 - (1:Int)
 aq (decide d) (aW (true&&decide d) (aW (decide (0<=a e)&&decide (a e<↑n0)) (aW (decide
 (List.length c<=9223372036854775807)) (aq (!bD c (ag (nth (rws L) (k0+Int.toNat (a e))))==0) (aW (true&&decide d) (aW
 (true&&decide (↑k<(↑(L.length):Int))) (∃e0,e0<n/\I e0 (sp 66 [(0,.ak 0 0 L.length),(1,.bo 81 []),(5,b (IntKind.wrap
 .i64 (↑k+1))),(6,.ak 0 k0 n0),(7,b f)] [.row 70 (bP (rws L) (0+Int.toNat ↑k) (.ah 72 c))])))) (∃e0,e0<n/\I e0 (sp 66 [(0,.ak 0 0 L.length),(1,.bo 81 []),(5,b ↑k),(6,.ak 0 k0 n0),(7,b f)] [.row 70 (rws L)])))))) (K
 (.exit 2) (sp 66 [(0,.ak 0 0 L.length),(5,b ↑k)] [.row 70 (rws L)]))):=by kernel_rfl
structure ACi where
 L0:RL
 L:RL
 n0:Nat
 k0:Nat
 k:Nat
 k2:Nat
abbrev UA(x:ACi):=sp 66 [(0, .ak 0 0 x.L.length),(1, .bo 81 []),(5, .int x.k),(6, .ak 0 x.k0 x.n0),(7, .int x.k2)] [.row 70 (rws x.L)]
structure aa4(x:ACi):Prop where
 len:x.L.length=x.L0.length/\x.L0.length=x.k0+x.n0
 k:x.k0<=x.k/\x.k+1<=x.k0+x.k2
 k2:1<=x.k2/\x.k2<=x.n0
 l:x.L0.length<=100000000
 s:fK x.L0
 o: ∀j,x.k0+x.k2<=j+1->rat x.L j=rat x.L0 j
 e:kC x.L0=x.L.take x.k++kr (rat x.L0 (x.k0+x.k2 - 1)) (x.L0.drop (x.k0+x.k2))
def ah1(x:ACi):Out (Exit×S):= .all (fun r:Nat×RL=>r.2.length=x.L0.length/\r.1<=x.L0.length/\r.2.take r.1=kC x.L0) fun r=> .one (.exit 2,sp 66 [(0, .ak 0 0 r.2.length),(5, .int r.1)] [.row 70 (rws r.2)])
theorem lCi κ:aU (W9 κ).E 12 80 9 (aG 1 UA aa4 ah1):=by
 refine aC (fun x=>x.n0 - x.k2) ?_;rintro⟨c,L,m,b,k,a⟩ K ⟨p,r,s,l,g,f,d⟩ o;simp only at p r s l g f d;rw[show(W9 κ).E.P=Pr κ from rfl];refine Eq.mpr (xCi κ L m k b a _ _ K) ?_;rw[ae,at3,aC7];refine⟨fun h=>?_,fun h=>?_⟩
 ·have q:b+a<c.length:=by omega
  rw[az (n:=(a:Int) - 1) (by omega) (by omega),az (n:=(a:Int)+1) (by omega) (by omega),az (n:=(k:Int)+1) (by omega) (by omega),show b+(a:Int).toNat=b+a by omega,show b+((a:Int) - 1).toNat=b+a - 1 by omega,Nat.zero_add,Int.toNat_natCast,gy,gy,wQ,f (b+a) (by omega),f (b+a - 1) (by omega)];rw[aD6 q,←Ac q,kr] at d;refine ai.2 ⟨by simp;omega,ai.2 ⟨by simp;omega,ai.2 ⟨aD1 (lq g _),ae.2 ⟨fun e=>?_,fun e=>?_⟩⟩⟩⟩
  ·have e:(bD (rat c (b+a)) (rat c (b+a - 1))==0)=false:=by simpa using e
   rw[e,aD0] at d;refine ai.2 ⟨by simp;omega,ai.2 ⟨by simp;omega,_,?_,⟨c,L.set k (rat c (b+a)),m,b,k+1,a+1⟩,?_,⟨by simp only[List.length_set];omega,by simp only;omega,by simp only;omega,l,g,fun j i=>?_,?_⟩,rfl,o⟩⟩
   ·simp only;omega
   ·simp only[UA,List.length_set];rfl
   ·simp only at i
    rw[Ka _ _ _ _ (by omega),if_neg (by omega)];exact f j (by omega)
   ·simp only
    rw[d,show b+(a+1) - 1=b+a by omega,List.take_succ_eq_append_getElem (by rw[List.length_set];omega)];rw[List.getElem_set_self,List.take_set_of_le (Nat.le_refl _)];simp[Nat.add_assoc]
  ·have e:(bD (rat c (b+a)) (rat c (b+a - 1))==0)=true:=by simpa using e
   rw[e,aD2] at d;refine⟨_,?_,⟨c,L,m,b,k,a+1⟩,rfl,⟨p,by simp only;omega,by simp only;omega,l,g,fun j i=>f j (by simp only at i;omega),?_⟩,rfl,o⟩
   ·simp only;omega
   ·simp only
    rw[d,show b+(a+1) - 1=b+a by omega];rfl
 ·refine o (k,L) ⟨p.1,by simp only;omega,?_⟩
  rw[aD3 (by omega),kr,List.append_nil] at d;exact d.symm
noncomputable def WK κ:=(W9 κ).loop (lCi _)
theorem xCo κ L(k:Nat) I n K:(vc (WK κ).E 12 80 none 1 (ad (Pr κ).toProgram 80 4) (sp 66 [(0, .ak 0 0 L.length),(1, .bo 81 []),(5, .int k)] [.row 70 (rws L)]) (bg (WK κ).E 80 4 1 I n K))=(
 letI a:=IntKind.wrap .i64
 letI b:=Obj.row
 letI d:=↑k - (1:Int)
 letI e:=ag (nth (rws L) (0+Int.toNat ↑k))
 letI f:=↑k<(↑(L.length):Int)
 letI g:=Pg.toProgram (Env.P (EB.E (W9 κ)))
 aq (decide f) (aW (true&&decide f) (aW (decide (0<=a d)&&decide (a d<↑(L.length))) (aW (decide (List.length e<=9223372036854775807)) (aq (bD e (ag (nth (rws L) (0+Int.toNat (a d))))==0) (aW (true&&decide (↑k<=(↑(L.length):Int))&&decide (↑(L.length)<=(↑(L.length):Int))) (ad g 80 9=ad g 80 9/\∃e1,sp 66 [(0,.ak 0 0 L.length),(1,.bo 81 []),(5,AV.int ↑k),(6,.ak 0 (0+Int.toNat ↑k) (Int.toNat (↑(L.length) - ↑k))),(7,AV.int 1)] [b 70 (rws L)]=UA e1/\aa4 e1/\∀(e0:Nat×RL),letI c:=e0.2.length;letI h:=↑(e0.1)<=(↑c:Int);e0.2.length=e1.L0.length/\e0.1<=e1.L0.length/\List.take e0.1 e0.2=kC e1.L0->aW (true&&decide h&&decide (↑c<=(↑c:Int))) (aW (true&&decide h) (K .ret (sp 66 [(4,.ak 0 0 (Int.toNat (↑(e0.1) - 0)))] [b 70 (dt (rws e0.2) (0+Int.toNat ↑(e0.1)) (Int.toNat (↑c - ↑(e0.1))) AV.nil)]))))) (∃e0,e0<n/\I e0 (sp 66 [(0,.ak 0 0 L.length),(1,.bo 81 []),(5,AV.int (a (↑k+1)))] [b 70 (rws L)])))))) (K (.exit 0) (sp 66 [(0,.ak 0 0 L.length)] [b 70 (rws L)]))):=by kernel_rfl
structure ACo where
 L:RL
 k:Nat
abbrev ao0(x:ACo):=sp 66 [(0, .ak 0 0 x.L.length),(1, .bo 81 []),(5, .int x.k)] [.row 70 (rws x.L)]
def aa5(x:ACo):=(1<=x.k/\x.k<=x.L.length)/\x.L.length<=100000000/\fK x.L/\kC x.L=x.L.take x.k++kr (rat x.L (x.k - 1)) (x.L.drop x.k)
def PW(x:ACo):Out (Exit×S):= .aq (decide ((kC x.L).length=x.L.length)) (.one (.exit 0,sp 66 [(0, .ak 0 0 x.L.length)] [.row 70 (rws x.L)]))
 (.all (fun a=>(kC x.L).length<=a.length/\a.take (kC x.L).length=rws (kC x.L)) fun a=> .one (.ret,sp 66 [(4, .ak 0 0 (kC x.L).length)] [.row 70 a]))
theorem uf: ∀p l,(kr p l).length<=l.length
 |_,[]=>Nat.le_refl _
 |p,b::l=>by
  have:=uf b l
  grind [kr]
theorem Av: ∀p l,(kr p l).length=l.length->kr p l=l
 |_,[],_=>rfl
 | p,b::l,h=>by
  have a:=uf b l;rw[kr] at h⊢;cases e:bD b p==0 with
  |true=>grind
  |false=>
   rw[e,aD0,List.length_cons,List.length_cons] at h;rw[aD0,Av b l (by omega)]
theorem sm z: ∀xs k m,(dt xs k m z).take k=xs.take k
 |[],_,_=>by rfl
 |a::l,0,_=>by rfl
 |a::l,k+1,m=>by
  have:=sm z l k m
  grind [dt]
theorem rr z: ∀xs k m,(dt xs k m z).length=xs.length
 |[],_,_=>by rfl
 |a::l,0,0=>rfl
 |a::l,0,m+1=>by simp[dt,rr z l 0 m]
 |a::l,k+1,m=>by simp[dt,rr z l k m]
theorem lCo κ:aU (WK κ).E 12 80 4 (aG 1 ao0 aa5 PW):=by
 refine aC (fun x=>x.L.length - x.k) ?_;rintro⟨L,k⟩ K ⟨l,i,g,a⟩ f;simp only at l i g a;rw[show(WK κ).E.P=Pr κ from rfl];refine Eq.mpr (xCo κ L k _ _ K) ?_;simp only[PW,Out.run,ae,at3,aC7] at f;rw[ae,at3,aC7];refine⟨fun h=>?_,fun h=>?_⟩
 ·have d:k<L.length:=by omega
  rw[az (n:=(k:Int) - 1) (by omega) (by omega),az (n:=(k:Int)+1) (by omega) (by omega),show 0+((k:Int) - 1).toNat=k - 1 by omega,Nat.zero_add,Int.toNat_natCast,gy,gy];rw[aD6 d,←Ac d,kr] at a;refine ai.2 ⟨by simp;omega,ai.2 ⟨by simp;omega,ai.2 ⟨aD1 (lq g _),ae.2 ⟨fun e=>?_,fun e=>?_⟩⟩⟩⟩
  ·rw[e,aD2] at a
   have p:(kC L).length<L.length:=by
    have:=uf (rat L k) (L.drop (k+1))
    rw[a,aE1,List.length_take];rw[List.length_drop] at this;omega
   refine ai.2 ⟨by simp;omega,rfl,⟨L,L,L.length - k,k,k,1⟩,?_,⟨⟨rfl,by simp only;omega⟩,⟨Nat.le_refl _,Nat.le_refl _⟩,⟨Nat.le_refl _,by simp only;omega⟩,i,g,fun _ _=>rfl,?_⟩,fun r q=>?_⟩
   ·simp only[UA,show((L.length:Int) - k).toNat=L.length - k by omega];rfl
   ·simp only[Nat.add_sub_cancel]
    exact a
   ·obtain⟨b,M⟩:=r
    obtain⟨m,o,j⟩:=q;simp only at m o j;have c:(kC L).length=b:=by rw[←j,List.length_take];omega
    simp only;refine ai.2 ⟨by simp;omega,ai.2 ⟨by simp;omega,?_⟩⟩;have:=f.2 (by omega) (dt (rws M) b ((M.length:Int) - b).toNat .nil) ⟨by rw[rr,eC];omega,by rw[c,sm,←List.map_take,j]⟩
    rw[c] at this;rw[show((b:Int) - 0).toNat=b by omega,show 0+(b:Int).toNat=b by omega];exact this
  ·rw[e,aD0] at a
   refine⟨_,?_,⟨L,k+1⟩,rfl,⟨by simp only;omega,i,g,?_⟩,rfl,?_⟩
   ·simp only;omega
   ·simp only[Nat.add_sub_cancel]
    rw[a,List.take_succ_eq_append_getElem d,←Ac d];simp
   ·simp only[PW,Out.run,ae,at3,aC7]
    exact f
 ·rw[aD3 (by omega),kr,List.append_nil,List.take_of_length_le (by omega)] at a
  exact f.1 (by rw[a])
noncomputable def WM κ:=(WK κ).loop (lCo _)
theorem aB6 κ L K:(a8 (WM κ).E 12 80 [.ak 0 0 L.length, .bo 81 []] [.row 70 (rws L)] K)=(
 letI a:=Pg.toProgram (Env.P (EB.E (WK κ)))
 aq (decide (↑(L.length)<(2:Int))) (K (.ah 70 (List.take L.length (List.drop 0 (rws L)))) [.l3 70 (rws L)]) (ad a 80 4=ad a 80 4/\∃e1,sp 66 [(0,.ak 0 0 L.length),(1,.bo 81 []),(5,AV.int 1)] [.row 70 (rws L)]=ao0 e1/\aa5 e1/\aq (decide (List.length (kC e1.L)=
 e1.L.length)) (K (.ah 70 (List.take e1.L.length (List.drop 0 (rws e1.L)))) [.l3 70 (rws e1.L)]) (∀e0,List.length (kC e1.L)<=e0.length/\
 List.take (List.length (kC e1.L)) e0=rws (kC e1.L)->K (.ah 70 (List.take (List.length (kC e1.L)) (List.drop 0 e0))) [.l3 70 e0]))):=by kernel_rfl
def FP(L:RL):List AV×List Dn.Obj:=([.ak 0 0 L.length, .bo 81 []],[.row 70 (rws L)])
def PX(L:RL):Out (AV×List Dn.Obj):= .all (fun _=>True) fun a=> .one (.ah 70 (rws (kC L)),[.l3 70 a])
theorem cCo κ:bd (WM κ).E 12 80 (aM FP (fun L=>L.length<=100000000/\fK L) PX):=by
 refine aQ ?_;rintro L K ⟨i,j⟩ d;refine Eq.mpr (aB6 κ L K) ?_;have d: ∀c,K (.ah 70 (rws (kC L))) [.l3 70 c]:=fun c=>d c trivial
 rw[ae,at3,aC7];refine⟨fun h=>?_,fun h=>⟨rfl,⟨L,1⟩,rfl,⟨by simp only;omega,i,j,?_⟩,ae.2 ⟨fun e=>?_,fun e c f=>?_⟩⟩⟩
 ·have e:kC L=L:=by
   match L,h with
   |[],_=>rfl
   |[a],_=>rfl
   |a::b::l,h=>simp at h;omega
  have:=d (rws L)
  rw[e] at this;rw[aD5,←eC,List.take_length];exact this
 ·match L,h with
  |[],h=>simp at h
  |a::l,_=>rfl
 ·rw[at3] at e
  have g:kC L=L:=by
   match L,h with
   |a::l,_=>
    simp only[kC,List.length_cons,Nat.add_right_cancel_iff] at e;rw[kC,Av _ _ e]
  have:=d (rws L)
  rw[g] at this;simp only;rw[aD5,←eC,List.take_length];exact this
 ·simp only at f
  rw[aD5,f.2];exact d c
theorem yTy κ v k K:(a8 (WM κ).E 12 97 [fq v, .int k] [] K)=(
 aq (k==1) (K (.lit (.bool (v.y==false&&(v.n==v.n&&(ByteArray.toList v.s==ByteArray.toList {data:= #[]}&&true))))) []) (K (.lit (.bool (v.y==true&&(v.n==0&&(ByteArray.toList v.s==ByteArray.toList v.s&&true))))) [])):=by kernel_rfl
def Bk(v:fe)(k:Int):=bif k==1 then !v.y&&decide (v.s=ByteArray.mk #[]) else v.y&&decide (v.n=0)
def gTy:List AV->Option (Bool×AV)
 |[.agg [.lit (.bool y), .lit (.int .i64 n), .lit (.string s)], .lit (.int .i64 k)]=>some (true, .bool (Bk ⟨y,n,s⟩ k))
 |_=>none
theorem ab7 s t:(ByteArray.toList s==ByteArray.toList t)=decide (s=t):=by
 rw[Bool.eq_iff_iff,beq_iff_eq,at3];exact toList_inj
theorem pTy κ:cm (WM κ).E 12 97 gTy:=by
 intro b x a;unfold gTy at a;split at a
 ·rename_i y n s k
  simp only[aC8,aD4,true_and] at a;subst a;refine⟨_,rfl,rfl,Eq.mpr (yTy κ ⟨y,n,s⟩ k _) (ae.2 ⟨fun e=>?_,fun e=>?_⟩)⟩
  ·simp only[Bk,e,aD2,ab7]
   cases y<;>simp
  simp_all[Bk,aD0,ab7,ZB]
 ·cases a
noncomputable def Xk κ:=EB.Hf ((WM κ).pure (pTy _)) [97,49,23]
theorem xFj κ xs t rel ns ts a o li(j i:Nat) I n K:(vc (Xk κ).E 12 49 none 0 (ad (Pr κ).toProgram 49 7) (sp 40 [(1, .ah 70 xs),(2, .ptr 0 0 [] 0),(9, .ah 70 xs),(10, .int xs.length),(11, .int j),(21, .ah 72 t),(22, .int t.length),(23, .int i)] [.box 43 (.agg [.lit (.string rel), .ah 9 ns, .ah 3 ts, .bool a, .bool o, .int li])]) (bg (Xk κ).E 49 7 0 I n K))=(
 letI b:=AV.int
 letI c:=AV.ah
 letI e:=.agg [AV.str rel,c 9 ns,c 3 ts,AV.bool a,AV.bool o,b li]
 letI d:=Int.toNat ↑i
 letI f:=↑i<(↑(t.length):Int)
 aq (decide f) (aW (true&&decide f) (aW (true&&decide (↑i<(↑(ts.length):Int))) (aq (!Bk {y:=Dn.toBool (af (nth t d) 0),n:=toInt (af (nth t d) 1),s:=toStr (af (nth t d) 2)} (toInt (nth ts d))) (K .ret (sp 40 [(4,AV.bool false)] [])) (∃e0,e0<n/\I e0 (sp 40 [(1,c 70 xs),(2,.ptr 0 0 [] 0),(9,c 70 xs),(10,b ↑(xs.length)),(11,b ↑j),(21,c 72 t),(22,b ↑(t.length)),(23,b (IntKind.wrap .i64 (↑i+1)))] [.box 43 e]))))) (K (.exit 2) (sp 40 [(1,c 70 xs),(2,.ptr 0 0 [] 0),(9,c 70 xs),(10,b ↑(xs.length)),(11,b ↑j)] [.box 43 e]))):=by kernel_rfl
def DE:List AV->List AV->Bool
 |[],[]=>true
 |v::t,k::a=>Bk (Ad v) (toInt k)&&DE t a
 |_,_=>false
theorem DF: ∀t a,DE t a=true->t.length=a.length
 |[],[],_=>rfl
 |v::t,k::a,h=>by
  simp[DE] at h;simp[DF t _ h.2]
 |[],_::_,h=>by grind [DE]
 |_::_,[],h=>by grind [DE]
structure AFj where
 xs:List AV
 t:List AV
 d:WD
 j:Nat
 i:Nat
abbrev ao2(x:AFj):=sp 40 [(1, .ah 70 x.xs),(2, .ptr 0 0 [] 0),(9, .ah 70 x.xs),(10, .int x.xs.length),(11, .int x.j),(21, .ah 72 x.t),(22, .int x.t.length),(23, .int x.i)] [.box 43 (Vz x.d)]
def QD(x:AFj):=x.t.length=x.d.types.length/\x.i<=x.t.length/\x.t.length<=100000000
def PZ(x:AFj):Out (Exit×S):= .aq (DE (x.t.drop x.i) (x.d.types.drop x.i)) (.one (.exit 2,sp 40 [(1, .ah 70 x.xs),(2, .ptr 0 0 [] 0),(9, .ah 70 x.xs),(10, .int x.xs.length),(11, .int x.j)] [.box 43 (Vz x.d)])) (.one (.ret,sp 40 [(4, .bool false)] []))
theorem lFj κ:aU (Xk κ).E 12 49 7 (aG 0 ao2 QD PZ):=by
 refine aC (fun x=>x.t.length - x.i) ?_;rintro⟨xs,t,⟨d,m,c,a,o,g⟩,j,i⟩ K ⟨k,p,l⟩ b;simp only at k p l;rw[show(Xk κ).E.P=Pr κ from rfl];refine Eq.mpr (xFj κ xs t d m c a o g j i _ _ K) ?_;simp only[PZ,Out.run,ae] at b;rw[ae,at3,aC7];refine⟨fun h=>?_,fun h=>?_⟩
 ·have f:i<t.length:=by omega
  rw[aD6 f,←aV _ _ f,aD6 (show i<c.length by omega),←aV c i (by omega),DE] at b;rw[Int.toNat_natCast,az (n:=(i:Int)+1) (by omega) (by omega)];refine ai.2 ⟨by simp;omega,ai.2 ⟨by simp;omega,?_⟩⟩;rw[show(⟨Dn.toBool (af (nth t i) 0),toInt (af (nth t i) 1),toStr (af (nth t i) 2)⟩:fe)=Ad (nth t i) from rfl,ae,Bool.not_eq_true',aD7];refine⟨fun e=>b.2 (by rw[e];rfl),fun e=>?_⟩;rw[e,aE2] at b;refine⟨_,?_,⟨xs,t,⟨d,m,c,a,o,g⟩,j,i+1⟩,rfl,⟨k,f,l⟩,rfl,?_⟩
  ·simp only;omega
  ·simp only[PZ,Out.run,ae]
   exact b
 ·rw[aD3 (show t.length<=i by omega),aD3 (show c.length<=i by omega)] at b
  exact b.1 rfl
noncomputable def WS κ:=(Xk κ).loop (lFj _)
theorem xFk κ xs d(j:Nat) I n K:(vc (WS κ).E 12 49 none 0 (ad (Pr κ).toProgram 49 2) (sp 40 [(1, .ah 70 xs),(2, .ptr 0 0 [] 0),(9, .ah 70 xs),(10, .int xs.length),(11, .int j)] [.box 43 (Vz d)]) (bg (WS κ).E 49 2 0 I n K))=(
 letI a:=AV.int
 letI b:=AV.bool
 letI c:=AV.ah
 letI e:=ag (nth xs (Int.toNat ↑j))
 letI f:=K .ret (sp 40 [(4,b false)] [])
 letI g:=↑j<(↑(xs.length):Int)
 letI h:=Pg.toProgram (Env.P (EB.E (Xk κ)))
 aq (decide g) (aW (true&&decide g) (aq ((↑(List.length e)) != (↑(d.types.length):Int)) f (ad h 49 7=ad h 49 7/\∃e1,sp 40 [(1,c
 70 xs),(2,.ptr 0 0 [] 0),(9,c 70 xs),(10,a ↑(xs.length)),(11,a ↑j),(21,c 72 e),(22,a (↑(List.length e))),(23,a 0)] [.box 43 (.agg [AV.str d.rel,c 9 d.names,c 3 d.types,b d.i,b d.o,a d.line])]=ao2 e1/\QD e1/\aq (DE
 (List.drop e1.i e1.t) (List.drop e1.i e1.d.types)) (∃e0,e0<n/\I e0 (sp 40 [(1,c 70 e1.xs),(2,.ptr 0 0 [] 0),(9,c 70 e1.xs),(10,
 a ↑(e1.xs.length)),(11,a (IntKind.wrap .i64 (↑(e1.j)+1)))] [.box 43 (.agg [AV.str e1.d.rel,c 9
 e1.d.names,c 3 e1.d.types,b e1.d.i,b e1.d.o,a e1.d.line])])) f))) (K (.exit 0) (sp 40 [(1,c 70 xs)] []))):=by kernel_rfl
structure AFk where
 xs:List AV
 d:WD
 j:Nat
abbrev ao3(x:AFk):=sp 40 [(1, .ah 70 x.xs),(2, .ptr 0 0 [] 0),(9, .ah 70 x.xs),(10, .int x.xs.length),(11, .int x.j)] [.box 43 (Vz x.d)]
def Wx(xs a:List _):=xs.all fun x=>DE (ag x) a
def P0(x:AFk):Out (Exit×S):= .aq (Wx (x.xs.drop x.j) x.d.types) (.one (.exit 0,sp 40 [(1, .ah 70 x.xs)] [])) (.one (.ret,sp 40 [(4, .bool false)] []))
theorem lFk κ:aU (WS κ).E 12 49 2 (aG 0 ao3 (fun x=>x.j<=x.xs.length/\fp x.xs=true) P0):=by
 refine aC (fun x=>x.xs.length - x.j) ?_;rintro⟨xs,d,j⟩ K ⟨g,b⟩ a;simp only at g b;rw[show(WS κ).E.P=Pr κ from rfl];refine Eq.mpr (xFk κ xs d j _ _ K) ?_;have i:=kj b;simp only[P0,Out.run,ae] at a;rw[ae,at3,aC7];refine⟨fun h=>?_,fun h=>?_⟩
 ·have f:j<xs.length:=by omega
  rw[aD6 f,←aV _ _ f,Wx,aE3,←Wx] at a;rw[Int.toNat_natCast];refine ai.2 ⟨by simp;omega,?_⟩;rw[ae,bne_iff_ne,bne_eq_false_iff_eq];refine⟨fun e=>a.2 ?_,fun e=>⟨rfl,⟨xs,ag (nth xs j),d,j,0⟩,rfl,⟨by simp only;omega,Nat.zero_le _,mg b j⟩,?_⟩⟩
  ·rw[show DE (ag (nth xs j)) d.types=false from by
    grind [DE,ag,nth,DF],Bool.false_and]
  ·simp only[aD5]
   rw[az (n:=(j:Int)+1) (by omega) (by omega),ae];refine⟨fun c=>⟨_,?_,⟨xs,d,j+1⟩,rfl,⟨f,b⟩,rfl,?_⟩,fun c=>a.2 (by rw[c];rfl)⟩
   ·simp only;omega
   ·rw[c,aE2] at a
    simp only[P0,Out.run,ae];exact a
 ·rw[aD3 (by omega)] at a
  exact a.1 rfl
noncomputable def BFk κ:=(WS κ).loop (lFk _)
theorem yFk κ xs d K:(a8 (BFk κ).E 12 49 [Vz d, .ah 70 xs] [] K)=(
 letI a:=AV.bool
 letI b:=Pg.toProgram (Env.P (EB.E (WS κ)))
 ad b 49 2=ad b 49 2/\∃e0,sp 40 [(1,.ah 70 xs),(2,.ptr 0 0 [] 0),(9,.ah 70 xs),(10,AV.int ↑(xs.length)),(11,AV.int 0)]
 [.box 43 (.agg [AV.str d.rel,.ah 9 d.names,.ah 3 d.types,a d.i,a d.o,AV.int d.line])]=ao3 e0/\(e0.j<=e0.xs.length/\fp e0.xs=
 true)/\aq (Wx (List.drop e0.j e0.xs) e0.d.types) (aW (fp e0.xs) (K (a (dg (dh e0.xs))) [])) (K (a false) [])):=by kernel_rfl
def qW xs a:=Wx xs a&&dg (dh xs)
def gFk:List AV->Option (Bool×AV)
 |[.agg [.lit (.string _), .ah 9 _, .ah 3 a, .lit (.bool _), .lit (.bool _), .lit (.int .i64 _)], .ah 70 xs]=>some (fp xs, .bool (qW xs a))
 |_=>none
theorem pFk κ:cm (BFk κ).E 12 49 gFk:=by
 intro e x c;unfold gFk at c;split at c
 ·rename_i b d f a o g xs
  simp only[aC8,aD4] at c;obtain⟨h,rfl⟩:=c;refine⟨_,rfl,rfl,Eq.mpr (yFk κ xs ⟨b,d,f,a,o,g⟩ _) ⟨rfl,⟨xs,⟨b,d,f,a,o,g⟩,0⟩,rfl,⟨Nat.zero_le _,h⟩,?_⟩⟩
  simp_all[aD5,qW,ae,ai,aE2,Bool.false_and]
 ·cases c
noncomputable def WT κ:=(BFk κ).pure (pFk _)
theorem xFm κ ds rs xs(i:Nat) I n K:(vc (WT κ).E 12 23 none 0 (ad (Pr κ).toProgram 23 4) (sp 34 [(2, .ptr 0 0 [] 0),(18, .ah 51 xs),(19, .int xs.length),(20, .int i)] [.box 25 (eg ds rs)]) (bg (WT κ).E 23 4 0 I n K))=(
 letI a:=Int.toNat ↑i
 letI b:=↑i<(↑(xs.length):Int)
 aq (decide b) (aW (true&&decide b) (aW (true&&decide (↑i<(↑(ds.length):Int))) (aW (fp (ag (nth xs a))) (aq (!qW (ag (nth xs a)) (ag (af (nth
 ds a) 2))) (K .ret (sp 34 [(4,AV.bool false)] [])) (∃e0,e0<n/\I e0 (sp 34 [(2,.ptr 0 0 [] 0),(18,.ah 51 xs),(19,AV.int ↑(xs.length)),(20,AV.int (IntKind.wrap .i64 (↑i+1)))] [.box 25 (.agg [.ah 43 ds,.ah 48 rs])])))))) (K (.exit 0) (sp 34 []
 []))):=by kernel_rfl
structure AFm where
 ds:List AV
 rs:List AV
 xs:List AV
 i:Nat
abbrev ao4(x:AFm):=sp 34 [(2, .ptr 0 0 [] 0),(18, .ah 51 x.xs),(19, .int x.xs.length),(20, .int x.i)] [.box 25 (eg x.ds x.rs)]
def sq:List AV->List AV->Bool
 |[],_=>true
 |x::xs,d::ds=>qW (ag x) (ag (af d 2))&&sq xs ds
 |_::_,[]=>false
def fS(xs:List _):=decide (xs.length<=100000000)&&xs.all fun x=>fp (ag x)
def P1(x:AFm):Out (Exit×S):= .aq (sq (x.xs.drop x.i) (x.ds.drop x.i)) (.one (.exit 0,sp 34 [] [])) (.one (.ret,sp 34 [(4, .bool false)] []))
theorem nk{xs}(h:fS xs=true) i:fp (ag (nth xs i))=true:=by
 simp[fS] at h;rcases Nat.lt_or_ge i xs.length with a|a
 ·grind [aV]
 ·rw[gr _ _ a];rfl
theorem lFm κ:aU (WT κ).E 12 23 4 (aG 0 ao4 (fun x=>x.i<=x.xs.length/\x.xs.length=x.ds.length/\fS x.xs=true) P1):=by
 refine aC (fun x=>x.xs.length - x.i) ?_;rintro⟨ds,f,xs,i⟩ K ⟨g,d,b⟩ a;simp only at g d b;rw[show(WT κ).E.P=Pr κ from rfl];refine Eq.mpr (xFm κ ds f xs i _ _ K) ?_;have j:xs.length<=100000000:=by
  simp only[fS,aC6,at3] at b;exact b.1
 simp only[P1,Out.run,ae] at a;rw[ae,at3,aC7];refine⟨fun h=>?_,fun h=>?_⟩
 ·have c:i<xs.length:=by omega
  rw[aD6 c,←aV _ _ c,aD6 (show i<ds.length by omega),←aV ds i (by omega),sq] at a;rw[Int.toNat_natCast,az (n:=(i:Int)+1) (by omega) (by omega)];refine ai.2 ⟨by simp;omega,ai.2 ⟨by simp;omega,ai.2 ⟨nk b i,?_⟩⟩⟩;rw[ae,Bool.not_eq_true',aD7];refine⟨fun e=>a.2 (by rw[e];rfl),fun e=>?_⟩;rw[e,aE2] at a;refine⟨_,?_,⟨ds,f,xs,i+1⟩,rfl,⟨c,d,b⟩,rfl,?_⟩
  ·simp only;omega
  ·simp only[P1,Out.run,ae]
   exact a
 ·rw[aD3 (show xs.length<=i by omega)] at a
  exact a.1 rfl
noncomputable def BFm κ:=(WT κ).loop (lFm _)
theorem yFm κ ds rs xs K:(a8 (BFm κ).E 12 23 [eg ds rs, .ah 51 xs] [] K)=(
 letI a:=K (AV.bool false) []
 letI b:=Pg.toProgram (Env.P (EB.E (WT κ)))
 aW (List.all rs ei) (aq (!fB ds rs) a (aq (↑(xs.length) != (↑(ds.length):Int)) a (ad b 23 4=ad b 23 4/\∃e0,sp 34 [(2,.ptr 0 0 []
 0),(18,.ah 51 xs),(19,AV.int ↑(xs.length)),(20,AV.int 0)] [.box 25 (.agg [.ah 43 ds,.ah 48 rs])]=ao4 e0/\(e0.i<=e0.xs.length/\
 e0.xs.length=e0.ds.length/\fS e0.xs=true)/\aq (sq (List.drop e0.i e0.xs) (List.drop e0.i e0.ds)) (K (AV.bool true) []) a)))):=by kernel_rfl
def fT ds a xs:=fB ds a&&(decide (xs.length=ds.length)&&sq xs ds)
def gFm:List AV->Option (Bool×AV)
 |[.agg [.ah 43 ds, .ah 48 a], .ah 51 xs]=>some (a.all ei&&fS xs, .bool (fT ds a xs))
 |_=>none
theorem pFm κ:cm (BFm κ).E 12 23 gFm:=by
 intro c x a;unfold gFm at a;split at a
 ·rename_i ds b xs
  simp only[aC8,aD4,aC6] at a;obtain⟨⟨f,g⟩,rfl⟩:=a;refine⟨_,rfl,rfl,Eq.mpr (yFm κ ds b xs _) (ai.2 ⟨f,?_⟩)⟩;unfold fT;rw[ae,Bool.not_eq_true',aD7];refine⟨fun e=>by rw[e];rfl,fun e=>?_⟩;rw[e,aE2,ae,bne_iff_ne,bne_eq_false_iff_eq];refine⟨fun d=>by rw[aC9 (by omega)];rfl,fun d=>⟨rfl,⟨ds,b,xs,0⟩,rfl,⟨Nat.zero_le _,by simp only;omega,g⟩,?_⟩⟩;rw[aD1 (by omega),aE2]
  simp_all[aD5,ae]
 ·cases a
noncomputable def BFn κ:=(BFm κ).pure (pFm _)
def TV v:=v=fq (Ad v)/\bif (Ad v).y then(Ad v).n=0 else(Ad v).s=ByteArray.mk #[]
def wi(r:List _):=∀v,v∈r->TV v
def gU(L:RL):=∀r,r∈L->wi r
theorem Tg{v w}(d:TV v)(e:TV w)(h:pf v w=0):v=w:=by
 obtain⟨g,j⟩:=d;obtain⟨f,k⟩:=e;rw[g,f] at h⊢;generalize Ad v=a at*
 generalize Ad w=b at*
 obtain⟨y,n,s⟩:=a;obtain⟨i,c,s'⟩:=b;cases y<;>cases i
 ·obtain rfl:=Mj.1 (show zO n c=0 from h)
  grind
 ·cases(show(-1:Int)=0 from h)
 ·cases(show(1:Int)=0 from h)
 ·obtain rfl:=Mk.1 (show CG s s'=0 from h)
  grind
theorem qk: ∀{l m},wi l->wi m->bD l m=0->l=m
 |[],[],_,_,_=>rfl
 |[],_::_,_,_,h=>by simp[bD,rD] at h
 |_::_,[],_,_,h=>by simp[bD,rD] at h
 | a::l,b::m,d,f,h=>by
  simp only[bD,rD] at h;by_cases e:pf a b=0
  ·rw[aD1 e] at h
   rw[Tg (d a (by simp)) (f b (by simp)) e,qk (fun v c=>d v (by simp[c])) (fun v c=>f v (by simp[c])) h]
  grind
theorem dC{a}{l:RL}:dg (a::l)=true↔(∀b,b∈l->bD a b<0)/\dg l=true:=by
 induction l generalizing a with
 |nil=>simp[dg]
 |cons b l f=>
  rw[dg,aC6,at3,f];refine⟨fun⟨e,g,h⟩=>⟨fun c d=>?_,g,h⟩,by grind⟩;rcases List.mem_cons.1 d with rfl|d
  ·exact e
  ·exact bX.L4 e (by grind)
theorem uH: ∀{l m},dg l=true->dg m=true->(∀r,r∈l↔r∈m)->l=m
 |[],[],_,_,_=>rfl
 |[],b::m,_,_,h=>by have:=(h b).2 (by simp);simp at this
 |a::l,[],_,_,h=>by have:=(h a).1 (by simp);simp at this
 | a ::l,b::m,i,k,h=>by
  obtain⟨c,g⟩:=dC.1 i;obtain⟨d,j⟩:=dC.1 k;have e:a=b:=by
   rcases List.mem_cons.1 ((h a).1 (by simp)) with e|e
   ·exact e
   ·rcases List.mem_cons.1 ((h b).2 (by simp)) with f|f
    ·exact f.symm
    ·have:=d a e
     have:=c b f
     rw[bX.swap b a] at this;omega
  subst e;rw[uH g j fun r=>?_];have n:=h r;simp only[aE5] at n;have p:r∈l->r≠a:=fun q e=>by
   subst e;have:=c r q
   rw[bX.self] at this;omega
  have o:r∈m->r≠a:=fun q e=>by
   subst e;have:=d r q
   rw[bX.self] at this;omega
  grind
def zI(r:List AV):RL->RL
 |[]=>[r]
 |a::l=>bif decide (bD r a<0) then r::a::l else bif decide (bD r a=0) then a::l else a::zI r l
def dk(L:RL):RL:=L.foldr zI []
theorem xX{r x}: ∀{l},wi r->gU l->(x∈zI r l↔x=r\/x∈l)
 |[],_,_=>by simp[zI]
 | a::l,c,d=>by
  have g:=xX (x:=x) c (l:=l) fun s e=>d s (by simp[e])
  rw[zI];by_cases f:bD r a<0
  ·grind
  ·rw[aC9 f]
   by_cases b:bD r a=0
   ·rw[aD1 b,aD2,qk c (d a (by simp)) b]
    simp
   grind
theorem As{r}: ∀{l},wi r->gU l->dg l=true->dg (zI r l)=true
 |[],_,_,_=>rfl
 | a::l,f,k,h=>by
  obtain⟨m,g⟩:=dC.1 h;have d:gU l:=fun s j=>k s (by simp[j])
  rw[zI];by_cases e:bD r a<0
  ·rw[aD1 e,aD2]
   refine dC.2 ⟨fun b c=>?_,h⟩;rcases List.mem_cons.1 c with rfl|c
   ·exact e
   ·exact bX.L4 e (by grind)
  ·rw[aC9 e,aD0]
   by_cases i:bD r a=0
   ·grind
   ·rw[aC9 i,aD0]
    refine dC.2 ⟨fun b c=>?_,As f d g⟩;rcases(xX f d).1 c with rfl|c
    ·rw[bX.swap b a];omega
    ·exact m b c
theorem jP: ∀{L},gU L->dg (dk L)=true/\(∀r,r∈dk L↔r∈L)/\gU (dk L)
 |[],h=>⟨rfl,fun _=>Iff.rfl,h⟩
 |a::L,h=>by
  have f:gU L:=fun s d=>h s (by grind)
  obtain⟨g,i,b⟩:=jP f;have e:=h a (by simp);have c: ∀r,r∈zI a _↔r∈a::L:=fun r=>by rw[xX e b,i,aE5]
  exact⟨As e b g,c,fun s d=>h s ((c s).1 d)⟩
theorem FL{L M}(a:gU L)(b:dg M=true)(c: ∀r,r∈M↔r∈L):M=dk L:=
 uH b (jP a).1 fun r=>(c r).trans ((jP a).2.1 r).symm
theorem x3: ∀p l,wi p->gU l->(∀b,b∈l->bD p b<=0)->Up l 0 l.length->dg (p::kr p l)=true/\∀r,r∈p::kr p l↔r∈p::l
 |p,[],_,_,_,_=>⟨rfl,fun _=>Iff.rfl⟩
 | p,b::l,u,o,n,q=>by
  have t:=o b (by simp);have m:gU l:=fun s v=>o s (by simp[v])
  have g:Up l 0 l.length:=fun i j h k w=>by
   have:=q (i+1) (j+1) (by omega) (by omega) (by simp;omega)
   simpa[rat] using this
  have a: ∀c,c∈l->bD b c<=0:=fun c d=>by
   obtain⟨j,x,rfl⟩:=List.getElem_of_mem d;have:=q 0 (j+1) (by omega) (by omega) (by simp;omega)
   simpa[rat,x] using this
  obtain⟨h,k⟩:=x3 b l t m a g;rw[kr];by_cases e:bD b p=0
  ·rw[show(bD b p==0)=true by simpa using e,aD2]
   obtain rfl:=qk t u e;exact⟨h,fun r=>by rw[k r];simp⟩
  ·rw[show(bD b p==0)=false by simpa using e,aD0]
   have f:bD p b<0:=by
    have w:=n b (by simp);have y:=bX.swap p b;omega
   refine⟨dC.2 ⟨fun c d=>?_,h⟩,by grind⟩;rcases List.mem_cons.1 ((k c).1 d) with rfl|d
   ·exact f
   ·exact bX.L4 f (a c d)
theorem Tj{L M}(l:gU L)(k:M.Perm L)(e:Up M 0 L.length):kC M=dk L:=by
 have d:gU M:=fun r m=>l r (k.mem_iff.1 m)
 have c:=k.length_eq;refine FL l ?_ fun r=>?_
 ·cases M with
  |nil=>rfl
  | cons a M=>exact(x3 a M (d a (by simp)) (fun s g=>d s (by simp[g])) (fun b h=>by
    obtain⟨j,f,rfl⟩:=List.getElem_of_mem h;have:=e 0 (j+1) (by omega) (by omega) (by rw[←c];simp;omega)
    simpa[rat,f] using this) (fun i j o p n=>by
    have:=e (i+1) (j+1) (by omega) (by omega) (by rw[←c];simp;omega)
    simpa[rat] using this)).1
 ·rw[←k.mem_iff]
  cases M with
  |nil=>exact Iff.rfl
  | cons a M=>exact(x3 a M (d a (by simp)) (fun s g=>d s (by simp[g])) (fun b h=>by
    obtain⟨j,f,rfl⟩:=List.getElem_of_mem h;have:=e 0 (j+1) (by omega) (by omega) (by rw[←c];simp;omega)
    simpa[rat,f] using this) (fun i j o p n=>by
    have:=e (i+1) (j+1) (by omega) (by omega) (by rw[←c];simp;omega)
    simpa[rat] using this)).2 r
theorem ay8 κ: ∀a st K,aM FP (fun L=>L.length<=100000000/\fK L) PX a st K->cf (Pr κ) 80 a st K:=fun a st K h=>gO (WM _).ok (WM _).mono (cCo _ _ _ K h)
noncomputable def ar6 κ:=(BFn κ).mat [(0,some 70)] aJ (az1 _)
noncomputable def BSo(κ:Kp):EB:=(ar6 κ).mat [(0,some 70)] aJ (ay8 κ)
theorem ySo κ L K:(a8 (BSo κ).E 12 36 [.ah 70 (rws L)] [] K)=(
 letI b:=Obj.row
 (Pw (rws L)=true->∃a,([.ak 0 0 0,.bo 54 []],[b 70 []])=FU a/\qE a/\∀(y:RL),(List.Perm y a/\∀i j,0<=i->i
 <j->j<a.length->bD (rat y i) (rat y j)<=0)->∃a,([.ak 0 0 0,.bo 81 []],[b 70 []])=FP a/\(a.length<=100000000/\
 fK a)/\∀(y:List AV),True->∃a_2,([.ah 70 (rws (kC a))],[])=YW a_2/\fp a_2=true/\K (.ah 70 (rws (dh a_2))) [])/\aW
 (decide ((0+List.length (rws L)+1)*25<=70368744177664)) (∃a,([.ak 0 0 (0+List.length (rws L)),.bo 54 []],[b 70 ([]++rws L)])
 =FU a/\qE a/\∀(y:RL),(List.Perm y a/\∀i j,0<=i->i<j->j<a.length->bD (rat y i) (rat y j)<=0)->∃a,([.ak
 0 0 (0+List.length (rws L)),.bo 81 []],[b 70 (rws y)])=FP a/\(a.length<=100000000/\fK a)/\∀(y:List AV),True->∃a_2,
 ([.ah 70 (rws (kC a))],[])=YW a_2/\fp a_2=true/\K (.ah 70 (rws (dh a_2))) [])):=by kernel_rfl
theorem np{L}(h:L.length<=100000000)(b: ∀r,r∈L->r.length<=100000000):fp (rws L)=true:=by
 simp only[fp,eC,aC6,at3,List.all_eq_true];refine⟨h,fun x c=>?_⟩;obtain⟨r,a,rfl⟩:=List.mem_map.1 c;exact b r a
structure vO(L:RL):Prop where
 n:L.length<=100000000
 s: ∀r,r∈L->r.length<=100000000
 v:gU L
theorem vO.short{L}(h:vO L):fK L:=fun r a=>by have:=h.s r a;grind [aX]
theorem qH: ∀L,(dk L).length<=L.length
 |[]=>Nat.le_refl _
 | a::L=>by
  have h: ∀l,(zI a l).length<=l.length+1:=fun l=>by
   induction l with
   |nil=>exact Nat.le_refl _
   |cons b l d=>
    grind [zI]
  have c:=qH L
  grind [dk]
theorem Us{L}(h:vO L):vO (dk L):=
 ⟨Nat.le_trans (qH L) h.n,fun r a=>h.s r (((jP h.v).2.1 r).1 a),(jP h.v).2.2⟩
def RB(L:RL):List AV×List Dn.Obj:=([.ah 70 (rws L)],[])
def ak4(L:RL):Out (AV×List Dn.Obj):= .one (.ah 70 (rws (dk L)),[])
theorem cSo κ:bd (BSo κ).E 12 36 (aM RB vO ak4):=by
 refine aQ ?_;rintro L K h i;have j:=Us h;have c:K (.ah 70 (rws (dh (rws (dk L))))) []:=by rw[iB];exact i
 refine Eq.mpr (ySo κ L K) ⟨fun e=>?_,ai.2 ⟨by have:=h.n;simp;omega,L,?_,⟨h.n,h.short⟩,fun M d=>?_⟩⟩
 ·cases L with
  |nil=>
   refine⟨[],rfl,⟨Nat.zero_le _,fun r b=>(nomatch b)⟩,fun M d=>?_⟩;exact⟨[],rfl,⟨Nat.zero_le _,fun r b=>(nomatch b)⟩,fun k _=>⟨[],rfl,rfl,i⟩⟩
  |cons a L=>cases e
 ·simp only[FU,eC,Nat.zero_add,List.nil_append]
 ·have f:M.Perm L:=d.1
  have g:=f.length_eq;refine⟨M,?_,⟨by rw[g];exact h.n,fJ h.short f⟩,fun k _=>⟨rws (dk L),?_,np j.n j.s,c⟩⟩
  ·simp only[FP,eC,Nat.zero_add,g]
  ·rw[Tj h.v f d.2];rfl
noncomputable def ar7 κ:=((BSo κ).call (cSo _)).calm [36]
end Go.Proofs.YtioeffnadipbaaaGreatDoor
namespace Go.Proofs.YtioeffnadipbaaaGreatDoor
open Go Go.Dn Go.Rl Go.Proofs Go.Shelf
attribute [local irreducible] a8 vc
set_option maxRecDepth 20000
abbrev dq:=List (ByteArray×fe)
abbrev da(e:dq):AV:= .fh 9 72 (e.map fun x=>Value.string x.1) (e.map fun x=>fq x.2)
def dq.put:dq->ByteArray->fe->dq
 |[],s,v=>[(s,v)]
 |(t,w)::e,s,v=>bif decide (s=t) then(s,v)::e else(t,w)::dq.put e s v
def dq.get:dq->ByteArray->fe
 |[],_=>⟨false,0,ByteArray.mk #[]⟩
 |(t,w)::e,s=>bif decide (s=t) then w else dq.get e s
abbrev prE(e:dq):=e.map fun x=>(Value.string x.1,fq x.2)
theorem R2: ∀e,(e.map fun x=>Value.string x.1).zip (e.map fun x=>fq x.2)=prE e
 |[]=>rfl
 |x::e=>by
  grind
theorem Ya s t:eP (.string s) (.string t)=decide (s=t):=by
 show(s==t)=_
 grind
theorem RT s v: ∀e,fb (prE e) (.string s) (fq v)=prE (e.put s v)
 |[]=>rfl
 |(t,w)::e=>by
  have a:=RT s v e
  grind [fb,Ya,dq.put]
theorem OG s: ∀e,dj (prE e) (.string s) (fq ⟨false,0,ByteArray.mk #[]⟩)=fq (e.get s)
 |[]=>rfl
 |(t,w)::e=>by
  have a:=OG s e
  grind [dj,Ya,dq.get]
structure Gi where
 e:dq
 s:ByteArray
 v:fe
def rX(x:Gi):List AV×List Dn.Obj:=([da x.e, .lit (.string x.s),fq x.v],[])
def al5(x:Gi):Out (AV×List Dn.Obj):= .one (da (x.e.put x.s x.v),[])
def Tf(c:Int):List fe->fe
 |[a,b]=>⟨false,bif c==5 then IntKind.wrap .i64 (a.n+b.n) else bif c==6 then IntKind.wrap .i64 (a.n - b.n) else IntKind.wrap .i64 (a.n*b.n),ByteArray.mk #[]⟩
 |_=>⟨false,0,ByteArray.mk #[]⟩
mutual
def bI(e:dq):Tm->fe
 | .mk op s n l=>bif op==1 then e.get s else bif op==2 then⟨false,n,ByteArray.mk #[]⟩ else bif op==3 then⟨true,0,s⟩ else Tf op (Wz e l)
def Wz(e:dq):List Tm->List fe
 |[]=>[]
 |t::l=>bI e t::Wz e l
end
def bO:Tm->Bool
 | .mk c _ _ l=>c==1||(c==2||(c==3||match l with|[a,b]=>bO a&&bO b|_=>false))
structure hH where
 e:dq
 t:AT
def ew(x:hH):List AV×List Dn.Obj:=([da x.e,dA x.t],[])
def rT n(x:hH):=x.t.tm.nK=n/\bO x.t.tm=true
def Wb(x:hH):Out (AV×List Dn.Obj):= .one (fq (bI x.e x.t.tm),[])
def YP n:=aM ew (rT n) Wb
theorem OO{t:AT}(d:(t.op==1)=false)(c:(t.op==2)=false)(e:(t.op==3)=false)(h:bO t.tm=true): ∃a b,t.l=[a,b]/\bO (cx a)=true/\bO (cx b)=true:=by
 obtain⟨f,s,n,l⟩:=t;simp only[AT.tm] at h;match l,h with
 |[a,b],h=>
  simp only[aa,aE4,List.map_nil,bO,d,c,e,Bool.false_or] at h
  grind
 |[],h=>simp[aa,bO,d,c,e] at h
 |[_],h=>simp[aa,bO,d,c,e] at h
 |_::_::_::_,h=>simp[aa,bO,d,c,e] at h
theorem RV e c s n a b(g:(c==1)=false)(d:(c==2)=false)(f:(c==3)=false):bI e (AT.mk c s n [a,b]).tm=⟨false,bif c==5 then IntKind.wrap .i64 ((bI e (dQ a).tm).n+(bI e (dQ b).tm).n) else bif c==6 then IntKind.wrap .i64 ((bI e (dQ a).tm).n - (bI e (dQ b).tm).n) else IntKind.wrap .i64 ((bI e (dQ a).tm).n*(bI e (dQ b).tm).n),ByteArray.mk #[]⟩:=by
 rw[gn,gn,AT.tm];rw[bI,g,d,f];rfl
end Go.Proofs.YtioeffnadipbaaaGreatDoor
namespace Go.Proofs.YtioeffnadipbaaaGreatDoor
open Go Go.Dn Go.Rl Go.Proofs
attribute [local irreducible] a8 vc
set_option maxRecDepth 20000
abbrev BI:=List AV×Bool×Bool
def X8(a:List AV)(f:RL->List BI):RL->List BI
 |[]=>(a,true,false)::f []
 |b::c=>bif decide (bD a b<0) then(a,true,false)::f (b::c) else bif decide (bD a b=0) then(a,true,true)::f c else(b,false,true)::X8 a f c
def gE:RL->RL->List BI
 |[],c=>c.map fun b=>(b,false,true)
 |a::d,c=>X8 a (gE d) c
def eY(A B:RL):RL:=(gE A B).map (·.1)
theorem DI B:eY [] B=B:=by
 rw[eY,gE,List.map_map];exact List.map_id' B
theorem DH a(b:RL):eY (a::b) []=a::eY b []:=rfl
theorem DG a b(d c:RL):eY (a::d) (b::c)=bif decide (bD a b<0) then a::eY d (b::c) else bif decide (bD a b=0) then a::eY d c else b::eY (a::d) c:=by
 grind [eY,gE,X8]
theorem gz{A B r}(f:gU A)(g:gU B):r∈eY A B↔r∈A\/r∈B:=by
 match A,B with
 |[],B=>rw[DI];simp
 |a::i,[]=>
  rw[DH,aE5,gz (fun s d=>f s (by simp[d])) g,aE5,or_assoc]
 | a::i,b::k=>
  have c:gU i:=fun s d=>f s (by simp[d])
  have e:gU k:=fun s d=>g s (by simp[d])
  rw[DG];by_cases j:bD a b<0
  ·rw[aD1 j,aD2,aE5,gz c g,aE5,aE5,or_assoc]
  ·rw[aC9 j,aD0]
   by_cases h:bD a b=0
   ·obtain rfl:=qk (f a (by simp)) (g b (by simp)) h
    rw[aD1 h,aD2,aE5,gz c e,aE5,aE5]
    grind
   ·rw[aC9 h,aD0,aE5,gz f e,aE5,aE5]
    grind
termination_by A.length+B.length
theorem lV{A B}(j:gU A)(g:gU B)(o:dg A=true)(m:dg B=true):dg (eY A B)=true:=by
 match A,B with
 |[],B=>rw[DI];exact m
 |a::n,[]=>
  have e:gU n:=fun s h=>j s (by simp[h])
  obtain⟨i,k⟩:=dC.1 o;rw[DH];refine dC.2 ⟨fun c d=>?_,lV e g k m⟩;rcases(gz e g).1 d with d|d
  ·exact i c d
  ·cases d
 | a ::n,b::u=>
  have e:gU n:=fun s h=>j s (by simp[h])
  have f:gU u:=fun s h=>g s (by simp[h])
  obtain⟨i,k⟩:=dC.1 o;obtain⟨p,r⟩:=dC.1 m;rw[DG];by_cases l:bD a b<0
  ·rw[aD1 l,aD2]
   refine dC.2 ⟨fun c d=>?_,lV e g k m⟩;rcases(gz e g).1 d with d|d
   ·exact i c d
   ·rcases List.mem_cons.1 d with rfl|d
    ·exact l
    ·exact bX.L4 l (Int.le_of_lt (p c d))
  ·rw[aC9 l,aD0]
   by_cases q:bD a b=0
   ·obtain rfl:=qk (j a (by simp)) (g b (by simp)) q
    rw[aD1 q,aD2];refine dC.2 ⟨fun c d=>?_,lV e f k r⟩;rcases(gz e f).1 d with d|d
    ·exact i c d
    ·exact p c d
   ·rw[aC9 q,aD0]
    have t:bD b a<0:=by have:=bX.swap a b;omega
    refine dC.2 ⟨fun c d=>?_,lV j f o r⟩;rcases(gz j f).1 d with d|d
    ·rcases List.mem_cons.1 d with rfl|d
     ·exact t
     ·exact bX.L4 t (Int.le_of_lt (i c d))
    ·exact p c d
termination_by A.length+B.length
noncomputable abbrev Xd(κ:Kp):EB:=ar7 κ
abbrev Y5 V m(i:Nat):=sp 25 [(0, .ah 2 V),(3, .int m),(4, .int i)] []
theorem xMn κ V m i I N K:(vc (Xd κ).E 12 126 none 0 (ad (Pr κ).toProgram 126 5) (Y5 V m i) (bg (Xd κ).E 126 5 0 I N K))=(
 letI a:=↑i<(↑(V.length):Int)
 letI b:=nth V (Int.toNat ↑i)
 aq (decide a) (aW (true&&decide a) (∃e0,e0<N/\I e0 (sp 25 [(0,.ah 2 V),(3,AV.int (if toInt b<m then toInt b else m)),(4,AV.int
 (IntKind.wrap .i64 (↑i+1)))] []))) (K (.exit 0) (sp 25 [(3,AV.int m)] []))):=by kernel_rfl
structure Zn where
 V:List AV
 m:Int
 i:Nat
abbrev KL(x:Zn):S:=Y5 x.V x.m x.i
def Dm(x:Zn):=x.i<=x.V.length/\x.V.length<=100000000
def Pn m(l:List _):=l.foldl (fun m x=>if toInt x<m then toInt x else m) m
def VY(x:Zn):Out (Exit×S):= .one (.exit 0,sp 25 [(3, .int (Pn x.m (x.V.drop x.i)))] [])
theorem lMn κ:aU (Xd κ).E 12 126 5 (aG 0 KL Dm VY):=by
 refine aC (fun x=>x.V.length - x.i) ?_;rintro⟨V,m,i⟩ K ⟨d,c⟩ a;simp only at d c;rw[show(Xd κ).E.P=Pr κ from rfl];refine Eq.mpr (xMn κ V m i _ _ K) ?_;rw[ae,at3,aC7];simp only[VY,Out.run] at a;refine⟨fun h=>ai.2 ⟨by simp;omega,_,?_,⟨V,if toInt (nth V i)<m then toInt (nth V i) else m,i+1⟩,?_,⟨by simp only;omega,c⟩,rfl,?_⟩,fun h=>?_⟩
 ·simp only;omega
 ·rw[az (n:=(i:Int)+1) (by omega) (by omega)];rfl
 ·have b:i<V.length:=by omega
  rw[aD6 b,←aV V i b] at a;exact a
 ·rw[aD3 (by omega)] at a
  exact a
noncomputable def W7 κ:=(Xd κ).loop (lMn _)
theorem yMn κ V K:(a8 (W7 κ).E 12 126 [.ah 2 V] [] K)=(
 letI a:=Pg.toProgram (Env.P (EB.E (Xd κ)))
 aq (decide (↑(V.length)<(1:Int))) False (aW (true&&decide (0<(↑(V.length):Int))) (ad a 126 5=ad a 126 5/\∃e0,sp 25 [(0,
 .ah 2 V),(3,AV.int (toInt (nth V 0))),(4,AV.int 1)] []=KL e0/\Dm e0/\K (AV.int (Pn e0.m (List.drop e0.i e0.V))) []))):=by kernel_rfl
def gMn:List AV->Option (Bool×AV)
 |[.ah 2 V]=>some (decide (1<=V.length)&&decide (V.length<=100000000), .int (Pn (toInt (nth V 0)) (V.drop 1)))
 |_=>none
theorem pMn κ:cm (W7 κ).E 12 126 gMn:=by
 intro b x a;unfold gMn at a;split at a
 ·rename_i V
  simp only[aC8,aD4,aC6,at3] at a;obtain⟨⟨d,c⟩,rfl⟩:=a;refine⟨_,rfl,rfl,Eq.mpr (yMn κ V _) (ae.2 ⟨by grind,fun _=>ai.2 ⟨by simp;omega,rfl,⟨V,_,1⟩,rfl,⟨d,c⟩,rfl⟩⟩)⟩
 ·cases a
noncomputable def W6(κ:Kp):EB:=(W7 κ).pure (pMn κ)
theorem xMg κ V m i I N K:(vc (W6 κ).E 12 127 none 0 (ad (Pr κ).toProgram 127 5) (Y5 V m i) (bg (W6 κ).E 127 5 0 I N K))=(
 letI a:=↑i<(↑(V.length):Int)
 letI b:=nth V (Int.toNat ↑i)
 aq (decide a) (aW (true&&decide a) (∃e0,e0<N/\I e0 (sp 25 [(0,.ah 2 V),(3,AV.int (if toInt b>m then toInt b else m)),(4,AV.int
 (IntKind.wrap .i64 (↑i+1)))] []))) (K (.exit 0) (sp 25 [(3,AV.int m)] []))):=by kernel_rfl
def Pk m(l:List _):=l.foldl (fun m x=>if toInt x>m then toInt x else m) m
def VX(x:Zn):Out (Exit×S):= .one (.exit 0,sp 25 [(3, .int (Pk x.m (x.V.drop x.i)))] [])
theorem lMg κ:aU (W6 κ).E 12 127 5 (aG 0 KL Dm VX):=by
 refine aC (fun x=>x.V.length - x.i) ?_;rintro⟨V,m,i⟩ K ⟨d,c⟩ a;simp only at d c;rw[show(W6 κ).E.P=Pr κ from rfl];refine Eq.mpr (xMg κ V m i _ _ K) ?_;rw[ae,at3,aC7];simp only[VX,Out.run] at a;refine⟨fun h=>ai.2 ⟨by simp;omega,_,?_,⟨V,if toInt (nth V i)>m then toInt (nth V i) else m,i+1⟩,?_,⟨by simp only;omega,c⟩,rfl,?_⟩,fun h=>?_⟩
 ·simp only;omega
 ·rw[az (n:=(i:Int)+1) (by omega) (by omega)];rfl
 ·have b:i<V.length:=by omega
  rw[aD6 b,←aV V i b] at a;exact a
 ·rw[aD3 (by omega)] at a
  exact a
noncomputable def Nr κ:=(W6 κ).loop (lMg _)
theorem yMg κ V K:(a8 (Nr κ).E 12 127 [.ah 2 V] [] K)=(
 letI a:=Pg.toProgram (Env.P (EB.E (W6 κ)))
 aq (decide (↑(V.length)<(1:Int))) False (aW (true&&decide (0<(↑(V.length):Int))) (ad a 127 5=ad a 127 5/\∃e0,sp 25 [(0,
 .ah 2 V),(3,AV.int (toInt (nth V 0))),(4,AV.int 1)] []=KL e0/\Dm e0/\K (AV.int (Pk e0.m (List.drop e0.i e0.V))) []))):=by kernel_rfl
def gMg:List AV->Option (Bool×AV)
 |[.ah 2 V]=>some (decide (1<=V.length)&&decide (V.length<=100000000), .int (Pk (toInt (nth V 0)) (V.drop 1)))
 |_=>none
theorem pMg κ:cm (Nr κ).E 12 127 gMg:=by
 intro b x a;unfold gMg at a;split at a
 ·rename_i V
  simp only[aC8,aD4,aC6,at3] at a;obtain⟨⟨d,c⟩,rfl⟩:=a;refine⟨_,rfl,rfl,Eq.mpr (yMg κ V _) (ae.2 ⟨by grind,fun _=>ai.2 ⟨by simp;omega,rfl,⟨V,_,1⟩,rfl,⟨d,c⟩,rfl⟩⟩)⟩
 ·cases a
noncomputable def ar5(κ:Kp):EB:=(Nr κ).pure (pMg κ)
end Go.Proofs.YtioeffnadipbaaaGreatDoor
