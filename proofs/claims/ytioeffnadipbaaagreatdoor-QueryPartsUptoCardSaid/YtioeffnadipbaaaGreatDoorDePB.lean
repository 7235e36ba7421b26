import Derived.Test.YtioeffnadipbaaaGreatDoorDePA
namespace Go.Proofs.YtioeffnadipbaaaGreatDoor
open Go Go.Dn Go.Rl Go.Proofs
attribute [local irreducible] a8 vc
set_option maxRecDepth 20000
def jY:List AV->RL->RL
 |_,[]=>[]
 |p,b::l=>bif bC b p==0 then jY b l else b::jY b l
def j7:RL->RL
 |[]=>[]
 |a::l=>a::jY a l
theorem xCi κ L(n0 k k0 k2:Nat) I n K:(vc (S7 κ).E 12 80 none 1 (ah (Pr κ).toProgram 80 9) (sp 66 [(0, .ax 0 0 L.length),(1, .bp 81 []),(5, .int k),(6, .ax 0 k0 n0),(7, .int k2)] [.row 70 (rws L)]) (bh (S7 κ).E 80 9 1 I n K))=(
 letI a:=IntKind.wrap IntKind.i64
 letI b:=AV.int
 letI c:=aa (nth (rws L) (k0+Int.toNat (↑k2:Int)))
 letI d:=(↑k2:Int)<(↑n0:Int)
 letI f:=a ((↑k2:Int)+(1:Int))
 letI e:=(↑k2:Int) - (1:Int)
 an (decide d) (aG (true&&decide d) (aG (decide ((0:Int)<=a e)&&decide (a e<(↑n0:Int))) (aG (decide
 (List.length c<=9223372036854775807)) (an (!bC c (aa (nth (rws L) (k0+Int.toNat (a e))))==(0:Int)) (aG (true&&decide d) (aG
 (true&&decide ((↑k:Int)<(↑(L.length):Int))) (∃(e0:Nat),e0<n/\I e0 (sp 66 [(0,AV.ax 0 0 L.length),(1,AV.bp 81 []),(5,b (IntKind.wrap
 IntKind.i64 ((↑k:Int)+(1:Int)))),(6,AV.ax 0 k0 n0),(7,b f)] [Obj.row 70 (bQ (rws L) (0+Int.toNat (↑k:Int)) (AV.ad 72 c))])))) (∃(e0:
 Nat),e0<n/\I e0 (sp 66 [(0,AV.ax 0 0 L.length),(1,AV.bp 81 []),(5,b (↑k:Int)),(6,AV.ax 0 k0 n0),(7,b f)] [Obj.row 70 (rws L)])))))) (K
 (Exit.exit 2) (sp 66 [(0,AV.ax 0 0 L.length),(5,b (↑k:Int))] [Obj.row 70 (rws L)]))):=by kernel_rfl
structure Zt where
 L0:RL
 L:RL
 n0:Nat
 k0:Nat
 k:Nat
 k2:Nat
abbrev Q4(x:Zt):=sp 66 [(0, .ax 0 0 x.L.length),(1, .bp 81 []),(5, .int x.k),(6, .ax 0 x.k0 x.n0),(7, .int x.k2)] [.row 70 (rws x.L)]
structure Wr(x:Zt):Prop where
 len:x.L.length=x.L0.length/\x.L0.length=x.k0+x.n0
 k:x.k0<=x.k/\x.k+1<=x.k0+x.k2
 k2:1<=x.k2/\x.k2<=x.n0
 l:x.L0.length<=100000000
 s:fz x.L0
 o: ∀j,x.k0+x.k2<=j+1->rat x.L j=rat x.L0 j
 e:j7 x.L0=x.L.take x.k++jY (rat x.L0 (x.k0+x.k2 - 1)) (x.L0.drop (x.k0+x.k2))
def XF(x:Zt):Out (Exit×S):= .all (fun r:Nat×RL=>r.2.length=x.L0.length/\r.1<=x.L0.length/\r.2.take r.1=j7 x.L0) fun r=> .one (.exit 2,sp 66 [(0, .ax 0 0 r.2.length),(5, .int r.1)] [.row 70 (rws r.2)])
theorem lCi κ:aP (S7 κ).E 12 80 9 (aI 1 Q4 Wr XF):=by
 refine aD (fun x=>x.n0 - x.k2) ?_;rintro⟨c,L,m,b,k,a⟩ K ⟨p,r,s,l,g,f,d⟩ o;simp only at p r s l g f d;rw[show(S7 κ).E.P=Pr κ from rfl];refine Eq.mpr (xCi κ L m k b a _ _ K) ?_;rw[ag,an2,an4];refine⟨fun h=>?_,fun h=>?_⟩
 ·have q:b+a<c.length:=by omega
  rw[ay (n:=(a:Int) - 1) (by omega) (by omega),ay (n:=(a:Int)+1) (by omega) (by omega),ay (n:=(k:Int)+1) (by omega) (by omega),show b+(a:Int).toNat=b+a by omega,show b+((a:Int) - 1).toNat=b+a - 1 by omega,Nat.zero_add,Int.toNat_natCast,gl,gl,vC,f (b+a) (by omega),f (b+a - 1) (by omega)];rw[ao3 q,←yO q,jY] at d;refine ai.2 ⟨by simp;omega,ai.2 ⟨by simp;omega,ai.2 ⟨an8 (kM g _),ag.2 ⟨fun e=>?_,fun e=>?_⟩⟩⟩⟩
  ·have e:(bC (rat c (b+a)) (rat c (b+a - 1))==0)=false:=by simpa using e
   rw[e,an7] at d;refine ai.2 ⟨by simp;omega,ai.2 ⟨by simp;omega,_,?_,⟨c,L.set k (rat c (b+a)),m,b,k+1,a+1⟩,?_,⟨by simp only[List.length_set];omega,by simp only;omega,by simp only;omega,l,g,fun j i=>?_,?_⟩,rfl,o⟩⟩
   ·simp only;omega
   ·simp only[Q4,List.length_set];rfl
   ·simp only at i
    rw[Hv _ _ _ _ (by omega),if_neg (by omega)];exact f j (by omega)
   ·simp only
    rw[d,show b+(a+1) - 1=b+a by omega,List.take_succ_eq_append_getElem (by rw[List.length_set];omega)];rw[List.getElem_set_self,List.take_set_of_le (Nat.le_refl _)];simp[Nat.add_assoc]
  ·have e:(bC (rat c (b+a)) (rat c (b+a - 1))==0)=true:=by simpa using e
   rw[e,an9] at d;refine⟨_,?_,⟨c,L,m,b,k,a+1⟩,rfl,⟨p,by simp only;omega,by simp only;omega,l,g,fun j i=>f j (by simp only at i;omega),?_⟩,rfl,o⟩
   ·simp only;omega
   ·simp only
    rw[d,show b+(a+1) - 1=b+a by omega];rfl
 ·refine o (k,L) ⟨p.1,by simp only;omega,?_⟩
  rw[ao0 (by omega),jY,List.append_nil] at d;exact d.symm
noncomputable def SJ κ:=(S7 κ).loop (lCi _)
theorem xCo κ L(k:Nat) I n K:(vc (SJ κ).E 12 80 none 1 (ah (Pr κ).toProgram 80 4) (sp 66 [(0, .ax 0 0 L.length),(1, .bp 81 []),(5, .int k)] [.row 70 (rws L)]) (bh (SJ κ).E 80 4 1 I n K))=(
 letI a:=IntKind.wrap IntKind.i64
 letI b:=Obj.row
 letI d:=(↑k:Int) - (1:Int)
 letI e:=aa (nth (rws L) (0+Int.toNat (↑k:Int)))
 letI f:=(↑k:Int)<(↑(L.length):Int)
 letI g:=Pg.toProgram (Env.P (EB.E (S7 κ)))
 an (decide f) (aG (true&&decide f) (aG (decide ((0:Int)<=a d)&&decide (a d<(↑(L.length):Int))) (aG (decide (List.length e<=9223372036854775807)) (an (bC e (aa (nth (rws L) (0+Int.toNat (a d))))==(0:Int)) (aG (true&&decide ((↑k:Int)<=(↑(L.length):Int))&&decide ((↑(L.length):Int)<=(↑(L.length):Int))) (ah g 80 9=ah g 80 9/\∃(e1:Zt),sp 66 [(0,AV.ax 0 0 L.length),(1,AV.bp 81 []),(5,AV.int (↑k:Int)),(6,AV.ax 0 (0+Int.toNat (↑k:Int)) (Int.toNat ((↑(L.length):Int) - (↑k:Int)))),(7,AV.int 1)] [b 70 (rws L)]=Q4 e1/\Wr e1/\∀(e0:Nat×RL),letI c:=e0.2.length;letI h:=(↑(e0.1):Int)<=(↑c:Int);e0.2.length=e1.L0.length/\e0.1<=e1.L0.length/\List.take e0.1 e0.2=j7 e1.L0->aG (true&&decide h&&decide ((↑c:Int)<=(↑c:Int))) (aG (true&&decide h) (K Exit.ret (sp 66 [(4,AV.ax 0 0 (Int.toNat ((↑(e0.1):Int) - (0:Int))))] [b 70 (di (rws e0.2) (0+Int.toNat (↑(e0.1):Int)) (Int.toNat ((↑c:Int) - (↑(e0.1):Int))) AV.nil)]))))) (∃(e0:Nat),e0<n/\I e0 (sp 66 [(0,AV.ax 0 0 L.length),(1,AV.bp 81 []),(5,AV.int (a ((↑k:Int)+(1:Int))))] [b 70 (rws L)])))))) (K (Exit.exit 0) (sp 66 [(0,AV.ax 0 0 L.length)] [b 70 (rws L)]))):=by kernel_rfl
structure Zu where
 L:RL
 k:Nat
abbrev YR(x:Zu):=sp 66 [(0, .ax 0 0 x.L.length),(1, .bp 81 []),(5, .int x.k)] [.row 70 (rws x.L)]
def Ws(x:Zu):=(1<=x.k/\x.k<=x.L.length)/\x.L.length<=100000000/\fz x.L/\j7 x.L=x.L.take x.k++jY (rat x.L (x.k - 1)) (x.L.drop x.k)
def MW(x:Zu):Out (Exit×S):= .an (decide ((j7 x.L).length=x.L.length)) (.one (.exit 0,sp 66 [(0, .ax 0 0 x.L.length)] [.row 70 (rws x.L)]))
 (.all (fun a=>(j7 x.L).length<=a.length/\a.take (j7 x.L).length=rws (j7 x.L)) fun a=> .one (.ret,sp 66 [(4, .ax 0 0 (j7 x.L).length)] [.row 70 a]))
theorem tq: ∀p l,(jY p l).length<=l.length
 |_,[]=>Nat.le_refl _
 |p,b::l=>by
  have:=tq b l
  grind [jY]
theorem y9: ∀p l,(jY p l).length=l.length->jY p l=l
 |_,[],_=>rfl
 | p,b::l,h=>by
  have a:=tq b l;rw[jY] at h⊢;cases e:bC b p==0 with
  |true=>grind
  |false=>
   rw[e,an7,List.length_cons,List.length_cons] at h;rw[an7,y9 b l (by omega)]
theorem rS z: ∀xs k m,(di xs k m z).take k=xs.take k
 |[],_,_=>by rfl
 |a::l,0,_=>by rfl
 |a::l,k+1,m=>by
  have:=rS z l k m
  grind [di]
theorem qN z: ∀xs k m,(di xs k m z).length=xs.length
 |[],_,_=>by rfl
 |a::l,0,0=>rfl
 |a::l,0,m+1=>by simp[di,qN z l 0 m]
 |a::l,k+1,m=>by simp[di,qN z l k m]
theorem lCo κ:aP (SJ κ).E 12 80 4 (aI 1 YR Ws MW):=by
 refine aD (fun x=>x.L.length - x.k) ?_;rintro⟨L,k⟩ K ⟨l,i,g,a⟩ f;simp only at l i g a;rw[show(SJ κ).E.P=Pr κ from rfl];refine Eq.mpr (xCo κ L k _ _ K) ?_;simp only[MW,Out.run,ag,an2,an4] at f;rw[ag,an2,an4];refine⟨fun h=>?_,fun h=>?_⟩
 ·have d:k<L.length:=by omega
  rw[ay (n:=(k:Int) - 1) (by omega) (by omega),ay (n:=(k:Int)+1) (by omega) (by omega),show 0+((k:Int) - 1).toNat=k - 1 by omega,Nat.zero_add,Int.toNat_natCast,gl,gl];rw[ao3 d,←yO d,jY] at a;refine ai.2 ⟨by simp;omega,ai.2 ⟨by simp;omega,ai.2 ⟨an8 (kM g _),ag.2 ⟨fun e=>?_,fun e=>?_⟩⟩⟩⟩
  ·rw[e,an9] at a
   have p:(j7 L).length<L.length:=by
    have:=tq (rat L k) (L.drop (k+1))
    rw[a,ao6,List.length_take];rw[List.length_drop] at this;omega
   refine ai.2 ⟨by simp;omega,rfl,⟨L,L,L.length - k,k,k,1⟩,?_,⟨⟨rfl,by simp only;omega⟩,⟨Nat.le_refl _,Nat.le_refl _⟩,⟨Nat.le_refl _,by simp only;omega⟩,i,g,fun _ _=>rfl,?_⟩,fun r q=>?_⟩
   ·simp only[Q4,show((L.length:Int) - k).toNat=L.length - k by omega];rfl
   ·simp only[Nat.add_sub_cancel]
    exact a
   ·obtain⟨b,M⟩:=r
    obtain⟨m,o,j⟩:=q;simp only at m o j;have c:(j7 L).length=b:=by rw[←j,List.length_take];omega
    simp only;refine ai.2 ⟨by simp;omega,ai.2 ⟨by simp;omega,?_⟩⟩;have:=f.2 (by omega) (di (rws M) b ((M.length:Int) - b).toNat .nil) ⟨by rw[qN,fq];omega,by rw[c,rS,←List.map_take,j]⟩
    rw[c] at this;rw[show((b:Int) - 0).toNat=b by omega,show 0+(b:Int).toNat=b by omega];exact this
  ·rw[e,an7] at a
   refine⟨_,?_,⟨L,k+1⟩,rfl,⟨by simp only;omega,i,g,?_⟩,rfl,?_⟩
   ·simp only;omega
   ·simp only[Nat.add_sub_cancel]
    rw[a,List.take_succ_eq_append_getElem d,←yO d];simp
   ·simp only[MW,Out.run,ag,an2,an4]
    exact f
 ·rw[ao0 (by omega),jY,List.append_nil,List.take_of_length_le (by omega)] at a
  exact f.1 (by rw[a])
noncomputable def SK κ:=(SJ κ).loop (lCo _)
theorem al8 κ L K:(a8 (SK κ).E 12 80 [.ax 0 0 L.length, .bp 81 []] [.row 70 (rws L)] K)=(
 letI a:=Pg.toProgram (Env.P (EB.E (SJ κ)))
 an (decide ((↑(L.length):Int)<(2:Int))) (K (AV.ad 70 (List.take L.length (List.drop 0 (rws L)))) [Obj.lD 70 (rws L)]) (ah a 80 4=ah a 80 4/\∃(e1:
 Zu),sp 66 [(0,AV.ax 0 0 L.length),(1,AV.bp 81 []),(5,AV.int 1)] [Obj.row 70 (rws L)]=YR e1/\Ws e1/\an (decide (List.length (j7 e1.L)=e1.L.length))
 (K (AV.ad 70 (List.take e1.L.length (List.drop 0 (rws e1.L)))) [Obj.lD 70 (rws e1.L)]) (∀(e0:List AV),List.length (j7 e1.L)<=e0.length/\List.take
 (List.length (j7 e1.L)) e0=rws (j7 e1.L)->K (AV.ad 70 (List.take (List.length (j7 e1.L)) (List.drop 0 e0))) [Obj.lD 70 e0]))):=by kernel_rfl
def DL(L:RL):List AV×List Dn.Obj:=([.ax 0 0 L.length, .bp 81 []],[.row 70 (rws L)])
def MX(L:RL):Out (AV×List Dn.Obj):= .all (fun _=>True) fun a=> .one (.ad 70 (rws (j7 L)),[.lD 70 a])
theorem cCo κ:bq (SK κ).E 12 80 (aX DL (fun L=>L.length<=100000000/\fz L) MX):=by
 refine a7 ?_;rintro L K ⟨i,j⟩ d;refine Eq.mpr (al8 κ L K) ?_;have d: ∀c,K (.ad 70 (rws (j7 L))) [.lD 70 c]:=fun c=>d c trivial
 rw[ag,an2,an4];refine⟨fun h=>?_,fun h=>⟨rfl,⟨L,1⟩,rfl,⟨by simp only;omega,i,j,?_⟩,ag.2 ⟨fun e=>?_,fun e c f=>?_⟩⟩⟩
 ·have e:j7 L=L:=by
   match L,h with
   |[],_=>rfl
   |[a],_=>rfl
   |a::b::l,h=>simp at h;omega
  have:=d (rws L)
  rw[e] at this;rw[ao2,←fq,List.take_length];exact this
 ·match L,h with
  |[],h=>simp at h
  |a::l,_=>rfl
 ·rw[an2] at e
  have g:j7 L=L:=by
   match L,h with
   |a::l,_=>
    simp only[j7,List.length_cons,Nat.add_right_cancel_iff] at e;rw[j7,y9 _ _ e]
  have:=d (rws L)
  rw[g] at this;simp only;rw[ao2,←fq,List.take_length];exact this
 ·simp only at f
  rw[ao2,f.2];exact d c
theorem yTy κ v k K:(a8 (SK κ).E 12 97 [gz v, .int k] [] K)=(
 an (k==(1:Int)) (K (AV.lit (Value.bool (v.y==false&&(v.n==v.n&&(ByteArray.toList v.s==ByteArray.toList {data:= #[]}&&true))))) []) (K (AV.lit (Value.bool (v.y==true&&(v.n==(0:Int)&&(ByteArray.toList v.s==ByteArray.toList v.s&&true))))) [])):=by kernel_rfl
def VE(v:fI)(k:Int):=bif k==1 then !v.y&&decide (v.s=ByteArray.mk #[]) else v.y&&decide (v.n=0)
def gTy:List AV->Option (Bool×AV)
 |[.agg [.lit (.bool y), .lit (.int .i64 n), .lit (.string s)], .lit (.int .i64 k)]=>some (true, .bool (VE ⟨y,n,s⟩ k))
 |_=>none
theorem IN s t:(ByteArray.toList s==ByteArray.toList t)=decide (s=t):=by
 rw[Bool.eq_iff_iff,beq_iff_eq,an2];exact toList_inj
theorem pTy κ:cg (SK κ).E 12 97 gTy:=by
 intro b x a;unfold gTy at a;split at a
 ·rename_i y n s k
  simp only[an5,ao1,true_and] at a;subst a;refine⟨_,rfl,rfl,Eq.mpr (yTy κ ⟨y,n,s⟩ k _) (ag.2 ⟨fun e=>?_,fun e=>?_⟩)⟩
  ·simp only[VE,e,an9,IN]
   cases y<;>simp
  simp_all[VE,an7,IN,ZY]
 ·cases a
noncomputable def Tj κ:=EB.L2 ((SK κ).pure (pTy _)) [97,49,23]
theorem xFj κ xs t rel ns ts a o li(j i:Nat) I n K:(vc (Tj κ).E 12 49 none 0 (ah (Pr κ).toProgram 49 7) (sp 40 [(1, .ad 70 xs),(2, .ptr 0 0 [] 0),(9, .ad 70 xs),(10, .int xs.length),(11, .int j),(21, .ad 72 t),(22, .int t.length),(23, .int i)] [.box 43 (.agg [.lit (.string rel), .ad 9 ns, .ad 3 ts, .bool a, .bool o, .int li])]) (bh (Tj κ).E 49 7 0 I n K))=(
 letI b:=AV.int
 letI c:=AV.ad
 letI e:=AV.agg [AV.str rel,c 9 ns,c 3 ts,AV.bool a,AV.bool o,b li]
 letI d:=Int.toNat (↑i:Int)
 letI f:=(↑i:Int)<(↑(t.length):Int)
 an (decide f) (aG (true&&decide f) (aG (true&&decide ((↑i:Int)<(↑(ts.length):Int))) (an (!VE {y:=Dn.toBool (af (nth t d) 0),n:=toInt (af (nth t d) 1),s:=toStr (af (nth t d) 2)} (toInt (nth ts d))) (K Exit.ret (sp 40 [(4,AV.bool false)] [])) (∃(e0:Nat),e0<n/\I e0 (sp 40 [(1,c 70 xs),(2,AV.ptr 0 0 [] 0),(9,c 70 xs),(10,b (↑(xs.length):Int)),(11,b (↑j:Int)),(21,c 72 t),(22,b (↑(t.length):Int)),(23,b (IntKind.wrap IntKind.i64 ((↑i:Int)+(1:Int))))] [Obj.box 43 e]))))) (K (Exit.exit 2) (sp 40 [(1,c 70 xs),(2,AV.ptr 0 0 [] 0),(9,c 70 xs),(10,b (↑(xs.length):Int)),(11,b (↑j:Int))] [Obj.box 43 e]))):=by kernel_rfl
def Io:List AV->List AV->Bool
 |[],[]=>true
 |v::t,k::a=>VE (uv v) (toInt k)&&Io t a
 |_,_=>false
theorem B3: ∀t a,Io t a=true->t.length=a.length
 |[],[],_=>rfl
 |v::t,k::a,h=>by
  simp[Io] at h;simp[B3 t _ h.2]
 |[],_::_,h=>by grind [Io]
 |_::_,[],h=>by grind [Io]
structure Zv where
 xs:List AV
 t:List AV
 d:SE
 j:Nat
 i:Nat
abbrev YV(x:Zv):=sp 40 [(1, .ad 70 x.xs),(2, .ptr 0 0 [] 0),(9, .ad 70 x.xs),(10, .int x.xs.length),(11, .int x.j),(21, .ad 72 x.t),(22, .int x.t.length),(23, .int x.i)] [.box 43 (RO x.d)]
def NL(x:Zv):=x.t.length=x.d.types.length/\x.i<=x.t.length/\x.t.length<=100000000
def M1(x:Zv):Out (Exit×S):= .an (Io (x.t.drop x.i) (x.d.types.drop x.i)) (.one (.exit 2,sp 40 [(1, .ad 70 x.xs),(2, .ptr 0 0 [] 0),(9, .ad 70 x.xs),(10, .int x.xs.length),(11, .int x.j)] [.box 43 (RO x.d)])) (.one (.ret,sp 40 [(4, .bool false)] []))
theorem lFj κ:aP (Tj κ).E 12 49 7 (aI 0 YV NL M1):=by
 refine aD (fun x=>x.t.length - x.i) ?_;rintro⟨xs,t,⟨d,m,c,a,o,g⟩,j,i⟩ K ⟨k,p,l⟩ b;simp only at k p l;rw[show(Tj κ).E.P=Pr κ from rfl];refine Eq.mpr (xFj κ xs t d m c a o g j i _ _ K) ?_;simp only[M1,Out.run,ag] at b;rw[ag,an2,an4];refine⟨fun h=>?_,fun h=>?_⟩
 ·have f:i<t.length:=by omega
  rw[ao3 f,←aJ _ _ f,ao3 (show i<c.length by omega),←aJ c i (by omega),Io] at b;rw[Int.toNat_natCast,ay (n:=(i:Int)+1) (by omega) (by omega)];refine ai.2 ⟨by simp;omega,ai.2 ⟨by simp;omega,?_⟩⟩;rw[show(⟨Dn.toBool (af (nth t i) 0),toInt (af (nth t i) 1),toStr (af (nth t i) 2)⟩:fI)=uv (nth t i) from rfl,ag,Bool.not_eq_true',ao4];refine⟨fun e=>b.2 (by rw[e];rfl),fun e=>?_⟩;rw[e,ao7] at b;refine⟨_,?_,⟨xs,t,⟨d,m,c,a,o,g⟩,j,i+1⟩,rfl,⟨k,f,l⟩,rfl,?_⟩
  ·simp only;omega
  ·simp only[M1,Out.run,ag]
   exact b
 ·rw[ao0 (show t.length<=i by omega),ao0 (show c.length<=i by omega)] at b
  exact b.1 rfl
noncomputable def SQ κ:=(Tj κ).loop (lFj _)
theorem xFk κ xs d(j:Nat) I n K:(vc (SQ κ).E 12 49 none 0 (ah (Pr κ).toProgram 49 2) (sp 40 [(1, .ad 70 xs),(2, .ptr 0 0 [] 0),(9, .ad 70 xs),(10, .int xs.length),(11, .int j)] [.box 43 (RO d)]) (bh (SQ κ).E 49 2 0 I n K))=(
 letI a:=AV.int
 letI b:=AV.bool
 letI c:=AV.ad
 letI e:=aa (nth xs (Int.toNat (↑j:Int)))
 letI f:=K Exit.ret (sp 40 [(4,b false)] [])
 letI g:=(↑j:Int)<(↑(xs.length):Int)
 letI h:=Pg.toProgram (Env.P (EB.E (Tj κ)))
 an (decide g) (aG (true&&decide g) (an ((↑(List.length e):Int) != (↑(d.types.length):Int)) f (ah h 49 7=ah h 49 7/\∃(e1:Zv),sp 40 [(1,c
 70 xs),(2,AV.ptr 0 0 [] 0),(9,c 70 xs),(10,a (↑(xs.length):Int)),(11,a (↑j:Int)),(21,c 72 e),(22,a (↑(List.length e):
 Int)),(23,a 0)] [Obj.box 43 (AV.agg [AV.str d.rel,c 9 d.names,c 3 d.types,b d.i,b d.o,a d.line])]=YV e1/\NL e1/\an (Io
 (List.drop e1.i e1.t) (List.drop e1.i e1.d.types)) (∃(e0:Nat),e0<n/\I e0 (sp 40 [(1,c 70 e1.xs),(2,AV.ptr 0 0 [] 0),(9,c 70 e1.xs),(10,
 a (↑(e1.xs.length):Int)),(11,a (IntKind.wrap IntKind.i64 ((↑(e1.j):Int)+(1:Int))))] [Obj.box 43 (AV.agg [AV.str e1.d.rel,c 9
 e1.d.names,c 3 e1.d.types,b e1.d.i,b e1.d.o,a e1.d.line])])) f))) (K (Exit.exit 0) (sp 40 [(1,c 70 xs)] []))):=by kernel_rfl
structure Z7 where
 xs:List AV
 d:SE
 j:Nat
abbrev YW(x:Z7):=sp 40 [(1, .ad 70 x.xs),(2, .ptr 0 0 [] 0),(9, .ad 70 x.xs),(10, .int x.xs.length),(11, .int x.j)] [.box 43 (RO x.d)]
def Sz(xs a:List _):=xs.all fun x=>Io (aa x) a
def M3(x:Z7):Out (Exit×S):= .an (Sz (x.xs.drop x.j) x.d.types) (.one (.exit 0,sp 40 [(1, .ad 70 x.xs)] [])) (.one (.ret,sp 40 [(4, .bool false)] []))
theorem lFk κ:aP (SQ κ).E 12 49 2 (aI 0 YW (fun x=>x.j<=x.xs.length/\eE x.xs=true) M3):=by
 refine aD (fun x=>x.xs.length - x.j) ?_;rintro⟨xs,d,j⟩ K ⟨g,b⟩ a;simp only at g b;rw[show(SQ κ).E.P=Pr κ from rfl];refine Eq.mpr (xFk κ xs d j _ _ K) ?_;have i:=jW b;simp only[M3,Out.run,ag] at a;rw[ag,an2,an4];refine⟨fun h=>?_,fun h=>?_⟩
 ·have f:j<xs.length:=by omega
  rw[ao3 f,←aJ _ _ f,Sz,ao8,←Sz] at a;rw[Int.toNat_natCast];refine ai.2 ⟨by simp;omega,?_⟩;rw[ag,bne_iff_ne,bne_eq_false_iff_eq];refine⟨fun e=>a.2 ?_,fun e=>⟨rfl,⟨xs,aa (nth xs j),d,j,0⟩,rfl,⟨by simp only;omega,Nat.zero_le _,nu b j⟩,?_⟩⟩
  ·rw[show Io (aa (nth xs j)) d.types=false from by
    grind [Io,aa,nth,B3],Bool.false_and]
  ·simp only[ao2]
   rw[ay (n:=(j:Int)+1) (by omega) (by omega),ag];refine⟨fun c=>⟨_,?_,⟨xs,d,j+1⟩,rfl,⟨f,b⟩,rfl,?_⟩,fun c=>a.2 (by rw[c];rfl)⟩
   ·simp only;omega
   ·rw[c,ao7] at a
    simp only[M3,Out.run,ag];exact a
 ·rw[ao0 (by omega)] at a
  exact a.1 rfl
noncomputable def BFk κ:=(SQ κ).loop (lFk _)
theorem yFk κ xs d K:(a8 (BFk κ).E 12 49 [RO d, .ad 70 xs] [] K)=(
 letI a:=AV.bool
 letI b:=Pg.toProgram (Env.P (EB.E (SQ κ)))
 ah b 49 2=ah b 49 2/\∃(e0:Z7),sp 40 [(1,AV.ad 70 xs),(2,AV.ptr 0 0 [] 0),(9,AV.ad 70 xs),(10,AV.int (↑(xs.length):Int)),(11,AV.int 0)]
 [Obj.box 43 (AV.agg [AV.str d.rel,AV.ad 9 d.names,AV.ad 3 d.types,a d.i,a d.o,AV.int d.line])]=YW e0/\(e0.j<=e0.xs.length/\eE e0.xs=
 true)/\an (Sz (List.drop e0.j e0.xs) e0.d.types) (aG (eE e0.xs) (K (a (dr (dS e0.xs))) [])) (K (a false) [])):=by kernel_rfl
def uA xs a:=Sz xs a&&dr (dS xs)
def gFk:List AV->Option (Bool×AV)
 |[.agg [.lit (.string _), .ad 9 _, .ad 3 a, .lit (.bool _), .lit (.bool _), .lit (.int .i64 _)], .ad 70 xs]=>some (eE xs, .bool (uA xs a))
 |_=>none
theorem pFk κ:cg (BFk κ).E 12 49 gFk:=by
 intro e x c;unfold gFk at c;split at c
 ·rename_i b d f a o g xs
  simp only[an5,ao1] at c;obtain⟨h,rfl⟩:=c;refine⟨_,rfl,rfl,Eq.mpr (yFk κ xs ⟨b,d,f,a,o,g⟩ _) ⟨rfl,⟨xs,⟨b,d,f,a,o,g⟩,0⟩,rfl,⟨Nat.zero_le _,h⟩,?_⟩⟩
  simp_all[ao2,uA,ag,ai,ao7,Bool.false_and]
 ·cases c
noncomputable def SR κ:=(BFk κ).pure (pFk _)
theorem xFm κ ds rs xs(i:Nat) I n K:(vc (SR κ).E 12 23 none 0 (ah (Pr κ).toProgram 23 4) (sp 34 [(2, .ptr 0 0 [] 0),(18, .ad 51 xs),(19, .int xs.length),(20, .int i)] [.box 25 (lj ds rs)]) (bh (SR κ).E 23 4 0 I n K))=(
 letI a:=Int.toNat (↑i:Int)
 letI b:=(↑i:Int)<(↑(xs.length):Int)
 an (decide b) (aG (true&&decide b) (aG (true&&decide ((↑i:Int)<(↑(ds.length):Int))) (aG (eE (aa (nth xs a))) (an (!uA (aa (nth xs a)) (aa (af (nth
 ds a) 2))) (K Exit.ret (sp 34 [(4,AV.bool false)] [])) (∃(e0:Nat),e0<n/\I e0 (sp 34 [(2,AV.ptr 0 0 [] 0),(18,AV.ad 51 xs),(19,AV.int (↑(xs.length)
 :Int)),(20,AV.int (IntKind.wrap IntKind.i64 ((↑i:Int)+(1:Int))))] [Obj.box 25 (AV.agg [AV.ad 43 ds,AV.ad 48 rs])])))))) (K (Exit.exit 0) (sp 34 []
 []))):=by kernel_rfl
structure Z8 where
 ds:List AV
 rs:List AV
 xs:List AV
 i:Nat
abbrev YX(x:Z8):=sp 34 [(2, .ptr 0 0 [] 0),(18, .ad 51 x.xs),(19, .int x.xs.length),(20, .int x.i)] [.box 25 (lj x.ds x.rs)]
def uB:List AV->List AV->Bool
 |[],_=>true
 |x::xs,d::ds=>uA (aa x) (aa (af d 2))&&uB xs ds
 |_::_,[]=>false
def iP(xs:List _):=decide (xs.length<=100000000)&&xs.all fun x=>eE (aa x)
def M4(x:Z8):Out (Exit×S):= .an (uB (x.xs.drop x.i) (x.ds.drop x.i)) (.one (.exit 0,sp 34 [] [])) (.one (.ret,sp 34 [(4, .bool false)] []))
theorem oK{xs}(h:iP xs=true) i:eE (aa (nth xs i))=true:=by
 simp[iP] at h;rcases Nat.lt_or_ge i xs.length with a|a
 ·grind [aJ]
 ·rw[iF _ _ a];rfl
theorem lFm κ:aP (SR κ).E 12 23 4 (aI 0 YX (fun x=>x.i<=x.xs.length/\x.xs.length=x.ds.length/\iP x.xs=true) M4):=by
 refine aD (fun x=>x.xs.length - x.i) ?_;rintro⟨ds,f,xs,i⟩ K ⟨g,d,b⟩ a;simp only at g d b;rw[show(SR κ).E.P=Pr κ from rfl];refine Eq.mpr (xFm κ ds f xs i _ _ K) ?_;have j:xs.length<=100000000:=by
  simp only[iP,an3,an2] at b;exact b.1
 simp only[M4,Out.run,ag] at a;rw[ag,an2,an4];refine⟨fun h=>?_,fun h=>?_⟩
 ·have c:i<xs.length:=by omega
  rw[ao3 c,←aJ _ _ c,ao3 (show i<ds.length by omega),←aJ ds i (by omega),uB] at a;rw[Int.toNat_natCast,ay (n:=(i:Int)+1) (by omega) (by omega)];refine ai.2 ⟨by simp;omega,ai.2 ⟨by simp;omega,ai.2 ⟨oK b i,?_⟩⟩⟩;rw[ag,Bool.not_eq_true',ao4];refine⟨fun e=>a.2 (by rw[e];rfl),fun e=>?_⟩;rw[e,ao7] at a;refine⟨_,?_,⟨ds,f,xs,i+1⟩,rfl,⟨c,d,b⟩,rfl,?_⟩
  ·simp only;omega
  ·simp only[M4,Out.run,ag]
   exact a
 ·rw[ao0 (show xs.length<=i by omega)] at a
  exact a.1 rfl
noncomputable def BFm κ:=(SR κ).loop (lFm _)
theorem yFm κ ds rs xs K:(a8 (BFm κ).E 12 23 [lj ds rs, .ad 51 xs] [] K)=(
 letI a:=K (AV.bool false) []
 letI b:=Pg.toProgram (Env.P (EB.E (SR κ)))
 aG (List.all rs fk) (an (!fR ds rs) a (an ((↑(xs.length):Int) != (↑(ds.length):Int)) a (ah b 23 4=ah b 23 4/\∃(e0:Z8),sp 34 [(2,AV.ptr 0 0 []
 0),(18,AV.ad 51 xs),(19,AV.int (↑(xs.length):Int)),(20,AV.int 0)] [Obj.box 25 (AV.agg [AV.ad 43 ds,AV.ad 48 rs])]=YX e0/\(e0.i<=e0.xs.length/\
 e0.xs.length=e0.ds.length/\iP e0.xs=true)/\an (uB (List.drop e0.i e0.xs) (List.drop e0.i e0.ds)) (K (AV.bool true) []) a)))):=by kernel_rfl
def iv ds a xs:=fR ds a&&(decide (xs.length=ds.length)&&uB xs ds)
def gFm:List AV->Option (Bool×AV)
 |[.agg [.ad 43 ds, .ad 48 a], .ad 51 xs]=>some (a.all fk&&iP xs, .bool (iv ds a xs))
 |_=>none
theorem pFm κ:cg (BFm κ).E 12 23 gFm:=by
 intro c x a;unfold gFm at a;split at a
 ·rename_i ds b xs
  simp only[an5,ao1,an3] at a;obtain⟨⟨f,g⟩,rfl⟩:=a;refine⟨_,rfl,rfl,Eq.mpr (yFm κ ds b xs _) (ai.2 ⟨f,?_⟩)⟩;unfold iv;rw[ag,Bool.not_eq_true',ao4];refine⟨fun e=>by rw[e];rfl,fun e=>?_⟩;rw[e,ao7,ag,bne_iff_ne,bne_eq_false_iff_eq];refine⟨fun d=>by rw[an6 (by omega)];rfl,fun d=>⟨rfl,⟨ds,b,xs,0⟩,rfl,⟨Nat.zero_le _,by simp only;omega,g⟩,?_⟩⟩;rw[an8 (by omega),ao7]
  simp_all[ao2,ag]
 ·cases a
noncomputable def BFn κ:=(BFm κ).pure (pFm _)
def Qq v:=v=gz (uv v)/\bif (uv v).y then(uv v).n=0 else(uv v).s=ByteArray.mk #[]
def Bd(r:List _):=∀v,v∈r->Qq v
def iL(L:RL):=∀r,r∈L->Bd r
theorem PR{v w}(d:Qq v)(e:Qq w)(h:oF v w=0):v=w:=by
 obtain⟨g,j⟩:=d;obtain⟨f,k⟩:=e;rw[g,f] at h⊢;generalize uv v=a at*
 generalize uv w=b at*
 obtain⟨y,n,s⟩:=a;obtain⟨i,c,s'⟩:=b;cases y<;>cases i
 ·obtain rfl:=JL.1 (show yA n c=0 from h)
  grind
 ·cases(show(-1:Int)=0 from h)
 ·cases(show(1:Int)=0 from h)
 ·obtain rfl:=JM.1 (show Bh s s'=0 from h)
  grind
theorem rT: ∀{l m},Bd l->Bd m->bC l m=0->l=m
 |[],[],_,_,_=>rfl
 |[],_::_,_,_,h=>by simp[bC,qT] at h
 |_::_,[],_,_,h=>by simp[bC,qT] at h
 | a::l,b::m,d,f,h=>by
  simp only[bC,qT] at h;by_cases e:oF a b=0
  ·rw[an8 e] at h
   rw[PR (d a (by simp)) (f b (by simp)) e,rT (fun v c=>d v (by simp[c])) (fun v c=>f v (by simp[c])) h]
  grind
theorem dx{a}{l:RL}:dr (a::l)=true↔(∀b,b∈l->bC a b<0)/\dr l=true:=by
 induction l generalizing a with
 |nil=>simp[dr]
 |cons b l f=>
  rw[dr,an3,an2,f];refine⟨fun⟨e,g,h⟩=>⟨fun c d=>?_,g,h⟩,by grind⟩;rcases List.mem_cons.1 d with rfl|d
  ·exact e
  ·exact cf.Jw e (by grind)
theorem zI: ∀{l m},dr l=true->dr m=true->(∀r,r∈l↔r∈m)->l=m
 |[],[],_,_,_=>rfl
 |[],b::m,_,_,h=>by have:=(h b).2 (by simp);simp at this
 |a::l,[],_,_,h=>by have:=(h a).1 (by simp);simp at this
 | a ::l,b::m,i,k,h=>by
  obtain⟨c,g⟩:=dx.1 i;obtain⟨d,j⟩:=dx.1 k;have e:a=b:=by
   rcases List.mem_cons.1 ((h a).1 (by simp)) with e|e
   ·exact e
   ·rcases List.mem_cons.1 ((h b).2 (by simp)) with f|f
    ·exact f.symm
    ·have:=d a e
     have:=c b f
     rw[cf.swap b a] at this;omega
  subst e;rw[zI g j fun r=>?_];have n:=h r;simp only[ap0] at n;have p:r∈l->r≠a:=fun q e=>by
   subst e;have:=c r q
   rw[cf.self] at this;omega
  have o:r∈m->r≠a:=fun q e=>by
   subst e;have:=d r q
   rw[cf.self] at this;omega
  grind
def yr(r:List AV):RL->RL
 |[]=>[r]
 |a::l=>bif decide (bC r a<0) then r::a::l else bif decide (bC r a=0) then a::l else a::yr r l
def ie(L:RL):RL:=L.foldr yr []
theorem wH{r x}: ∀{l},Bd r->iL l->(x∈yr r l↔x=r\/x∈l)
 |[],_,_=>by simp[yr]
 | a::l,c,d=>by
  have g:=wH (x:=x) c (l:=l) fun s e=>d s (by simp[e])
  rw[yr];by_cases f:bC r a<0
  ·grind
  ·rw[an6 f]
   by_cases b:bC r a=0
   ·rw[an8 b,an9,rT c (d a (by simp)) b]
    simp
   grind
theorem y5{r}: ∀{l},Bd r->iL l->dr l=true->dr (yr r l)=true
 |[],_,_,_=>rfl
 | a::l,f,k,h=>by
  obtain⟨m,g⟩:=dx.1 h;have d:iL l:=fun s j=>k s (by simp[j])
  rw[yr];by_cases e:bC r a<0
  ·rw[an8 e,an9]
   refine dx.2 ⟨fun b c=>?_,h⟩;rcases List.mem_cons.1 c with rfl|c
   ·exact e
   ·exact cf.Jw e (by grind)
  ·rw[an6 e,an7]
   by_cases i:bC r a=0
   ·grind
   ·rw[an6 i,an7]
    refine dx.2 ⟨fun b c=>?_,y5 f d g⟩;rcases(wH f d).1 c with rfl|c
    ·rw[cf.swap b a];omega
    ·exact m b c
theorem nQ: ∀{L},iL L->dr (ie L)=true/\(∀r,r∈ie L↔r∈L)/\iL (ie L)
 |[],h=>⟨rfl,fun _=>Iff.rfl,h⟩
 |a::L,h=>by
  have f:iL L:=fun s d=>h s (by grind)
  obtain⟨g,i,b⟩:=nQ f;have e:=h a (by simp);have c: ∀r,r∈yr a _↔r∈a::L:=fun r=>by rw[wH e b,i,ap0]
  exact⟨y5 e b g,c,fun s d=>h s ((c s).1 d)⟩
theorem x5{L M}(a:iL L)(b:dr M=true)(c: ∀r,r∈M↔r∈L):M=ie L:=
 zI b (nQ a).1 fun r=>(c r).trans ((nQ a).2.1 r).symm
theorem wN: ∀p l,Bd p->iL l->(∀b,b∈l->bC p b<=0)->Up l 0 l.length->dr (p::jY p l)=true/\∀r,r∈p::jY p l↔r∈p::l
 |p,[],_,_,_,_=>⟨rfl,fun _=>Iff.rfl⟩
 | p,b::l,u,o,n,q=>by
  have t:=o b (by simp);have m:iL l:=fun s v=>o s (by simp[v])
  have g:Up l 0 l.length:=fun i j h k w=>by
   have:=q (i+1) (j+1) (by omega) (by omega) (by simp;omega)
   simpa[rat] using this
  have a: ∀c,c∈l->bC b c<=0:=fun c d=>by
   obtain⟨j,x,rfl⟩:=List.getElem_of_mem d;have:=q 0 (j+1) (by omega) (by omega) (by simp;omega)
   simpa[rat,x] using this
  obtain⟨h,k⟩:=wN b l t m a g;rw[jY];by_cases e:bC b p=0
  ·rw[show(bC b p==0)=true by simpa using e,an9]
   obtain rfl:=rT t u e;exact⟨h,fun r=>by rw[k r];simp⟩
  ·rw[show(bC b p==0)=false by simpa using e,an7]
   have f:bC p b<0:=by
    have w:=n b (by simp);have y:=cf.swap p b;omega
   refine⟨dx.2 ⟨fun c d=>?_,h⟩,by grind⟩;rcases List.mem_cons.1 ((k c).1 d) with rfl|d
   ·exact f
   ·exact cf.Jw f (a c d)
theorem PS{L M}(l:iL L)(k:M.Perm L)(e:Up M 0 L.length):j7 M=ie L:=by
 have d:iL M:=fun r m=>l r (k.mem_iff.1 m)
 have c:=k.length_eq;refine x5 l ?_ fun r=>?_
 ·cases M with
  |nil=>rfl
  | cons a M=>exact(wN a M (d a (by simp)) (fun s g=>d s (by simp[g])) (fun b h=>by
    obtain⟨j,f,rfl⟩:=List.getElem_of_mem h;have:=e 0 (j+1) (by omega) (by omega) (by rw[←c];simp;omega)
    simpa[rat,f] using this) (fun i j o p n=>by
    have:=e (i+1) (j+1) (by omega) (by omega) (by rw[←c];simp;omega)
    simpa[rat] using this)).1
 ·rw[←k.mem_iff]
  cases M with
  |nil=>exact Iff.rfl
  | cons a M=>exact(wN a M (d a (by simp)) (fun s g=>d s (by simp[g])) (fun b h=>by
    obtain⟨j,f,rfl⟩:=List.getElem_of_mem h;have:=e 0 (j+1) (by omega) (by omega) (by rw[←c];simp;omega)
    simpa[rat,f] using this) (fun i j o p n=>by
    have:=e (i+1) (j+1) (by omega) (by omega) (by rw[←c];simp;omega)
    simpa[rat] using this)).2 r
theorem ai4 κ: ∀a st K,aX DL (fun L=>L.length<=100000000/\fz L) MX a st K->bt (Pr κ) 80 a st K:=fun a st K h=>cZ (SK _).ok (SK _).mono (cCo _ _ _ K h)
noncomputable def aa0 κ:=(BFn κ).mat [(0,some 70)] aZ (ai7 _)
noncomputable def VW(κ:Kp):EB:=(aa0 κ).mat [(0,some 70)] aZ (ai4 κ)
theorem ySo κ L K:(a8 (VW κ).E 12 36 [.ad 70 (rws L)] [] K)=(
 letI b:=Obj.row
 (My (rws L)=true->∃(a:RL),([AV.ax 0 0 0,AV.bp 54 []],[b 70 []])=DQ a/\qa a/\∀(y:RL),(List.Perm y a/\∀(i j:Nat),0<=i->i
 <j->j<a.length->bC (rat y i) (rat y j)<=(0:Int))->∃(a:RL),([AV.ax 0 0 0,AV.bp 81 []],[b 70 []])=DL a/\(a.length<=100000000/\
 fz a)/\∀(y:List AV),True->∃(a_2:List AV),([AV.ad 70 (rws (j7 a))],[])=UN a_2/\eE a_2=true/\K (AV.ad 70 (rws (dS a_2))) [])/\aG
 (decide ((0+List.length (rws L)+1)*25<=70368744177664)) (∃(a:RL),([AV.ax 0 0 (0+List.length (rws L)),AV.bp 54 []],[b 70 ([]++rws L)])
 =DQ a/\qa a/\∀(y:RL),(List.Perm y a/\∀(i j:Nat),0<=i->i<j->j<a.length->bC (rat y i) (rat y j)<=(0:Int))->∃(a:RL),([AV.ax
 0 0 (0+List.length (rws L)),AV.bp 81 []],[b 70 (rws y)])=DL a/\(a.length<=100000000/\fz a)/\∀(y:List AV),True->∃(a_2:List AV),
 ([AV.ad 70 (rws (j7 a))],[])=UN a_2/\eE a_2=true/\K (AV.ad 70 (rws (dS a_2))) [])):=by kernel_rfl
theorem rX{L}(h:L.length<=100000000)(b: ∀r,r∈L->r.length<=100000000):eE (rws L)=true:=by
 simp only[eE,fq,an3,an2,List.all_eq_true];refine⟨h,fun x c=>?_⟩;obtain⟨r,a,rfl⟩:=List.mem_map.1 c;exact b r a
structure kq(L:RL):Prop where
 n:L.length<=100000000
 s: ∀r,r∈L->r.length<=100000000
 v:iL L
theorem kq.short{L}(h:kq L):fz L:=fun r a=>by have:=h.s r a;grind [aU]
theorem sO: ∀L,(ie L).length<=L.length
 |[]=>Nat.le_refl _
 | a::L=>by
  have h: ∀l,(yr a l).length<=l.length+1:=fun l=>by
   induction l with
   |nil=>exact Nat.le_refl _
   |cons b l d=>
    grind [yr]
  have c:=sO L
  grind [ie]
theorem vF{L}(h:kq L):kq (ie L):=
 ⟨Nat.le_trans (sO L) h.n,fun r a=>h.s r (((nQ h.v).2.1 r).1 a),(nQ h.v).2.2⟩
def vd(L:RL):List AV×List Dn.Obj:=([.ad 70 (rws L)],[])
def X9(L:RL):Out (AV×List Dn.Obj):= .one (.ad 70 (rws (ie L)),[])
theorem cSo κ:bq (VW κ).E 12 36 (aX vd kq X9):=by
 refine a7 ?_;rintro L K h i;have j:=vF h;have c:K (.ad 70 (rws (dS (rws (ie L))))) []:=by rw[lY];exact i
 refine Eq.mpr (ySo κ L K) ⟨fun e=>?_,ai.2 ⟨by have:=h.n;simp;omega,L,?_,⟨h.n,h.short⟩,fun M d=>?_⟩⟩
 ·cases L with
  |nil=>
   refine⟨[],rfl,⟨Nat.zero_le _,fun r b=>(nomatch b)⟩,fun M d=>?_⟩;exact⟨[],rfl,⟨Nat.zero_le _,fun r b=>(nomatch b)⟩,fun k _=>⟨[],rfl,rfl,i⟩⟩
  |cons a L=>cases e
 ·simp only[DQ,fq,Nat.zero_add,List.nil_append]
 ·have f:M.Perm L:=d.1
  have g:=f.length_eq;refine⟨M,?_,⟨by rw[g];exact h.n,fu h.short f⟩,fun k _=>⟨rws (ie L),?_,rX j.n j.s,c⟩⟩
  ·simp only[DL,fq,Nat.zero_add,g]
  ·rw[PS h.v f d.2];rfl
noncomputable def aa1 κ:=((VW κ).call (cSo _)).calm [36]
noncomputable def Ay(a b:Tm):Bool:= @decide (a=b) (Classical.propDecidable _)
noncomputable def jU(a b:List Tm):Bool:= @decide (a=b) (Classical.propDecidable _)
theorem I7(a:Tm):Ay a a=true:=by unfold Ay;simp
theorem qO(a:List Tm):jU a a=true:=by unfold jU;simp
theorem EP(a b:Tm)(l m:List Tm):jU (a::l) (b::m)=(Ay a b&&jU l m):=by
 unfold jU Ay;rw[Bool.eq_iff_iff,an3];simp
theorem GJ(o1 o2:Int)(s1 s2:ByteArray)(n1 n2:Int)(l m:List Tm):Ay (.mk o1 s1 n1 l) (.mk o2 s2 n2 m)=(decide (o1=o2)&&(decide (s1=s2)&&(decide (n1=n2)&&jU l m))):=by
 unfold jU Ay;rw[Bool.eq_iff_iff];simp
theorem I8{l m:List Tm}(h:l.length≠m.length):jU l m=false:=by
 unfold jU;simp;rintro rfl;exact h rfl
def KB:List AV->Nat
 | .ad 38 l::_=>aM (ae l)
 |_=>0
noncomputable def Vz:List AV->Option (Bool×AV)
 |[.ad 38 l, .ad 38 m, .bp 70 []]=>some (decide (aM (ae l)<=100000), .bool (jU (ae l) (ae m)))
 |_=>none
noncomputable def O4(κ:Kp):EB:=EB.inline (EB.L2 (aa1 κ) [69,70,120,121,72]) [70]
noncomputable def zZ(κ:Kp)(n:Nat):Env:=(O4 κ).E.aV 69 (below Vz KB n)
theorem xEf(κ:Kp)(r:Nat)(l m:List AV)(i:Nat)(I:Nat->S->Prop)(n:Nat)(K:Exit->S->Prop):(vc (zZ κ r) 12 69 none 0 (ah (Pr κ).toProgram 69 4) (sp 32 [(1, .ad 38 m),(2, .bp 70 []),(15, .ad 38 l),(16, .int l.length),(17, .int i)] []) (bh (zZ κ r) 69 4 0 I n K))=(
 letI a:=Int.toNat (↑i:Int)
 letI b:=K Exit.ret (sp 32 [(6,AV.bool false)] [])
 letI c:=aa (af (nth l a) 3)
 letI d:=(↑i:Int)<(↑(l.length):Int)
 an (decide d) (aG (true&&decide d) (aG (true&&decide ((↑i:Int)<(↑(m.length):Int))) (an (toInt (af (nth l a) 0)==toInt (af (nth m a) 0)) (an
 (ByteArray.toList (toStr (af (nth l a) 1))==ByteArray.toList (toStr (af (nth m a) 1))) (an (toInt (af (nth l a) 2)==toInt (af (nth m a) 2)) (aG (decide
 (aM (ae c)<=100000)&&Nat.blt (KB [AV.ad 38 c,AV.ad 38 (aa (af (nth m a) 3)),AV.bp 70 []]) r) (an (!jU (ae c) (ae (aa (af (nth m a) 3)))) b (∃(e0:
 Nat),e0<n/\I e0 (sp 32 [(1,AV.ad 38 m),(2,AV.bp 70 []),(15,AV.ad 38 l),(16,AV.int (↑(l.length):Int)),(17,AV.int (IntKind.wrap IntKind.i64 ((↑i:
 Int)+(1:Int))))] [])))) b) b) b))) (K (Exit.exit 0) (sp 32 [] []))):=by kernel_rfl
structure Gm where
 l:List AV
 m:List AV
 i:Nat
abbrev UO(x:Gm):S:=sp 32 [(1, .ad 38 x.m),(2, .bp 70 []),(15, .ad 38 x.l),(16, .int x.l.length),(17, .int x.i)] []
def FY(r:Nat)(x:Gm):Prop:=x.l.length=x.m.length/\aM (ae x.l)<=100000/\aM (ae x.l)<=r/\x.i<=x.l.length
noncomputable def Hn(x:Gm):Out (Exit×S):= .an (jU (ae (x.l.drop x.i)) (ae (x.m.drop x.i))) (.one (.exit 0,sp 32 [] [])) (.one (.ret,sp 32 [(6, .bool false)] []))
theorem lEf(κ:Kp)(r:Nat):aP (zZ κ r) 12 69 4 (aI 0 UO (FY r) Hn):=by
 refine aD (fun x=>x.l.length - x.i) ?_;rintro⟨l,m,i⟩ K ⟨h1,h2,h3,h4⟩ ho;simp only at h1 h2 h3 h4;rw[show(zZ κ r).P=Pr κ from rfl];refine Eq.mpr (xEf κ r l m i _ _ K) ?_;simp only[Hn,Out.run,ag] at ho;have hlen:=eu (ae l);rw[dz] at hlen;simp only[Int.toNat_natCast];rw[ag,an2,an4];refine⟨fun h=>?_,fun h=>?_⟩
 ·have hk:i<l.length:=by omega
  have hx:nth l i∈l:=by rw[aJ _ _ hk];exact List.getElem_mem _
  have hc:=Ar hx;have hc2:(bX (nth l i)).eT=1+aM (ae (aa (af (nth l i) 3))):=by rw[cF];rfl
  rw[eg l i hk,eg m i (by omega),EP,cF (nth l i),cF (nth m i),GJ] at ho;rw[IN];refine ai.2 ⟨by simp;omega,ai.2 ⟨by simp;omega,ag.2 ⟨fun e1=>ag.2 ⟨fun e2=>ag.2 ⟨fun e3=>ai.2 ⟨?_,ag.2 ⟨fun e4=>ho.2 ?_,fun e4=>?_⟩⟩,fun e3=>ho.2 ?_⟩,fun e2=>ho.2 ?_⟩,fun e1=>ho.2 ?_⟩⟩⟩
  ·rw[an3,an2,Nat.blt_eq]
   exact⟨by omega,by show aM _<r;omega⟩
  ·rw[Bool.not_eq_true'] at e4
   rw[e4];simp
  ·rw[ao4] at e4
   rw[beq_iff_eq] at e1 e3;rw[an8 e1,e2,an8 e3,e4,ao7,ao7,ao7,ao7] at ho;rw[ay (n:=(i:Int)+1) (by omega) (by omega)];refine⟨_,?_,⟨l,m,i+1⟩,rfl,⟨h1,h2,h3,hk⟩,rfl,?_⟩
   ·simp only;omega
   ·simp only[Hn,Out.run,ag]
    exact ho
  ·rw[an6 (show ¬ toInt (af (nth l i) 2)=toInt (af (nth m i) 2) by simpa using e3)];simp
  ·rw[e2];simp
  ·rw[an6 (show ¬ toInt (af (nth l i) 0)=toInt (af (nth m i) 0) by simpa using e1)];simp
 ·rw[ao0 (by omega),ao0 (by omega)] at ho
  exact ho.1 (qO [])
noncomputable def IC(κ:Kp)(r:Nat):Env:=(zZ κ r).aq 69 4 (aI 0 UO (FY r) Hn)
theorem yEf(κ:Kp)(r:Nat)(l m:List AV)(K:AV->List Dn.Obj->Prop):(a8 (IC κ r) 12 69 [.ad 38 l, .ad 38 m, .bp 70 []] [] K)=(
 letI a:=Pg.toProgram (Env.P (zZ κ r))
 an ((↑(l.length):Int) != (↑(m.length):Int)) (K (AV.bool false) []) (ah a 69 4=ah a 69 4/\∃(e0:Gm),sp 32 [(1,AV.ad 38 m),(2,AV.bp 70 []),(15,
 AV.ad 38 l),(16,AV.int (↑(l.length):Int)),(17,AV.int 0)] []=UO e0/\FY r e0/\an (jU (ae (List.drop e0.i e0.l)) (ae (List.drop e0.i e0.m))) (K (AV.bool
 true) []) (K (AV.bool false) []))):=by kernel_rfl
theorem ae4(κ:Kp)(r:Nat)(hp:fG (Pr κ) 69 (below Vz KB r)):aF (IC κ r)/\aj (IC κ r)/\(IC κ r).P=Pr κ:=
 have h:aF (zZ κ r):=(O4 κ).ok.ej hp;have hm:aj (zZ κ r):=(O4 κ).mono.aV
 ⟨h.aq hm (lEf κ r),hm.aq a0,rfl⟩
theorem pEf(κ:Kp)(r:Nat):cg (IC κ r) 12 69 (fun xs=>bif Nat.beq (KB xs) r then Vz xs else none):=by
 intro args x hh;cases hb:Nat.beq (KB args) r with
 |false=>simp only[hb] at hh;cases hh
 | true=>
  simp only[hb,an9] at hh;unfold Vz at hh;split at hh
  ·rename_i l m
   simp only[an5,ao1,an2] at hh;obtain⟨h1,rfl⟩:=hh;have hr:aM (ae l)=r:=Nat.eq_of_beq_eq_true hb;refine⟨_,rfl,rfl,Eq.mpr (yEf κ r l m _) ?_⟩;rw[ag,bne_iff_ne,bne_eq_false_iff_eq];refine⟨fun e=>by rw[I8 (by rw[dz,dz];omega)],fun e=>⟨rfl,⟨l,m,0⟩,rfl,⟨by simp only;omega,h1,Nat.le_of_eq hr,Nat.zero_le _⟩,?_⟩⟩;simp only[ao2];exact ag.2 ⟨fun e=>by rw[e],fun e=>by rw[e]⟩
  ·cases hh
theorem qEf(κ:Kp):fG (Pr κ) 69 Vz:=aF.qJ Vz KB (IC κ) (ae4 κ) (pEf κ)
noncomputable def BEf(κ:Kp):EB:=(O4 κ).Bt (qEf κ)
theorem ySq(κ:Kp)(a b:AT)(K:AV->List Dn.Obj->Prop):(a8 (BEf κ).E 12 70 [cD a,cD b] [] K)=(
 letI c:=K (AV.bool false) []
 an (a.op==b.op) (an (ByteArray.toList a.s==ByteArray.toList b.s) (an (a.n==b.n) (aG (decide (aM (ae a.l)<=100000)) (K (AV.bool (jU (ae a.l) (ae b.l)))
 [])) c) c) c):=by kernel_rfl
noncomputable def gSq:List AV->Option (Bool×AV)
 |[.agg [.lit (.int .i64 o1), .lit (.string s1), .lit (.int .i64 n1), .ad 38 l1], .agg [.lit (.int .i64 o2), .lit (.string s2), .lit (.int .i64 n2), .ad 38 l2]]=>some (decide (aM (ae l1)<=100000), .bool (Ay (.mk o1 s1 n1 (ae l1)) (.mk o2 s2 n2 (ae l2))))
 |_=>none
theorem pSq(κ:Kp):cg (BEf κ).E 12 70 gSq:=by
 intro args x hh;unfold gSq at hh;split at hh
 ·rename_i o1 s1 n1 l1 o2 s2 n2 l2
  simp only[an5,ao1] at hh;obtain⟨h1,rfl⟩:=hh;refine⟨_,rfl,rfl,Eq.mpr (ySq κ ⟨o1,s1,n1,l1⟩ ⟨o2,s2,n2,l2⟩ _) ?_⟩;rw[GJ];simp only[IN];refine ag.2 ⟨fun e1=>ag.2 ⟨fun e2=>ag.2 ⟨fun e3=>ai.2 ⟨h1,?_⟩,fun e3=>?_⟩,fun e2=>?_⟩,fun e1=>?_⟩
  ·rw[an8 (by simpa using e1),e2,an8 (by simpa using e3)];rfl
  ·rw[an6 (show ¬ n1=n2 by simpa using e3)];simp
  ·rw[e2];simp
  ·rw[an6 (show ¬ o1=o2 by simpa using e1)];simp
 ·cases hh
noncomputable def Tf(κ:Kp):EB:=((BEf κ).pure (pSq κ)).CV [70]
def BM(x:Gm):Prop:=x.l.length=x.m.length/\x.l.length<=aU/\x.i<=x.l.length
theorem ak1(κ:Kp)(l m:List AV)(i:Nat)(I:Nat->S->Prop)(n:Nat)(K:Exit->S->Prop):(vc (Tf κ).E 12 120 none 0 (ah (Pr κ).toProgram 120 4) (sp 26 [(0, .ad 3 l),(1, .ad 3 m),(12, .int l.length),(13, .int i)] []) (bh (Tf κ).E 120 4 0 I n K))=(
 letI a:=(↑i:Int)<(↑(l.length):Int)
 an (decide a) (aG (true&&decide a) (aG (true&&decide ((↑i:Int)<(↑(m.length):Int))) (an (toInt (nth l (Int.toNat (↑i:Int))) != toInt (nth m
 (Int.toNat (↑i:Int)))) (K Exit.ret (sp 26 [(4,AV.bool false)] [])) (∃(e0:Nat),e0<n/\I e0 (sp 26 [(0,AV.ad 3 l),(1,AV.ad 3 m),(12,AV.int
 (↑(l.length):Int)),(13,AV.int (IntKind.wrap IntKind.i64 ((↑i:Int)+(1:Int))))] []))))) (K (Exit.exit 0) (sp 26 [] []))):=by kernel_rfl
def oj(l m:List AV):Bool:=decide (l.map toInt=m.map toInt)
abbrev Sl(x:Gm):S:=sp 26 [(0, .ad 3 x.l),(1, .ad 3 x.m),(12, .int x.l.length),(13, .int x.i)] []
def Fy(x:Gm):Out (Exit×S):= .an (oj (x.l.drop x.i) (x.m.drop x.i)) (.one (.exit 0,sp 26 [] [])) (.one (.ret,sp 26 [(4, .bool false)] []))
theorem ag2(κ:Kp):aP (Tf κ).E 12 120 4 (aI 0 Sl BM Fy):=by
 refine aD (fun x=>x.l.length - x.i) ?_;rintro⟨l,m,i⟩ K ⟨h1,h2,h3⟩ ho;simp only at h1 h2 h3;simp only[aU] at h2;rw[show(Tf κ).E.P=Pr κ from rfl];refine Eq.mpr (ak1 κ l m i _ _ K) ?_;simp only[Fy,Out.run,ag] at ho;rw[ag,an2,an4];refine⟨fun h=>?_,fun h=>?_⟩
 ·have hk:i<l.length:=by omega
  rw[ao3 hk,←aJ l i hk,ao3 (show i<m.length by omega),←aJ m i (by omega)] at ho;simp only[oj,ao9,List.cons.injEq] at ho;rw[Int.toNat_natCast,ay (n:=(i:Int)+1) (by omega) (by omega)];refine ai.2 ⟨by simp;omega,ai.2 ⟨by simp;omega,ag.2 ⟨fun e=>ho.2 ?_,fun e=>⟨_,?_,⟨l,m,i+1⟩,rfl,⟨h1,by simpa[aU] using h2,hk⟩,rfl,?_⟩⟩⟩⟩
  ·have e: ¬ toInt (nth l i)=toInt (nth m i):=by simpa using e
   simp[e]
  ·simp only;omega
  ·have e:toInt (nth l i)=toInt (nth m i):=by simpa using e
   simp only[Fy,Out.run,ag,oj];simpa[e] using ho
 ·rw[ao0 (by omega),ao0 (by omega)] at ho
  exact ho.1 rfl
noncomputable def KK(κ:Kp):EB:=(Tf κ).loop (ag2 κ)
theorem am0(κ:Kp)(l m:List AV)(K:AV->List Dn.Obj->Prop):(a8 (KK κ).E 12 120 [.ad 3 l, .ad 3 m] [] K)=(
 letI a:=Pg.toProgram (Env.P (EB.E (Tf κ)))
 an ((↑(l.length):Int) != (↑(m.length):Int)) (K (AV.bool false) []) (ah a 120 4=ah a 120 4/\∃(e0:Gm),sp 26 [(0,AV.ad 3 l),(1,AV.ad 3 m),(12,
 AV.int (↑(l.length):Int)),(13,AV.int 0)] []=Sl e0/\BM e0/\an (oj (List.drop e0.i e0.l) (List.drop e0.i e0.m)) (K (AV.bool true) []) (K (AV.bool false)
 []))):=by kernel_rfl
def WQ:List AV->Option (Bool×AV)
 |[.ad 3 l, .ad 3 m]=>some (decide (l.length<=aU), .bool (oj l m))
 |_=>none
theorem ai2(κ:Kp):cg (KK κ).E 12 120 WQ:=by
 intro args x hh;unfold WQ at hh;split at hh
 ·rename_i l m
  simp only[an5,ao1,an2] at hh;obtain⟨h1,rfl⟩:=hh;refine⟨_,rfl,rfl,Eq.mpr (am0 κ l m _) (ag.2 ⟨fun e=>?_,fun e=>⟨rfl,⟨l,m,0⟩,rfl,⟨?_,h1,Nat.zero_le _⟩,?_⟩⟩)⟩
  ·have:oj l m=false:=an6 fun h=>by
    have:=congrArg List.length h
    simp at this e;omega
   rw[this]
  ·have:(l.length:Int)=m.length:=by simpa using e
   show l.length=m.length
   omega
  ·simp only[ao2]
   exact ag.2 ⟨fun e=>by rw[e],fun e=>by rw[e]⟩
 ·cases hh
noncomputable def Eh(κ:Kp):EB:=(KK κ).pure (ai2 κ)
theorem ak2(κ:Kp)(l m:List AV)(i:Nat)(I:Nat->S->Prop)(n:Nat)(K:Exit->S->Prop):(vc (Eh κ).E 12 121 none 0 (ah (Pr κ).toProgram 121 4) (sp 26 [(0, .ad 9 l),(1, .ad 9 m),(12, .int l.length),(13, .int i)] []) (bh (Eh κ).E 121 4 0 I n K))=(
 letI a:=(↑i:Int)<(↑(l.length):Int)
 an (decide a) (aG (true&&decide a) (aG (true&&decide ((↑i:Int)<(↑(m.length):Int))) (an (!ByteArray.toList (toStr (nth l (Int.toNat (↑i:Int))))==
 ByteArray.toList (toStr (nth m (Int.toNat (↑i:Int))))) (K Exit.ret (sp 26 [(4,AV.bool false)] [])) (∃(e0:Nat),e0<n/\I e0 (sp 26 [(0,AV.ad 9 l),(1,
 AV.ad 9 m),(12,AV.int (↑(l.length):Int)),(13,AV.int (IntKind.wrap IntKind.i64 ((↑i:Int)+(1:Int))))] []))))) (K (Exit.exit 0) (sp 26 [] []))):=by kernel_rfl
def mo(l m:List AV):Bool:=decide (l.map toStr=m.map toStr)
abbrev Sm(x:Gm):S:=sp 26 [(0, .ad 9 x.l),(1, .ad 9 x.m),(12, .int x.l.length),(13, .int x.i)] []
def Fz(x:Gm):Out (Exit×S):= .an (mo (x.l.drop x.i) (x.m.drop x.i)) (.one (.exit 0,sp 26 [] [])) (.one (.ret,sp 26 [(4, .bool false)] []))
theorem ag3(κ:Kp):aP (Eh κ).E 12 121 4 (aI 0 Sm BM Fz):=by
 refine aD (fun x=>x.l.length - x.i) ?_;rintro⟨l,m,i⟩ K ⟨h1,h2,h3⟩ ho;simp only at h1 h2 h3;simp only[aU] at h2;rw[show(Eh κ).E.P=Pr κ from rfl];refine Eq.mpr (ak2 κ l m i _ _ K) ?_;simp only[Fz,Out.run,ag] at ho;rw[ag,an2,an4];refine⟨fun h=>?_,fun h=>?_⟩
 ·have hk:i<l.length:=by omega
  rw[ao3 hk,←aJ l i hk,ao3 (show i<m.length by omega),←aJ m i (by omega)] at ho;simp only[mo,ao9,List.cons.injEq] at ho;rw[Int.toNat_natCast,ay (n:=(i:Int)+1) (by omega) (by omega),IN];refine ai.2 ⟨by simp;omega,ai.2 ⟨by simp;omega,ag.2 ⟨fun e=>ho.2 ?_,fun e=>⟨_,?_,⟨l,m,i+1⟩,rfl,⟨h1,by simpa[aU] using h2,hk⟩,rfl,?_⟩⟩⟩⟩
  ·have e: ¬ toStr (nth l i)=toStr (nth m i):=by simpa using e
   simp[e]
  ·simp only;omega
  ·have e:toStr (nth l i)=toStr (nth m i):=by simpa using e
   simp only[Fz,Out.run,ag,mo];simpa[e] using ho
 ·rw[ao0 (by omega),ao0 (by omega)] at ho
  exact ho.1 rfl
noncomputable def KL(κ:Kp):EB:=(Eh κ).loop (ag3 κ)
theorem am1(κ:Kp)(l m:List AV)(K:AV->List Dn.Obj->Prop):(a8 (KL κ).E 12 121 [.ad 9 l, .ad 9 m] [] K)=(
 letI a:=Pg.toProgram (Env.P (EB.E (Eh κ)))
 an ((↑(l.length):Int) != (↑(m.length):Int)) (K (AV.bool false) []) (ah a 121 4=ah a 121 4/\∃(e0:Gm),sp 26 [(0,AV.ad 9 l),(1,AV.ad 9 m),(12,
 AV.int (↑(l.length):Int)),(13,AV.int 0)] []=Sm e0/\BM e0/\an (mo (List.drop e0.i e0.l) (List.drop e0.i e0.m)) (K (AV.bool true) []) (K (AV.bool false)
 []))):=by kernel_rfl
def WR:List AV->Option (Bool×AV)
 |[.ad 9 l, .ad 9 m]=>some (decide (l.length<=aU), .bool (mo l m))
 |_=>none
theorem ai3(κ:Kp):cg (KL κ).E 12 121 WR:=by
 intro args x hh;unfold WR at hh;split at hh
 ·rename_i l m
  simp only[an5,ao1,an2] at hh;obtain⟨h1,rfl⟩:=hh;refine⟨_,rfl,rfl,Eq.mpr (am1 κ l m _) (ag.2 ⟨fun e=>?_,fun e=>⟨rfl,⟨l,m,0⟩,rfl,⟨?_,h1,Nat.zero_le _⟩,?_⟩⟩)⟩
  ·have:mo l m=false:=an6 fun h=>by
    have:=congrArg List.length h
    simp at this e;omega
   rw[this]
  ·have:(l.length:Int)=m.length:=by simpa using e
   show l.length=m.length
   omega
  ·simp only[ao2]
   exact ag.2 ⟨fun e=>by rw[e],fun e=>by rw[e]⟩
 ·cases hh
noncomputable def SO(κ:Kp):EB:=(KL κ).pure (ai3 κ)
structure OW where
 op:Int
 na:Int
 rl:Int
 c:List AV
 t:List AV
 b:List AV
 bs:List AV
 e:List AV
 es:List AV
 s:ByteArray
 X:AT
 Y:AT
abbrev Z6(d:OW):AV:= .agg [.int d.op, .int d.na, .int d.rl, .ad 3 d.c, .ad 38 d.t, .ad 3 d.b, .ad 9 d.bs, .ad 3 d.e, .ad 9 d.es, .lit (.string d.s),cD d.X,cD d.Y]
def sJ(x:AV):OW:=⟨toInt (af x 0),toInt (af x 1),toInt (af x 2),aa (af x 3),aa (af x 4),aa (af x 5),aa (af x 6),aa (af x 7),aa (af x 8),toStr (af x 9),dM (af x 10),dM (af x 11)⟩
structure Et(d:OW):Prop where
 c:d.c.length<=aU
 b:d.b.length<=aU
 bs:d.bs.length<=aU
 e:d.e.length<=aU
 es:d.es.length<=aU
 t:aM (ae d.t)<=100000
 X:aM (ae d.X.l)<=100000
 Y:aM (ae d.Y.l)<=100000
theorem am5(κ:Kp)(a b:OW)(K:AV->List Dn.Obj->Prop):(a8 (SO κ).E 12 72 [Z6 a,Z6 b] [] K)=(
 letI c:=K (AV.bool false) []
 letI f:=ByteArray.toList a.s==ByteArray.toList b.s
 letI g:=decide (a.bs.length<=9223372036854775807)
 letI h:=decide (a.es.length<=9223372036854775807)
 letI k:=decide (a.c.length<=9223372036854775807)
 letI l:=decide (a.b.length<=9223372036854775807)
 letI e:=decide (a.e.length<=9223372036854775807)
 letI d:=mo a.bs b.bs
 letI i:=aG g (an d (aG h c) c)
 letI j:=aG k (an (oj a.c b.c) (aG l (an (oj a.b b.b) (aG e i) i)) i)
 letI m:=aG g (an d (aG h (an f c c)) (an f c c))
 an (a.op==b.op) (an (a.na==b.na) (an (a.rl==b.rl) (aG k (an (oj a.c b.c) (aG l (an (oj a.b b.b) (aG e (aG g (an d (aG h (an f (an (oj a.e b.e)
 (an (mo a.es b.es) (aG (decide (aM (ae a.X.l)<=100000)) (an (Ay (Tm.mk a.X.op a.X.s a.X.n (ae a.X.l)) (Tm.mk b.X.op b.X.s b.X.n (ae b.X.l))) (aG (decide (aM
 (ae a.Y.l)<=100000)) (an (Ay (Tm.mk a.Y.op a.Y.s a.Y.n (ae a.Y.l)) (Tm.mk b.Y.op b.Y.s b.Y.n (ae b.Y.l))) (aG (decide (aM (ae a.t)<=100000)) (K (AV.bool (jU
 (ae a.t) (ae b.t))) [])) c)) c)) c) c) c)) (an f (an (oj a.e b.e) c c) c)))) m)) m)) j) j) j):=by kernel_rfl
def Su(x:OW×OW):List AV×List Dn.Obj:=([Z6 x.1,Z6 x.2],[])
def Uo(x:OW×OW):Out (AV×List Dn.Obj):= .all (fun r:Bool=>x.1=x.2->r=true) fun r=> .one (.bool r,[])
theorem JR(l:List AV):oj l l=true:=by simp[oj]
theorem JS(l:List AV):mo l l=true:=by simp[mo]
theorem ab1(κ:Kp):bq (SO κ).E 12 72 (aX Su (fun x=>Et x.1) Uo):=by
 refine a7 ?_;rintro⟨a,b⟩ K ⟨h1,h2,h3,h4,h5,h6,h7,h8⟩ ho;simp only[aU] at h1 h2 h3 h4 h5 h6 h7 h8;have ho: ∀r:Bool,(a=b->r=true)->K (.bool r) []:=ho;refine Eq.mpr (am5 κ a b K) ?_;simp only[ag,ai,an2];have no:a≠b->K (.bool false) []:=fun h=>ho false fun e=>absurd e h
 by_cases hab:a=b
 ·subst hab
  have yes:=ho true fun _=>rfl
  simp only[beq_self_eq_true,JR,JS,I7,qO];simp[h1,h2,h3,h4,h5,h6,h7,h8,yes]
 ·have no:=no hab
  have any:=fun r=>ho r fun e=>absurd e hab
  simp[h1,h2,h3,h4,h5,h6,h7,h8,no,any]
noncomputable def Ej(κ:Kp):EB:=((SO κ).call (ab1 κ))
theorem xEt(κ:Kp)(l m:List AV)(i:Nat)(I:Nat->S->Prop)(n:Nat)(K:Exit->S->Prop):(vc (Ej κ).E 12 71 none 0 (ah (Pr κ).toProgram 71 4) (sp 32 [(1, .ad 40 m),(2, .bp 72 []),(15, .ad 40 l),(16, .int l.length),(17, .int i)] []) (bh (Ej κ).E 71 4 0 I n K))=(
 letI a:=AV.int
 letI b:=AV.agg
 letI c:=AV.str
 letI d:=AV.ad
 letI e:=Int.toNat (↑i:Int)
 letI f:=af (nth l e) 10
 letI g:=af (nth l e) 11
 letI h:=af (nth m e) 10
 letI j:=af (nth m e) 11
 letI k:=(↑i:Int)<(↑(l.length):Int)
 an (decide k) (aG (true&&decide k) (aG (true&&decide ((↑i:Int)<(↑(m.length):Int))) (∃(e2:OW×OW),([b [a (toInt (af (nth l e) 0)),
 a (toInt (af (nth l e) 1)),a (toInt (af (nth l e) 2)),d 3 (aa (af (nth l e) 3)),d 38 (aa (af (nth l e) 4)),d 3 (aa (af (nth l e)
 5)),d 9 (aa (af (nth l e) 6)),d 3 (aa (af (nth l e) 7)),d 9 (aa (af (nth l e) 8)),c (toStr (af (nth l e) 9)),b [a (toInt (af
 f 0)),c (toStr (af f 1)),a (toInt (af f 2)),d 38 (aa (af f 3))],b [a (toInt (af g 0)),c (toStr (af g 1)),a (toInt
 (af g 2)),d 38 (aa (af g 3))]],b [a (toInt (af (nth m e) 0)),a (toInt (af (nth m e) 1)),a (toInt (af (nth m e) 2)),d 3 (aa
 (af (nth m e) 3)),d 38 (aa (af (nth m e) 4)),d 3 (aa (af (nth m e) 5)),d 9 (aa (af (nth m e) 6)),d 3 (aa (af (nth m e) 7)),d 9 (aa
 (af (nth m e) 8)),c (toStr (af (nth m e) 9)),b [a (toInt (af h 0)),c (toStr (af h 1)),a (toInt (af h 2)),d 38 (aa (af h
 3))],b [a (toInt (af j 0)),c (toStr (af j 1)),a (toInt (af j 2)),d 38 (aa (af j 3))]]],[])=Su e2/\Et e2.1/\∀(e1:Bool),
 (e2.1=e2.2->e1=true)->an (!e1) (K Exit.ret (sp 32 [(6,AV.bool false)] [])) (∃(e0:Nat),e0<n/\I e0 (sp 32 [(1,d 40 m),(2,AV.bp 72 []),(15,
 d 40 l),(16,a (↑(l.length):Int)),(17,a (IntKind.wrap IntKind.i64 ((↑i:Int)+(1:Int))))] []))))) (K (Exit.exit 0) (sp 32 [] []))):=by kernel_rfl
abbrev YS(x:Gm):S:=sp 32 [(1, .ad 40 x.m),(2, .bp 72 []),(15, .ad 40 x.l),(16, .int x.l.length),(17, .int x.i)] []
def LO(l:List AV):Prop:=l.length<=100000/\∀x,x∈l->Et (sJ x)
def XI(x:Gm):Out (Exit×S):= .all (fun r:Bool=>(x.l.drop x.i).map sJ=(x.m.drop x.i).map sJ->r=true) fun r=> .an r (.one (.exit 0,sp 32 [] [])) (.one (.ret,sp 32 [(6, .bool false)] []))
theorem lEt(κ:Kp):aP (Ej κ).E 12 71 4 (aI 0 YS (fun x=>x.l.length=x.m.length/\LO x.l/\x.i<=x.l.length) XI):=by
 refine aD (fun x=>x.l.length - x.i) ?_;rintro⟨l,m,i⟩ K ⟨h1,h2,h3⟩ ho;simp only at h1 h2 h3;have hl:=h2.1;rw[show(Ej κ).E.P=Pr κ from rfl];refine Eq.mpr (xEt κ l m i _ _ K) ?_
 replace ho: ∀r:Bool,((l.drop i).map sJ=(m.drop i).map sJ->r=true)->an r (K (.exit 0) (sp 32 [] [])) (K .ret (sp 32 [(6, .bool false)] [])):=ho
 rw[ag,an2,an4];refine⟨fun h=>?_,fun h=>?_⟩
 ·have hk:i<l.length:=by omega
  have hx:nth l i∈l:=by rw[aJ _ _ hk];exact List.getElem_mem _
  rw[ao3 hk,←aJ l i hk,ao3 (show i<m.length by omega),←aJ m i (by omega)] at ho;simp only[ao9,List.cons.injEq] at ho;rw[Int.toNat_natCast,ay (n:=(i:Int)+1) (by omega) (by omega)];refine ai.2 ⟨by simp;omega,ai.2 ⟨by simp;omega,(sJ (nth l i),sJ (nth m i)),rfl,h2.2 _ hx,fun r hr=>ag.2 ⟨fun e=>?_,fun e=>⟨_,?_,⟨l,m,i+1⟩,rfl,⟨h1,h2,hk⟩,rfl,?_⟩⟩⟩⟩
  ·refine ho false fun q=>?_
   rw[hr q.1] at e;cases e
  ·simp only;omega
  ·by_cases q:sJ (nth l i)=sJ (nth m i)
   ·exact fun r hr=>ho r fun q2=>hr q2.2
   ·intro r hr
    exact ho r fun q2=>absurd q2.1 q
 ·exact ho true fun _=>rfl
noncomputable def BEt(κ:Kp):EB:=(Ej κ).loop (lEt κ)
theorem yEt(κ:Kp)(l m:List AV)(K:AV->List Dn.Obj->Prop):(a8 (BEt κ).E 12 71 [.ad 40 l, .ad 40 m, .bp 72 []] [] K)=(
 letI a:=Pg.toProgram (Env.P (EB.E (Ej κ)))
 an ((↑(l.length):Int) != (↑(m.length):Int)) (K (AV.bool false) []) (ah a 71 4=ah a 71 4/\∃(e1:Gm),sp 32 [(1,AV.ad 40 m),(2,AV.bp 72 []),(15,
 AV.ad 40 l),(16,AV.int (↑(l.length):Int)),(17,AV.int 0)] []=YS e1/\(e1.l.length=e1.m.length/\(e1.l.length<=100000/\∀(e0:AV),List.Mem e0 e1.l->
 Et (sJ e0))/\e1.i<=e1.l.length)/\∀(e0:Bool),(List.map sJ (List.drop e1.i e1.l)=List.map sJ (List.drop e1.i e1.m)->e0=true)->an e0 (K (AV.bool true)
 []) (K (AV.bool false) []))):=by kernel_rfl
def YT(x:List AV×List AV):List AV×List Dn.Obj:=([.ad 40 x.1, .ad 40 x.2, .bp 72 []],[])
def XJ(x:List AV×List AV):Out (AV×List Dn.Obj):= .all (fun r:Bool=>x.1.map sJ=x.2.map sJ->r=true) fun r=> .one (.bool r,[])
theorem cEu(κ:Kp):bq (BEt κ).E 12 71 (aX YT (fun x=>LO x.1) XJ):=by
 refine a7 ?_;rintro⟨l,m⟩ K h ho;have ho: ∀r:Bool,(l.map sJ=m.map sJ->r=true)->K (.bool r) []:=ho;refine Eq.mpr (yEt κ l m K) ?_;rw[ag,bne_iff_ne,bne_eq_false_iff_eq];refine⟨fun e=>ho false fun q=>?_,fun e=>⟨rfl,⟨l,m,0⟩,rfl,⟨by simp only;omega,h,Nat.zero_le _⟩,fun r hr=>?_⟩⟩
 ·have:=congrArg List.length q
  simp only[List.length_map] at this;omega
 ·simp only[ao2] at hr
  exact ag.2 ⟨fun e=>ho true fun _=>rfl,fun e=>ho false fun q=>by rw[hr q] at e;cases e⟩
noncomputable def SP(κ:Kp):EB:=EB.inline ((BEt κ).call (cEu κ)) [68,67,119]
abbrev H7(ds rs:List AV)(q:QD)(i:Nat):S:=sp 19 [(0, .ad 48 rs),(1, .bp 68 [.ptr 0 0 [] 0, .ptr 1 0 [] 0]),(7, .int rs.length),(8, .int i)] [.box 25 (lj ds rs), .box 31 (qA q)]
theorem xKn(κ:Kp)(ds rs:List AV)(q:QD)(i:Nat)(I:Nat->S->Prop)(n:Nat)(K:Exit->S->Prop):(vc (SP κ).E 12 119 none 2 (ah (Pr κ).toProgram 119 2) (H7 ds rs q i) (bh (SP κ).E 119 2 2 I n K))=(
 letI a:=AV.int
 letI b:=AV.agg
 letI c:=Obj.box
 letI d:=AV.ad
 letI g:=b [a q.rel,d 40 q.steps,d 38 q.out,a q.delta]
 letI e:=nth rs (Int.toNat (↑i:Int))
 letI h:=b [d 43 ds,d 48 rs]
 letI j:=∃(e0:Nat),e0<n/\I e0 (sp 19 [(0,d 48 rs),(1,AV.bp 68 [AV.ptr 0 0 [] 0,AV.ptr 1 0 [] 0]),(7,a (↑(rs.length):Int)),(8,a
  (IntKind.wrap IntKind.i64 ((↑i:Int)+(1:Int))))] [c 25 h,c 31 g])
 letI k:=(↑i:Int)<(↑(rs.length):Int)
 an (decide k) (aG (true&&decide k) (∃(e3:VL),letI f:=bB e3.ds e3.a;([b [d 43 ds,d 48 rs],b [b [AV.str (toStr (af (af e 0) 0)),d 38 (aa (af (af e 0) 1))],d 80 (aa (af e 1)),a (toInt (af e 2))]],[])=UT e3/\F4 e3/\an (QD.rel f==q.rel) (aG (decide (aM (ae (QD.out f))<=100000)) (an (jU (ae (QD.out f)) (ae q.out)) (∃(e2:List AV×List AV),([d 40 (QD.steps f),d 40 q.steps,AV.bp 72 []],[])=YT e2/\(e2.1.length<=100000/\∀(e0:AV),List.Mem e0 e2.1->Et (sJ e0))/\∀(e1:Bool),(List.map sJ e2.1=List.map sJ e2.2->e1=true)->an e1 (K Exit.ret (sp 19 [(4,a (↑i:Int))] [c 25 h,c 31 g])) j) j)) j)) (K (Exit.exit 0) (sp 19 [] [c 25 h,c 31 g]))):=by kernel_rfl
theorem I0(a b:List Tm):aM (a++b)=aM a+aM b:=by
 induction a with
 |nil=>simp[aM]
 |cons t a ih=>simp only[List.cons_append,aM,ih];omega
theorem N7(bd:List AV): ∀(l:List (Int×AT)) (s:SS),aM (ae (l.foldl (my bd) s).cn)<=aM (ae s.cn)+(l.map fun e=>e.2.tm.eT).sum
 |[],s=>by simp
 | e ::l,s=>by
  have ih:=N7 bd l (my bd s e);have h:aM (ae (my bd s e).cn)<=aM (ae s.cn)+e.2.tm.eT:=by
   unfold my;cases !qP bd e.2 with
   | true=>
    simp only[an9];have e1:bX (I4 e.2)=e.2.tm:=by
     show bX (Aw e.2.tm)=_
     exact B2 _
    rw[ae,List.map_append,I0,←ae,List.map_singleton,aM,aM,e1];omega
   |false=>cases mu e.2.s (strs s.binds)<;>exact Nat.le_add_right _ _
  rw[List.foldl_cons,ao9,List.sum_cons];omega
theorem Cq: ∀(l:List AV) (i:Int),((dn l i).map fun e=>e.2.tm.eT).sum<=aM (ae l)
 |[],_=>Nat.le_refl _
 | t::l,i=>by
  have ih:=Cq l (i+1);rw[dn,ae,ao9,aM,←ae];cases decide (toInt (af t 0)=4) with
  |true=>rw[an9];omega
  |false=>
   rw[an7,ao9,List.sum_cons];simp only[eY];omega
def Fq(s:SS):Prop:=s.le 100000/\aM (ae s.cn)<=100000
theorem lN{d:SD}(hq:Fq d.q)(hx:d.X.tm.eT<=100001)(hy:d.Y.tm.eT<=100001):Et (sJ (Q2 d)):=by
 obtain⟨⟨h1,h2,h3,h4,h5,h6⟩,h7⟩:=hq;have ex:d.X.tm.eT=1+aM (ae d.X.l):=rfl;have ey:d.Y.tm.eT=1+aM (ae d.Y.l):=rfl;have i1:(iA d.q.dU).length=d.q.dU.length:=jf _;have i2:(iA d.q.cx).length=d.q.cx.length:=jf _;have i3:(iA d.q.cy).length=d.q.cy.length:=jf _;have i4:(strs d.q.binds).length=d.q.binds.length:=aR _;have i5:(strs d.q.eqs).length=d.q.eqs.length:=aR _;exact⟨by show(iA d.q.dU).length<=_;simp only[aU];omega,by show(iA d.q.cx).length<=_;simp only[aU];omega,by show(strs d.q.binds).length<=_;simp only[aU];omega,by show(iA d.q.cy).length<=_;simp only[aU];omega,by show(strs d.q.eqs).length<=_;simp only[aU];omega,h7,by show aM (ae d.X.l)<=_;omega,by show aM (ae d.Y.l)<=_;omega⟩
theorem LN(ds bd:List AV)(rel:ByteArray){l:List AV}(op:Int){u v:AT}(hl:aM (ae l)<=100000)(hu:u.tm.eT<=100000)(hv:v.tm.eT<=100000):Et (sJ (Q2 (ud ds bd rel l op u v))):=by
 have hlen:=eu (ae l);rw[dz] at hlen;have q0:Fq Kk:=⟨⟨by decide,by decide,by decide,by decide,by decide,by decide⟩,by decide⟩
 have q1:Fq (fW bd (dn l 0)):=by
  have h:=N8 (bd:=bd) (dn l 0) N6;have hc:=rU l 0;obtain⟨h1,h2,h3,h4,h5,h6⟩:=h;have h7:=N7 bd (dn l 0) Kk;have h8:=Cq l 0;have h9:aM (ae Kk.cn)=0:=rfl;unfold fW;exact⟨⟨by omega,by omega,by omega,by omega,by omega,by omega⟩,by omega⟩
 have x0:zT.tm.eT<=100001:=by decide
 have en: ∀w:AT,(mD w).tm.eT=w.tm.eT:=fun w=>by
  have:(mD w).tm=w.tm:=by
   unfold mD AT.tm;simp only;rw[sX]
  rw[this]
 have xu:u.tm.eT<=100001:=by omega
 have xv:v.tm.eT<=100001:=by omega
 have yu:(mD u).tm.eT<=100001:=by rw[en];omega
 have yv:(mD v).tm.eT<=100001:=by rw[en];omega
 unfold ud;cases op==2 with
 |true=>exact lN q1 x0 x0
 | false=>cases op==1 with
  |true=>exact lN q1 x0 x0
  | false=>cases op==3 with
   | true=>cases qP bd u with
    |true=>exact lN q0 yv x0
    |false=>cases qP bd v with
     |true=>exact lN q0 yu x0
     |false=>exact lN q0 yu yv
   | false=>cases op==4||(op==5||op==6) with
    |true=>exact lN q0 yu yv
    |false=>cases qP bd u with
     |true=>exact lN q1 x0 xv
     |false=>exact lN q1 xu xv
theorem EU{a:dt}(ds:List AV)(h:Li a):LO (bB ds a).steps:=by
 have hw:=mX h.f;have hbl:=h.s.2;refine⟨by show(ju ds a _).length<=_;rw[ry];omega,fun x hx=>?_⟩;obtain⟨k,hk,rfl⟩:=List.mem_map.1 hx;have hk:=List.mem_range.1 hk;have hwk:(bI (aH a))[k]<a.bl.length:=by
  have:=pF (List.getElem_mem hk)
  rwa [fK] at this
 have hgd:(bI (aH a)).getD k 0=(bI (aH a))[k]:=by simp[List.getD_eq_getElem?_getD,hk]
 have hm:nth a.bl ((bI (aH a)).getD k 0)∈a.bl:=by rw[hgd,aJ _ _ hwk];exact List.getElem_mem _
 have hf:=wX h.s hm;exact LN _ _ _ _ hf.1 (by rw[eY];exact hf.2.1) (by rw[eY];exact hf.2.2)
structure Rw where
 ds:List AV
 rs:List AV
 q:QD
 i:Nat
def qK(ds:List AV)(q:QD)(r:AV):Prop:=(bB ds (cG r)).rel=q.rel/\ae (bB ds (cG r)).out=ae q.out/\(bB ds (cG r)).steps.map sJ=q.steps.map sJ
def pj(x:Rw):Prop:=x.ds.length<=aU/\x.rs.length<=100000/\∀r,r∈x.rs->Li (cG r)
def R4(x:Rw):Out (Exit×S):= .all (fun r:Option Nat=>(∃y,y∈x.rs.drop x.i/\qK x.ds x.q y)->r.isSome=true) fun r=> .an r.isSome
 (.one (.ret,sp 19 [(4, .int (r.getD 0:Nat))] [.box 25 (lj x.ds x.rs), .box 31 (qA x.q)])) (.one (.exit 0,sp 19 [] [.box 25 (lj x.ds x.rs), .box 31 (qA x.q)]))
theorem lKn(κ:Kp):aP (SP κ).E 12 119 2 (aI 2 (fun x:Rw=>H7 x.ds x.rs x.q x.i) (fun x=>x.i<=x.rs.length/\pj x) R4):=by
 refine aD (fun x=>x.rs.length - x.i) ?_;rintro⟨ds,rs,q,i⟩ K ⟨h1,h2,h3,h4⟩ ho;simp only at h1 h2 h3 h4;rw[show(SP κ).E.P=Pr κ from rfl];refine Eq.mpr (xKn κ ds rs q i _ _ K) ?_
 replace ho: ∀r:Option Nat,((∃y,y∈rs.drop i/\qK ds q y)->r.isSome=true)->an r.isSome (K .ret (sp 19 [(4, .int (r.getD 0:Nat))] [.box 25 (lj ds rs), .box 31 (qA q)])) (K (.exit 0) (sp 19 [] [.box 25 (lj ds rs), .box 31 (qA q)])):=ho
 rw[ag,an2,an4];refine⟨fun h=>?_,fun h=>?_⟩
 ·have hk:i<rs.length:=by omega
  have hx:nth rs i∈rs:=by rw[aJ _ _ hk];exact List.getElem_mem _
  rw[ao3 hk,←aJ rs i hk] at ho;have hok:=h4 _ hx;have hh:aM (ae (bB ds (cG (nth rs i))).out)<=100000:=by
   have h1:=hok.s.1;rw[nO 38 (cG (nth rs i)).rel (cG (nth rs i)).hl (cG (nth rs i)).bl] at h1;simp only[sI] at h1;show aM (ae (cr (ae (cG (nth rs i)).hl)))<=_
   rw[sX];omega
  have next: ¬ qK ds q (nth rs i)->∃m,m<rs.length - i/\gq (fun x:Rw=>H7 x.ds x.rs x.q x.i) (fun x=>x.i<=x.rs.length/\pj x) R4 (fun x=>x.rs.length - x.i) K m (H7 ds rs q (i+1)):=fun hn=>
   ⟨rs.length - (i+1),by omega,⟨ds,rs,q,i+1⟩,rfl,⟨hk,h2,h3,h4⟩,rfl,fun r hr=>ho r fun⟨y,hy,ha⟩=>by
    rcases List.mem_cons.1 hy with rfl|hy
    ·exact absurd ha hn
    ·exact hr ⟨y,hy,ha⟩⟩
  rw[Int.toNat_natCast,ay (n:=(i:Int)+1) (by omega) (by omega)];refine ai.2 ⟨by simp;omega,⟨ds,rs,cG (nth rs i)⟩,rfl,⟨hok,h2⟩,ag.2 ⟨fun e1=>ai.2 ⟨an8 hh,ag.2 ⟨fun e2=>⟨((bB ds (cG (nth rs i))).steps,q.steps),rfl,EU ds hok,fun r hr=>ag.2 ⟨fun e3=>?_,fun e3=>?_⟩⟩,fun e2=>?_⟩⟩,fun e1=>?_⟩⟩
  ·exact ho (some i) fun _=>rfl
  ·refine next fun ha=>?_
   rw[hr ha.2.2] at e3;cases e3
  ·refine next fun ha=>?_
   have e2:jU (ae (bB ds (cG (nth rs i))).out) (ae q.out)=false:=e2;rw[ha.2.1,qO] at e2;cases e2
  ·refine next fun ha=>?_
   have e1:((bB ds (cG (nth rs i))).rel==q.rel)=false:=e1;rw[ha.1,beq_self_eq_true] at e1;cases e1
 ·rw[ao0 (by omega)] at ho
  exact ho none fun⟨y,hy,_⟩=>(nomatch hy)
noncomputable def VQ(κ:Kp):EB:=(SP κ).loop (lKn κ)
theorem yKn(κ:Kp)(ds rs:List AV)(q:QD)(K:AV->List Dn.Obj->Prop):(a8 (VQ κ).E 12 33 [lj ds rs,qA q] [] K)=(
 letI b:=AV.int
 letI c:=Obj.box
 letI d:=AV.ad
 ah (Pg.toProgram (Env.P (EB.E (SP κ)))) 119 2=ah (Pg.toProgram (Env.P (EB.E (SP κ)))) 119 2/\∃(a:Rw),sp 19 [(0,d 48 rs),(1,AV.bp 68 [AV.ptr 0 0 [] 0,AV.ptr 1 0 [] 0]),(7,b (↑(rs.length):Int)),(8,b 0)] [c 25 (AV.agg [d 43 ds,d 48 rs]),c 31 (AV.agg [b q.rel,d 40 q.steps,d 38 q.out,b q.delta])]=sp 19 [(0,d 48 a.rs),(1,AV.bp 68 [AV.ptr 0 0 [] 0,AV.ptr 1 0 [] 0]),(7,b (↑(a.rs.length):Int)),(8,b (↑(a.i):Int))] [c 25 (AV.agg [d 43 a.ds,d 48 a.rs]),c 31 (AV.agg [b a.q.rel,d 40 a.q.steps,d 38 a.q.out,b a.q.delta])]/\(a.i<=a.rs.length/\pj a)/\∀(y:Option Nat),((∃(y:AV),letI e:=bB a.ds (cG y);List.Mem y (List.drop a.i a.rs)/\QD.rel e=a.q.rel/\ae (QD.out e)=ae a.q.out/\List.map sJ (QD.steps e)=List.map sJ a.q.steps)->Option.isSome y=true)->an (Option.isSome y) (K (AV.bool true) []) (K (AV.bool false) [])):=by kernel_rfl
structure Zy where
 ds:List AV
 rs:List AV
 q:QD
def Ok(x:Zy):List AV×List Dn.Obj:=([lj x.ds x.rs,qA x.q],[])
def M5(x:Zy):Out (AV×List Dn.Obj):= .all (fun r:Bool=>(∃y,y∈x.rs/\qK x.ds x.q y)->r=true) fun r=> .one (.bool r,[])
theorem cKm(κ:Kp):bq (VQ κ).E 12 33 (aX Ok (fun x=>pj ⟨x.ds,x.rs,x.q,0⟩) M5):=by
 refine a7 ?_;rintro⟨ds,rs,q⟩ K h ho;have ho: ∀r:Bool,((∃y,y∈rs/\qK ds q y)->r=true)->K (.bool r) []:=ho;refine Eq.mpr (yKn κ ds rs q K) ⟨rfl,⟨ds,rs,q,0⟩,rfl,⟨Nat.zero_le _,h⟩,fun r hr=>?_⟩;simp only[ao2] at hr;exact ag.2 ⟨fun e=>ho true fun _=>rfl,fun e=>ho false fun q=>by rw[hr q] at e;cases e⟩
noncomputable def BKm(κ:Kp):EB:=(VQ κ).call (cKm κ)
end Go.Proofs.YtioeffnadipbaaaGreatDoor
namespace Go.Proofs.YtioeffnadipbaaaGreatDoor
open Go Go.Dn Go.Rl Go.Proofs Go.Shelf
attribute [local irreducible] a8 vc
set_option maxRecDepth 20000
def zd:Go.Shelf.Ren:=⟨fun|5=>125|7=>165|n=>n,fun|23=>91|25=>9|3=>72|4=>4|20=>20|n=>n,fun n=>n⟩
theorem WW:SlLaysW.n5 Tryz.prog zd:={mixed:=by kernel_rfl,f5:=⟨ "maps.Clone[sorites/query.env,string,sorites/api.Val]",of_decide_eq_true (by kernel_rfl),Tryz.func125.trans (congrArg some (by kernel_rfl))⟩,f7:=Tryz.func165.trans (congrArg some (by kernel_rfl)),t4:=Tryz.underlying4,a4:=Tryz.isAgg4,z4:=Tryz.sizeOf4,v4:=Tryz.zeroValue4,t20:=Tryz.underlying20,a20:=Tryz.isAgg20,z20:=Tryz.sizeOf20,v20:=Tryz.zeroValue20,t23:=Tryz.underlying91,a23:=Tryz.isAgg91,z23:=Tryz.sizeOf91,v23:=Tryz.zeroValue91}
theorem Ym(κ:Kp): ∀args st K,sM (Pr κ).toProgram args st K->bt (Pr κ) 125 args st K:=fun _ _ _ h=>IY (P:=Pr κ) (ρ:=zd) rfl ⟨_,Tryz.func125,rfl⟩ WW h
noncomputable def IB(κ:Kp):EB:=(BKm κ).Ee EG (Ym κ)
abbrev cI:=List (ByteArray×fI)
abbrev et(e:cI):AV:= .eO 9 72 (e.map fun x=>Value.string x.1) (e.map fun x=>gz x.2)
theorem yWi(κ:Kp)(ks:List Value)(vs:List AV)(s:ByteArray)(v:fI)(K:AV->List Dn.Obj->Prop):(a8 (IB κ).E 12 76 [.eO 9 72 ks vs, .lit (.string s),gz v] [] K)=(
 K (AV.eO 9 72 (List.map (fun(x:Value×AV)=>x.1) (fw (List.zip ks vs) (Value.string s) (AV.agg [AV.bool v.y,AV.int v.n,AV.str v.s]))) (List.map (fun(x
 :Value×AV)=>x.2) (fw (List.zip ks vs) (Value.string s) (AV.agg [AV.bool v.y,AV.int v.n,AV.str v.s])))) []):=by kernel_rfl
def cI.put:cI->ByteArray->fI->cI
 |[],s,v=>[(s,v)]
 |(t,w)::e,s,v=>bif decide (s=t) then(s,v)::e else(t,w)::cI.put e s v
def cI.get:cI->ByteArray->fI
 |[],_=>⟨false,0,ByteArray.mk #[]⟩
 |(t,w)::e,s=>bif decide (s=t) then w else cI.get e s
abbrev Z5(e:cI):=e.map fun x=>(Value.string x.1,gz x.2)
theorem uo: ∀e,(e.map fun x=>Value.string x.1).zip (e.map fun x=>gz x.2)=Z5 e
 |[]=>rfl
 |x::e=>by
  grind
theorem WV s t:eM (.string s) (.string t)=decide (s=t):=by
 show(s==t)=_
 grind
theorem OM s v: ∀e,fw (Z5 e) (.string s) (gz v)=Z5 (e.put s v)
 |[]=>rfl
 |(t,w)::e=>by
  have a:=OM s v e
  grind [fw,WV,cI.put]
theorem tk s: ∀e,de (Z5 e) (.string s) (gz ⟨false,0,ByteArray.mk #[]⟩)=gz (e.get s)
 |[]=>rfl
 |(t,w)::e=>by
  have a:=tk s e
  grind [de,WV,cI.get]
structure Rz where
 e:cI
 s:ByteArray
 v:fI
def DR(x:Rz):List AV×List Dn.Obj:=([et x.e, .lit (.string x.s),gz x.v],[])
def Yi(x:Rz):Out (AV×List Dn.Obj):= .one (et (x.e.put x.s x.v),[])
theorem cWi(κ:Kp):bq (IB κ).E 12 76 (aX DR (fun _=>True) Yi):=by
 refine a7 ?_;rintro⟨e,s,v⟩ K _ ho;refine Eq.mpr (yWi κ _ _ s v K) ?_;rw[uo,OM,List.map_map,List.map_map];exact ho
noncomputable def ZN(κ:Kp):EB:=((IB κ).call (cWi κ)).calm [76,73,124]
def WL(c:Int):List fI->fI
 |[a,b]=>⟨false,bif c==5 then IntKind.wrap .i64 (a.n+b.n) else bif c==6 then IntKind.wrap .i64 (a.n - b.n) else IntKind.wrap .i64 (a.n*b.n),ByteArray.mk #[]⟩
 |_=>⟨false,0,ByteArray.mk #[]⟩
mutual
def cX(e:cI):Tm->fI
 | .mk op s n l=>bif op==1 then e.get s else bif op==2 then⟨false,n,ByteArray.mk #[]⟩ else bif op==3 then⟨true,0,s⟩ else WL op (SA e l)
def SA(e:cI):List Tm->List fI
 |[]=>[]
 |t::l=>cX e t::SA e l
end
def b7:Tm->Bool
 | .mk c _ _ l=>c==1||(c==2||(c==3||match l with|[a,b]=>b7 a&&b7 b|_=>false))
structure uX where
 e:cI
 t:AT
def kE(x:uX):List AV×List Dn.Obj:=([et x.e,cD x.t],[])
def iN n(x:uX):=x.t.tm.eT=n/\b7 x.t.tm=true
def Sb(x:uX):Out (AV×List Dn.Obj):= .one (gz (cX x.e x.t.tm),[])
def QT n:=aX kE (iN n) Sb
noncomputable def Vw(κ:Kp)(r:Nat):Env:=(ZN κ).E.aB 73 fun args st K=>∃m,m<r/\QT m args st K
theorem yVu(κ:Kp)(r:Nat)(ks:List Value)(vs:List AV)(t:AT)(K:AV->List Dn.Obj->Prop):(a8 (Vw κ r) 12 73 [.eO 9 72 ks vs,cD t] [] K)=(
 letI a:=IntKind.wrap IntKind.i64
 letI b:=AV.int
 letI c:=AV.agg
 letI d:=AV.bool
 letI e:=AV.str
 letI f:=AV.lit
 letI g:=AV.ad
 letI h:=AV.eO
 letI j:=true&&decide ((1:Int)<(↑(t.l.length):Int))
 letI k:=Value.int IntKind.i64 (toInt (af (nth t.l 1) 0))
 letI l:=Value.int IntKind.i64 (toInt (af (nth t.l 1) 2))
 letI m:=toInt (af (nth t.l 0) 0)
 letI n:=toStr (af (nth t.l 0) 1)
 letI o:=toInt (af (nth t.l 0) 2)
 letI p:=toStr (af (nth t.l 1) 1)
 letI u:=true&&decide ((0:Int)<(↑(t.l.length):Int))
 letI q:=aa (af (nth t.l 0) 3)
 letI i:=aa (af (nth t.l 1) 3)
 letI s:=de (List.zip ks vs) (Value.string t.s) (c [d false,b 0,e {data:= #[]}])
 an (t.op==(1:Int)) (K (c [f (Value.bool (Dn.toBool (af s 0))),f (Value.int IntKind.i64 (toInt (af s 1))),f (Value.string (toStr (af (de (List.zip ks vs) (Value.string t.s) (c [d false,b 0,e {data:= #[]}])) 2)))]) []) (an (t.op==(2:Int)) (K (c [d false,b t.n,e {data:= #[]}]) []) (an (t.op==(3:Int)) (K (c [d true,b 0,e t.s]) []) (an (t.op==(5:Int)) (aG u ((∃(e3:Nat),e3<r/\∃(e2:uX),([h 9 72 ks vs,c [b m,e n,b o,g 38 q]],[])=kE e2/\iN e3 e2/\aG j (∃(e1:Nat),e1<r/\∃(e0:uX),([h 9 72 ks vs,c [f k,e p,f l,g 38 i]],[])=kE e0/\iN e1 e0/\K (c [d false,f (Value.int IntKind.i64 (a (fI.n (cX e2.e (AT.tm e2.t))+fI.n (cX e0.e (AT.tm e0.t))))),e {data:= #[]}]) []))/\aG j (∃(e3:Nat),e3<r/\∃(e2:uX),([h 9 72 ks vs,c [b m,e n,b o,g 38 q]],[])=kE e2/\iN e3 e2/\∃(e1:Nat),e1<r/\∃(e0:uX),([h 9 72 ks vs,c [f k,e p,f l,g 38 i]],[])=kE e0/\iN e1 e0/\K (c [d false,f (Value.int IntKind.i64 (a (fI.n (cX e2.e (AT.tm e2.t))+fI.n (cX e0.e (AT.tm e0.t))))),e {data:= #[]}]) []))) (an (t.op==(6:Int)) (aG u ((∃(e3:Nat),e3<r/\∃(e2:uX),([h 9 72 ks vs,c [b m,e n,b o,g 38 q]],[])=kE e2/\iN e3 e2/\aG j (∃(e1:Nat),e1<r/\∃(e0:uX),([h 9 72 ks vs,c [f k,e p,f l,g 38 i]],[])=kE e0/\iN e1 e0/\K (c [d false,f (Value.int IntKind.i64 (a (fI.n (cX e2.e (AT.tm e2.t)) - fI.n (cX e0.e (AT.tm e0.t))))),e {data:= #[]}]) []))/\aG j (∃(e3:Nat),e3<r/\∃(e2:uX),([h 9 72 ks vs,c [b m,e n,b o,g 38 q]],[])=kE e2/\iN e3 e2/\∃(e1:Nat),e1<r/\∃(e0:uX),([h 9 72 ks vs,c [f k,e p,f l,g 38 i]],[])=kE e0/\iN e1 e0/\K (c [d false,f (Value.int IntKind.i64 (a (fI.n (cX e2.e (AT.tm e2.t)) - fI.n (cX e0.e (AT.tm e0.t))))),e {data:= #[]}]) []))) (aG u ((∃(e3:Nat),e3<r/\∃(e2:uX),([h 9 72 ks vs,c [b m,e n,b o,g 38 q]],[])=kE e2/\iN e3 e2/\aG j (∃(e1:Nat),e1<r/\∃(e0:uX),([h 9 72 ks vs,c [f k,e p,f l,g 38 i]],[])=kE e0/\iN e1 e0/\K (c [d false,f (Value.int IntKind.i64 (a (fI.n (cX e2.e (AT.tm e2.t))*fI.n (cX e0.e (AT.tm e0.t))))),e {data:= #[]}]) []))/\aG j (∃(e3:Nat),e3<r/\∃(e2:uX),([h 9 72 ks vs,c [b m,e n,b o,g 38 q]],[])=kE e2/\iN e3 e2/\∃(e1:Nat),e1<r/\∃(e0:uX),([h 9 72 ks vs,c [f k,e p,f l,g 38 i]],[])=kE e0/\iN e1 e0/\K (c [d false,f (Value.int IntKind.i64 (a (fI.n (cX e2.e (AT.tm e2.t))*fI.n (cX e0.e (AT.tm e0.t))))),e {data:= #[]}]) [])))))))):=by kernel_rfl
theorem eVu(κ:Kp)(r:Nat)(hp: ∀args st K,(∃m,m<r/\QT m args st K)->bt (Pr κ) 73 args st K):aF (Vw κ r)/\aj (Vw κ r)/\(Vw κ r).P=Pr κ:=
 ⟨(ZN κ).ok.eX hp,(ZN κ).mono.aB (fun _ _ _ _ hK ⟨m,h1,h2⟩=>⟨m,h1,aZ _ _ _ _ hK h2⟩),rfl⟩
theorem L1{t:AT}(d:(t.op==1)=false)(c:(t.op==2)=false)(e:(t.op==3)=false)(h:b7 t.tm=true): ∃a b,t.l=[a,b]/\b7 (bX a)=true/\b7 (bX b)=true:=by
 obtain⟨f,s,n,l⟩:=t;simp only[AT.tm] at h;match l,h with
 |[a,b],h=>
  simp only[ae,ao9,List.map_nil,b7,d,c,e,Bool.false_or] at h
  grind
 |[],h=>simp[ae,b7,d,c,e] at h
 |[_],h=>simp[ae,b7,d,c,e] at h
 |_::_::_::_,h=>simp[ae,b7,d,c,e] at h
theorem OO e c s n a b(g:(c==1)=false)(d:(c==2)=false)(f:(c==3)=false):cX e (AT.mk c s n [a,b]).tm=⟨false,bif c==5 then IntKind.wrap .i64 ((cX e (dM a).tm).n+(cX e (dM b).tm).n) else bif c==6 then IntKind.wrap .i64 ((cX e (dM a).tm).n - (cX e (dM b).tm).n) else IntKind.wrap .i64 ((cX e (dM a).tm).n*(cX e (dM b).tm).n),ByteArray.mk #[]⟩:=by
 rw[eY,eY,AT.tm];rw[cX,g,d,f];rfl
theorem cVu(κ:Kp)(r:Nat):bq (Vw κ r) 12 73 (QT r):=by
 refine a7 ?_;rintro⟨e,t⟩ K ⟨h1,h2⟩ ho;simp only at h1 h2
 replace ho:K (gz (cX e t.tm)) []:=ho
 refine Eq.mpr (yVu κ r _ _ t K) ?_;rw[uo,show(AV.agg [.bool false, .int 0, .lit (.string (ByteArray.mk #[]))])=gz ⟨false,0,ByteArray.mk #[]⟩ from rfl,tk];have e1:cX e t.tm=bif t.op==1 then e.get t.s else bif t.op==2 then⟨false,t.n,ByteArray.mk #[]⟩ else bif t.op==3 then⟨true,0,t.s⟩ else cX e t.tm:=by
  cases q1:t.op==1 with
  |true=>rw[AT.tm,cX,q1];rfl
  | false=>cases q2:t.op==2 with
   |true=>rw[AT.tm,cX,q1,q2];rfl
   |false=>cases q3:t.op==3 with
    |true=>rw[AT.tm,cX,q1,q2,q3];rfl
    |false=>rfl
 refine ag.2 ⟨fun q1=>?_,fun q1=>ag.2 ⟨fun q2=>?_,fun q2=>ag.2 ⟨fun q3=>?_,fun q3=>?_⟩⟩⟩
 ·rw[e1,q1] at ho;exact ho
 ·rw[e1,q1,q2] at ho;exact ho
 ·rw[e1,q1,q2,q3] at ho;exact ho
 ·obtain⟨a,b,hl,ha,hb⟩:=L1 q1 q2 q3 h2
  obtain⟨op,s,n,l⟩:=t;simp only at hl q1 q2 q3;subst hl;rw[OO e op s n a b q1 q2 q3] at ho;have hc:(AT.mk op s n [a,b]).tm.eT=1+((bX a).eT+((bX b).eT+0)):=by
   simp only[AT.tm,ae,ao9,List.map_nil,Tm.eT,aM]
  rw[hc] at h1;have la: ∀m,(bX a).eT=m->iN m ⟨e,dM a⟩:=fun m hm=>⟨by rw[←hm];simp only[eY],by simp only[eY];exact ha⟩
  have lb: ∀m,(bX b).eT=m->iN m ⟨e,dM b⟩:=fun m hm=>⟨by rw[←hm];simp only[eY],by simp only[eY];exact hb⟩
  have c0:(true&&decide (0<(([a,b]:List AV).length:Int)))=true:=by simp
  have c1:(true&&decide (1<(([a,b]:List AV).length:Int)))=true:=by simp
  refine ag.2 ⟨fun q5=>?_,fun q5=>ag.2 ⟨fun q6=>?_,fun q6=>?_⟩⟩
  ·rw[q5] at ho
   exact ai.2 ⟨c0,⟨(bX a).eT,by omega,⟨e,dM a⟩,rfl,la _ rfl,ai.2 ⟨c1,(bX b).eT,by omega,⟨e,dM b⟩,rfl,lb _ rfl,ho⟩⟩,ai.2 ⟨c1,(bX a).eT,by omega,⟨e,dM a⟩,rfl,la _ rfl,(bX b).eT,by omega,⟨e,dM b⟩,rfl,lb _ rfl,ho⟩⟩
  ·rw[q5,q6] at ho
   exact ai.2 ⟨c0,⟨(bX a).eT,by omega,⟨e,dM a⟩,rfl,la _ rfl,ai.2 ⟨c1,(bX b).eT,by omega,⟨e,dM b⟩,rfl,lb _ rfl,ho⟩⟩,ai.2 ⟨c1,(bX a).eT,by omega,⟨e,dM a⟩,rfl,la _ rfl,(bX b).eT,by omega,⟨e,dM b⟩,rfl,lb _ rfl,ho⟩⟩
  ·rw[q5,q6] at ho
   exact ai.2 ⟨c0,⟨(bX a).eT,by omega,⟨e,dM a⟩,rfl,la _ rfl,ai.2 ⟨c1,(bX b).eT,by omega,⟨e,dM b⟩,rfl,lb _ rfl,ho⟩⟩,ai.2 ⟨c1,(bX a).eT,by omega,⟨e,dM a⟩,rfl,la _ rfl,(bX b).eT,by omega,⟨e,dM b⟩,rfl,lb _ rfl,ho⟩⟩
theorem qVu(κ:Kp): ∀args st K,aX kE (fun x=>b7 x.t.tm=true) Sb args st K->bt (Pr κ) 73 args st K:=by
 rintro args st K ⟨x,h1,h2,h3⟩;exact aF.nf QT (Vw κ) (eVu κ) (cVu κ) x.t.tm.eT args st K ⟨x,h1,⟨rfl,h2⟩,h3⟩
noncomputable def BVu(κ:Kp):EB:=(ZN κ).Ee aZ (qVu κ)
abbrev Nr(q:QD)(ins del:List AV)(o:AV):AV:= .agg [qA q, .ad 51 ins, .ad 70 del,o]
theorem yRw(κ:Kp)(q:QD)(ins del:List AV)(n:Nat)(L:RL)(i:Int)(K:AV->List Dn.Obj->Prop):(a8 (BVu κ).E 12 124 [.ptr 0 0 [] 0, .int i] [.box 88 (Nr q ins del (.ax 1 0 n)), .row 70 (rws L)] K)=(
 letI a:=AV.ad
 letI c:=AV.agg [AV.agg [AV.int q.rel,a 40 q.steps,a 38 q.out,AV.int q.delta],a 51 ins,a 70 del,AV.ax 1 0 n]
 letI b:=af (nth q.steps i.toNat) 2
 an (i==q.delta) (K (a 70 del) [Obj.box 88 c,Obj.row 70 (rws L)]) (aG (decide ((0:Int)<=i)&&decide (i<(↑(q.steps.length):Int))) (aG (decide ((0
 :Int)<=toInt b)&&decide (toInt b<(↑(ins.length):Int))) (K (a 70 (aa (nth ins (Int.toNat (toInt b))))) [Obj.box 88 c,Obj.row 70 (rws L)])))):=by kernel_rfl
structure SG where
 q:QD
 ins:List AV
 del:List AV
 L:RL
abbrev rnS(x:SG):List Dn.Obj:=[.box 88 (Nr x.q x.ins x.del (.ax 1 0 x.L.length)), .row 70 (rws x.L)]
def eS(q:QD)(ins del:List AV)(i:Nat):List AV:=bif (i:Int)==q.delta then del else aa (nth ins (toInt (af (nth q.steps i) 2)).toNat)
def x6(x:SG×Nat):List AV×List Dn.Obj:=([.ptr 0 0 [] 0, .int x.2],rnS x.1)
def rp(x:SG×Nat):Prop:=x.2<x.1.q.steps.length/\(0<=toInt (af (nth x.1.q.steps x.2) 2)/\toInt (af (nth x.1.q.steps x.2) 2)<x.1.ins.length)
def Nd(x:SG×Nat):Out (AV×List Dn.Obj):= .one (.ad 70 (eS x.1.q x.1.ins x.1.del x.2),rnS x.1)
theorem cRw(κ:Kp):bq (BVu κ).E 12 124 (aX x6 rp Nd):=by
 refine a7 ?_;rintro⟨⟨q,ins,del,L⟩,i⟩ K ⟨h1,h2⟩ ho;simp only at h1 h2
 replace ho:K (.ad 70 (eS q ins del i)) (rnS ⟨q,ins,del,L⟩):=ho
 unfold eS at ho;refine Eq.mpr (yRw κ q ins del L.length L i K) (ag.2 ⟨fun e=>?_,fun e=>ai.2 ⟨by simp;omega,ai.2 ⟨?_,?_⟩⟩⟩)
 ·rw[e] at ho;exact ho
 ·rw[Int.toNat_natCast,an3,an2,an2];exact h2
 ·rw[e] at ho;exact ho
noncomputable def Td(κ:Kp):EB:=(BVu κ).call (cRw κ)
end Go.Proofs.YtioeffnadipbaaaGreatDoor
