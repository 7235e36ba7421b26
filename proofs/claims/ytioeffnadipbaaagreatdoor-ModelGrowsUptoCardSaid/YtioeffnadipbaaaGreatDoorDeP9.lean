import Derived.Test.YtioeffnadipbaaaGreatDoorDeP8
namespace Go.Rl
open Go Go.Dn
section
variable {n m m':Nat} {L M:Gr}
structure ap3(n m:Nat)(L:Gr)(done:List Int)(gs:List (List Int)):Prop where
 srt: ∀g,g∈gs->g.Pairwise (· < ·)
 lk: ∀c,c∈gs.flatten->(0<=c/\c<n)/\c∉done
 all: ∀c:Int,0<=c->c<n->c∉done->c∈gs.flatten
 uj:gs.flatten.Nodup
end
end Go.Rl
namespace Go.Proofs.YtioeffnadipbaaaGreatDoor
open Go Go.Dn Go.Rl Go.Proofs
attribute [local irreducible] a0 vc
set_option maxRecDepth 20000
theorem yMu κ N ls fs a b K:(a0 (Y3 κ) 12 91 [.ptr 0 0 [] 0, .int a, .int b] (uv N ls fs) K)=(
 letI c:=AV.agg [AV.ak 1 0 N,AV.ak 2 0 fs.length]
 letI d:=AV.bool false
 aq (a==b) (K (AV.bool true) [Obj.box 145 c,Obj.rows 35 3 ls none,Obj.row 101 fs]) (aV (decide ((0:Int)<=a)&&decide (a<(↑(fs.length):Int))) (aq
 (Dn.toBool (c6 (List.zip (e (nth fs (0+a.toNat))) (vv (nth fs (0+a.toNat)))) (Value.int IntKind.i64 b) d)) (aV (decide ((0:Int)<=b)&&decide (b<
 (↑(fs.length):Int))) (K (AV.bool (Dn.toBool (c6 (List.zip (e (nth fs (0+b.toNat))) (vv (nth fs (0+b.toNat)))) (Value.int IntKind.i64 a) d))) [Obj.box
 145 c,Obj.rows 35 3 ls none,Obj.row 101 fs])) (K d [Obj.box 145 c,Obj.rows 35 3 ls none,Obj.row 101 fs])))):=by kernel_rfl
theorem IZ: ∀l,(l.map gN).zip (l.map fun _=>AV.lit (.bool true))=iz l
 |[]=>rfl
 |a::l=>by
  grind [iz]
theorem Du n m L(k:Nat)(a:Int)(b:0<=a)(h:a<k):nth (bu n m L k) (0+a.toNat)=Xq (iS n m L a):=by
 rw[Nat.zero_add,aM _ _ (by grind [kO])];simp only[bu,List.getElem_map,List.getElem_range];rfl
theorem Ip n m L(k:Nat)(a b:Int)(c:0<=a)(h:a<k):Dn.toBool (c6 (List.zip (z7 (nth (bu n m L k) (0+a.toNat))) (vv (nth (bu n m L k) (0+a.toNat)))) (Value.int IntKind.i64 b) (AV.lit (Value.bool false)))=(iS n m L a).contains b:=by
 rw[Du n m L k a c h];simp only[z7,vv];rw[IZ,mg];rfl
structure U0 where
 n:Nat
 m:Nat
 L:Gr
 a:Int
 b:Int
abbrev qO n m L:=uv n (dy L) (bu n m L n)
def aa6(x:U0):List AV×List Dn.Obj:=([.ptr 0 0 [] 0, .int x.a, .int x.b],qO x.n x.m x.L)
def M5(x:U0):=(0<=x.a/\x.a<x.n)/\0<=x.b/\x.b<x.n
def Nj(x:U0):Out (AV×List Dn.Obj):= .one (.bool (lp x.n x.m x.L x.a x.b),qO x.n x.m x.L)
theorem cMu κ:bd (Y3 κ) 12 91 (aO aa6 M5 Nj):=by
 refine aR ?_;rintro⟨n,m,L,a,b⟩ K ⟨⟨g,d⟩,f,c⟩ e;refine Eq.mpr (yMu κ n (dy L) (bu n m L n) a b K) ?_;simp only[Nj,Out.run,lp,qO,uv,kO] at e;rw[Ip n m L n a b g d,Ip n m L n b a f c,kO];simp only[ai,ae,ap7,ap6,beq_iff_eq]
 grind
noncomputable def Se κ:=(Y3 κ).aw 91 (aO aa6 M5 Nj)
theorem eMu κ:aE (Se κ):=(eOf _).aw (mOf _) (cMu _)
theorem mMu κ:aj (Se κ):=(mOf _).aw aJ
theorem xGp κ(N i:Nat) ls fs ws a I n K:(vc (Se κ) 12 45 none 3 (ad (Pr κ).toProgram 45 3) (sp 25 [(0, .ptr 0 0 [] 0),(1, .int a),(5, .ak 3 0 ws.length),(11, .int N),(12, .int i)] (uv N ls fs++[.row 3 ws])) (bj (Se κ) 45 3 3 I n K))=(
 letI b:=AV.ptr 0 0 []
 letI c:=AV.int
 letI d:=Obj.box
 letI e:=Obj.row
 letI f:=Obj.rows
 letI g:=AV.ak
 letI k:=IntKind.wrap IntKind.i64 ((↑i:Int)+(1:Int))
 letI l:=AV.agg [g 1 0 N,g 2 0 fs.length]
 aq (decide ((↑i:Int)<(↑N:Int))) (∃(e1:U0),letI h:=bu e1.n e1.m e1.L e1.n;letI j:=AV.agg [g 1 0 e1.n,g 2 0 (List.length h)];([b 0,c a,c (↑i:Int)],[d 145 l,f 35 3 ls none,e 101 fs])=([b 0,c e1.a,c e1.b],[d 145 j,f 35 3 (dy e1.L) none,e 101 h])/\(((0:Int)<=e1.a/\e1.a<(↑(e1.n):Int))/\(0:Int)<=e1.b/\e1.b<(↑(e1.n):Int))/\aq (lp e1.n e1.m e1.L e1.a e1.b) (aV (decide ((ws.length+1+1)*9<=70368744177664)) (∃(e0:Nat),e0<n/\I e0 (sp 25 [(0,b 0),(1,c a),(5,g 3 0 (ws.length+1)),(11,c (↑N:Int)),(12,c k)] [d 145 j,f 35 3 (dy e1.L) none,e 101 h,e 3 (List.take ws.length ws++[c (↑i:Int)])]))) (∃(e0:Nat),e0<n/\I e0 (sp 25 [(0,b 0),(1,c a),(5,g 3 0 ws.length),(11,c (↑N:Int)),(12,c k)] [d 145 j,f 35 3 (dy e1.L) none,e 101 h,e 3 ws]))) (K (Exit.exit 0) (sp 25 [(5,g 3 0 ws.length)] [d 145 l,f 35 3 ls none,e 101 fs,e 3 ws]))):=by kernel_rfl
def vI n m L a i:=(jP i).filter (lp n m L a)
theorem KP n m L a i:vI n m L a (i+1)=bif lp n m L a i then vI n m L a i++[(i:Int)] else vI n m L a i:=by
 grind [vI,jP,List.range_succ]
theorem CX n m L a i:(vI n m L a i).length<=i:=by
 grind [jP,vI]
structure TD where
 n:Nat
 m:Nat
 L:Gr
 a:Int
 i:Nat
abbrev R5(x:TD):=sp 25 [(0, .ptr 0 0 [] 0),(1, .int x.a),(5, .ak 3 0 (iA (vI x.n x.m x.L x.a x.i)).length),(11, .int x.n),(12, .int x.i)] (qO x.n x.m x.L++[.row 3 (iA (vI x.n x.m x.L x.a x.i))])
def PA(x:TD):=(0<=x.a/\x.a<x.n)/\x.i<=x.n/\x.n<=60
def SP(x:TD):Out (Exit×S):= .one (.exit 0,sp 25 [(5, .ak 3 0 (iA (iq x.n x.m x.L x.a)).length)] (qO x.n x.m x.L++[.row 3 (iA (iq x.n x.m x.L x.a))]))
theorem lGp κ:aU (Se κ) 12 45 3 (aG 3 R5 PA SP):=by
 refine aC (fun x=>x.n - x.i) ?_;rintro⟨n,m,L,a,i⟩ K ⟨c,g,f⟩ d;simp only at c g f;rw[show(Se κ).P=Pr κ from rfl];refine Eq.mpr (xGp κ n i (dy L) (bu n m L n) (iA (vI n m L a i)) a _ _ K) ?_;have j:=CX n m L a i;rw[ae,ap6,ap8];refine⟨fun h=>⟨⟨n,m,L,a,i⟩,rfl,⟨c,by simp only;omega,h⟩,?_⟩,fun h=>?_⟩
 ·rw[az (n:=(i:Int)+1) (by omega) (by omega),ae,ai,ap6,List.take_length]
  have b:=KP n m L a i;refine⟨fun e=>⟨by rw[iV];omega,_,?_,⟨n,m,L,a,i+1⟩,?_,⟨c,by simp only;omega,f⟩,rfl,d⟩,fun e=>⟨_,?_,⟨n,m,L,a,i+1⟩,?_,⟨c,by simp only;omega,f⟩,rfl,d⟩⟩
  ·simp only;omega
  ·simp only at e
   rw[e,aq3] at b;simp only[R5,b,wH,ar1];rfl
  ·simp only;omega
  ·simp only at e
   rw[e,aq1] at b;simp only[R5,b];rfl
 ·obtain rfl:n=i:=by omega
  exact d
noncomputable def Ye κ:=(Se κ).an 45 3 (aG 3 R5 PA SP)
theorem eGp κ:aE (Ye κ):=(eMu _).an (mMu _) (lGp _)
theorem mGp κ:aj (Ye κ):=(mMu _).an aI
theorem yGp κ N ls fs a K:(a0 (Ye κ) 12 45 [.ptr 0 0 [] 0, .int a] (uv N ls fs) K)=(
 letI b:=AV.int
 letI c:=Obj.row
 letI d:=AV.ak
 letI f:=Pg.toProgram (Env.P (Se κ))
 ad f 45 3=ad f 45 3/\∃(e0:TD),letI e:=bu e0.n e0.m e0.L e0.n;letI g:=AV.agg [d 1 0 e0.n,d 2 0 (List.length e)];letI h:=iA (vI e0.n e0.m e0.L e0.a e0.i);letI i:=iA (iq e0.n e0.m e0.L e0.a);sp 25 [(0,AV.ptr 0 0 [] 0),(1,b a),(5,d 3 0 0),(11,b (↑N:Int)),(12,b 0)] [Obj.box 145 (AV.agg [d 1 0 N,d 2 0 fs.length]),Obj.rows 35 3 ls none,c 101 fs,c 3 []]=sp 25 [(0,AV.ptr 0 0 [] 0),(1,b e0.a),(5,d 3 0 (List.length h)),(11,b (↑(e0.n):Int)),(12,b (↑(e0.i):Int))] [Obj.box 145 g,Obj.rows 35 3 (dy e0.L) none,c 101 e,c 3 h]/\(((0:Int)<=e0.a/\e0.a<(↑(e0.n):Int))/\e0.i<=e0.n/\e0.n<=60)/\K (AV.ah 3 (List.take (List.length i) (List.drop 0 i))) [Obj.box 145 g,Obj.rows 35 3 (dy e0.L) none,c 101 e]):=by kernel_rfl
def ad2(x:TD):List AV×List Dn.Obj:=([.ptr 0 0 [] 0, .int x.a],qO x.n x.m x.L)
def Oa(x:TD):=(0<=x.a/\x.a<x.n)/\x.n<=60
def SQ(x:TD):Out (AV×List Dn.Obj):= .one (.ah 3 (iA (iq x.n x.m x.L x.a)),qO x.n x.m x.L)
theorem cGq κ:bd (Ye κ) 12 45 (aO ad2 Oa SQ):=by
 refine aR ?_;rintro⟨n,m,L,a,i⟩ K ⟨c,d⟩ b;refine Eq.mpr (yGp _ n _ _ a K) ?_;refine⟨rfl,⟨n,m,L,a,0⟩,rfl,by grind,?_⟩;rw[aq6,List.take_length];exact b
noncomputable def St κ:=(Ye κ).aw 45 (aO ad2 Oa SQ)
theorem eGq κ:aE (St κ):=(eGp _).aw (mGp _) (cGq _)
theorem mGq κ:aj (St κ):=(mGp _).aw aJ
theorem xNi κ(N:Nat) a ls fs es ks met vs I n K:(vc (St κ) 12 44 none 4 (ad (Pr κ).toProgram 44 6) (sp 43 [(0, .ptr 0 0 [] 0),(1, .mp 3),(5, .int a),(11, .int N),(12, .int a),(25, .ptr 4 0 [] 0)] (uv N ls fs++[.map 3 4 es, .fit 3 4 ks vs met])) (bj (St κ) 44 6 4 I n K))=(
 letI b:=AV.ptr 0 0 []
 letI c:=AV.int
 letI d:=Obj.box
 letI e:=Obj.row
 letI f:=Obj.rows
 letI g:=Dn.Obj.map
 letI i:=AV.agg [AV.ak 1 0 N,AV.ak 2 0 fs.length]
 (∀(e3:Int) (e2:AV),List.Mem (Value.int IntKind.i64 e3,e2) (List.zip ks vs)->kr met (Value.int IntKind.i64 e3)=false->aq (!Dn.toBool (c6 es (Value.int IntKind.i64 e3) (AV.bool false))) (∃(e1:U0),letI h:=bu e1.n e1.m e1.L e1.n;letI j:=AV.agg [AV.ak 1 0 e1.n,AV.ak 2 0 (List.length h)];([b 0,c a,c e3],[d 145 i,f 35 3 ls none,e 101 fs])=([b 0,c e1.a,c e1.b],[d 145 j,f 35 3 (dy e1.L) none,e 101 h])/\(((0:Int)<=e1.a/\e1.a<(↑(e1.n):Int))/\(0:Int)<=e1.b/\e1.b<(↑(e1.n):Int))/\aq (!lp e1.n e1.m e1.L e1.a e1.b) (K (Exit.exit 1) (sp 43 [(0,b 0),(1,AV.mp 3),(11,c (↑N:Int)),(12,c a)] [d 145 j,f 35 3 (dy e1.L) none,e 101 h,g 3 4 es])) (∃(e0:Nat),e0<n/\I e0 (sp 43 [(0,b 0),(1,AV.mp 3),(5,c a),(11,c (↑N:Int)),(12,c a),(25,AV.ptr 4 0 [] 0)] [d 145 j,f 35 3 (dy e1.L) none,e 101 h,g 3 4 es,Obj.fit 3 4 ks vs (Value.int IntKind.i64 e3::met)]))) (∃(e0:Nat),e0<n/\I e0 (sp 43 [(0,b 0),(1,AV.mp 3),(5,c a),(11,c (↑N:Int)),(12,c a),(25,AV.ptr 4 0 [] 0)] [d 145 i,f 35 3 ls none,e 101 fs,g 3 4 es,Obj.fit 3 4 ks vs (Value.int IntKind.i64 e3::met)])))/\(kt met (List.zip ks vs)=true->K (Exit.exit 2) (sp 43 [(5,c a)] [d 145 i,f 35 3 ls none,e 101 fs,g 3 4 es]))):=by kernel_rfl
theorem JE n i(h:i<n):(jP n).drop i=(i:Int)::(jP n).drop (i+1):=by
 grind [List.drop_eq_getElem_cons,jP]
def BO n m L done i:=(((jP n).drop i).find? (kU n m L done)).getD (-1)
theorem Kd{n} m L done{i}(h:i<n):BO n m L done i=bif kU n m L done i then(i:Int) else BO n m L done (i+1):=by
 grind [BO,JE]
theorem MV n m L done:BO n m L done n= -1:=by
 grind [BO,List.drop_eq_nil_of_le,jP]
structure Hp where
 n:Nat
 m:Nat
 L:Gr
 done:List Int
 i:Nat
 met:List Value
def xQ(x:Hp):=(iS x.n x.m x.L x.i).all fun b=>x.done.contains b||lp x.n x.m x.L x.i b
abbrev QU(x:Hp):S:=sp 43 [(0, .ptr 0 0 [] 0),(1, .mp 3),(5, .int x.i),(11, .int x.n),(12, .int x.i),(25, .ptr 4 0 [] 0)] (qO x.n x.m x.L++[.map 3 4 (iz x.done), .fit 3 4 ((iS x.n x.m x.L x.i).map gN) ((iS x.n x.m x.L x.i).map fun _=> .lit (.bool true)) x.met])
def E1(x:Hp):=WG x.n x.m x.L/\x.i<x.n/\∀b,kr x.met (gN b)=true->b∈iS x.n x.m x.L x.i->(x.done.contains b||lp x.n x.m x.L x.i b)=true
def G7(x:Hp):Out (Exit×S):= .aq (xQ x)
 (.one (.exit 2,sp 43 [(5, .int x.i)] (qO x.n x.m x.L++[.map 3 4 (iz x.done)])))
 (.one (.exit 1,sp 43 [(0, .ptr 0 0 [] 0),(1, .mp 3),(11, .int x.n),(12, .int x.i)] (qO x.n x.m x.L++[.map 3 4 (iz x.done)])))
theorem wX c b a:kr (gN c::a) (gN b)=(decide (c=b)||kr a (gN b)):=rfl
theorem CE: ∀{l c},kt c (iz l)=true->∀b,b∈l->kr c (gN b)=true
 |[],_,_,b,d=>nomatch d
 |a::l,c,h,b,d=>by
  simp[iz,kt] at h;rcases List.mem_cons.1 d with rfl|d
  ·grind
  ·exact CE  h.2 b d
theorem RU{x v l}(h:(gN x,v)∈iz l):x∈l:=by
 obtain⟨k,b,a⟩:=List.mem_map.1 h
 grind
theorem lNi κ:aU (St κ) 12 44 6 (aG 4 QU E1 G7):=by
 refine aC (fun x=>(iS x.n x.m x.L x.i).countP fun b=>!kr x.met (gN b)) ?_;rintro⟨n,m,L,done,i,a⟩ K ⟨o,w,q⟩ z;simp only at o w q;rw[show(St κ).P=Pr κ from rfl];refine Eq.mpr (xNi κ n i (dy L) (bu n m L n) (iz done) ((iS n m L i).map gN) a ((iS n m L i).map fun _=> .lit (.bool true)) _ _ K) ?_;have g:(0:Int)<=i:=by omega
 have f:=z;simp only[G7,Out.run,ae] at f;rw[IZ];refine⟨fun b v p l=>?_,fun C=>?_⟩
 ·have r:b∈iS n m L i:=RU p
  have B:=Rc.lk o g ((Q8 o g).1 r);have y:(done.contains b||lp n m L i b)=true->∃k,k<(iS n m L i).countP (fun b=>!kr a (gN b))/\et QU E1 G7 (fun x=>(iS x.n x.m x.L x.i).countP fun b=>!kr x.met (gN b)) K k (QU ⟨n,m,L,done,i,gN b::a⟩):=fun s=>by
   refine⟨_,?_,⟨n,m,L,done,i,gN b::a⟩,rfl,⟨o,w,fun c d t=>?_⟩,rfl,z⟩
   ·refine pn (fun c _ d=>?_) ⟨b,r,?_,?_⟩
    ·rw[wX] at d
     cases h:kr a (gN c) with
     |true=>rw[h] at d;simp at d
     |false=>rfl
    ·simp only[gN] at l⊢;rw[l];rfl
    ·rw[wX];simp
   ·rw[wX] at d
    by_cases e:b=c
    ·subst e;exact s
    ·rw[aq0 e,Bool.false_or] at d
     exact q c d t
  have A:Dn.toBool (c6 (iz done) (Value.int IntKind.i64 b) (AV.lit (Value.bool false)))=done.contains b:=by rw[mg];rfl
  rw[A];simp only[ae];refine⟨fun e=>⟨⟨n,m,L,i,b⟩,rfl,⟨⟨g,by simp only;omega⟩,B⟩,fun j=>?_,fun j=>?_⟩,fun e=>?_⟩
  ·have u:xQ ⟨n,m,L,done,i,a⟩=false:=by
    rw[←Bool.not_eq_true,xQ,List.all_eq_true];intro h;have:=h b r
    simp only at this j e;rw[aq9] at this;rcases this with h|h
    ·rw[h] at e;cases e
    ·rw[h] at j;cases j
   exact f.2 u
  ·exact y (by simp only at j⊢;rw[aq9];right;simpa using j)
  ·exact y (by rw[aq9];left;simpa using e)
 ·have u:xQ ⟨n,m,L,done,i,a⟩=true:=by
   rw[xQ,List.all_eq_true];exact fun b l=>q b (CE C b l) l
  exact f.1 u
noncomputable def IU κ:=(St κ).an 44 6 (aG 4 QU E1 G7)
theorem eNi κ:aE (IU κ):=(eGq _).an (mGq _) (lNi _)
theorem mNi κ:aj (IU κ):=(mGq _).an aI
theorem xNx κ(N i:Nat) ls fs es I n K:(vc (IU κ) 12 44 none 4 (ad (Pr κ).toProgram 44 2) (sp 43 [(0, .ptr 0 0 [] 0),(1, .mp 3),(11, .int N),(12, .int i)] (uv N ls fs++[.map 3 4 es])) (bj (IU κ) 44 2 4 I n K))=(
 letI a:=IntKind.wrap IntKind.i64
 letI b:=AV.ptr 0 0 []
 letI c:=AV.int
 letI d:=Obj.box
 letI e:=Obj.row
 letI f:=Obj.rows
 letI g:=Dn.Obj.map
 letI h:=AV.agg [AV.ak 1 0 N,AV.ak 2 0 fs.length]
 letI k:=Pg.toProgram (Env.P (St κ))
 aq (decide ((↑i:Int)<(↑N:Int))) (aq (Dn.toBool (c6 es (Value.int IntKind.i64 (↑i:Int)) (AV.bool false))) (∃(e0:Nat),e0<n/\I e0 (sp 43 [(0,b 0),(1,AV.mp 3),(11,c (↑N:Int)),(12,c (a ((↑i:Int)+(1:Int))))] [d 145 h,f 35 3 ls none,e 101 fs,g 3 4 es])) (aV (true&&decide ((↑i:Int)<(↑(fs.length):Int))) (ad k 44 6=ad k 44 6/\∃(e1:Hp),letI j:=bu e1.n e1.m e1.L e1.n;letI l:=AV.agg [AV.ak 1 0 e1.n,AV.ak 2 0 (List.length j)];letI m:=[d 145 l,f 35 3 (dy e1.L) none,e 101 j,g 3 4 (iz e1.done)];sp 43 [(0,b 0),(1,AV.mp 3),(5,c (↑i:Int)),(11,c (↑N:Int)),(12,c (↑i:Int)),(25,AV.ptr 4 0 [] 0)] [d 145 h,f 35 3 ls none,e 101 fs,g 3 4 es,Obj.fit 3 4 (o (nth fs (0+Int.toNat (↑i:Int)))) (vv (nth fs (0+Int.toNat (↑i:Int)))) []]=sp 43 [(0,b 0),(1,AV.mp 3),(5,c (↑(e1.i):Int)),(11,c (↑(e1.n):Int)),(12,c (↑(e1.i):Int)),(25,AV.ptr 4 0 [] 0)] [d 145 l,f 35 3 (dy e1.L) none,e 101 j,g 3 4 (iz e1.done),Obj.fit 3 4 (List.map gN (iS e1.n e1.m e1.L (↑(e1.i):Int))) (List.map (fun(e0:Int)=>AV.bool true) (iS e1.n e1.m e1.L (↑(e1.i):Int))) e1.met]/\(WG e1.n e1.m e1.L/\e1.i<e1.n/\∀(e0:Int),kr e1.met (Value.int IntKind.i64 e0)=true->List.Mem e0 (iS e1.n e1.m e1.L (↑(e1.i):Int))->(List.contains e1.done e0||lp e1.n e1.m e1.L (↑(e1.i):Int) e0)=true)/\aq (xQ e1) (K Exit.ret (sp 43 [(4,c (↑(e1.i):Int))] m)) (∃(e0:Nat),e0<n/\I e0 (sp 43 [(0,b 0),(1,AV.mp 3),(11,c (↑(e1.n):Int)),(12,c (a ((↑(e1.i):Int)+(1:Int))))] m))))) (K (Exit.exit 0) (sp 43 [] [d 145 h,f 35 3 ls none,e 101 fs,g 3 4 es]))):=by kernel_rfl
abbrev QC(x:Hp):=sp 43 [(0, .ptr 0 0 [] 0),(1, .mp 3),(11, .int x.n),(12, .int x.i)] (qO x.n x.m x.L++[.map 3 4 (iz x.done)])
def Ex(x:Hp):=WG x.n x.m x.L/\x.i<=x.n/\x.n<=60
def DX(x:Hp):Out (Exit×S):= .aq (decide (BO x.n x.m x.L x.done x.i<0))
 (.one (.exit 0,sp 43 [] (qO x.n x.m x.L++[.map 3 4 (iz x.done)])))
 (.one (.ret,sp 43 [(4, .int (BO x.n x.m x.L x.done x.i))] (qO x.n x.m x.L++[.map 3 4 (iz x.done)])))
theorem BF n m L done(i:Nat) a:kU n m L done i=(!done.contains i&&xQ ⟨n,m,L,done,i,a⟩):=rfl
theorem lNx κ:aU (IU κ) 12 44 2 (aG 4 QC Ex DX):=by
 refine aC (fun x=>x.n - x.i) ?_;rintro⟨n,m,L,done,i,p⟩ K ⟨g,q,o⟩ l;simp only at g q o;rw[show(IU κ).P=Pr κ from rfl];refine Eq.mpr (xNx κ n i (dy L) (bu n m L n) (iz done) _ _ K) ?_;have a:=l;simp only[DX,Out.run,ae] at a;have s:Dn.toBool (c6 (iz done) (Value.int IntKind.i64 i) (AV.lit (Value.bool false)))=done.contains (i:Int):=by rw[mg];rfl
 rw[s,ae,ap6,ap8];refine⟨fun h=>?_,fun h=>?_⟩
 ·have d:i<n:=by omega
  have f:=Kd m L done d;have c:kU n m L done i=false->∃k,k<n - i/\et QC Ex DX (fun x=>x.n - x.i) K k (QC ⟨n,m,L,done,i+1,[]⟩):=fun e=>by
   rw[e,aq1] at f;refine⟨_,?_,⟨n,m,L,done,i+1,[]⟩,rfl,⟨g,d,o⟩,rfl,?_⟩
   ·simp only;omega
   ·simp only[DX,Out.run,←f];exact l
  rw[ae];refine⟨fun e=>?_,fun e=>?_⟩
  ·rw[az (n:=(i:Int)+1) (by omega) (by omega)]
   exact c (by rw[BF n m L done i [],e];rfl)
  ·rw[ai,ar2,ap6,kO,Du n m L n i (by omega) h]
   refine⟨h,rfl,⟨n,m,L,done,i,[]⟩,?_,⟨g,d,fun b r=>(nomatch r)⟩,?_⟩
   ·simp only[kO]
    rfl
   ·rw[ae]
    refine⟨fun j=>?_,fun j=>?_⟩
    ·have t:kU n m L done i=true:=by rw[BF n m L done i [],e,j];rfl
     rw[t,aq3] at f;have:=a.2 (by rw[f,ap8];omega)
     rw[f] at this;exact this
    ·rw[az (n:=(i:Int)+1) (by omega) (by omega)]
     exact c (by rw[BF n m L done i [],j,Bool.and_false])
 ·obtain rfl:i=n:=by omega
  rw[MV] at a;exact a.1 rfl
theorem xNz κ ls es I n K:(vc (IU κ) 12 44 none 3 (ad (Pr κ).toProgram 44 2) (sp 43 [(0, .ptr 0 0 [] 0),(1, .mp 2),(11, .int 0),(12, .int 0)] (yi 0 ls++[.map 3 4 es])) (bj (IU κ) 44 2 3 I n K))=(
 K (Exit.exit 0) (sp 43 [] [Obj.box 145 (AV.agg [AV.ak 1 0 0,AV.nil]),Obj.rows 35 3 ls none,Dn.Obj.map 3 4 es])):=by kernel_rfl
structure RJ where
 ls:List (List Value)
 es:List (Value×AV)
abbrev Za(x:RJ):=sp 43 [(0, .ptr 0 0 [] 0),(1, .mp 2),(11, .int 0),(12, .int 0)] (yi 0 x.ls++[.map 3 4 x.es])
def Tz(x:RJ):Out (Exit×S):= .one (.exit 0,sp 43 [] (yi 0 x.ls++[.map 3 4 x.es]))
theorem lNz κ:aU (IU κ) 12 44 2 (aG 3 Za (fun _=>True) Tz):=by
 refine aC (fun _=>0) ?_;rintro⟨b,c⟩ K _ a;exact Eq.mpr (xNz _ _ _ _ _ K) a
def Zh(s:S):Bool:=Nat.beq s.st.length 4
noncomputable def V9 κ:=(IU κ).an 44 2 (rS Zh (aG 4 QC Ex DX) (aG 3 Za (fun _=>True) Tz))
theorem eNx κ:aE (V9 κ):=(eNi _).an (mNi _) (oY (lNx _) (lNz _))
theorem mNx κ:aj (V9 κ):=(mNi _).an (kJ aI aI)
theorem yNx κ N ls fs es K:(a0 (V9 κ) 12 44 [.ptr 0 0 [] 0, .mp 3] (uv N ls fs++[.map 3 4 es]) K)=(
 letI b:=AV.int
 ad (Pg.toProgram (Env.P (IU κ))) 44 2=ad (Pg.toProgram (Env.P (IU κ))) 44 2/\∃(a:Hp),letI c:=[Obj.box 145 (AV.agg [AV.ak 1 0 a.n,AV.ak 2 0 (List.length (bu a.n a.m a.L a.n))]),Obj.rows 35 3 (dy a.L) none,Obj.row 101 (bu a.n a.m a.L a.n),Dn.Obj.map 3 4 (iz a.done)];sp 43 [(0,AV.ptr 0 0 [] 0),(1,AV.mp 3),(11,b (↑N:Int)),(12,b 0)] [Obj.box 145 (AV.agg [AV.ak 1 0 N,AV.ak 2 0 fs.length]),Obj.rows 35 3 ls none,Obj.row 101 fs,Dn.Obj.map 3 4 es]=sp 43 [(0,AV.ptr 0 0 [] 0),(1,AV.mp 3),(11,b (↑(a.n):Int)),(12,b (↑(a.i):Int))] c/\(WG a.n a.m a.L/\a.i<=a.n/\a.n<=60)/\aq (decide (BO a.n a.m a.L a.done a.i<(0:Int))) (K (b (-1)) c) (K (b (BO a.n a.m a.L a.done a.i)) c)):=by kernel_rfl
def YO(x:Hp):List AV×List Dn.Obj:=([.ptr 0 0 [] 0, .mp 3],qO x.n x.m x.L++[.map 3 4 (iz x.done)])
def Nb(x:Hp):=WG x.n x.m x.L/\x.n<=60
def Mc(x:Hp):Out (AV×List Dn.Obj):= .one (.int (gZ x.n x.m x.L x.done),qO x.n x.m x.L++[.map 3 4 (iz x.done)])
theorem Ql n m L done(h:gZ n m L done<0):gZ n m L done= -1:=by
 unfold gZ at h⊢;cases e:(jP n).find? _<;>grind [oK]
theorem cNy κ:bd (V9 κ) 12 44 (aO YO Nb Mc):=by
 refine aR ?_;rintro⟨n,m,L,done,i,b⟩ K ⟨c,d⟩ a;refine Eq.mpr (yNx κ n (dy L) _ (iz done) K) ?_;refine⟨rfl,⟨n,m,L,done,0,[]⟩,rfl,by grind,?_⟩;simp only[Mc,Out.run] at a;rw[ae];refine⟨fun e=>?_,fun _=>a⟩;rw[Ql n m L done (of_decide_eq_true e)] at a;exact a
theorem yNz κ ls es K:(a0 (V9 κ) 12 44 [.ptr 0 0 [] 0, .mp 2] (yi 0 ls++[.map 3 4 es]) K)=(
 letI a:=AV.int
 letI b:=AV.agg [AV.ak 1 0 0,AV.nil]
 letI c:=Pg.toProgram (Env.P (IU κ))
 ad c 44 2=ad c 44 2/\∃(e0:RJ),letI d:=[Obj.box 145 b,Obj.rows 35 3 e0.ls none,Dn.Obj.map 3 4 e0.es];sp 43 [(0,AV.ptr 0 0 [] 0),(1,AV.mp 2),(11,a 0),(12,a 0)] [Obj.box 145 b,Obj.rows 35 3 ls none,Dn.Obj.map 3 4 es]=sp 43 [(0,AV.ptr 0 0 [] 0),(1,AV.mp 2),(11,a 0),(12,a 0)] d/\True/\K (a (-1)) d):=by kernel_rfl
def ab6(x:RJ):List AV×List Dn.Obj:=([.ptr 0 0 [] 0, .mp 2],yi 0 x.ls++[.map 3 4 x.es])
def Tc(x:RJ):Out (AV×List Dn.Obj):= .one (.int (-1),yi 0 x.ls++[.map 3 4 x.es])
theorem cNw κ:bd (V9 κ) 12 44 (aO ab6 (fun _=>True) Tc):=by
 refine aR ?_;rintro⟨b,c⟩ K _ a;refine Eq.mpr (yNz _ _ _ K) ?_;exact⟨rfl,_,rfl,trivial,a⟩
def YN(st:List Dn.Obj):=Nat.beq st.length 4
noncomputable def Yb κ:=(V9 κ).aw 44 (ER YN (aO YO Nb Mc) (aO ab6 (fun _=>True) Tc))
theorem eNy κ:aE (Yb κ):=(eNx _).aw (mNx _) (As (cNy _) (cNw _))
theorem mNy κ:aj (Yb κ):=(mNx _).aw (te aJ aJ)
def RX(a:Int):List AV×List Dn.Obj:=([.int a],[])
def S9(a:Int):Out (AV×List Dn.Obj):= .one (.bool (jY a),[])
def Pq(a:Int):Out (AV×List Dn.Obj):= .one (.bool (ig a),[])
def AH(_:Int):Prop:=True
theorem yIa κ op K:(a0 (Yb κ) 12 90 [.int op] [] K)=(
 K (AV.bool (op==(1:Int))) []):=by kernel_rfl
theorem cIa κ:bd (Yb κ) 12 90 (aO RX AH S9):=by
 refine aR ?_;rintro b K _ a;refine Eq.mpr (yIa _ _ K) ?_;exact a
noncomputable def YT κ:=(Yb κ).aw 90 (aO RX AH S9)
theorem eIa κ:aE (YT κ):=(eNy _).aw (mNy _) (cIa _)
theorem mIa κ:aj (YT κ):=(mNy _).aw aJ
theorem yIb κ op K:(a0 (YT κ) 12 88 [.int op] [] K)=(
 aq (op==(2:Int)) (K (AV.bool true) []) (K (AV.bool (decide (op>=(7:Int)))) [])):=by kernel_rfl
theorem cIb κ:bd (YT κ) 12 88 (aO RX AH Pq):=by
 refine aR ?_;rintro b K _ a;refine Eq.mpr (yIb _ _ K) ?_;simp[Pq,ig] at a;rw[Xg];cases h:decide (b=2)<;>rw[h] at a<;>exact a
noncomputable def GH κ:=(YT κ).aw 88 (aO RX AH Pq)
theorem eIb κ:aE (GH κ):=(eIa _).aw (mIa _) (cIb _)
theorem mIb κ:aj (GH κ):=(mIa _).aw aJ
structure IE where
 n:Nat
 m:Nat
 L:Gr
 ds:List AV
 rs:List AV
 a:dk
 h:Int
def mK(a:Int->Bool) n m L ds h(b:List _):=b.any fun l=>a (toInt (ag l 0))&&lp n m L h (bx (toStr (ag (ag l 1) 0)) ds)
def tf(b:Int->Bool)(x:IE):=(0<=x.h/\x.h<x.n)/\x.ds.length<=aW/\x.a.bl.length<=aW/\0<=x.a.i/\x.a.i<=x.a.bl.length/\∀l,l∈x.a.bl->b (toInt (ag l 0))=true->0<=bx (toStr (ag (ag l 1) 0)) x.ds/\bx (toStr (ag (ag l 1) 0)) x.ds<x.n
def AY(b:Int->Bool)(x:IE):=x.h=bx x.a.rel x.ds/\(0<=x.h/\x.h<x.n)/\x.ds.length<=aW/\x.a.bl.length<=aW/\∀l,l∈x.a.bl->b (toInt (ag l 0))=true->0<=bx (toStr (ag (ag l 1) 0)) x.ds/\bx (toStr (ag (ag l 1) 0)) x.ds<x.n
theorem xAa(κ:Kp)(N:Nat) ls ds rs fs(a:dk)(h:Int) I n K:(vc (GH κ) 12 168 none 8 (ad (Pr κ).toProgram 168 2) (sp 19 [(0, .ah 80 a.bl),(1, .bm 134 [.ptr 4 0 [] 0, .ptr 6 0 [] 0, .ptr 3 0 [] 0, .ptr 7 0 [] 0]),(7, .int a.bl.length),(8, .int a.i)] (uv N ls fs++[.box 99 (.ptr 0 0 [] 0), .box 25 (eG ds rs), .box 48 (au a), .box 152 (.bm 90 []), .box 3 (.int h)])) (bj (GH κ) 168 2 8 I n K))=(
 letI b:=AV.ptr 0 0 []
 letI c:=AV.int
 letI d:=AV.ptr
 letI e:=Obj.box
 letI f:=Obj.row
 letI g:=Obj.rows
 letI i:=AV.ah
 letI k:=AV.agg [i 43 ds,i 48 rs]
 letI l:=AV.agg [AV.ak 1 0 N,AV.ak 2 0 fs.length]
 letI m:=b 0
 letI q:=IntKind.wrap IntKind.i64 (a.i+(1:Int))
 letI j:=a.bl.length
 letI o:=AV.bm 90 []
 aq (decide (a.i<(↑j:Int))) (aV (decide ((0:Int)<=a.i)&&decide (a.i<(↑j:Int))) (∃(e3:List AV×ByteArray),([i 43 ds,AV.str (toStr (ag (ag (nth a.bl a.i.toNat) 1) 0))],aL)=([i 43 e3.1,AV.str e3.2],aL)/\iy e3/\∃(e2:Int),([c (toInt (ag (nth a.bl a.i.toNat) 0))],aL)=([c e2],aL)/\True/\aq (jY e2) (∃(e1:U0),letI p:=bu e1.n e1.m e1.L e1.n;letI r:=AV.agg [AV.ak 1 0 e1.n,AV.ak 2 0 (List.length p)];letI s:=[e 145 r,g 35 3 (dy e1.L) none,f 101 p,e 99 m,e 25 k,e 48 (au a),e 152 o,e 3 (c h)];([b 0,c h,c (bx e3.2 e3.1)],[e 145 l,g 35 3 ls none,f 101 fs])=([b 0,c e1.a,c e1.b],[e 145 r,g 35 3 (dy e1.L) none,f 101 p])/\(((0:Int)<=e1.a/\e1.a<(↑(e1.n):Int))/\(0:Int)<=e1.b/\e1.b<(↑(e1.n):Int))/\aq (lp e1.n e1.m e1.L e1.a e1.b) (K Exit.ret (sp 19 [(4,c a.i)] s)) (∃(e0:Nat),e0<n/\I e0 (sp 19 [(0,i 80 a.bl),(1,AV.bm 134 [d 4 0 [] 0,d 6 0 [] 0,d 3 0 [] 0,d 7 0 [] 0]),(7,c (↑j:Int)),(8,c q)] s))) (∃(e0:Nat),e0<n/\I e0 (sp 19 [(0,i 80 a.bl),(1,AV.bm 134 [d 4 0 [] 0,d 6 0 [] 0,d 3 0 [] 0,d 7 0 [] 0]),(7,c (↑j:Int)),(8,c q)] [e 145 l,g 35 3 ls none,f 101 fs,e 99 m,e 25 k,e 48 (au a),e 152 o,e 3 (c h)])))) (K (Exit.exit 0) (sp 19 [] [e 145 l,g 35 3 ls none,f 101 fs,e 99 m,e 25 k,e 48 (au a),e 152 o,e 3 (c h)]))):=by kernel_rfl
abbrev Qr(x:IE):=sp 19 [(0, .ah 80 x.a.bl),(1, .bm 134 [.ptr 4 0 [] 0, .ptr 6 0 [] 0, .ptr 3 0 [] 0, .ptr 7 0 [] 0]),(7, .int x.a.bl.length),(8, .int x.a.i)] (uv x.n (dy x.L) (bu x.n x.m x.L x.n)++[.box 99 (.ptr 0 0 [] 0), .box 25 (eG x.ds x.rs), .box 48 (au x.a), .box 152 (.bm 90 []), .box 3 (.int x.h)])
def IP(x:IE):Out (Exit×S):= .all (fun j:Int=>0<=j) fun j=> .aq (mK jY x.n x.m x.L x.ds x.h (x.a.bl.drop x.a.i.toNat))
 (.one (.ret,sp 19 [(4, .int j)] (qO x.n x.m x.L++[.box 99 (.ptr 0 0 [] 0), .box 25 (eG x.ds x.rs), .box 48 (au x.a), .box 152 (.bm 90 []), .box 3 (.int x.h)])))
 (.one (.exit 0,sp 19 [] (qO x.n x.m x.L++[.box 99 (.ptr 0 0 [] 0), .box 25 (eG x.ds x.rs), .box 48 (au x.a), .box 152 (.bm 90 []), .box 3 (.int x.h)])))
theorem lAa κ:aU (GH κ) 12 168 2 (aG 8 Qr (tf jY) IP):=by
 refine aC (fun x=>x.a.bl.length - x.a.i.toNat) ?_;rintro⟨n,m,L,ds,o,⟨xs,d,g,t,b,c,i⟩,h⟩ K ⟨u,hd,w,q,y,r⟩ s;simp only at u hd w q y r;rw[show(GH κ).P=Pr κ from rfl];refine Eq.mpr (xAa κ n (dy L) ds o (bu n m L n) ⟨xs,d,g,t,b,c,i⟩ h _ _ K) ?_;simp only[aW] at w;rw[ae,ai,ap7,ap6,ap6,ap8];refine⟨fun j=>⟨⟨q,j⟩,(ds,toStr (ag (ag (nth b i.toNat) 1) 0)),rfl,hd,toInt (ag (nth b i.toNat) 0),rfl,trivial,?_⟩,fun j=>?_⟩
 ·have j:i<(b.length:Int):=j
  have p:i.toNat<b.length:=by omega
  have z:nth b i.toNat∈b:=by rw[aM _ _ p];exact List.getElem_mem _
  have v:mK jY n m L ds h (b.drop i.toNat)=((jY (toInt (ag (nth b i.toNat) 0))&&lp n m L h (bx (toStr (ag (ag (nth b i.toNat) 1) 0)) ds))||mK jY n m L ds h (b.drop (i.toNat+1))):=by
   rw[aq7 p,←aM b i.toNat p];rfl
  have f:(jY (toInt (ag (nth b i.toNat) 0))&&lp n m L h (bx (toStr (ag (ag (nth b i.toNat) 1) 0)) ds))=false->∃k,k<b.length - i.toNat/\et Qr (tf jY) IP (fun x=>x.a.bl.length - x.a.i.toNat) K k (Qr ⟨n,m,L,ds,o,⟨xs,d,g,t,b,c,i+1⟩,h⟩):=fun e=>by
   rw[e,Bool.false_or] at v;refine⟨_,?_,⟨n,m,L,ds,o,⟨xs,d,g,t,b,c,i+1⟩,h⟩,rfl,⟨u,hd,by simpa[aW] using w,by simp only;omega,by simp only;omega,r⟩,rfl,?_⟩
   ·simp only;omega
   ·simp only[IP,Out.run,show(i+1).toNat=i.toNat+1 by omega,←v]
    exact s
  rw[az (n:=i+1) (by omega) (by omega),ae];refine⟨fun e=>⟨⟨n,m,L,h,bx (toStr (ag (ag (nth b i.toNat) 1) 0)) ds⟩,rfl,⟨u,r _ z e⟩,?_⟩,fun e=>?_⟩
  ·rw[ae]
   refine⟨fun l=>?_,fun l=>?_⟩
   ·have:=s i q
    simp only at l;simp only[Out.run] at this;rw[v,e,l] at this;exact this
   ·exact f (by rw[e,ar2];exact l)
  ·exact f (by rw[e,Bool.false_and])
 ·have:=s 0 (by omega)
  simp only at j;simp only[Out.run] at this;rw[aq4 (by omega)] at this;exact this
theorem xAb(κ:Kp)(N:Nat) ls ds rs fs(a:dk) h I n K:(vc (GH κ) 12 168 none 8 (ad (Pr κ).toProgram 168 2) (sp 19 [(0, .ah 80 a.bl),(1, .bm 134 [.ptr 4 0 [] 0, .ptr 6 0 [] 0, .ptr 3 0 [] 0, .ptr 7 0 [] 0]),(7, .int a.bl.length),(8, .int a.i)] (uv N ls fs++[.box 99 (.ptr 0 0 [] 0), .box 25 (eG ds rs), .box 48 (au a), .box 152 (.bm 88 []), .box 3 (.int h)])) (bj (GH κ) 168 2 8 I n K))=(
 letI b:=AV.ptr 0 0 []
 letI c:=AV.int
 letI d:=AV.ptr
 letI e:=Obj.box
 letI f:=Obj.row
 letI g:=Obj.rows
 letI i:=AV.ah
 letI k:=AV.agg [i 43 ds,i 48 rs]
 letI l:=AV.agg [AV.ak 1 0 N,AV.ak 2 0 fs.length]
 letI m:=b 0
 letI q:=IntKind.wrap IntKind.i64 (a.i+(1:Int))
 letI j:=a.bl.length
 letI o:=AV.bm 88 []
 aq (decide (a.i<(↑j:Int))) (aV (decide ((0:Int)<=a.i)&&decide (a.i<(↑j:Int))) (∃(e3:List AV×ByteArray),([i 43 ds,AV.str (toStr (ag (ag (nth a.bl a.i.toNat) 1) 0))],aL)=([i 43 e3.1,AV.str e3.2],aL)/\iy e3/\∃(e2:Int),([c (toInt (ag (nth a.bl a.i.toNat) 0))],aL)=([c e2],aL)/\True/\aq (ig e2) (∃(e1:U0),letI p:=bu e1.n e1.m e1.L e1.n;letI r:=AV.agg [AV.ak 1 0 e1.n,AV.ak 2 0 (List.length p)];letI s:=[e 145 r,g 35 3 (dy e1.L) none,f 101 p,e 99 m,e 25 k,e 48 (au a),e 152 o,e 3 (c h)];([b 0,c h,c (bx e3.2 e3.1)],[e 145 l,g 35 3 ls none,f 101 fs])=([b 0,c e1.a,c e1.b],[e 145 r,g 35 3 (dy e1.L) none,f 101 p])/\(((0:Int)<=e1.a/\e1.a<(↑(e1.n):Int))/\(0:Int)<=e1.b/\e1.b<(↑(e1.n):Int))/\aq (lp e1.n e1.m e1.L e1.a e1.b) (K Exit.ret (sp 19 [(4,c a.i)] s)) (∃(e0:Nat),e0<n/\I e0 (sp 19 [(0,i 80 a.bl),(1,AV.bm 134 [d 4 0 [] 0,d 6 0 [] 0,d 3 0 [] 0,d 7 0 [] 0]),(7,c (↑j:Int)),(8,c q)] s))) (∃(e0:Nat),e0<n/\I e0 (sp 19 [(0,i 80 a.bl),(1,AV.bm 134 [d 4 0 [] 0,d 6 0 [] 0,d 3 0 [] 0,d 7 0 [] 0]),(7,c (↑j:Int)),(8,c q)] [e 145 l,g 35 3 ls none,f 101 fs,e 99 m,e 25 k,e 48 (au a),e 152 o,e 3 (c h)])))) (K (Exit.exit 0) (sp 19 [] [e 145 l,g 35 3 ls none,f 101 fs,e 99 m,e 25 k,e 48 (au a),e 152 o,e 3 (c h)]))):=by kernel_rfl
abbrev SI(x:IE):=sp 19 [(0, .ah 80 x.a.bl),(1, .bm 134 [.ptr 4 0 [] 0, .ptr 6 0 [] 0, .ptr 3 0 [] 0, .ptr 7 0 [] 0]),(7, .int x.a.bl.length),(8, .int x.a.i)] (uv x.n (dy x.L) (bu x.n x.m x.L x.n)++[.box 99 (.ptr 0 0 [] 0), .box 25 (eG x.ds x.rs), .box 48 (au x.a), .box 152 (.bm 88 []), .box 3 (.int x.h)])
def G4(x:IE):Out (Exit×S):= .all (fun j:Int=>0<=j) fun j=> .aq (mK ig x.n x.m x.L x.ds x.h (x.a.bl.drop x.a.i.toNat))
 (.one (.ret,sp 19 [(4, .int j)] (qO x.n x.m x.L++[.box 99 (.ptr 0 0 [] 0), .box 25 (eG x.ds x.rs), .box 48 (au x.a), .box 152 (.bm 88 []), .box 3 (.int x.h)])))
 (.one (.exit 0,sp 19 [] (qO x.n x.m x.L++[.box 99 (.ptr 0 0 [] 0), .box 25 (eG x.ds x.rs), .box 48 (au x.a), .box 152 (.bm 88 []), .box 3 (.int x.h)])))
theorem lAb κ:aU (GH κ) 12 168 2 (aG 8 SI (tf ig) G4):=by
 refine aC (fun x=>x.a.bl.length - x.a.i.toNat) ?_;rintro⟨n,m,L,ds,o,⟨xs,d,g,t,b,c,i⟩,h⟩ K ⟨u,hd,w,q,y,r⟩ s;simp only at u hd w q y r;rw[show(GH κ).P=Pr κ from rfl];refine Eq.mpr (xAb κ n (dy L) ds o (bu n m L n) ⟨xs,d,g,t,b,c,i⟩ h _ _ K) ?_;simp only[aW] at w;rw[ae,ai,ap7,ap6,ap6,ap8];refine⟨fun j=>⟨⟨q,j⟩,(ds,toStr (ag (ag (nth b i.toNat) 1) 0)),rfl,hd,toInt (ag (nth b i.toNat) 0),rfl,trivial,?_⟩,fun j=>?_⟩
 ·have j:i<(b.length:Int):=j
  have p:i.toNat<b.length:=by omega
  have z:nth b i.toNat∈b:=by rw[aM _ _ p];exact List.getElem_mem _
  have v:mK ig n m L ds h (b.drop i.toNat)=((ig (toInt (ag (nth b i.toNat) 0))&&lp n m L h (bx (toStr (ag (ag (nth b i.toNat) 1) 0)) ds))||mK ig n m L ds h (b.drop (i.toNat+1))):=by
   rw[aq7 p,←aM b i.toNat p];rfl
  have f:(ig (toInt (ag (nth b i.toNat) 0))&&lp n m L h (bx (toStr (ag (ag (nth b i.toNat) 1) 0)) ds))=false->∃k,k<b.length - i.toNat/\et SI (tf ig) G4 (fun x=>x.a.bl.length - x.a.i.toNat) K k (SI ⟨n,m,L,ds,o,⟨xs,d,g,t,b,c,i+1⟩,h⟩):=fun e=>by
   rw[e,Bool.false_or] at v;refine⟨_,?_,⟨n,m,L,ds,o,⟨xs,d,g,t,b,c,i+1⟩,h⟩,rfl,⟨u,hd,by simpa[aW] using w,by simp only;omega,by simp only;omega,r⟩,rfl,?_⟩
   ·simp only;omega
   ·simp only[G4,Out.run,show(i+1).toNat=i.toNat+1 by omega,←v]
    exact s
  rw[az (n:=i+1) (by omega) (by omega),ae];refine⟨fun e=>⟨⟨n,m,L,h,bx (toStr (ag (ag (nth b i.toNat) 1) 0)) ds⟩,rfl,⟨u,r _ z e⟩,?_⟩,fun e=>?_⟩
  ·rw[ae]
   refine⟨fun l=>?_,fun l=>?_⟩
   ·have:=s i q
    simp only at l;simp only[Out.run] at this;rw[v,e,l] at this;exact this
   ·exact f (by rw[e,ar2];exact l)
  ·exact f (by rw[e,Bool.false_and])
 ·have:=s 0 (by omega)
  simp only at j;simp only[Out.run] at this;rw[aq4 (by omega)] at this;exact this
def aj3(s:S):Bool:=match ay s.st 6 with| .box _ (.bm f _)=>Nat.beq f 90|_=>false
noncomputable def VN κ:=(GH κ).an 168 2 (rS aj3 (aG 8 Qr (tf jY) IP) (aG 8 SI (tf ig) G4))
theorem eAl κ:aE (VN κ):=(eIb _).an (mIb _) (oY (lAa _) (lAb _))
theorem mAl κ:aj (VN κ):=(mIb _).an (kJ aI aI)
theorem yAa κ N ls ds rs fs a K:(a0 (VN κ) 12 87 [.ptr 0 0 [] 0,eG ds rs,au a, .bm 90 []] (uv N ls fs) K)=(
 letI b:=AV.int
 letI c:=AV.ptr
 letI d:=Obj.box
 letI e:=AV.ah
 letI g:=Pg.toProgram (Env.P (GH κ))
 ∃(e2:List AV×ByteArray),([e 43 ds,AV.str a.rel],aL)=([e 43 e2.1,AV.str e2.2],aL)/\iy e2/\ad g 168 2=ad g 168 2/\∃(e1:IE),letI f:=bu e1.n e1.m e1.L e1.n;letI h:=AV.agg [AV.ak 1 0 e1.n,AV.ak 2 0 (List.length f)];letI i:=[d 145 h,Obj.rows 35 3 (dy e1.L) none,Obj.row 101 f];sp 19 [(0,e 80 a.bl),(1,AV.bm 134 [c 4 0 [] 0,c 6 0 [] 0,c 3 0 [] 0,c 7 0 [] 0]),(7,b (↑(a.bl.length):Int)),(8,b 0)] [d 145 (AV.agg [AV.ak 1 0 N,AV.ak 2 0 fs.length]),Obj.rows 35 3 ls none,Obj.row 101 fs,d 99 (c 0 0 [] 0),d 25 (AV.agg [e 43 ds,e 48 rs]),d 48 (au a),d 152 (AV.bm 90 []),d 3 (b (bx e2.2 e2.1))]=sp 19 [(0,e 80 e1.a.bl),(1,AV.bm 134 [c 4 0 [] 0,c 6 0 [] 0,c 3 0 [] 0,c 7 0 [] 0]),(7,b (↑(List.length e1.a.bl):Int)),(8,b e1.a.i)] [d 145 h,Obj.rows 35 3 (dy e1.L) none,Obj.row 101 f,d 99 (c 0 0 [] 0),d 25 (AV.agg [e 43 e1.ds,e 48 e1.rs]),d 48 (au e1.a),d 152 (AV.bm 90 []),d 3 (b e1.h)]/\(((0:Int)<=e1.h/\e1.h<(↑(e1.n):Int))/\e1.ds.length<=9223372036854775807/\List.length e1.a.bl<=9223372036854775807/\(0:Int)<=e1.a.i/\e1.a.i<=(↑(List.length e1.a.bl):Int)/\∀(e0:AV),List.Mem e0 e1.a.bl->jY (toInt (ag e0 0))=true->(0:Int)<=bx (toStr (ag (ag e0 1) 0)) e1.ds/\bx (toStr (ag (ag e0 1) 0)) e1.ds<(↑(e1.n):Int))/\∀(e0:Int),(0:Int)<=e0->aq (mK jY e1.n e1.m e1.L e1.ds e1.h (List.drop (Int.toNat e1.a.i) e1.a.bl)) (K (AV.bool (decide (e0>=(0:Int)))) i) (K (AV.bool false) i)):=by kernel_rfl
def Td(x:IE):=([.ptr 0 0 [] 0,eG x.ds x.rs,au x.a, .bm 90 []],qO x.n x.m x.L)
def Gz(x:IE):Out (AV×List Dn.Obj):= .one (.bool (mK jY x.n x.m x.L x.ds x.h x.a.bl),qO x.n x.m x.L)
theorem cAa κ:bd (VN κ) 12 87 (aO Td (AY jY) Gz):=by
 refine aR ?_;rintro⟨n,m,L,ds,d,⟨xs,a,c,l,p,b,i⟩,h⟩ K ⟨g,f,hd,e,k⟩ o;simp only at g f hd e k;refine Eq.mpr (yAa κ n (dy L) ds d (bu n m L n) _ K) ?_;simp only[Gz,Out.run] at o;refine⟨(ds,c),rfl,hd,rfl,⟨n,m,L,ds,d,⟨xs,a,c,l,p,b,0⟩,h⟩,by simp only[g],⟨f,hd,e,by simp only;omega,by simp only;omega,k⟩,fun j q=>?_⟩
 grind [ae,decide_eq_true]
theorem yAb κ N ls ds rs fs a K:(a0 (VN κ) 12 87 [.ptr 0 0 [] 0,eG ds rs,au a, .bm 88 []] (uv N ls fs) K)=(
 letI b:=AV.int
 letI c:=AV.ptr
 letI d:=Obj.box
 letI e:=AV.ah
 letI g:=Pg.toProgram (Env.P (GH κ))
 ∃(e2:List AV×ByteArray),([e 43 ds,AV.str a.rel],aL)=([e 43 e2.1,AV.str e2.2],aL)/\iy e2/\ad g 168 2=ad g 168 2/\∃(e1:IE),letI f:=bu e1.n e1.m e1.L e1.n;letI h:=AV.agg [AV.ak 1 0 e1.n,AV.ak 2 0 (List.length f)];letI i:=[d 145 h,Obj.rows 35 3 (dy e1.L) none,Obj.row 101 f];sp 19 [(0,e 80 a.bl),(1,AV.bm 134 [c 4 0 [] 0,c 6 0 [] 0,c 3 0 [] 0,c 7 0 [] 0]),(7,b (↑(a.bl.length):Int)),(8,b 0)] [d 145 (AV.agg [AV.ak 1 0 N,AV.ak 2 0 fs.length]),Obj.rows 35 3 ls none,Obj.row 101 fs,d 99 (c 0 0 [] 0),d 25 (AV.agg [e 43 ds,e 48 rs]),d 48 (au a),d 152 (AV.bm 88 []),d 3 (b (bx e2.2 e2.1))]=sp 19 [(0,e 80 e1.a.bl),(1,AV.bm 134 [c 4 0 [] 0,c 6 0 [] 0,c 3 0 [] 0,c 7 0 [] 0]),(7,b (↑(List.length e1.a.bl):Int)),(8,b e1.a.i)] [d 145 h,Obj.rows 35 3 (dy e1.L) none,Obj.row 101 f,d 99 (c 0 0 [] 0),d 25 (AV.agg [e 43 e1.ds,e 48 e1.rs]),d 48 (au e1.a),d 152 (AV.bm 88 []),d 3 (b e1.h)]/\(((0:Int)<=e1.h/\e1.h<(↑(e1.n):Int))/\e1.ds.length<=9223372036854775807/\List.length e1.a.bl<=9223372036854775807/\(0:Int)<=e1.a.i/\e1.a.i<=(↑(List.length e1.a.bl):Int)/\∀(e0:AV),List.Mem e0 e1.a.bl->ig (toInt (ag e0 0))=true->(0:Int)<=bx (toStr (ag (ag e0 1) 0)) e1.ds/\bx (toStr (ag (ag e0 1) 0)) e1.ds<(↑(e1.n):Int))/\∀(e0:Int),(0:Int)<=e0->aq (mK ig e1.n e1.m e1.L e1.ds e1.h (List.drop (Int.toNat e1.a.i) e1.a.bl)) (K (AV.bool (decide (e0>=(0:Int)))) i) (K (AV.bool false) i)):=by kernel_rfl
def TF(x:IE):=([.ptr 0 0 [] 0,eG x.ds x.rs,au x.a, .bm 88 []],qO x.n x.m x.L)
def Gl(x:IE):Out (AV×List Dn.Obj):= .one (.bool (mK ig x.n x.m x.L x.ds x.h x.a.bl),qO x.n x.m x.L)
theorem cAb κ:bd (VN κ) 12 87 (aO TF (AY ig) Gl):=by
 refine aR ?_;rintro⟨n,m,L,ds,d,⟨xs,a,c,l,p,b,i⟩,h⟩ K ⟨g,f,hd,e,k⟩ o;simp only at g f hd e k;refine Eq.mpr (yAb κ n (dy L) ds d (bu n m L n) _ K) ?_;simp only[Gl,Out.run] at o;refine⟨(ds,c),rfl,hd,rfl,⟨n,m,L,ds,d,⟨xs,a,c,l,p,b,0⟩,h⟩,by simp only[g],⟨f,hd,e,by simp only;omega,by simp only;omega,k⟩,fun j q=>?_⟩
 grind [ae,decide_eq_true]
def OJ(d:List AV->Bool)(a b:dM):dM:=fun c st K=>bif d c then a c st K else b c st K
theorem JG{c a b}(f:a.fY)(g:b.fY):(OJ c a b).fY:=fun e st K j d h=>by
 unfold OJ at h⊢;cases i:c _<;>simp[i] at h⊢
 ·exact g _ _ _ _ d h
 ·exact f _ _ _ _ d h
theorem Q0{E N f c a b}(i:bd E N f a)(g:bd E N f b):bd E N f (OJ c a b):=fun d st K h=>by
 unfold OJ at h;cases e:c _<;>rw[e] at h
 ·exact g _ _ _ h
 ·exact i _ _ _ h
def ai4:List AV->Bool
 |[_,_,_, .bm f _]=>Nat.beq f 90
 |_=>false
noncomputable def Iw κ:=(VN κ).aw 87 (OJ ai4 (aO Td (AY jY) Gz) (aO TF (AY ig) Gl))
theorem eAg κ:aE (Iw κ):=(eAl _).aw (mAl _) (Q0 (cAa _) (cAb _))
theorem mAg κ:aj (Iw κ):=(mAl _).aw (JG aJ aJ)
theorem xLy(κ:Kp)(N i:Nat) ls ds rs fs I(n:Nat) K:(vc (Iw κ) 12 43 none 3 (ad (Pr κ).toProgram 43 2) (sp 38 [(0, .ptr 0 0 [] 0),(3, .ptr 3 0 [] 0),(11, .ah 48 rs),(12, .int rs.length),(13, .int i)] (uv N ls fs++[.box 25 (eG ds rs)])) (bj (Iw κ) 43 2 3 I n K))=(
 letI a:=AV.ptr 0 0 []
 letI b:=AV.int
 letI c:=AV.agg
 letI d:=Obj.box
 letI e:=Obj.row
 letI f:=Obj.rows
 letI g:=AV.ah
 letI h:=AV.ak
 letI s:=nth rs (Int.toNat (↑i:Int))
 letI w:=IntKind.wrap IntKind.i64 ((↑i:Int)+(1:Int))
 letI x:=c [g 43 ds,g 48 rs]
 letI o:=toInt (ag s 2)
 letI t:=toStr (ag (ag s 0) 0)
 letI y:=c [h 1 0 N,h 2 0 fs.length]
 letI z:=(↑i:Int)<(↑(rs.length):Int)
 letI u:=af (ag (ag s 0) 1)
 letI v:=af (ag s 1)
 aq (decide z) (aV (true&&decide z) (∃(e3:IE),letI j:=bu e3.n e3.m e3.L e3.n;letI p:=c [h 1 0 e3.n,h 2 0 (List.length j)];letI k:=∃(e0:Nat),e0<n/\I e0 (sp 38 [(0,a 0),(3,AV.ptr 3 0 [] 0),(11,g 48 rs),(12,b (↑(rs.length):Int)),(13,b w)] [d 145 p,f 35 3 (dy e3.L) none,e 101 j,d 25 x]);letI l:=[d 145 p,f 35 3 (dy e3.L) none,e 101 j];([a 0,c [g 43 ds,g 48 rs],c [c [AV.str t,g 38 u],g 80 v,b o],AV.bm 88 []],[d 145 y,f 35 3 ls none,e 101 fs])=([a 0,c [g 43 e3.ds,g 48 e3.rs],au e3.a,AV.bm 88 []],l)/\(e3.h=bx e3.a.rel e3.ds/\((0:Int)<=e3.h/\e3.h<(↑(e3.n):Int))/\e3.ds.length<=9223372036854775807/\List.length e3.a.bl<=9223372036854775807/\∀(e0:AV),List.Mem e0 e3.a.bl->ig (toInt (ag e0 0))=true->(0:Int)<=bx (toStr (ag (ag e0 1) 0)) e3.ds/\bx (toStr (ag (ag e0 1) 0)) e3.ds<(↑(e3.n):Int))/\aq (mK ig e3.n e3.m e3.L e3.ds e3.h e3.a.bl) (K Exit.ret (sp 38 [(4,b o),(5,b 70)] l)) (∃(e2:dk),([c [c [AV.str t,g 38 u],g 80 v,b o]],aL)=([au e2],aL)/\(bk (aa (bo 38 e2.hl e2.bl))<=100000/\e2.bl.length<=100000)/\aq (a8 (aQ e2)) (aq (jX (aQ e2)) (aq (LD (aQ e2)) (∃(e1:IE),letI m:=bu e1.n e1.m e1.L e1.n;letI q:=c [h 1 0 e1.n,h 2 0 (List.length m)];letI r:=[d 145 q,f 35 3 (dy e1.L) none,e 101 m];([a 0,c [g 43 ds,g 48 rs],c [c [AV.str t,g 38 u],g 80 v,b o],AV.bm 90 []],l)=([a 0,c [g 43 e1.ds,g 48 e1.rs],au e1.a,AV.bm 90 []],r)/\(e1.h=bx e1.a.rel e1.ds/\((0:Int)<=e1.h/\e1.h<(↑(e1.n):Int))/\e1.ds.length<=9223372036854775807/\List.length e1.a.bl<=9223372036854775807/\∀(e0:AV),List.Mem e0 e1.a.bl->jY (toInt (ag e0 0))=true->(0:Int)<=bx (toStr (ag (ag e0 1) 0)) e1.ds/\bx (toStr (ag (ag e0 1) 0)) e1.ds<(↑(e1.n):Int))/\aq (mK jY e1.n e1.m e1.L e1.ds e1.h e1.a.bl) (K Exit.ret (sp 38 [(4,b o),(5,b 71)] r)) (∃(e0:Nat),e0<n/\I e0 (sp 38 [(0,a 0),(3,AV.ptr 3 0 [] 0),(11,g 48 rs),(12,b (↑(rs.length):Int)),(13,b w)] [d 145 q,f 35 3 (dy e1.L) none,e 101 m,d 25 x]))) k) k) k))) (K (Exit.exit 0) (sp 38 [] [d 145 y,f 35 3 ls none,e 101 fs]))):=by kernel_rfl
theorem xLz κ ls ds I n K:(vc (Iw κ) 12 43 none 2 (ad (Pr κ).toProgram 43 2) (sp 38 [(0, .ptr 0 0 [] 0),(3, .ptr 2 0 [] 0),(11, .ah 48 []),(12, .int 0),(13, .int 0)] (yi 0 ls++[.box 25 (eG ds [])])) (bj (Iw κ) 43 2 2 I n K))=(
 K (Exit.exit 0) (sp 38 [] [Obj.box 145 (AV.agg [AV.ak 1 0 0,AV.nil]),Obj.rows 35 3 ls none])):=by kernel_rfl
def zV r:=a8 (aQ (dr r))&&jX (aQ (dr r))&&LD (aQ (dr r))
def Z6 ds r:=bx (toStr (ag (ag r 0) 0)) ds
def Lj a n m L ds r:=mK a n m L ds (Z6 ds r) (af (ag r 1))
def AA(n m:Nat)(L:Gr)(ds:List AV):List AV->Int×Int
 |[]=>(0,0)
 |r::a=>bif Lj ig n m L ds r then(toInt (ag r 2),70) else bif zV r&&Lj jY n m L ds r then(toInt (ag r 2),71) else AA n m L ds a
structure C5(n:Nat)(ds:List AV)(r:AV):Prop where
 hd:0<=Z6 ds r/\Z6 ds r<n
 at_: ∀l,l∈af (ag r 1)->dL (toInt (ag l 0))=true->0<=bx (toStr (ag (ag l 1) 0)) ds/\bx (toStr (ag (ag l 1) 0)) ds<n
 le:(af (ag r 1)).length<=aW
 s42:dc (dr r)
theorem L3{a}(h:jY a=true):dL a=true:=by
 have:a=1:=by grind [jY]
 subst this;rfl
theorem OU{a}(h:ig a=true):dL a=true:=by
 grind [ig,dL]
structure Tg where
 n:Nat
 m:Nat
 L:Gr
 ds:List AV
 rs:List AV
 i:Nat
abbrev RN(x:Tg):=sp 38 [(0, .ptr 0 0 [] 0),(3, .ptr 3 0 [] 0),(11, .ah 48 x.rs),(12, .int x.rs.length),(13, .int x.i)] (qO x.n x.m x.L++[.box 25 (eG x.ds x.rs)])
def FT(x:Tg):=x.ds.length<=aW/\x.rs.length<=aW/\x.i<=x.rs.length/\∀r,r∈x.rs->C5 x.n x.ds r
def Ci(x:Tg):Out (Exit×S):= .aq (decide ((AA x.n x.m x.L x.ds (x.rs.drop x.i)).2=0))
 (.one (.exit 0,sp 38 [] (qO x.n x.m x.L)))
 (.one (.ret,sp 38 [(4, .int (AA x.n x.m x.L x.ds (x.rs.drop x.i)).1),(5, .int (AA x.n x.m x.L x.ds (x.rs.drop x.i)).2)] (qO x.n x.m x.L)))
theorem lLy κ:aU (Iw κ) 12 43 2 (aG 3 RN FT Ci):=by
 refine aC (fun x=>x.rs.length - x.i) ?_;rintro⟨n,m,L,ds,a,i⟩ K ⟨hd,t,w,r⟩ u;simp only at hd t w r;rw[show(Iw κ).P=Pr κ from rfl];refine Eq.mpr (xLy κ n i (dy L) ds a (bu n m L n) _ _ K) ?_;have c:=u;simp only[Ci,Out.run,ae,ap6,ap8] at c;simp only[aW] at t;rw[ae,ap6,ap8,ai,ar2,ap6];refine⟨fun h=>⟨h,?_⟩,fun h=>?_⟩
 ·have p:i<a.length:=by omega
  have v:nth a i∈a:=by rw[aM _ _ p];exact List.getElem_mem _
  have g:=r _ v;have d:AA n m L ds (a.drop i)=bif Lj ig n m L ds (nth a i) then(toInt (ag (nth a i) 2),70) else bif zV (nth a i)&&Lj jY n m L ds (nth a i) then(toInt (ag (nth a i) 2),71) else AA n m L ds (a.drop (i+1)):=by
   rw[aq7 p,←aM a i p];rfl
  have b:Lj ig n m L ds (nth a i)=false->(zV (nth a i)&&Lj jY n m L ds (nth a i))=false->∃k,k<a.length - i/\et RN FT Ci (fun x=>x.rs.length - x.i) K k (RN ⟨n,m,L,ds,a,i+1⟩):=fun j o=>by
   rw[j,o,aq1,aq1] at d;refine⟨_,?_,⟨n,m,L,ds,a,i+1⟩,rfl,⟨hd,by simpa[aW] using t,p,r⟩,rfl,?_⟩
   ·simp only;omega
   ·simp only[Ci,Out.run,←d];exact u
  rw[Int.toNat_natCast,az (n:=(i:Int)+1) (by omega) (by omega)];refine⟨⟨n,m,L,ds,a,dr (nth a i),Z6 ds (nth a i)⟩,rfl,⟨rfl,g.hd,hd,g.le,fun l q h=>g.at_ l q (OU h)⟩,?_⟩;rw[ae];refine⟨fun e=>?_,fun e=>?_⟩
  ·have e:Lj ig n m L ds (nth a i)=true:=e
   rw[e,aq3] at d;have:=c.2 (by rw[d];exact fun h=>nomatch h)
   rw[d] at this;exact this
  ·have e:Lj ig n m L ds (nth a i)=false:=e
   refine⟨dr (nth a i),rfl,g.s42,?_⟩;rw[ae];refine⟨fun j=>?_,fun j=>b e (by unfold zV;rw[j];rfl)⟩;rw[ae];refine⟨fun o=>?_,fun o=>b e (by unfold zV;rw[j,o];rfl)⟩;rw[ae];refine⟨fun s=>?_,fun s=>b e (by unfold zV;rw[j,o,s];rfl)⟩;have y:zV (nth a i)=true:=by unfold zV;rw[j,o,s];rfl
   refine⟨⟨n,m,L,ds,a,dr (nth a i),Z6 ds (nth a i)⟩,rfl,⟨rfl,g.hd,hd,g.le,fun l q h=>g.at_ l q (L3 h)⟩,?_⟩;rw[ae];refine⟨fun f=>?_,fun f=>b e (by have f:Lj jY n m L ds (nth a i)=false:=f;rw[f,Bool.and_false])⟩;have f:Lj jY n m L ds (nth a i)=true:=f;rw[e,y,f,aq1,Bool.and_true,aq3] at d;have:=c.2 (by rw[d];exact fun h=>nomatch h)
   rw[d] at this;exact this
 ·rw[aq4 (by omega)] at c
  exact c.1 rfl
structure Xl where
 ls:List (List Value)
 ds:List AV
abbrev Zl(x:Xl):=sp 38 [(0, .ptr 0 0 [] 0),(3, .ptr 2 0 [] 0),(11, .ah 48 []),(12, .int 0),(13, .int 0)] (yi 0 x.ls++[.box 25 (eG x.ds [])])
def To(x:Xl):Out (Exit×S):= .one (.exit 0,sp 38 [] (yi 0 x.ls))
theorem lLz κ:aU (Iw κ) 12 43 2 (aG 2 Zl (fun _=>True) To):=by
 refine aC (fun _=>0) ?_;rintro⟨b,ds⟩ K _ a;exact Eq.mpr (xLz _ _ _ _ _ K) a
noncomputable def Vc κ:=(Iw κ).an 43 2 (rS Zh (aG 3 RN FT Ci) (aG 2 Zl (fun _=>True) To))
theorem eLl κ:aE (Vc κ):=(eAg _).an (mAg _) (oY (lLy _) (lLz _))
theorem mLl κ:aj (Vc κ):=(mAg _).an (kJ aI aI)
theorem yLy κ N ls ds rs fs K:(a0 (Vc κ) 12 43 [.ptr 0 0 [] 0,eG ds rs] (uv N ls fs) K)=(
 letI b:=AV.int
 letI c:=Obj.box
 letI d:=AV.ah
 ad (Pg.toProgram (Env.P (Iw κ))) 43 2=ad (Pg.toProgram (Env.P (Iw κ))) 43 2/\∃(a:Tg),letI e:=bu a.n a.m a.L a.n;letI g:=AV.agg [AV.ak 1 0 a.n,AV.ak 2 0 (List.length e)];letI h:=[c 145 g,Obj.rows 35 3 (dy a.L) none,Obj.row 101 e];letI f:=AA a.n a.m a.L a.ds (List.drop a.i a.rs);sp 38 [(0,AV.ptr 0 0 [] 0),(3,AV.ptr 3 0 [] 0),(11,d 48 rs),(12,b (↑(rs.length):Int)),(13,b 0)] [c 145 (AV.agg [AV.ak 1 0 N,AV.ak 2 0 fs.length]),Obj.rows 35 3 ls none,Obj.row 101 fs,c 25 (AV.agg [d 43 ds,d 48 rs])]=sp 38 [(0,AV.ptr 0 0 [] 0),(3,AV.ptr 3 0 [] 0),(11,d 48 a.rs),(12,b (↑(a.rs.length):Int)),(13,b (↑(a.i):Int))] [c 145 g,Obj.rows 35 3 (dy a.L) none,Obj.row 101 e,c 25 (AV.agg [d 43 a.ds,d 48 a.rs])]/\(a.ds.length<=9223372036854775807/\a.rs.length<=9223372036854775807/\a.i<=a.rs.length/\∀(r:AV),List.Mem r a.rs->C5 a.n a.ds r)/\aq (decide (Prod.snd f=(0:Int))) (K (AV.aH [b 0,b 0]) h) (K (AV.aH [b (Prod.fst f),b (Prod.snd f)]) h)):=by kernel_rfl
theorem yLz κ ls ds K:(a0 (Vc κ) 12 43 [.ptr 0 0 [] 0,eG ds []] (yi 0 ls) K)=(
 letI a:=AV.int
 letI b:=Obj.box
 letI c:=AV.ah
 letI d:=AV.agg [AV.ak 1 0 0,AV.nil]
 letI e:=Pg.toProgram (Env.P (Iw κ))
 ad e 43 2=ad e 43 2/\∃(e0:Xl),sp 38 [(0,AV.ptr 0 0 [] 0),(3,AV.ptr 2 0 [] 0),(11,c 48 []),(12,a 0),(13,a 0)] [b 145 d,
 Obj.rows 35 3 ls none,b 25 (AV.agg [c 43 ds,c 48 []])]=sp 38 [(0,AV.ptr 0 0 [] 0),(3,AV.ptr 2 0 [] 0),(11,c 48 []),(12,a 0),
 (13,a 0)] [b 145 d,Obj.rows 35 3 e0.ls none,b 25 (AV.agg [c 43 e0.ds,c 48 []])]/\True/\K (AV.aH [a 0,a 0]) [b
 145 d,Obj.rows 35 3 e0.ls none]):=by kernel_rfl
def TR(x:Tg):=([.ptr 0 0 [] 0,eG x.ds x.rs],qO x.n x.m x.L)
def H4(x:Tg):=x.ds.length<=aW/\x.rs.length<=aW/\∀r,r∈x.rs->C5 x.n x.ds r
def FH(x:Tg):Out (AV×List Dn.Obj):= .one (.aH [.int (AA x.n x.m x.L x.ds x.rs).1, .int (AA x.n x.m x.L x.ds x.rs).2],qO x.n x.m x.L)
theorem Cx n m L ds: ∀a,(AA n m L ds a).2=0->AA n m L ds a=(0,0)
 |[],_=>rfl
 | r::a,h=>by
  rw[AA] at h⊢;cases e:Lj ig n m L ds r with
  |true=>grind
  | false=>
   rw[e,aq1] at h;cases b:zV r&&Lj jY n m L ds r with
   |true=>grind
   |false=>
    rw[b,aq1] at h;exact Cx n m L ds a h
theorem cLy κ:bd (Vc κ) 12 43 (aO TR H4 FH):=by
 refine aR ?_;rintro⟨n,m,L,ds,a,i⟩ K ⟨hd,c,d⟩ b;refine Eq.mpr (yLy κ n (dy L) ds a (bu n m L n) K) ?_;refine⟨rfl,⟨n,m,L,ds,a,0⟩,rfl,⟨hd,c,Nat.zero_le _,d⟩,?_⟩;simp only[FH,Out.run] at b;rw[aq6,ae]
 grind [Cx]
def SR(x:Xl):=([.ptr 0 0 [] 0,eG x.ds []],yi 0 x.ls)
def NQ(x:Xl):Out (AV×List Dn.Obj):= .one (.aH [.int 0, .int 0],yi 0 x.ls)
theorem cLz κ:bd (Vc κ) 12 43 (aO SR (fun _=>True) NQ):=by
 refine aR ?_;rintro⟨b,ds⟩ K _ a;refine Eq.mpr (yLz _ _ _ K) ?_;exact⟨rfl,_,rfl,trivial,a⟩
noncomputable def ELy κ:=(Vc κ).aw 43 (ER X5 (aO TR H4 FH) (aO SR (fun _=>True) NQ))
theorem eLy κ:aE (ELy κ):=(eLl _).aw (mLl _) (As (cLy _) (cLz _))
theorem mLy κ:aj (ELy κ):=(mLl _).aw (te aJ aJ)
noncomputable abbrev Qm(κ:Kp):Env:=ELy κ
theorem eCk(κ:Kp):aE (Qm κ):=eLy κ
theorem mCk(κ:Kp):aj (Qm κ):=mLy κ
theorem xGi κ(N i:Nat) ls fs gs l es I n K:(vc (Qm κ) 12 18 none 0 (ad (Pr κ).toProgram 18 15) (sp 63 [(7, .ptr 0 0 [] 0),(10, .ak 3 0 gs.length),(11, .mp 4),(13, .ah 3 l),(49, .ah 3 l),(50, .int l.length),(51, .int i)] (uv N ls fs++[.row 35 gs, .map 3 4 es])) (bj (Qm κ) 18 15 0 I n K))=(
 letI a:=Obj.row
 letI b:=AV.agg [AV.ak 1 0 N,AV.ak 2 0 fs.length]
 letI c:=(↑i:Int)<(↑(l.length):Int)
 aq (decide c) (aV (true&&decide c) (∃(e0:Nat),e0<n/\I e0 (sp 63 [(7,AV.ptr 0 0 [] 0),(10,AV.ak 3 0 gs.length),(11,AV.mp 4),(13,AV.ah 3 l),
 (49,AV.ah 3 l),(50,AV.int (↑(l.length):Int)),(51,AV.int (IntKind.wrap IntKind.i64 ((↑i:Int)+(1:Int))))] [Obj.box 145 b,Obj.rows 35 3 ls none,
 a 101 fs,a 35 gs,Dn.Obj.map 3 4 (eC es (Value.int IntKind.i64 (toInt (nth l (Int.toNat (↑i:Int))))) (AV.bool true))]))) (K (Exit.exit 2) (sp 63
 [(7,AV.ptr 0 0 [] 0),(10,AV.ak 3 0 gs.length),(11,AV.mp 4),(13,AV.ah 3 l)] [Obj.box 145 b,Obj.rows 35 3 ls none,a 101 fs,a 35 gs,
 Dn.Obj.map 3 4 es]))):=by kernel_rfl
def j1(a:List (List Int)):List AV:=a.map fun g=> .ah 3 (iA g)
theorem Qx a b:j1 (a++b)=j1 a++j1 b:=by simp[j1]
theorem Ih a:(j1 a).length=a.length:=by simp[j1]
structure AGi where
 n:Nat
 m:Nat
 L:Gr
 gs:List (List Int)
 l:List Int
 done:List Int
 i:Nat
abbrev UF(x:AGi):=sp 63 [(7, .ptr 0 0 [] 0),(10, .ak 3 0 (j1 x.gs).length),(11, .mp 4),(13, .ah 3 (iA x.l)),(49, .ah 3 (iA x.l)),(50, .int (iA x.l).length),(51, .int x.i)] (qO x.n x.m x.L++[.row 35 (j1 x.gs), .map 3 4 (iz x.done)])
def MW(x:AGi):=x.i<=x.l.length/\x.l.length<=60
def IT(x:AGi):Out (Exit×S):= .one (.exit 2,sp 63 [(7, .ptr 0 0 [] 0),(10, .ak 3 0 (j1 x.gs).length),(11, .mp 4),(13, .ah 3 (iA x.l))] (qO x.n x.m x.L++[.row 35 (j1 x.gs), .map 3 4 (iz (wc x.done (x.l.drop x.i)))]))
theorem Wz: ∀l k h,toInt (nth (iA l) k)=l[k]:=fun l k h=>by
 grind [aM,iA,toInt]
theorem lGi κ:aU (Qm κ) 12 18 15 (aG 0 UF MW IT):=by
 refine aC (fun x=>x.l.length - x.i) ?_;rintro⟨n,m,L,c,l,done,i⟩ K ⟨e,d⟩ a;simp only at e d;rw[show(Qm κ).P=Pr κ from rfl];refine Eq.mpr (xGi κ n i (dy L) (bu n m L n) (j1 c) (iA l) (iz done) _ _ K) ?_;simp only[IT,Out.run] at a;rw[ae,ai,ar2,ap6,ap8,iV];refine⟨fun h=>⟨h,?_⟩,fun h=>?_⟩
 ·have b:i<l.length:=by omega
  rw[Int.toNat_natCast,Wz l i b,az (n:=(i:Int)+1) (by omega) (by omega),rk];refine⟨_,?_,⟨n,m,L,c,l,bif done.contains l[i] then done else done++[l[i]],i+1⟩,?_,⟨b,d⟩,rfl,?_⟩
  ·simp only;omega
  ·simp only[UF,iV];rfl
  ·rw[aq7 b] at a
   simp only[IT,Out.run];exact a
 ·rw[aq4 (by omega)] at a
  exact a
noncomputable def IL κ:=(Qm κ).an 18 15 (aG 0 UF MW IT)
theorem eGi κ:aE (IL κ):=(eCk _).an (mCk _) (lGi _)
theorem mGi κ:aj (IL κ):=(mCk _).an aI
theorem xGo κ N a ls fs gs es I n K:(vc (IL κ) 12 18 none 0 (ad (Pr κ).toProgram 18 11) (sp 63 [(7, .ptr 0 0 [] 0),(10, .ak 3 0 (j1 gs).length),(11, .mp 4),(12, .int a)] (uv N ls fs++[.row 35 (j1 gs), .map 3 4 es])) (bj (IL κ) 18 11 0 I n K))=(
 letI b:=AV.ptr 0 0 []
 letI c:=AV.int
 letI d:=Obj.box
 letI e:=Obj.row
 letI f:=Obj.rows
 letI g:=Dn.Obj.map
 letI h:=AV.ak
 letI m:=Pg.toProgram (Env.P (Qm κ))
 aq (decide (a>=(0:Int))) (∃(e3:TD),letI i:=bu e3.n e3.m e3.L e3.n;letI o:=AV.agg [h 1 0 e3.n,h 2 0 (List.length i)];letI j:=iA (iq e3.n e3.m e3.L e3.a);([b 0,c a],[d 145 (AV.agg [h 1 0 N,h 2 0 fs.length]),f 35 3 ls none,e 101 fs])=([b 0,c e3.a],[d 145 o,f 35 3 (dy e3.L) none,e 101 i])/\(((0:Int)<=e3.a/\e3.a<(↑(e3.n):Int))/\e3.n<=60)/\ad m 18 15=ad m 18 15/\∃(e2:AGi),letI k:=bu e2.n e2.m e2.L e2.n;letI p:=AV.agg [h 1 0 e2.n,h 2 0 (List.length k)];sp 63 [(7,b 0),(10,h 3 0 (List.length (j1 gs))),(11,AV.mp 4),(13,AV.ah 3 j),(49,AV.ah 3 j),(50,c (↑(List.length j):Int)),(51,c 0)] [d 145 o,f 35 3 (dy e3.L) none,e 101 i,e 35 (j1 gs),g 3 4 es]=sp 63 [(7,b 0),(10,h 3 0 (List.length (j1 e2.gs))),(11,AV.mp 4),(13,AV.ah 3 (iA e2.l)),(49,AV.ah 3 (iA e2.l)),(50,c (↑(List.length (iA e2.l)):Int)),(51,c (↑(e2.i):Int))] [d 145 p,f 35 3 (dy e2.L) none,e 101 k,e 35 (j1 e2.gs),g 3 4 (iz e2.done)]/\(e2.i<=e2.l.length/\e2.l.length<=60)/\aV (decide ((List.length (j1 e2.gs)+1+1)*25<=70368744177664)) (∃(e1:Hp),letI l:=bu e1.n e1.m e1.L e1.n;letI q:=AV.agg [h 1 0 e1.n,h 2 0 (List.length l)];([b 0,AV.mp 3],[d 145 p,f 35 3 (dy e2.L) none,e 101 k,g 3 4 (iz (wc e2.done (List.drop e2.i e2.l)))])=([b 0,AV.mp 3],[d 145 q,f 35 3 (dy e1.L) none,e 101 l,g 3 4 (iz e1.done)])/\(WG e1.n e1.m e1.L/\e1.n<=60)/\∃(e0:Nat),e0<n/\I e0 (sp 63 [(7,b 0),(10,h 3 0 (List.length (j1 e2.gs)+1)),(11,AV.mp 4),(12,c (gZ e1.n e1.m e1.L e1.done))] [d 145 q,f 35 3 (dy e1.L) none,e 101 l,e 35 (List.take (List.length (j1 e2.gs)) (j1 e2.gs)++[AV.ah 3 (iA e2.l)]),g 3 4 (iz e1.done)]))) (K (Exit.exit 0) (sp 63 [(10,h 0 0 (List.length (j1 gs)))] [e 35 (j1 gs)]))):=by kernel_rfl
theorem xGz κ ls es I n K:(vc (IL κ) 12 18 none 0 (ad (Pr κ).toProgram 18 11) (sp 63 [(7, .ptr 0 0 [] 0),(10, .ak 2 0 0),(11, .mp 3),(12, .int (-1))] (yi 0 ls++[.row 35 [], .map 3 4 es])) (bj (IL κ) 18 11 0 I n K))=(
 K (Exit.exit 0) (sp 63 [(10,AV.ak 0 0 0)] [Obj.row 35 []])):=by kernel_rfl
structure AGo where
 n:Nat
 m:Nat
 L:Gr
 gs:List (List Int)
 done:List Int
abbrev Ww(x:AGo):=sp 63 [(7, .ptr 0 0 [] 0),(10, .ak 3 0 (j1 x.gs).length),(11, .mp 4),(12, .int (gZ x.n x.m x.L x.done))] (qO x.n x.m x.L++[.row 35 (j1 x.gs), .map 3 4 (iz x.done)])
def Mg(x:AGo):=WG x.n x.m x.L/\x.n<=60/\x.gs.length+En x.n x.done<=x.n
def G2(x:AGo):Out (Exit×S):= .one (.exit 0,sp 63 [(10, .ak 0 0 (j1 (x.gs++ue x.n x.m x.L x.done)).length)] [.row 35 (j1 (x.gs++ue x.n x.m x.L x.done))])
theorem KS n m L a:(iq n m L a).length<=n:=CX n m L a n
theorem lGo κ:aU (IL κ) 12 18 11 (aG 0 Ww Mg G2):=by
 refine aC (fun x=>En x.n x.done) ?_;rintro⟨n,m,L,d,done⟩ K ⟨c,a,g⟩ b;simp only at c a g;rw[show(IL κ).P=Pr κ from rfl];refine Eq.mpr (xGo κ n (gZ n m L done) (dy L) (bu n m L n) d (iz done) _ _ K) ?_;simp only[G2,Out.run] at b;have e:=CI (n:=n) (m:=m) (L:=L) done;rw[ae,ap6,ap8];refine⟨fun h=>?_,fun h=>?_⟩
 ·have f:=(zA (n:=n) (m:=m) (L:=L) (done:=done) h).1
  have i:=Be (n:=n) (m:=m) (L:=L) (done:=done) h;have j:=KS n m L (gZ n m L done);rw[aq0 (by omega),aq1] at e;rw[e] at b;refine⟨⟨n,m,L,gZ n m L done,0⟩,rfl,⟨f,a⟩,rfl,⟨n,m,L,d,iq n m L (gZ n m L done),done,0⟩,rfl,⟨Nat.zero_le _,by simp only;omega⟩,?_⟩;rw[ai,ap6];refine⟨by rw[Ih];simp only;omega,⟨n,m,L,wc done (iq n m L (gZ n m L done)),0,[]⟩,rfl,⟨c,a⟩,_,i,⟨n,m,L,d++[iq n m L (gZ n m L done)],wc done (iq n m L (gZ n m L done))⟩,?_,⟨c,a,?_⟩,rfl,?_⟩
  ·rw[List.take_length]
   simp only[Ww,Qx,ar1];rfl
  ·simp only[ar1,List.length_singleton];omega
  ·simp only[G2,Out.run,List.append_assoc,List.singleton_append]
   exact b
 grind
abbrev ZC(x:RJ):=sp 63 [(7, .ptr 0 0 [] 0),(10, .ak 2 0 0),(11, .mp 3),(12, .int (-1))] (yi 0 x.ls++[.row 35 [], .map 3 4 x.es])
def SK(_:RJ):Out (Exit×S):= .one (.exit 0,sp 63 [(10, .ak 0 0 0)] [.row 35 []])
theorem lGz κ:aU (IL κ) 12 18 11 (aG 0 ZC (fun _=>True) SK):=by
 refine aC (fun _=>0) ?_;rintro⟨b,c⟩ K _ a;exact Eq.mpr (xGz _ _ _ _ _ K) a
noncomputable def Zq κ:=(IL κ).an 18 11 (rS ad7 (aG 0 Ww Mg G2) (aG 0 ZC (fun _=>True) SK))
theorem eGo κ:aE (Zq κ):=(eGi _).an (mGi _) (oY (lGo _) (lGz _))
theorem mGo κ:aj (Zq κ):=(mGi _).an (kJ aI aI)
theorem xd{ds b}(h:(lZ ds b).2=0):yr ds b:=by
 have a:=(tq.1 h).1;simp[fB] at a;refine⟨a.1.1.1,a.1.1.2,fun r c=>?_,Y5 h⟩
 grind [qv,a8,wh,dx]
theorem O1{ds b}(d:nF ds b)(h:(lZ ds b).2=0): ∀r,r∈b->C5 ds.length ds r:=by
 intro r a;have c:=rj h a;refine⟨c.1,c.2,?_,d.2.2 r a⟩;have:=(xd h).bs r a
 grind [aW]
def uQ ds a:=bif decide ((lZ ds a).2=0) then AA ds.length (sg ds a) (DW ds a) ds a else lZ ds a
def Lk ds a:=ue ds.length (sg ds a) (DW ds a) []
theorem yGr κ ds rs K:(a0 (Zq κ) 12 18 [eG ds rs] [] K)=(
 letI a:=AV.ptr 0 0 []
 letI b:=AV.int
 letI c:=AV.agg
 letI d:=Obj.box
 letI e:=Obj.row
 letI f:=Obj.rows
 letI g:=Dn.Obj.map
 letI h:=AV.ah
 letI i:=AV.ak
 letI j:=AV.mp
 letI l:=c [i 1 0 0,AV.nil]
 letI n:=Pg.toProgram (Env.P (IL κ))
 ∃(e4:B3),letI o:=lZ e4.1 e4.2;([c [h 43 ds,h 48 rs]],aL)=([c [h 43 e4.1,h 48 e4.2]],aL)/\(e4.1.length<=9223372036854775807/\e4.2.length<=9223372036854775807/\∀(e0:AV),List.Mem e0 e4.2->bk (aa (bo 38 (dk.hl (dr e0)) (dk.bl (dr e0))))<=100000/\List.length (dk.bl (dr e0))<=100000)/\aq (Prod.snd o != (0:Int)) (K (AV.aH [AV.nil,b (Prod.fst o),b (Prod.snd o)]) []) (∃(e3:B3),letI p:=DW e3.1 e3.2;letI s:=bu e3.1.length (sg e3.1 e3.2) p e3.1.length;([c [h 43 ds,h 48 rs]],aL)=([c [h 43 e3.1,h 48 e3.2]],aL)/\yr e3.1 e3.2/\aq (Nat.beq e3.1.length 0) (∃(e2:Xl),([a 0,c [h 43 ds,h 48 rs]],[d 145 (c [i 1 0 e3.1.length,AV.nil]),f 35 3 (dy p) none])=([a 0,c [h 43 e2.ds,h 48 []]],[d 145 l,f 35 3 e2.ls none])/\True/\∃(e1:RJ),([a 0,j 2],[d 145 l,f 35 3 e2.ls none,g 3 4 []])=([a 0,j 2],[d 145 l,f 35 3 e1.ls none,g 3 4 e1.es])/\True/\ad n 18 11=ad n 18 11/\∃(e0:RJ),sp 63 [(7,a 0),(10,i 2 0 0),(11,j 3),(12,b (-1))] [d 145 l,f 35 3 e1.ls none,e 35 [],g 3 4 e1.es]=sp 63 [(7,a 0),(10,i 2 0 0),(11,j 3),(12,b (-1))] [d 145 l,f 35 3 e0.ls none,e 35 [],g 3 4 e0.es]/\True/\K (AV.aH [i 0 0 0,b 0,b 0]) [e 35 []]) (∃(e2:Tg),letI q:=bu e2.n e2.m e2.L e2.n;letI t:=c [i 1 0 e2.n,i 2 0 (List.length q)];letI r:=AA e2.n e2.m e2.L e2.ds e2.rs;([a 0,c [h 43 ds,h 48 rs]],[d 145 (c [i 1 0 e3.1.length,i 2 0 (List.length s)]),f 35 3 (dy p) none,e 101 s])=([a 0,c [h 43 e2.ds,h 48 e2.rs]],[d 145 t,f 35 3 (dy e2.L) none,e 101 q])/\(e2.ds.length<=9223372036854775807/\e2.rs.length<=9223372036854775807/\∀(e0:AV),List.Mem e0 e2.rs->C5 e2.n e2.ds e0)/\aq (Prod.snd r != (0:Int)) (K (AV.aH [AV.nil,b (Prod.fst r),b (Prod.snd r)]) []) (∃(e1:Hp),letI k:=bu e1.n e1.m e1.L e1.n;letI u:=c [i 1 0 e1.n,i 2 0 (List.length k)];([a 0,j 3],[d 145 t,f 35 3 (dy e2.L) none,e 101 q,g 3 4 []])=([a 0,j 3],[d 145 u,f 35 3 (dy e1.L) none,e 101 k,g 3 4 (iz e1.done)])/\(WG e1.n e1.m e1.L/\e1.n<=60)/\ad n 18 11=ad n 18 11/\∃(e0:AGo),letI m:=j1 (e0.gs++ue e0.n e0.m e0.L e0.done);sp 63 [(7,a 0),(10,i 3 0 0),(11,j 4),(12,b (gZ e1.n e1.m e1.L e1.done))] [d 145 u,f 35 3 (dy e1.L) none,e 101 k,e 35 [],g 3 4 (iz e1.done)]=sp 63 [(7,a 0),(10,i 3 0 (List.length (j1 e0.gs))),(11,j 4),(12,b (gZ e0.n e0.m e0.L e0.done))] [d 145 (c [i 1 0 e0.n,i 2 0 (List.length (bu e0.n e0.m e0.L e0.n))]),f 35 3 (dy e0.L) none,e 101 (bu e0.n e0.m e0.L e0.n),e 35 (j1 e0.gs),g 3 4 (iz e0.done)]/\(WG e0.n e0.m e0.L/\e0.n<=60/\e0.gs.length+En e0.n e0.done<=e0.n)/\K (AV.aH [i 0 0 (List.length m),b 0,b 0]) [e 35 m])))):=by kernel_rfl
def UU(x:B3):List AV×List Dn.Obj:=([eG x.1 x.2],[])
def EU(x:B3):Prop:=nF x.1 x.2
def SS(x:B3):Out (AV×List Dn.Obj):= .aq (decide ((uQ x.1 x.2).2=0))
 (.one (.aH [.ak 0 0 (j1 (Lk x.1 x.2)).length, .int 0, .int 0],[.row 35 (j1 (Lk x.1 x.2))]))
 (.one (.aH [.nil, .int (uQ x.1 x.2).1, .int (uQ x.1 x.2).2],[]))
theorem cGr κ:bd (Zq κ) 12 18 (aO UU EU SS):=by
 refine aR ?_;rintro⟨ds,a⟩ K d b;refine Eq.mpr (yGr κ ds a K) ?_;have b:aq (decide ((uQ ds a).2=0)) (K (.aH [.ak 0 0 (j1 (Lk ds a)).length, .int 0, .int 0]) [.row 35 (j1 (Lk ds a))]) (K (.aH [.nil, .int (uQ ds a).1, .int (uQ ds a).2]) []):=b;rw[ae,ap6,ap8] at b;have d:nF ds a:=d;refine⟨(ds,a),rfl,d,?_⟩;rw[ae];by_cases c:(lZ ds a).2=0
 ·refine⟨fun e=>absurd c (by simpa using e),fun _=>⟨(ds,a),rfl,xd c,?_⟩⟩
  have f:=xd c;have i:=O1 d c;rw[show uQ ds a=AA ds.length (sg ds a) (DW ds a) ds a by unfold uQ;rw[aq2 c];rfl] at b;rw[ae];refine⟨fun e=>?_,fun e=>?_⟩
  ·obtain rfl:ds=[]:=List.eq_nil_of_length_eq_zero (Nat.eq_of_beq_eq_true e)
   obtain rfl:a=[]:=by
    cases a with
    |nil=>rfl
    |cons r a=>have:=(i r (by simp)).hd;simp only[List.length_nil] at this;omega
   refine⟨⟨dy (DW [] []),[]⟩,rfl,trivial,⟨_,[]⟩,rfl,trivial,rfl,⟨_,_⟩,rfl,trivial,?_⟩;have g:=b.1 rfl;have j:Lk [] []=[]:=by
    unfold Lk;rw[CI];rfl
   rw[j] at g;exact g
  ·refine⟨⟨ds.length,sg ds a,DW ds a,ds,a,0⟩,rfl,⟨d.1,d.2.1,i⟩,?_⟩
   rw[ae];refine⟨fun h=>b.2 (by simpa using h),fun h=>?_⟩;have g:=b.1 (by simpa using h);exact⟨⟨ds.length,sg ds a,DW ds a,[],0,[]⟩,rfl,⟨f.wg,f.hd⟩,rfl,⟨ds.length,sg ds a,DW ds a,[],[]⟩,rfl,⟨f.wg,f.hd,by simp only[List.length_nil,Nat.zero_add];exact FQ _ _⟩,g⟩
 ·rw[show uQ ds a=lZ ds a by unfold uQ;rw[aq0 c];rfl] at b
  exact⟨fun _=>b.2 c,fun e=>absurd (by simpa using e) c⟩
noncomputable def EGr κ:=(Zq κ).aw 18 (aO UU EU SS)
theorem eGr κ:aE (EGr κ):=(eGo _).aw (mGo _) (cGr _)
theorem mGr κ:aj (EGr κ):=(mGo _).aw aJ
noncomputable abbrev EHg(κ:Kp):Env:=EGr κ
theorem eHg(κ:Kp):aE (EHg κ):=eGr κ
theorem mHg(κ:Kp):aj (EHg κ):=mGr κ
end Go.Proofs.YtioeffnadipbaaaGreatDoor
namespace Go.Proofs.YtioeffnadipbaaaGreatDoor
open Go Go.Dn Go.Rl Go.Proofs
end Go.Proofs.YtioeffnadipbaaaGreatDoor
