import Derived.Test.YthaiinlfnommnaaGreatDoorDbM9
namespace Go.Proofs.YthaiinlfnommnaaGreatDoor
open Go Go.Dn Go.Rl Go.Proofs
attribute [local irreducible] a8 vc
set_option maxRecDepth 20000
theorem yMu(κ:Kp)(N:Nat)(ls:List (List Value))(fs:List AV)(a b:Int)(K:AV->List Dn.Obj->Prop):(a8 (UE κ) 12 75 [.ptr 0 0 [] 0, .int a, .int b] (tJ N ls fs) K)=(
 letI z1:=AV.agg [AV.an 1 0 N,AV.an 2 0 fs.length]
 letI z2:=AV.bool false
 aD (a==b) (K (AV.bool true) [Obj.box 122 z1,Obj.rows 38 3 ls none,Obj.row 89 fs]) (aX (decide ((0:Int)<=a)&&decide (a<(↑(fs.length):Int))) (aD
 (Dn.toBool (dp (List.zip (CX (nth fs (0+a.toNat))) (xv (nth fs (0+a.toNat)))) (Value.int IntKind.i64 b) z2)) (aX (decide ((0:Int)<=b)&&decide (b<
 (↑(fs.length):Int))) (K (AV.bool (Dn.toBool (dp (List.zip (CX (nth fs (0+b.toNat))) (xv (nth fs (0+b.toNat)))) (Value.int IntKind.i64 a) z2))) [Obj.box
 122 z1,Obj.rows 38 3 ls none,Obj.row 89 fs])) (K z2 [Obj.box 122 z1,Obj.rows 38 3 ls none,Obj.row 89 fs])))):=by kernel_rfl
theorem AA: ∀l:List Int,(l.map gq).zip (l.map fun _=>AV.lit (.bool true))=iC l
 |[]=>rfl
 |a::l=>by
  have ih:=AA l
  simp only[ac1,List.zip_cons_cons,iC] at ih⊢
  rw[ih]
theorem BZ(n m:Nat)(L:Gr)(k:Nat)(a:Int)(h0:0<=a)(h:a<k):nth (br n m L k) (0+a.toNat)=Sz (ij n m L a):=by
 rw[Nat.zero_add,bf _ _ (by rw[kF];omega)]
 simp only[br,List.getElem_map,List.getElem_range]
 rw[show((a.toNat:Nat):Int)=a by omega]
theorem GP(n m:Nat)(L:Gr)(k:Nat)(a b:Int)(h0:0<=a)(h:a<k):Dn.toBool (dp (List.zip (CX (nth (br n m L k) (0+a.toNat))) (xv (nth (br n m L k) (0+a.toNat)))) (Value.int IntKind.i64 b) (AV.lit (Value.bool false)))=(ij n m L a).contains b:=by
 rw[BZ n m L k a h0 h]
 simp only[CX,xv]
 rw[AA,ml]
 rfl
structure RX where
 n:Nat
 m:Nat
 L:Gr
 a:Int
 b:Int
abbrev nB(n m:Nat)(L:Gr):List Dn.Obj:=tJ n (dz L) (br n m L n)
def UW(x:RX):List AV×List Dn.Obj:=([.ptr 0 0 [] 0, .int x.a, .int x.b],nB x.n x.m x.L)
def LC(x:RX):Prop:=(0<=x.a/\x.a<x.n)/\0<=x.b/\x.b<x.n
def KM(x:RX):Out (AV×List Dn.Obj):= .one (.bool (gr x.n x.m x.L x.a x.b),nB x.n x.m x.L)
theorem cMu(κ:Kp):bt (UE κ) 12 75 (aL UW LC KM):=by
 refine aZ ?_
 rintro⟨n,m,L,a,b⟩ K ⟨⟨ha,ha'⟩,hb,hb'⟩ ho
 simp only at ha ha' hb hb'
 refine Eq.mpr (yMu κ n (dz L) (br n m L n) a b K) ?_
 simp only[KM,Out.run,gr,nB,tJ,kF] at ho
 rw[GP n m L n a b ha ha',GP n m L n b a hb hb',kF]
 simp only[aq,ah,aa2,aa1,beq_iff_eq,beq_eq_false_iff_ne]
 refine⟨fun e=>?_,fun e=>⟨⟨ha,ha'⟩,fun h=>⟨⟨hb,hb'⟩,?_⟩,fun h=>?_⟩⟩
 ·rw[aa7 e,Bool.true_or] at ho;exact ho
 ·rw[aa5 e,h,Bool.false_or,ac0] at ho;exact ho
 ·rw[aa5 e,h,Bool.false_or,Bool.false_and] at ho;exact ho
noncomputable def OO(κ:Kp):Env:=(UE κ).ax 75 (aL UW LC KM)
theorem eMu(κ:Kp):aB (OO κ):=(eOf κ).ax (ZM κ) (cMu κ)
theorem Zl(κ:Kp):aj (OO κ):=(ZM κ).ax aJ
theorem xGp(κ:Kp)(N i:Nat)(ls:List (List Value))(fs ws:List AV)(a:Int)(I:Nat->S->Prop)(n:Nat)(K:Exit->S->Prop):(vc (OO κ) 12 40 none 3 (af (Pr κ).toProgram 40 3) (sp 25 [(0, .ptr 0 0 [] 0),(1, .int a),(5, .an 3 0 ws.length),(11, .int N),(12, .int i)] (tJ N ls fs++[.row 3 ws])) (bK (OO κ) 40 3 3 I n K))=(
 letI z1:=IntKind.wrap IntKind.i64 ((↑i:Int)+(1:Int))
 letI z2:=AV.agg [AV.an 1 0 N,AV.an 2 0 fs.length]
 aD (decide ((↑i:Int)<(↑N:Int))) (∃(e1:RX),([AV.ptr 0 0 [] 0,AV.int a,AV.int (↑i:Int)],[Obj.box 122 z2,Obj.rows 38 3 ls none,Obj.row 89 fs])=
 ([AV.ptr 0 0 [] 0,AV.int e1.a,AV.int e1.b],[Obj.box 122 (AV.agg [AV.an 1 0 e1.n,AV.an 2 0 (List.length (br e1.n e1.m e1.L e1.n))]),Obj.rows 38 3 (dz e1.L)
 none,Obj.row 89 (br e1.n e1.m e1.L e1.n)])/\(((0:Int)<=e1.a/\e1.a<(↑(e1.n):Int))/\(0:Int)<=e1.b/\e1.b<(↑(e1.n):Int))/\aD (gr e1.n e1.m e1.L
 e1.a e1.b) (aX (decide ((ws.length+1+1)*9<=70368744177664)) (∃(e0:Nat),e0<n/\I e0 (sp 25 [(0,AV.ptr 0 0 [] 0),(1,AV.int a),(5,AV.an 3 0
 (ws.length+1)),(11,AV.int (↑N:Int)),(12,AV.int z1)] [Obj.box 122 (AV.agg [AV.an 1 0 e1.n,AV.an 2 0 (List.length (br e1.n e1.m e1.L e1.n))]),Obj.rows
 38 3 (dz e1.L) none,Obj.row 89 (br e1.n e1.m e1.L e1.n),Obj.row 3 (List.take ws.length ws++[AV.int (↑i:Int)])]))) (∃(e0:Nat),e0<n/\I e0 (sp 25 [(0,
 AV.ptr 0 0 [] 0),(1,AV.int a),(5,AV.an 3 0 ws.length),(11,AV.int (↑N:Int)),(12,AV.int z1)] [Obj.box 122 (AV.agg [AV.an 1 0 e1.n,AV.an 2 0
 (List.length (br e1.n e1.m e1.L e1.n))]),Obj.rows 38 3 (dz e1.L) none,Obj.row 89 (br e1.n e1.m e1.L e1.n),Obj.row 3 ws]))) (K (Exit.exit 0) (sp 25 [(5,AV.an
 3 0 ws.length)] [Obj.box 122 z2,Obj.rows 38 3 ls none,Obj.row 89 fs,Obj.row 3 ws]))):=by kernel_rfl
def vf(n m:Nat)(L:Gr)(a:Int)(i:Nat):List Int:=(fL i).filter (gr n m L a)
theorem Jh(n m:Nat)(L:Gr)(a:Int)(i:Nat):vf n m L a (i+1)=bif gr n m L a i then vf n m L a i++[(i:Int)] else vf n m L a i:=by
 unfold vf fL
 rw[List.range_succ,List.map_append,List.filter_append]
 cases h:gr n m L a i<;>simp[h]
theorem Dg(n m:Nat)(L:Gr)(a:Int)(i:Nat):(vf n m L a i).length<=i:=by
 have:=List.length_filter_le (gr n m L a) (fL i)
 simpa[vf,fL] using this
structure Pm where
 n:Nat
 m:Nat
 L:Gr
 a:Int
 i:Nat
abbrev Oy(x:Pm):S:=sp 25 [(0, .ptr 0 0 [] 0),(1, .int x.a),(5, .an 3 0 (iA (vf x.n x.m x.L x.a x.i)).length),(11, .int x.n),(12, .int x.i)] (nB x.n x.m x.L++[.row 3 (iA (vf x.n x.m x.L x.a x.i))])
def Jl(x:Pm):Prop:=(0<=x.a/\x.a<x.n)/\x.i<=x.n/\x.n<=60
def Pu(x:Pm):Out (Exit×S):= .one (.exit 0,sp 25 [(5, .an 3 0 (iA (dO x.n x.m x.L x.a)).length)] (nB x.n x.m x.L++[.row 3 (iA (dO x.n x.m x.L x.a))]))
theorem lGp(κ:Kp):bj (OO κ) 12 40 3 (aO 3 Oy Jl Pu):=by
 refine aK (fun x=>x.n - x.i) ?_
 rintro⟨n,m,L,a,i⟩ K ⟨ha,hi,hn⟩ ho
 simp only at ha hi hn
 rw[show(OO κ).P=Pr κ from rfl]
 refine Eq.mpr (xGp κ n i (dz L) (br n m L n) (iA (vf n m L a i)) a _ _ K) ?_
 have hl:=Dg n m L a i
 rw[ah,aa1,aa3]
 refine⟨fun h=>⟨⟨n,m,L,a,i⟩,rfl,⟨ha,by simp only;omega,h⟩,?_⟩,fun h=>?_⟩
 ·rw[aW (n:=(i:Int)+1) (by omega) (by omega),ah,aq,aa1,List.take_length]
  have hs:=Jh n m L a i
  refine⟨fun e=>⟨by rw[fo];omega,_,?_,⟨n,m,L,a,i+1⟩,?_,⟨ha,by simp only;omega,hn⟩,rfl,ho⟩,fun e=>⟨_,?_,⟨n,m,L,a,i+1⟩,?_,⟨ha,by simp only;omega,hn⟩,rfl,ho⟩⟩
  ·simp only;omega
  ·simp only at e
   rw[e,aa8] at hs
   simp only[Oy,hs,se,ab9]
   rfl
  ·simp only;omega
  ·simp only at e
   rw[e,aa6] at hs
   simp only[Oy,hs]
   rfl
 ·obtain rfl:n=i:=by omega
  exact ho
noncomputable def Tg(κ:Kp):Env:=(OO κ).ak 40 3 (aO 3 Oy Jl Pu)
theorem eGp(κ:Kp):aB (Tg κ):=(eMu κ).ak (Zl κ) (lGp κ)
theorem mGp(κ:Kp):aj (Tg κ):=(Zl κ).ak aG
theorem yGp(κ:Kp)(N:Nat)(ls:List (List Value))(fs:List AV)(a:Int)(K:AV->List Dn.Obj->Prop):(a8 (Tg κ) 12 40 [.ptr 0 0 [] 0, .int a] (tJ N ls fs) K)=(
 letI z1:=Pg.toProgram (Env.P (OO κ))
 af z1 40 3=af z1 40 3/\∃(e0:Pm),sp 25 [(0,AV.ptr 0 0 [] 0),(1,AV.int a),(5,AV.an 3 0 0),(11,AV.int (↑N:Int)),(12,AV.int 0)] [Obj.box 122
 (AV.agg [AV.an 1 0 N,AV.an 2 0 fs.length]),Obj.rows 38 3 ls none,Obj.row 89 fs,Obj.row 3 []]=sp 25 [(0,AV.ptr 0 0 [] 0),(1,AV.int e0.a),(5,AV.an 3 0
 (List.length (iA (vf e0.n e0.m e0.L e0.a e0.i)))),(11,AV.int (↑(e0.n):Int)),(12,AV.int (↑(e0.i):Int))] [Obj.box 122 (AV.agg [AV.an 1 0 e0.n,AV.an 2 0
 (List.length (br e0.n e0.m e0.L e0.n))]),Obj.rows 38 3 (dz e0.L) none,Obj.row 89 (br e0.n e0.m e0.L e0.n),Obj.row 3 (iA (vf e0.n e0.m e0.L e0.a e0.i))]/\
 (((0:Int)<=e0.a/\e0.a<(↑(e0.n):Int))/\e0.i<=e0.n/\e0.n<=60)/\K (AV.ad 3 (List.take (List.length (iA (dO e0.n e0.m e0.L e0.a))) (List.drop 0 (iA (dO
 e0.n e0.m e0.L e0.a))))) [Obj.box 122 (AV.agg [AV.an 1 0 e0.n,AV.an 2 0 (List.length (br e0.n e0.m e0.L e0.n))]),Obj.rows 38 3 (dz e0.L) none,Obj.row 89 (br
 e0.n e0.m e0.L e0.n)]):=by kernel_rfl
def Ur(x:Pm):List AV×List Dn.Obj:=([.ptr 0 0 [] 0, .int x.a],nB x.n x.m x.L)
def Jv(x:Pm):Prop:=(0<=x.a/\x.a<x.n)/\x.n<=60
def Ps(x:Pm):Out (AV×List Dn.Obj):= .one (.ad 3 (iA (dO x.n x.m x.L x.a)),nB x.n x.m x.L)
theorem cGq(κ:Kp):bt (Tg κ) 12 40 (aL Ur Jv Ps):=by
 refine aZ ?_
 rintro⟨n,m,L,a,i⟩ K ⟨ha,hn⟩ ho
 refine Eq.mpr (yGp κ n (dz L) (br n m L n) a K) ?_
 refine⟨rfl,⟨n,m,L,a,0⟩,rfl,⟨ha,Nat.zero_le _,hn⟩,?_⟩
 rw[ab1,List.take_length]
 exact ho
noncomputable def Ph(κ:Kp):Env:=(Tg κ).ax 40 (aL Ur Jv Ps)
theorem eGq(κ:Kp):aB (Ph κ):=(eGp κ).ax (mGp κ) (cGq κ)
theorem YT(κ:Kp):aj (Ph κ):=(mGp κ).ax aJ
theorem xNi(κ:Kp)(N:Nat)(a:Int)(ls:List (List Value))(fs:List AV)(es:List (Value×AV))(ks met:List Value)(vs:List AV)(I:Nat->S->Prop)(n:Nat)(K:Exit->S->Prop):(vc (Ph κ) 12 39 none 4 (af (Pr κ).toProgram 39 6) (sp 43 [(0, .ptr 0 0 [] 0),(1, .mp 3),(5, .int a),(11, .int N),(12, .int a),(25, .ptr 4 0 [] 0)] (tJ N ls fs++[.map 3 4 es, .fit 3 4 ks vs met])) (bK (Ph κ) 39 6 4 I n K))=(
 letI z1:=AV.agg [AV.an 1 0 N,AV.an 2 0 fs.length]
 (∀(e3:Int) (e2:AV),List.Mem (Value.int IntKind.i64 e3,e2) (List.zip ks vs)->j2 met (Value.int IntKind.i64 e3)=false->aD (!Dn.toBool (dp es (Value.int
 IntKind.i64 e3) (AV.bool false))) (∃(e1:RX),([AV.ptr 0 0 [] 0,AV.int a,AV.int e3],[Obj.box 122 z1,Obj.rows 38 3 ls none,Obj.row 89 fs])=([AV.ptr 0 0
 [] 0,AV.int e1.a,AV.int e1.b],[Obj.box 122 (AV.agg [AV.an 1 0 e1.n,AV.an 2 0 (List.length (br e1.n e1.m e1.L e1.n))]),Obj.rows 38 3 (dz e1.L) none,Obj.row
 89 (br e1.n e1.m e1.L e1.n)])/\(((0:Int)<=e1.a/\e1.a<(↑(e1.n):Int))/\(0:Int)<=e1.b/\e1.b<(↑(e1.n):Int))/\aD (!gr e1.n e1.m e1.L e1.a e1.b) (K
 (Exit.exit 1) (sp 43 [(0,AV.ptr 0 0 [] 0),(1,AV.mp 3),(11,AV.int (↑N:Int)),(12,AV.int a)] [Obj.box 122 (AV.agg [AV.an 1 0 e1.n,AV.an 2 0 (List.length
 (br e1.n e1.m e1.L e1.n))]),Obj.rows 38 3 (dz e1.L) none,Obj.row 89 (br e1.n e1.m e1.L e1.n),Dn.Obj.map 3 4 es])) (∃(e0:Nat),e0<n/\I e0 (sp 43 [(0,
 AV.ptr 0 0 [] 0),(1,AV.mp 3),(5,AV.int a),(11,AV.int (↑N:Int)),(12,AV.int a),(25,AV.ptr 4 0 [] 0)] [Obj.box 122 (AV.agg [AV.an 1 0 e1.n,AV.an 2 0
 (List.length (br e1.n e1.m e1.L e1.n))]),Obj.rows 38 3 (dz e1.L) none,Obj.row 89 (br e1.n e1.m e1.L e1.n),Dn.Obj.map 3 4 es,Obj.fit 3 4 ks vs (Value.int
 IntKind.i64 e3::met)]))) (∃(e0:Nat),e0<n/\I e0 (sp 43 [(0,AV.ptr 0 0 [] 0),(1,AV.mp 3),(5,AV.int a),(11,AV.int (↑N:Int)),(12,AV.int a),(25,
 AV.ptr 4 0 [] 0)] [Obj.box 122 z1,Obj.rows 38 3 ls none,Obj.row 89 fs,Dn.Obj.map 3 4 es,Obj.fit 3 4 ks vs (Value.int IntKind.i64 e3::met)])))/\(kc met
 (List.zip ks vs)=true->K (Exit.exit 2) (sp 43 [(5,AV.int a)] [Obj.box 122 z1,Obj.rows 38 3 ls none,Obj.row 89 fs,Dn.Obj.map 3 4 es]))):=by kernel_rfl
theorem IZ(n i:Nat)(h:i<n):(fL n).drop i=(i:Int)::(fL n).drop (i+1):=by
 rw[ab2 (by simpa[fL] using h)]
 congr 1
 simp[fL]
def xy(n m:Nat)(L:Gr)(done:List Int)(i:Nat):Int:=(((fL n).drop i).find? (fV n m L done)).getD (-1)
theorem I8{n:Nat}(m:Nat)(L:Gr)(done:List Int){i:Nat}(h:i<n):xy n m L done i=bif fV n m L done i then(i:Int) else xy n m L done (i+1):=by
 unfold xy
 rw[IZ n i h,List.find?_cons]
 cases fV n m L done i<;>rfl
theorem K5(n m:Nat)(L:Gr)(done:List Int):xy n m L done n= -1:=by
 unfold xy
 rw[aa9 (by simp[fL])];rfl
structure HA where
 n:Nat
 m:Nat
 L:Gr
 done:List Int
 i:Nat
 met:List Value
def ve(x:HA):Bool:=(ij x.n x.m x.L x.i).all fun b=>x.done.contains b||gr x.n x.m x.L x.i b
abbrev Nz(x:HA):S:=sp 43 [(0, .ptr 0 0 [] 0),(1, .mp 3),(5, .int x.i),(11, .int x.n),(12, .int x.i),(25, .ptr 4 0 [] 0)] (nB x.n x.m x.L++[.map 3 4 (iC x.done), .fit 3 4 ((ij x.n x.m x.L x.i).map gq) ((ij x.n x.m x.L x.i).map fun _=> .lit (.bool true)) x.met])
def Ec(x:HA):Prop:=WG x.n x.m x.L/\x.i<x.n/\∀b:Int,j2 x.met (gq b)=true->b∈ij x.n x.m x.L x.i->(x.done.contains b||gr x.n x.m x.L x.i b)=true
def Gl(x:HA):Out (Exit×S):= .aD (ve x)
 (.one (.exit 2,sp 43 [(5, .int x.i)] (nB x.n x.m x.L++[.map 3 4 (iC x.done)])))
 (.one (.exit 1,sp 43 [(0, .ptr 0 0 [] 0),(1, .mp 3),(11, .int x.n),(12, .int x.i)] (nB x.n x.m x.L++[.map 3 4 (iC x.done)])))
theorem wC(c b:Int)(met:List Value):j2 (gq c::met) (gq b)=(decide (c=b)||j2 met (gq b)):=by
 simp only[j2,di,gq]
 by_cases h:c=b
 ·subst h;simp
 ·rw[aa5 h];simp[h]
theorem Bq: ∀{l:List Int} {met:List Value},kc met (iC l)=true->∀b,b∈l->j2 met (gq b)=true
 |[],_,_,b,hb=>nomatch hb
 |a::l,met,h,b,hb=>by
  simp only[iC,ac1,kc,aa2] at h
  rcases List.mem_cons.1 hb with rfl|hb
  ·exact h.1
  ·exact Bq (l:=l) h.2 b hb
theorem Nn{x:Int}{v:AV}{l:List Int}(h:(gq x,v)∈iC l):x∈l:=by
 obtain⟨k,h1,h2⟩:=List.mem_map.1 h
 cases h2;exact h1
theorem lNi(κ:Kp):bj (Ph κ) 12 39 6 (aO 4 Nz Ec Gl):=by
 refine aK (fun x=>(ij x.n x.m x.L x.i).countP fun b=>!j2 x.met (gq b)) ?_
 rintro⟨n,m,L,done,i,met⟩ K ⟨hG,hi,hm⟩ ho
 simp only at hG hi hm
 rw[show(Ph κ).P=Pr κ from rfl]
 refine Eq.mpr (xNi κ n i (dz L) (br n m L n) (iC done) ((ij n m L i).map gq) met ((ij n m L i).map fun _=> .lit (.bool true)) _ _ K) ?_
 have hi0:(0:Int)<=i:=by omega
 have ho2:=ho
 simp only[Gl,Out.run,ah] at ho2
 rw[AA]
 refine⟨fun b v hbv hb=>?_,fun hs=>?_⟩
 ·have hf:b∈ij n m L i:=Nn hbv
  have hr:=Rc.ke hG hi0 ((ll hG hi0).1 hf)
  have hn:(done.contains b||gr n m L i b)=true->∃k,k<(ij n m L i).countP (fun b=>!j2 met (gq b))/\fq Nz Ec Gl (fun x=>(ij x.n x.m x.L x.i).countP fun b=>!j2 x.met (gq b)) K k (Nz ⟨n,m,L,done,i,gq b::met⟩):=fun hok=>by
   refine⟨_,?_,⟨n,m,L,done,i,gq b::met⟩,rfl,⟨hG,hi,fun c hc hcf=>?_⟩,rfl,ho⟩
   ·refine mc (fun c _ hc=>?_) ⟨b,hf,?_,?_⟩
    ·rw[wC] at hc
     cases h:j2 met (gq c) with
     |true=>rw[h] at hc;simp at hc
     |false=>rfl
    ·simp only[gq] at hb⊢;rw[hb];rfl
    ·rw[wC];simp
   ·rw[wC] at hc
    by_cases e:b=c
    ·subst e;exact hok
    ·rw[aa5 e,Bool.false_or] at hc
     exact hm c hc hcf
  have hg:Dn.toBool (dp (iC done) (Value.int IntKind.i64 b) (AV.lit (Value.bool false)))=done.contains b:=by rw[ml];rfl
  rw[hg]
  simp only[ah]
  refine⟨fun e=>⟨⟨n,m,L,i,b⟩,rfl,⟨⟨hi0,by simp only;omega⟩,hr⟩,fun e2=>?_,fun e2=>?_⟩,fun e=>?_⟩
  ·have h1:ve ⟨n,m,L,done,i,met⟩=false:=by
    rw[←Bool.not_eq_true,ve,List.all_eq_true]
    intro h
    have:=h b hf
    simp only at this e2 e
    rw[ab6] at this
    rcases this with h|h
    ·rw[h] at e;cases e
    ·rw[h] at e2;cases e2
   exact ho2.2 h1
  ·exact hn (by simp only at e2⊢;rw[ab6];right;simpa using e2)
  ·exact hn (by rw[ab6];left;simpa using e)
 ·have h1:ve ⟨n,m,L,done,i,met⟩=true:=by
   rw[ve,List.all_eq_true]
   exact fun b hb=>hm b (Bq hs b hb) hb
  exact ho2.1 h1
noncomputable def Ft(κ:Kp):Env:=(Ph κ).ak 39 6 (aO 4 Nz Ec Gl)
theorem eNi(κ:Kp):aB (Ft κ):=(eGq κ).ak (YT κ) (lNi κ)
theorem Zn(κ:Kp):aj (Ft κ):=(YT κ).ak aG
theorem xNx(κ:Kp)(N i:Nat)(ls:List (List Value))(fs:List AV)(es:List (Value×AV))(I:Nat->S->Prop)(n:Nat)(K:Exit->S->Prop):(vc (Ft κ) 12 39 none 4 (af (Pr κ).toProgram 39 2) (sp 43 [(0, .ptr 0 0 [] 0),(1, .mp 3),(11, .int N),(12, .int i)] (tJ N ls fs++[.map 3 4 es])) (bK (Ft κ) 39 2 4 I n K))=(
 letI z1:=AV.agg [AV.an 1 0 N,AV.an 2 0 fs.length]
 letI z2:=Pg.toProgram (Env.P (Ph κ))
 aD (decide ((↑i:Int)<(↑N:Int))) (aD (Dn.toBool (dp es (Value.int IntKind.i64 (↑i:Int)) (AV.bool false))) (∃(e0:Nat),e0<n/\I e0 (sp 43 [(0,AV.ptr
 0 0 [] 0),(1,AV.mp 3),(11,AV.int (↑N:Int)),(12,AV.int (IntKind.wrap IntKind.i64 ((↑i:Int)+(1:Int))))] [Obj.box 122 z1,Obj.rows 38 3 ls none,
 Obj.row 89 fs,Dn.Obj.map 3 4 es])) (aX (true&&decide ((↑i:Int)<(↑(fs.length):Int))) (af z2 39 6=af z2 39 6/\∃(e1:HA),sp 43 [(0,AV.ptr 0 0 []
 0),(1,AV.mp 3),(5,AV.int (↑i:Int)),(11,AV.int (↑N:Int)),(12,AV.int (↑i:Int)),(25,AV.ptr 4 0 [] 0)] [Obj.box 122 z1,Obj.rows 38 3 ls none,
 Obj.row 89 fs,Dn.Obj.map 3 4 es,Obj.fit 3 4 (CX (nth fs (0+Int.toNat (↑i:Int)))) (xv (nth fs (0+Int.toNat (↑i:Int)))) []]=sp 43 [(0,AV.ptr 0 0 []
 0),(1,AV.mp 3),(5,AV.int (↑(e1.i):Int)),(11,AV.int (↑(e1.n):Int)),(12,AV.int (↑(e1.i):Int)),(25,AV.ptr 4 0 [] 0)] [Obj.box 122 (AV.agg [AV.an 1
 0 e1.n,AV.an 2 0 (List.length (br e1.n e1.m e1.L e1.n))]),Obj.rows 38 3 (dz e1.L) none,Obj.row 89 (br e1.n e1.m e1.L e1.n),Dn.Obj.map 3 4 (iC e1.done),
 Obj.fit 3 4 (List.map gq (ij e1.n e1.m e1.L (↑(e1.i):Int))) (List.map (fun(e0:Int)=>AV.bool true) (ij e1.n e1.m e1.L (↑(e1.i):Int))) e1.met]/\(WG e1.n
 e1.m e1.L/\e1.i<e1.n/\∀(e0:Int),j2 e1.met (Value.int IntKind.i64 e0)=true->List.Mem e0 (ij e1.n e1.m e1.L (↑(e1.i):Int))->(List.contains e1.done
 e0||gr e1.n e1.m e1.L (↑(e1.i):Int) e0)=true)/\aD (ve e1) (K Exit.ret (sp 43 [(4,AV.int (↑(e1.i):Int))] [Obj.box 122 (AV.agg [AV.an 1 0 e1.n,AV.an 2
 0 (List.length (br e1.n e1.m e1.L e1.n))]),Obj.rows 38 3 (dz e1.L) none,Obj.row 89 (br e1.n e1.m e1.L e1.n),Dn.Obj.map 3 4 (iC e1.done)])) (∃(e0:Nat),e0
 <n/\I e0 (sp 43 [(0,AV.ptr 0 0 [] 0),(1,AV.mp 3),(11,AV.int (↑(e1.n):Int)),(12,AV.int (IntKind.wrap IntKind.i64 ((↑(e1.i):Int)+(1:Int))))]
 [Obj.box 122 (AV.agg [AV.an 1 0 e1.n,AV.an 2 0 (List.length (br e1.n e1.m e1.L e1.n))]),Obj.rows 38 3 (dz e1.L) none,Obj.row 89 (br e1.n e1.m e1.L e1.n),
 Dn.Obj.map 3 4 (iC e1.done)]))))) (K (Exit.exit 0) (sp 43 [] [Obj.box 122 z1,Obj.rows 38 3 ls none,Obj.row 89 fs,Dn.Obj.map 3 4 es]))):=by kernel_rfl
abbrev NO(x:HA):S:=sp 43 [(0, .ptr 0 0 [] 0),(1, .mp 3),(11, .int x.n),(12, .int x.i)] (nB x.n x.m x.L++[.map 3 4 (iC x.done)])
def Ee(x:HA):Prop:=WG x.n x.m x.L/\x.i<=x.n/\x.n<=60
def CR(x:HA):Out (Exit×S):= .aD (decide (xy x.n x.m x.L x.done x.i<0))
 (.one (.exit 0,sp 43 [] (nB x.n x.m x.L++[.map 3 4 (iC x.done)])))
 (.one (.ret,sp 43 [(4, .int (xy x.n x.m x.L x.done x.i))] (nB x.n x.m x.L++[.map 3 4 (iC x.done)])))
theorem zh(n m:Nat)(L:Gr)(done:List Int)(i:Nat)(met:List Value):fV n m L done i=(!done.contains (i:Int)&&ve ⟨n,m,L,done,i,met⟩):=rfl
theorem lNx(κ:Kp):bj (Ft κ) 12 39 2 (aO 4 NO Ee CR):=by
 refine aK (fun x=>x.n - x.i) ?_
 rintro⟨n,m,L,done,i,met⟩ K ⟨hG,hi,hn⟩ ho
 simp only at hG hi hn
 rw[show(Ft κ).P=Pr κ from rfl]
 refine Eq.mpr (xNx κ n i (dz L) (br n m L n) (iC done) _ _ K) ?_
 have ho2:=ho
 simp only[CR,Out.run,ah] at ho2
 have hg:Dn.toBool (dp (iC done) (Value.int IntKind.i64 i) (AV.lit (Value.bool false)))=done.contains (i:Int):=by rw[ml];rfl
 rw[hg,ah,aa1,aa3]
 refine⟨fun h=>?_,fun h=>?_⟩
 ·have hi':i<n:=by omega
  have hs:=I8 m L done hi'
  have next:fV n m L done i=false->∃k,k<n - i/\fq NO Ee CR (fun x=>x.n - x.i) K k (NO ⟨n,m,L,done,i+1,[]⟩):=fun e=>by
   rw[e,aa6] at hs
   refine⟨_,?_,⟨n,m,L,done,i+1,[]⟩,rfl,⟨hG,hi',hn⟩,rfl,?_⟩
   ·simp only;omega
   ·simp only[CR,Out.run,←hs];exact ho
  rw[ah]
  refine⟨fun e=>?_,fun e=>?_⟩
  ·rw[aW (n:=(i:Int)+1) (by omega) (by omega)]
   exact next (by rw[zh n m L done i [],e];rfl)
  ·rw[aq,ac0,aa1,kF,BZ n m L n i (by omega) h]
   refine⟨h,rfl,⟨n,m,L,done,i,[]⟩,?_,⟨hG,hi',fun b hb=>(nomatch hb)⟩,?_⟩
   ·simp only[kF]
    rfl
   ·rw[ah]
    refine⟨fun e2=>?_,fun e2=>?_⟩
    ·have hf:fV n m L done i=true:=by rw[zh n m L done i [],e,e2];rfl
     rw[hf,aa8] at hs
     have:=ho2.2 (by rw[hs,aa3];omega)
     rw[hs] at this
     exact this
    ·rw[aW (n:=(i:Int)+1) (by omega) (by omega)]
     exact next (by rw[zh n m L done i [],e2,Bool.and_false])
 ·obtain rfl:i=n:=by omega
  rw[K5] at ho2
  exact ho2.1 rfl
theorem xNz(κ:Kp)(ls:List (List Value))(es:List (Value×AV))(I:Nat->S->Prop)(n:Nat)(K:Exit->S->Prop):(vc (Ft κ) 12 39 none 3 (af (Pr κ).toProgram 39 2) (sp 43 [(0, .ptr 0 0 [] 0),(1, .mp 2),(11, .int 0),(12, .int 0)] (xn 0 ls++[.map 3 4 es])) (bK (Ft κ) 39 2 3 I n K))=(
 K (Exit.exit 0) (sp 43 [] [Obj.box 122 (AV.agg [AV.an 1 0 0,AV.nil]),Obj.rows 38 3 ls none,Dn.Obj.map 3 4 es])):=by kernel_rfl
structure Ns where
 ls:List (List Value)
 es:List (Value×AV)
abbrev Ti(x:Ns):S:=sp 43 [(0, .ptr 0 0 [] 0),(1, .mp 2),(11, .int 0),(12, .int 0)] (xn 0 x.ls++[.map 3 4 x.es])
def Qg(x:Ns):Out (Exit×S):= .one (.exit 0,sp 43 [] (xn 0 x.ls++[.map 3 4 x.es]))
theorem lNz(κ:Kp):bj (Ft κ) 12 39 2 (aO 3 Ti (fun _=>True) Qg):=by
 refine aK (fun _=>0) ?_
 rintro⟨ls,es⟩ K _ ho
 rw[show(Ft κ).P=Pr κ from rfl]
 exact Eq.mpr (xNz κ ls es _ _ K) ho
def UL(s:S):Bool:=Nat.beq s.st.length 4
noncomputable def RL(κ:Kp):Env:=(Ft κ).ak 39 2 (qu UL (aO 4 NO Ee CR) (aO 3 Ti (fun _=>True) Qg))
theorem eNx(κ:Kp):aB (RL κ):=(eNi κ).ak (Zn κ) (nz (lNx κ) (lNz κ))
theorem YE(κ:Kp):aj (RL κ):=(Zn κ).ak (kU aG aG)
theorem yNx(κ:Kp)(N:Nat)(ls:List (List Value))(fs:List AV)(es:List (Value×AV))(K:AV->List Dn.Obj->Prop):(a8 (RL κ) 12 39 [.ptr 0 0 [] 0, .mp 3] (tJ N ls fs++[.map 3 4 es]) K)=(
 af (Pg.toProgram (Env.P (Ft κ))) 39 2=af (Pg.toProgram (Env.P (Ft κ))) 39 2/\∃(a:HA),sp 43 [(0,AV.ptr 0 0 [] 0),(1,AV.mp 3),(11,AV.int
 (↑N:Int)),(12,AV.int 0)] [Obj.box 122 (AV.agg [AV.an 1 0 N,AV.an 2 0 fs.length]),Obj.rows 38 3 ls none,Obj.row 89 fs,Dn.Obj.map 3 4 es]=sp 43 [(0,
 AV.ptr 0 0 [] 0),(1,AV.mp 3),(11,AV.int (↑(a.n):Int)),(12,AV.int (↑(a.i):Int))] [Obj.box 122 (AV.agg [AV.an 1 0 a.n,AV.an 2 0 (List.length (br
 a.n a.m a.L a.n))]),Obj.rows 38 3 (dz a.L) none,Obj.row 89 (br a.n a.m a.L a.n),Dn.Obj.map 3 4 (iC a.done)]/\(WG a.n a.m a.L/\a.i<=a.n/\a.n<=60)/\
 aD (decide (xy a.n a.m a.L a.done a.i<(0:Int))) (K (AV.int (-1)) [Obj.box 122 (AV.agg [AV.an 1 0 a.n,AV.an 2 0 (List.length (br a.n a.m a.L
 a.n))]),Obj.rows 38 3 (dz a.L) none,Obj.row 89 (br a.n a.m a.L a.n),Dn.Obj.map 3 4 (iC a.done)]) (K (AV.int (xy a.n a.m a.L a.done a.i)) [Obj.box 122
 (AV.agg [AV.an 1 0 a.n,AV.an 2 0 (List.length (br a.n a.m a.L a.n))]),Obj.rows 38 3 (dz a.L) none,Obj.row 89 (br a.n a.m a.L a.n),Dn.Obj.map 3 4
 (iC a.done)])):=by kernel_rfl
def U4(x:HA):List AV×List Dn.Obj:=([.ptr 0 0 [] 0, .mp 3],nB x.n x.m x.L++[.map 3 4 (iC x.done)])
def KL(x:HA):Prop:=WG x.n x.m x.L/\x.n<=60
def LZ(x:HA):Out (AV×List Dn.Obj):= .one (.int (dw x.n x.m x.L x.done),nB x.n x.m x.L++[.map 3 4 (iC x.done)])
theorem Oz(n m:Nat)(L:Gr)(done:List Int)(h:dw n m L done<0):dw n m L done= -1:=by
 unfold dw at h⊢
 cases e:(fL n).find? (fV n m L done) with
 |none=>rfl
 |some a=>
  rw[e] at h
  have:=(fy.1 (List.mem_of_find?_eq_some e)).1
  simp only[Option.getD_some] at h;omega
theorem cNy(κ:Kp):bt (RL κ) 12 39 (aL U4 KL LZ):=by
 refine aZ ?_
 rintro⟨n,m,L,done,i,met⟩ K ⟨hG,hn⟩ ho
 refine Eq.mpr (yNx κ n (dz L) (br n m L n) (iC done) K) ?_
 refine⟨rfl,⟨n,m,L,done,0,[]⟩,rfl,⟨hG,Nat.zero_le _,hn⟩,?_⟩
 simp only[LZ,Out.run] at ho
 rw[show xy n m L done 0=dw n m L done from rfl,ah]
 refine⟨fun e=>?_,fun _=>ho⟩
 rw[Oz n m L done (of_decide_eq_true e)] at ho
 exact ho
theorem yNz(κ:Kp)(ls:List (List Value))(es:List (Value×AV))(K:AV->List Dn.Obj->Prop):(a8 (RL κ) 12 39 [.ptr 0 0 [] 0, .mp 2] (xn 0 ls++[.map 3 4 es]) K)=(
 letI z1:=AV.agg [AV.an 1 0 0,AV.nil]
 letI z2:=Pg.toProgram (Env.P (Ft κ))
 af z2 39 2=af z2 39 2/\∃(e0:Ns),sp 43 [(0,AV.ptr 0 0 [] 0),(1,AV.mp 2),(11,AV.int 0),(12,AV.int 0)] [Obj.box 122 z1,Obj.rows 38 3 ls none,
 Dn.Obj.map 3 4 es]=sp 43 [(0,AV.ptr 0 0 [] 0),(1,AV.mp 2),(11,AV.int 0),(12,AV.int 0)] [Obj.box 122 z1,Obj.rows 38 3 e0.ls none,Dn.Obj.map 3 4 e0.es]
 /\True/\K (AV.int (-1)) [Obj.box 122 z1,Obj.rows 38 3 e0.ls none,Dn.Obj.map 3 4 e0.es]):=by kernel_rfl
def S5(x:Ns):List AV×List Dn.Obj:=([.ptr 0 0 [] 0, .mp 2],xn 0 x.ls++[.map 3 4 x.es])
def PY(x:Ns):Out (AV×List Dn.Obj):= .one (.int (-1),xn 0 x.ls++[.map 3 4 x.es])
theorem cNw(κ:Kp):bt (RL κ) 12 39 (aL S5 (fun _=>True) PY):=by
 refine aZ ?_
 rintro⟨ls,es⟩ K _ ho
 refine Eq.mpr (yNz κ ls es K) ?_
 exact⟨rfl,⟨ls,es⟩,rfl,trivial,ho⟩
def Tl(st:List Dn.Obj):Bool:=Nat.beq st.length 4
noncomputable def SW(κ:Kp):Env:=(RL κ).ax 39 (EX Tl (aL U4 KL LZ) (aL S5 (fun _=>True) PY))
theorem eNy(κ:Kp):aB (SW κ):=(eNx κ).ax (YE κ) (A5 (cNy κ) (cNw κ))
theorem ZR(κ:Kp):aj (SW κ):=(YE κ).ax (rW aJ aJ)
def Pc(op:Int):List AV×List Dn.Obj:=([.int op],[])
def Kx(op:Int):Out (AV×List Dn.Obj):= .one (.bool (fZ op),[])
def KB(op:Int):Out (AV×List Dn.Obj):= .one (.bool (jb op),[])
def y0(_:Int):Prop:=True
theorem yIa(κ:Kp)(op:Int)(K:AV->List Dn.Obj->Prop):(a8 (SW κ) 12 44 [.int op] [] K)=(
 K (AV.bool (op==(1:Int))) []):=by kernel_rfl
theorem cIa(κ:Kp):bt (SW κ) 12 44 (aL Pc y0 Kx):=by
 refine aZ ?_
 rintro op K _ ho
 refine Eq.mpr (yIa κ op K) ?_
 simp only[Kx,Out.run,fZ] at ho
 rw[Qi];exact ho
noncomputable def Vo(κ:Kp):Env:=(SW κ).ax 44 (aL Pc y0 Kx)
theorem eIa(κ:Kp):aB (Vo κ):=(eNy κ).ax (ZR κ) (cIa κ)
theorem Y4(κ:Kp):aj (Vo κ):=(ZR κ).ax aJ
theorem yIb(κ:Kp)(op:Int)(K:AV->List Dn.Obj->Prop):(a8 (Vo κ) 12 73 [.int op] [] K)=(
 aD (op==(2:Int)) (K (AV.bool true) []) (K (AV.bool (decide (op>=(7:Int)))) [])):=by kernel_rfl
theorem cIb(κ:Kp):bt (Vo κ) 12 73 (aL Pc y0 KB):=by
 refine aZ ?_
 rintro op K _ ho
 refine Eq.mpr (yIb κ op K) ?_
 simp only[KB,Out.run,jb] at ho
 rw[Qi]
 cases h:decide (op=2)<;>rw[h] at ho<;>exact ho
noncomputable def EL(κ:Kp):Env:=(Vo κ).ax 73 (aL Pc y0 KB)
theorem eIb(κ:Kp):aB (EL κ):=(eIa κ).ax (Y4 κ) (cIb κ)
theorem YX(κ:Kp):aj (EL κ):=(Y4 κ).ax aJ
structure A6 where
 n:Nat
 m:Nat
 L:Gr
 ds:List AV
 rs:List AV
 a:cm
 h:Int
def jh(isf:Int->Bool)(n m:Nat)(L:Gr)(ds:List AV)(h:Int)(bl:List AV):Bool:=bl.any fun l=>isf (toInt (ae l 0))&&gr n m L h (bw (toStr (ae (ae l 1) 0)) ds)
def rN(isf:Int->Bool)(x:A6):Prop:=(0<=x.h/\x.h<x.n)/\x.ds.length<=aR/\x.a.bl.length<=aR/\0<=x.a.i/\x.a.i<=x.a.bl.length/\∀l,l∈x.a.bl->isf (toInt (ae l 0))=true->0<=bw (toStr (ae (ae l 1) 0)) x.ds/\bw (toStr (ae (ae l 1) 0)) x.ds<x.n
def zd(isf:Int->Bool)(x:A6):Prop:=x.h=bw x.a.rel x.ds/\(0<=x.h/\x.h<x.n)/\x.ds.length<=aR/\x.a.bl.length<=aR/\∀l,l∈x.a.bl->isf (toInt (ae l 0))=true->0<=bw (toStr (ae (ae l 1) 0)) x.ds/\bw (toStr (ae (ae l 1) 0)) x.ds<x.n
theorem xAa(κ:Kp)(N:Nat)(ls:List (List Value))(ds rs fs:List AV)(a:cm)(h:Int)(I:Nat->S->Prop)(n:Nat)(K:Exit->S->Prop):(vc (EL κ) 12 128 none 8 (af (Pr κ).toProgram 128 2) (sp 19 [(0, .ad 72 a.bl),(1, .bL 80 [.ptr 4 0 [] 0, .ptr 6 0 [] 0, .ptr 3 0 [] 0, .ptr 7 0 [] 0]),(7, .int a.bl.length),(8, .int a.i)] (tJ N ls fs++[.box 87 (.ptr 0 0 [] 0), .box 25 (gJ ds rs), .box 66 (ar a), .box 94 (.bL 44 []), .box 3 (.int h)])) (bK (EL κ) 128 2 8 I n K))=(
 letI z1:=AV.agg [AV.ad 61 ds,AV.ad 66 rs]
 letI z2:=AV.agg [AV.an 1 0 N,AV.an 2 0 fs.length]
 letI z3:=AV.ptr 0 0 [] 0
 letI z4:=IntKind.wrap IntKind.i64 (a.i+(1:Int))
 letI z5:=a.bl.length
 letI z6:=AV.bL 44 []
 aD (decide (a.i<(↑z5:Int))) (aX (decide ((0:Int)<=a.i)&&decide (a.i<(↑z5:Int))) (∃(e3:List AV×ByteArray),([AV.ad 61 ds,AV.str (toStr (ae (ae
 (nth a.bl a.i.toNat) 1) 0))],aI)=([AV.ad 61 e3.1,AV.str e3.2],aI)/\gK e3/\∃(e2:Int),([AV.int (toInt (ae (nth a.bl a.i.toNat) 0))],aI)=([AV.int
 e2],aI)/\True/\aD (fZ e2) (∃(e1:RX),([AV.ptr 0 0 [] 0,AV.int h,AV.int (bw e3.2 e3.1)],[Obj.box 122 z2,Obj.rows 38 3 ls none,Obj.row 89 fs])=
 ([AV.ptr 0 0 [] 0,AV.int e1.a,AV.int e1.b],[Obj.box 122 (AV.agg [AV.an 1 0 e1.n,AV.an 2 0 (List.length (br e1.n e1.m e1.L e1.n))]),Obj.rows 38 3 (dz e1.L)
 none,Obj.row 89 (br e1.n e1.m e1.L e1.n)])/\(((0:Int)<=e1.a/\e1.a<(↑(e1.n):Int))/\(0:Int)<=e1.b/\e1.b<(↑(e1.n):Int))/\aD (gr e1.n e1.m e1.L
 e1.a e1.b) (K Exit.ret (sp 19 [(4,AV.int a.i)] [Obj.box 122 (AV.agg [AV.an 1 0 e1.n,AV.an 2 0 (List.length (br e1.n e1.m e1.L e1.n))]),Obj.rows 38 3 (dz
 e1.L) none,Obj.row 89 (br e1.n e1.m e1.L e1.n),Obj.box 87 z3,Obj.box 25 z1,Obj.box 66 (ar a),Obj.box 94 z6,Obj.box 3 (AV.int h)])) (∃(e0:Nat),e0<n/\
 I e0 (sp 19 [(0,AV.ad 72 a.bl),(1,AV.bL 80 [AV.ptr 4 0 [] 0,AV.ptr 6 0 [] 0,AV.ptr 3 0 [] 0,AV.ptr 7 0 [] 0]),(7,AV.int (↑z5:Int)),(8,AV.int z4)]
 [Obj.box 122 (AV.agg [AV.an 1 0 e1.n,AV.an 2 0 (List.length (br e1.n e1.m e1.L e1.n))]),Obj.rows 38 3 (dz e1.L) none,Obj.row 89 (br e1.n e1.m e1.L e1.n),
 Obj.box 87 z3,Obj.box 25 z1,Obj.box 66 (ar a),Obj.box 94 z6,Obj.box 3 (AV.int h)]))) (∃(e0:Nat),e0<n/\I e0 (sp 19 [(0,AV.ad 72 a.bl),(1,AV.bL 80
 [AV.ptr 4 0 [] 0,AV.ptr 6 0 [] 0,AV.ptr 3 0 [] 0,AV.ptr 7 0 [] 0]),(7,AV.int (↑z5:Int)),(8,AV.int z4)] [Obj.box 122 z2,Obj.rows 38 3 ls none,Obj.row
 89 fs,Obj.box 87 z3,Obj.box 25 z1,Obj.box 66 (ar a),Obj.box 94 z6,Obj.box 3 (AV.int h)])))) (K (Exit.exit 0) (sp 19 [] [Obj.box 122 z2,Obj.rows 38 3 ls
 none,Obj.row 89 fs,Obj.box 87 z3,Obj.box 25 z1,Obj.box 66 (ar a),Obj.box 94 z6,Obj.box 3 (AV.int h)]))):=by kernel_rfl
abbrev Oh(x:A6):S:=(sp 19 [(0, .ad 72 x.a.bl),(1, .bL 80 [.ptr 4 0 [] 0, .ptr 6 0 [] 0, .ptr 3 0 [] 0, .ptr 7 0 [] 0]),(7, .int x.a.bl.length),(8, .int x.a.i)] (tJ x.n (dz x.L) (br x.n x.m x.L x.n)++[.box 87 (.ptr 0 0 [] 0), .box 25 (gJ x.ds x.rs), .box 66 (ar x.a), .box 94 (.bL 44 []), .box 3 (.int x.h)]))
def Gf(x:A6):Out (Exit×S):= .all (fun j:Int=>0<=j) fun j=> .aD (jh fZ x.n x.m x.L x.ds x.h (x.a.bl.drop x.a.i.toNat))
 (.one (.ret,sp 19 [(4, .int j)] (nB x.n x.m x.L++[.box 87 (.ptr 0 0 [] 0), .box 25 (gJ x.ds x.rs), .box 66 (ar x.a), .box 94 (.bL 44 []), .box 3 (.int x.h)])))
 (.one (.exit 0,sp 19 [] (nB x.n x.m x.L++[.box 87 (.ptr 0 0 [] 0), .box 25 (gJ x.ds x.rs), .box 66 (ar x.a), .box 94 (.bL 44 []), .box 3 (.int x.h)])))
theorem lAa(κ:Kp):bj (EL κ) 12 128 2 (aO 8 Oh (rN fZ) Gf):=by
 refine aK (fun x=>x.a.bl.length - x.a.i.toNat) ?_
 rintro⟨n,m,L,ds,rs,⟨xs,more,rel,hl,bl,line,i⟩,h⟩ K ⟨hh,hd,hb,h0,h1,hm⟩ ho
 simp only at hh hd hb h0 h1 hm
 rw[show(EL κ).P=Pr κ from rfl]
 refine Eq.mpr (xAa κ n (dz L) ds rs (br n m L n) ⟨xs,more,rel,hl,bl,line,i⟩ h _ _ K) ?_
 simp only[aR] at hb
 rw[ah,aq,aa2,aa1,aa1,aa3]
 refine⟨fun hi=>⟨⟨h0,hi⟩,(ds,toStr (ae (ae (nth bl i.toNat) 1) 0)),rfl,hd,toInt (ae (nth bl i.toNat) 0),rfl,trivial,?_⟩,fun hi=>?_⟩
 ·have hi:i<(bl.length:Int):=hi
  have hk:i.toNat<bl.length:=by omega
  have hx:nth bl i.toNat∈bl:=by rw[bf _ _ hk];exact List.getElem_mem _
  have hs:jh fZ n m L ds h (bl.drop i.toNat)=((fZ (toInt (ae (nth bl i.toNat) 0))&&gr n m L h (bw (toStr (ae (ae (nth bl i.toNat) 1) 0)) ds))||jh fZ n m L ds h (bl.drop (i.toNat+1))):=by
   rw[ab2 hk,←bf bl i.toNat hk];rfl
  have next:(fZ (toInt (ae (nth bl i.toNat) 0))&&gr n m L h (bw (toStr (ae (ae (nth bl i.toNat) 1) 0)) ds))=false->∃k,k<bl.length - i.toNat/\fq Oh (rN fZ) Gf (fun x=>x.a.bl.length - x.a.i.toNat) K k (Oh ⟨n,m,L,ds,rs,⟨xs,more,rel,hl,bl,line,i+1⟩,h⟩):=fun e=>by
   rw[e,Bool.false_or] at hs
   refine⟨_,?_,⟨n,m,L,ds,rs,⟨xs,more,rel,hl,bl,line,i+1⟩,h⟩,rfl,⟨hh,hd,by simpa[aR] using hb,by simp only;omega,by simp only;omega,hm⟩,rfl,?_⟩
   ·simp only;omega
   ·simp only[Gf,Out.run,show(i+1).toNat=i.toNat+1 by omega,←hs]
    exact ho
  rw[aW (n:=i+1) (by omega) (by omega),ah]
  refine⟨fun e=>⟨⟨n,m,L,h,bw (toStr (ae (ae (nth bl i.toNat) 1) 0)) ds⟩,rfl,⟨hh,hm _ hx e⟩,?_⟩,fun e=>?_⟩
  ·rw[ah]
   refine⟨fun e2=>?_,fun e2=>?_⟩
   ·have:=ho i h0
    simp only at e2
    simp only[Out.run] at this
    rw[hs,e,e2] at this
    exact this
   ·exact next (by rw[e,ac0];exact e2)
  ·exact next (by rw[e,Bool.false_and])
 ·have:=ho 0 (by omega)
  simp only at hi
  simp only[Out.run] at this
  rw[aa9 (by omega)] at this
  exact this
theorem xAb(κ:Kp)(N:Nat)(ls:List (List Value))(ds rs fs:List AV)(a:cm)(h:Int)(I:Nat->S->Prop)(n:Nat)(K:Exit->S->Prop):(vc (EL κ) 12 128 none 8 (af (Pr κ).toProgram 128 2) (sp 19 [(0, .ad 72 a.bl),(1, .bL 80 [.ptr 4 0 [] 0, .ptr 6 0 [] 0, .ptr 3 0 [] 0, .ptr 7 0 [] 0]),(7, .int a.bl.length),(8, .int a.i)] (tJ N ls fs++[.box 87 (.ptr 0 0 [] 0), .box 25 (gJ ds rs), .box 66 (ar a), .box 94 (.bL 73 []), .box 3 (.int h)])) (bK (EL κ) 128 2 8 I n K))=(
 letI z1:=AV.agg [AV.ad 61 ds,AV.ad 66 rs]
 letI z2:=AV.agg [AV.an 1 0 N,AV.an 2 0 fs.length]
 letI z3:=AV.ptr 0 0 [] 0
 letI z4:=IntKind.wrap IntKind.i64 (a.i+(1:Int))
 letI z5:=a.bl.length
 letI z6:=AV.bL 73 []
 aD (decide (a.i<(↑z5:Int))) (aX (decide ((0:Int)<=a.i)&&decide (a.i<(↑z5:Int))) (∃(e3:List AV×ByteArray),([AV.ad 61 ds,AV.str (toStr (ae (ae
 (nth a.bl a.i.toNat) 1) 0))],aI)=([AV.ad 61 e3.1,AV.str e3.2],aI)/\gK e3/\∃(e2:Int),([AV.int (toInt (ae (nth a.bl a.i.toNat) 0))],aI)=([AV.int
 e2],aI)/\True/\aD (jb e2) (∃(e1:RX),([AV.ptr 0 0 [] 0,AV.int h,AV.int (bw e3.2 e3.1)],[Obj.box 122 z2,Obj.rows 38 3 ls none,Obj.row 89 fs])=
 ([AV.ptr 0 0 [] 0,AV.int e1.a,AV.int e1.b],[Obj.box 122 (AV.agg [AV.an 1 0 e1.n,AV.an 2 0 (List.length (br e1.n e1.m e1.L e1.n))]),Obj.rows 38 3 (dz e1.L)
 none,Obj.row 89 (br e1.n e1.m e1.L e1.n)])/\(((0:Int)<=e1.a/\e1.a<(↑(e1.n):Int))/\(0:Int)<=e1.b/\e1.b<(↑(e1.n):Int))/\aD (gr e1.n e1.m e1.L
 e1.a e1.b) (K Exit.ret (sp 19 [(4,AV.int a.i)] [Obj.box 122 (AV.agg [AV.an 1 0 e1.n,AV.an 2 0 (List.length (br e1.n e1.m e1.L e1.n))]),Obj.rows 38 3 (dz
 e1.L) none,Obj.row 89 (br e1.n e1.m e1.L e1.n),Obj.box 87 z3,Obj.box 25 z1,Obj.box 66 (ar a),Obj.box 94 z6,Obj.box 3 (AV.int h)])) (∃(e0:Nat),e0<n/\
 I e0 (sp 19 [(0,AV.ad 72 a.bl),(1,AV.bL 80 [AV.ptr 4 0 [] 0,AV.ptr 6 0 [] 0,AV.ptr 3 0 [] 0,AV.ptr 7 0 [] 0]),(7,AV.int (↑z5:Int)),(8,AV.int z4)]
 [Obj.box 122 (AV.agg [AV.an 1 0 e1.n,AV.an 2 0 (List.length (br e1.n e1.m e1.L e1.n))]),Obj.rows 38 3 (dz e1.L) none,Obj.row 89 (br e1.n e1.m e1.L e1.n),
 Obj.box 87 z3,Obj.box 25 z1,Obj.box 66 (ar a),Obj.box 94 z6,Obj.box 3 (AV.int h)]))) (∃(e0:Nat),e0<n/\I e0 (sp 19 [(0,AV.ad 72 a.bl),(1,AV.bL 80
 [AV.ptr 4 0 [] 0,AV.ptr 6 0 [] 0,AV.ptr 3 0 [] 0,AV.ptr 7 0 [] 0]),(7,AV.int (↑z5:Int)),(8,AV.int z4)] [Obj.box 122 z2,Obj.rows 38 3 ls none,Obj.row
 89 fs,Obj.box 87 z3,Obj.box 25 z1,Obj.box 66 (ar a),Obj.box 94 z6,Obj.box 3 (AV.int h)])))) (K (Exit.exit 0) (sp 19 [] [Obj.box 122 z2,Obj.rows 38 3 ls
 none,Obj.row 89 fs,Obj.box 87 z3,Obj.box 25 z1,Obj.box 66 (ar a),Obj.box 94 z6,Obj.box 3 (AV.int h)]))):=by kernel_rfl
abbrev OA(x:A6):S:=(sp 19 [(0, .ad 72 x.a.bl),(1, .bL 80 [.ptr 4 0 [] 0, .ptr 6 0 [] 0, .ptr 3 0 [] 0, .ptr 7 0 [] 0]),(7, .int x.a.bl.length),(8, .int x.a.i)] (tJ x.n (dz x.L) (br x.n x.m x.L x.n)++[.box 87 (.ptr 0 0 [] 0), .box 25 (gJ x.ds x.rs), .box 66 (ar x.a), .box 94 (.bL 73 []), .box 3 (.int x.h)]))
def FE(x:A6):Out (Exit×S):= .all (fun j:Int=>0<=j) fun j=> .aD (jh jb x.n x.m x.L x.ds x.h (x.a.bl.drop x.a.i.toNat))
 (.one (.ret,sp 19 [(4, .int j)] (nB x.n x.m x.L++[.box 87 (.ptr 0 0 [] 0), .box 25 (gJ x.ds x.rs), .box 66 (ar x.a), .box 94 (.bL 73 []), .box 3 (.int x.h)])))
 (.one (.exit 0,sp 19 [] (nB x.n x.m x.L++[.box 87 (.ptr 0 0 [] 0), .box 25 (gJ x.ds x.rs), .box 66 (ar x.a), .box 94 (.bL 73 []), .box 3 (.int x.h)])))
theorem lAb(κ:Kp):bj (EL κ) 12 128 2 (aO 8 OA (rN jb) FE):=by
 refine aK (fun x=>x.a.bl.length - x.a.i.toNat) ?_
 rintro⟨n,m,L,ds,rs,⟨xs,more,rel,hl,bl,line,i⟩,h⟩ K ⟨hh,hd,hb,h0,h1,hm⟩ ho
 simp only at hh hd hb h0 h1 hm
 rw[show(EL κ).P=Pr κ from rfl]
 refine Eq.mpr (xAb κ n (dz L) ds rs (br n m L n) ⟨xs,more,rel,hl,bl,line,i⟩ h _ _ K) ?_
 simp only[aR] at hb
 rw[ah,aq,aa2,aa1,aa1,aa3]
 refine⟨fun hi=>⟨⟨h0,hi⟩,(ds,toStr (ae (ae (nth bl i.toNat) 1) 0)),rfl,hd,toInt (ae (nth bl i.toNat) 0),rfl,trivial,?_⟩,fun hi=>?_⟩
 ·have hi:i<(bl.length:Int):=hi
  have hk:i.toNat<bl.length:=by omega
  have hx:nth bl i.toNat∈bl:=by rw[bf _ _ hk];exact List.getElem_mem _
  have hs:jh jb n m L ds h (bl.drop i.toNat)=((jb (toInt (ae (nth bl i.toNat) 0))&&gr n m L h (bw (toStr (ae (ae (nth bl i.toNat) 1) 0)) ds))||jh jb n m L ds h (bl.drop (i.toNat+1))):=by
   rw[ab2 hk,←bf bl i.toNat hk];rfl
  have next:(jb (toInt (ae (nth bl i.toNat) 0))&&gr n m L h (bw (toStr (ae (ae (nth bl i.toNat) 1) 0)) ds))=false->∃k,k<bl.length - i.toNat/\fq OA (rN jb) FE (fun x=>x.a.bl.length - x.a.i.toNat) K k (OA ⟨n,m,L,ds,rs,⟨xs,more,rel,hl,bl,line,i+1⟩,h⟩):=fun e=>by
   rw[e,Bool.false_or] at hs
   refine⟨_,?_,⟨n,m,L,ds,rs,⟨xs,more,rel,hl,bl,line,i+1⟩,h⟩,rfl,⟨hh,hd,by simpa[aR] using hb,by simp only;omega,by simp only;omega,hm⟩,rfl,?_⟩
   ·simp only;omega
   ·simp only[FE,Out.run,show(i+1).toNat=i.toNat+1 by omega,←hs]
    exact ho
  rw[aW (n:=i+1) (by omega) (by omega),ah]
  refine⟨fun e=>⟨⟨n,m,L,h,bw (toStr (ae (ae (nth bl i.toNat) 1) 0)) ds⟩,rfl,⟨hh,hm _ hx e⟩,?_⟩,fun e=>?_⟩
  ·rw[ah]
   refine⟨fun e2=>?_,fun e2=>?_⟩
   ·have:=ho i h0
    simp only at e2
    simp only[Out.run] at this
    rw[hs,e,e2] at this
    exact this
   ·exact next (by rw[e,ac0];exact e2)
  ·exact next (by rw[e,Bool.false_and])
 ·have:=ho 0 (by omega)
  simp only at hi
  simp only[Out.run] at this
  rw[aa9 (by omega)] at this
  exact this
def WK(s:S):Bool:=match aw s.st 6 with| .box _ (.bL f _)=>Nat.beq f 44|_=>false
noncomputable def Rw(κ:Kp):Env:=(EL κ).ak 128 2 (qu WK (aO 8 Oh (rN fZ) Gf) (aO 8 OA (rN jb) FE))
theorem eAl(κ:Kp):aB (Rw κ):=(eIb κ).ak (YX κ) (nz (lAa κ) (lAb κ))
theorem ZL(κ:Kp):aj (Rw κ):=(YX κ).ak (kU aG aG)
theorem yAa(κ:Kp)(N:Nat)(ls:List (List Value))(ds rs fs:List AV)(a:cm)(K:AV->List Dn.Obj->Prop):(a8 (Rw κ) 12 43 [.ptr 0 0 [] 0,gJ ds rs,ar a, .bL 44 []] (tJ N ls fs) K)=(
 letI z1:=Pg.toProgram (Env.P (EL κ))
 ∃(e2:List AV×ByteArray),([AV.ad 61 ds,AV.str a.rel],aI)=([AV.ad 61 e2.1,AV.str e2.2],aI)/\gK e2/\af z1 128 2=af z1 128 2/\∃(e1:A6),sp 19
 [(0,AV.ad 72 a.bl),(1,AV.bL 80 [AV.ptr 4 0 [] 0,AV.ptr 6 0 [] 0,AV.ptr 3 0 [] 0,AV.ptr 7 0 [] 0]),(7,AV.int (↑(a.bl.length):Int)),(8,AV.int 0)]
 [Obj.box 122 (AV.agg [AV.an 1 0 N,AV.an 2 0 fs.length]),Obj.rows 38 3 ls none,Obj.row 89 fs,Obj.box 87 (AV.ptr 0 0 [] 0),Obj.box 25 (AV.agg [AV.ad 61 ds,
 AV.ad 66 rs]),Obj.box 66 (ar a),Obj.box 94 (AV.bL 44 []),Obj.box 3 (AV.int (bw e2.2 e2.1))]=sp 19 [(0,AV.ad 72 e1.a.bl),(1,AV.bL 80 [AV.ptr 4 0 [] 0,
 AV.ptr 6 0 [] 0,AV.ptr 3 0 [] 0,AV.ptr 7 0 [] 0]),(7,AV.int (↑(List.length e1.a.bl):Int)),(8,AV.int e1.a.i)] [Obj.box 122 (AV.agg [AV.an 1 0 e1.n,AV.an
 2 0 (List.length (br e1.n e1.m e1.L e1.n))]),Obj.rows 38 3 (dz e1.L) none,Obj.row 89 (br e1.n e1.m e1.L e1.n),Obj.box 87 (AV.ptr 0 0 [] 0),Obj.box 25
 (AV.agg [AV.ad 61 e1.ds,AV.ad 66 e1.rs]),Obj.box 66 (ar e1.a),Obj.box 94 (AV.bL 44 []),Obj.box 3 (AV.int e1.h)]/\(((0:Int)<=e1.h/\e1.h<(↑(e1.n):
 Int))/\e1.ds.length<=9223372036854775807/\List.length e1.a.bl<=9223372036854775807/\(0:Int)<=e1.a.i/\e1.a.i<=(↑(List.length e1.a.bl):Int)/\∀(e0:
 AV),List.Mem e0 e1.a.bl->fZ (toInt (ae e0 0))=true->(0:Int)<=bw (toStr (ae (ae e0 1) 0)) e1.ds/\bw (toStr (ae (ae e0 1) 0)) e1.ds<(↑(e1.n):Int))/\
 ∀(e0:Int),(0:Int)<=e0->aD (jh fZ e1.n e1.m e1.L e1.ds e1.h (List.drop (Int.toNat e1.a.i) e1.a.bl)) (K (AV.bool (decide (e0>=(0:Int)))) [Obj.box 122
 (AV.agg [AV.an 1 0 e1.n,AV.an 2 0 (List.length (br e1.n e1.m e1.L e1.n))]),Obj.rows 38 3 (dz e1.L) none,Obj.row 89 (br e1.n e1.m e1.L e1.n)]) (K (AV.bool
 false) [Obj.box 122 (AV.agg [AV.an 1 0 e1.n,AV.an 2 0 (List.length (br e1.n e1.m e1.L e1.n))]),Obj.rows 38 3 (dz e1.L) none,Obj.row 89 (br e1.n e1.m e1.L
 e1.n)])):=by kernel_rfl
def xL(x:A6):List AV×List Dn.Obj:=([.ptr 0 0 [] 0,gJ x.ds x.rs,ar x.a, .bL 44 []],nB x.n x.m x.L)
def Fi(x:A6):Out (AV×List Dn.Obj):= .one (.bool (jh fZ x.n x.m x.L x.ds x.h x.a.bl),nB x.n x.m x.L)
theorem cAa(κ:Kp):bt (Rw κ) 12 43 (aL xL (zd fZ) Fi):=by
 refine aZ ?_
 rintro⟨n,m,L,ds,rs,⟨xs,more,rel,hl,bl,line,i⟩,h⟩ K ⟨he,hh,hd,hb,hm⟩ ho
 simp only at he hh hd hb hm
 refine Eq.mpr (yAa κ n (dz L) ds rs (br n m L n) ⟨xs,more,rel,hl,bl,line,i⟩ K) ?_
 simp only[Fi,Out.run] at ho
 refine⟨(ds,rel),rfl,hd,rfl,⟨n,m,L,ds,rs,⟨xs,more,rel,hl,bl,line,0⟩,h⟩,by simp only[he],⟨hh,hd,hb,by simp only;omega,by simp only;omega,hm⟩,fun j hj=>?_⟩
 show aD (jh fZ n m L ds h bl) (K (.bool (decide (j>=0))) (nB n m L)) (K (.bool false) (nB n m L))
 rw[ah,aa7 (show j>=0 from hj)]
 exact⟨fun e=>by rw[e] at ho;exact ho,fun e=>by rw[e] at ho;exact ho⟩
theorem yAb(κ:Kp)(N:Nat)(ls:List (List Value))(ds rs fs:List AV)(a:cm)(K:AV->List Dn.Obj->Prop):(a8 (Rw κ) 12 43 [.ptr 0 0 [] 0,gJ ds rs,ar a, .bL 73 []] (tJ N ls fs) K)=(
 letI z1:=Pg.toProgram (Env.P (EL κ))
 ∃(e2:List AV×ByteArray),([AV.ad 61 ds,AV.str a.rel],aI)=([AV.ad 61 e2.1,AV.str e2.2],aI)/\gK e2/\af z1 128 2=af z1 128 2/\∃(e1:A6),sp 19
 [(0,AV.ad 72 a.bl),(1,AV.bL 80 [AV.ptr 4 0 [] 0,AV.ptr 6 0 [] 0,AV.ptr 3 0 [] 0,AV.ptr 7 0 [] 0]),(7,AV.int (↑(a.bl.length):Int)),(8,AV.int 0)]
 [Obj.box 122 (AV.agg [AV.an 1 0 N,AV.an 2 0 fs.length]),Obj.rows 38 3 ls none,Obj.row 89 fs,Obj.box 87 (AV.ptr 0 0 [] 0),Obj.box 25 (AV.agg [AV.ad 61 ds,
 AV.ad 66 rs]),Obj.box 66 (ar a),Obj.box 94 (AV.bL 73 []),Obj.box 3 (AV.int (bw e2.2 e2.1))]=sp 19 [(0,AV.ad 72 e1.a.bl),(1,AV.bL 80 [AV.ptr 4 0 [] 0,
 AV.ptr 6 0 [] 0,AV.ptr 3 0 [] 0,AV.ptr 7 0 [] 0]),(7,AV.int (↑(List.length e1.a.bl):Int)),(8,AV.int e1.a.i)] [Obj.box 122 (AV.agg [AV.an 1 0 e1.n,AV.an
 2 0 (List.length (br e1.n e1.m e1.L e1.n))]),Obj.rows 38 3 (dz e1.L) none,Obj.row 89 (br e1.n e1.m e1.L e1.n),Obj.box 87 (AV.ptr 0 0 [] 0),Obj.box 25
 (AV.agg [AV.ad 61 e1.ds,AV.ad 66 e1.rs]),Obj.box 66 (ar e1.a),Obj.box 94 (AV.bL 73 []),Obj.box 3 (AV.int e1.h)]/\(((0:Int)<=e1.h/\e1.h<(↑(e1.n):
 Int))/\e1.ds.length<=9223372036854775807/\List.length e1.a.bl<=9223372036854775807/\(0:Int)<=e1.a.i/\e1.a.i<=(↑(List.length e1.a.bl):Int)/\∀(e0:
 AV),List.Mem e0 e1.a.bl->jb (toInt (ae e0 0))=true->(0:Int)<=bw (toStr (ae (ae e0 1) 0)) e1.ds/\bw (toStr (ae (ae e0 1) 0)) e1.ds<(↑(e1.n):Int))/\
 ∀(e0:Int),(0:Int)<=e0->aD (jh jb e1.n e1.m e1.L e1.ds e1.h (List.drop (Int.toNat e1.a.i) e1.a.bl)) (K (AV.bool (decide (e0>=(0:Int)))) [Obj.box 122
 (AV.agg [AV.an 1 0 e1.n,AV.an 2 0 (List.length (br e1.n e1.m e1.L e1.n))]),Obj.rows 38 3 (dz e1.L) none,Obj.row 89 (br e1.n e1.m e1.L e1.n)]) (K (AV.bool
 false) [Obj.box 122 (AV.agg [AV.an 1 0 e1.n,AV.an 2 0 (List.length (br e1.n e1.m e1.L e1.n))]),Obj.rows 38 3 (dz e1.L) none,Obj.row 89 (br e1.n e1.m e1.L
 e1.n)])):=by kernel_rfl
def PK(x:A6):List AV×List Dn.Obj:=([.ptr 0 0 [] 0,gJ x.ds x.rs,ar x.a, .bL 73 []],nB x.n x.m x.L)
def Ef(x:A6):Out (AV×List Dn.Obj):= .one (.bool (jh jb x.n x.m x.L x.ds x.h x.a.bl),nB x.n x.m x.L)
theorem cAb(κ:Kp):bt (Rw κ) 12 43 (aL PK (zd jb) Ef):=by
 refine aZ ?_
 rintro⟨n,m,L,ds,rs,⟨xs,more,rel,hl,bl,line,i⟩,h⟩ K ⟨he,hh,hd,hb,hm⟩ ho
 simp only at he hh hd hb hm
 refine Eq.mpr (yAb κ n (dz L) ds rs (br n m L n) ⟨xs,more,rel,hl,bl,line,i⟩ K) ?_
 simp only[Ef,Out.run] at ho
 refine⟨(ds,rel),rfl,hd,rfl,⟨n,m,L,ds,rs,⟨xs,more,rel,hl,bl,line,0⟩,h⟩,by simp only[he],⟨hh,hd,hb,by simp only;omega,by simp only;omega,hm⟩,fun j hj=>?_⟩
 show aD (jh jb n m L ds h bl) (K (.bool (decide (j>=0))) (nB n m L)) (K (.bool false) (nB n m L))
 rw[ah,aa7 (show j>=0 from hj)]
 exact⟨fun e=>by rw[e] at ho;exact ho,fun e=>by rw[e] at ho;exact ho⟩
def Mq(sel:List AV->Bool)(a b:dr):dr:=fun args st K=>bif sel args then a args st K else b args st K
theorem Ii{sel:List AV->Bool}{a b:dr}(ha:a.ji)(hb:b.ji):(Mq sel a b).ji:=fun args st K K' hK h=>by
 unfold Mq at h⊢
 cases hs:sel args<;>simp only[hs] at h⊢
 ·exact hb _ _ _ _ hK h
 ·exact ha _ _ _ _ hK h
theorem OW{E:Env}{N f:Nat}{sel:List AV->Bool}{a b:dr}(ha:bt E N f a)(hb:bt E N f b):bt E N f (Mq sel a b):=fun args st K h=>by
 unfold Mq at h
 cases hs:sel args<;>rw[hs] at h
 ·exact hb _ _ _ h
 ·exact ha _ _ _ h
def Wq:List AV->Bool
 |[_,_,_, .bL f _]=>Nat.beq f 44
 |_=>false
noncomputable def DW(κ:Kp):Env:=(Rw κ).ax 43 (Mq Wq (aL xL (zd fZ) Fi) (aL PK (zd jb) Ef))
theorem eAg(κ:Kp):aB (DW κ):=(eAl κ).ax (ZL κ) (OW (cAa κ) (cAb κ))
theorem Z2(κ:Kp):aj (DW κ):=(ZL κ).ax (Ii aJ aJ)
theorem xLy(κ:Kp)(N i:Nat)(ls:List (List Value))(ds rs fs:List AV)(I:Nat->S->Prop)(n:Nat)(K:Exit->S->Prop):(vc (DW κ) 12 38 none 3 (af (Pr κ).toProgram 38 2) (sp 38 [(0, .ptr 0 0 [] 0),(3, .ptr 3 0 [] 0),(11, .ad 66 rs),(12, .int rs.length),(13, .int i)] (tJ N ls fs++[.box 25 (gJ ds rs)])) (bK (DW κ) 38 2 3 I n K))=(
 letI z1:=nth rs (Int.toNat (↑i:Int))
 letI z2:=IntKind.wrap IntKind.i64 ((↑i:Int)+(1:Int))
 letI z3:=AV.agg [AV.ad 61 ds,AV.ad 66 rs]
 letI z4:=toInt (ae z1 2)
 letI z5:=toStr (ae (ae z1 0) 0)
 letI z6:=AV.agg [AV.an 1 0 N,AV.an 2 0 fs.length]
 letI z7:=(↑i:Int)<(↑(rs.length):Int)
 letI z8:=ai (ae (ae z1 0) 1)
 letI z9:=ai (ae z1 1)
 aD (decide z7) (aX (true&&decide z7) (∃(e3:A6),([AV.ptr 0 0 [] 0,AV.agg [AV.ad 61 ds,AV.ad 66 rs],AV.agg [AV.agg [AV.str z5,AV.ad 56 z8],AV.ad 72 z9,
 AV.int z4],AV.bL 73 []],[Obj.box 122 z6,Obj.rows 38 3 ls none,Obj.row 89 fs])=([AV.ptr 0 0 [] 0,AV.agg [AV.ad 61 e3.ds,AV.ad 66 e3.rs],ar e3.a,AV.bL
 73 []],[Obj.box 122 (AV.agg [AV.an 1 0 e3.n,AV.an 2 0 (List.length (br e3.n e3.m e3.L e3.n))]),Obj.rows 38 3 (dz e3.L) none,Obj.row 89 (br e3.n e3.m e3.L
 e3.n)])/\(e3.h=bw e3.a.rel e3.ds/\((0:Int)<=e3.h/\e3.h<(↑(e3.n):Int))/\e3.ds.length<=9223372036854775807/\List.length e3.a.bl<=
 9223372036854775807/\∀(e0:AV),List.Mem e0 e3.a.bl->jb (toInt (ae e0 0))=true->(0:Int)<=bw (toStr (ae (ae e0 1) 0)) e3.ds/\bw (toStr (ae (ae e0 1)
 0)) e3.ds<(↑(e3.n):Int))/\aD (jh jb e3.n e3.m e3.L e3.ds e3.h e3.a.bl) (K Exit.ret (sp 38 [(4,AV.int z4),(5,AV.int 70)] [Obj.box 122 (AV.agg [AV.an 1 0
 e3.n,AV.an 2 0 (List.length (br e3.n e3.m e3.L e3.n))]),Obj.rows 38 3 (dz e3.L) none,Obj.row 89 (br e3.n e3.m e3.L e3.n)])) (∃(e2:cm),([AV.agg [AV.agg
 [AV.str z5,AV.ad 56 z8],AV.ad 72 z9,AV.int z4]],aI)=([ar e2],aI)/\(a6 (aa (bm 56 e2.hl e2.bl))<=100000/\e2.bl.length<=100000)/\aD (aM (aF e2)) (aD
 (iO (aF e2)) (aD (K9 (aF e2)) (∃(e1:A6),([AV.ptr 0 0 [] 0,AV.agg [AV.ad 61 ds,AV.ad 66 rs],AV.agg [AV.agg [AV.str z5,AV.ad 56 z8],AV.ad 72 z9,AV.int
 z4],AV.bL 44 []],[Obj.box 122 (AV.agg [AV.an 1 0 e3.n,AV.an 2 0 (List.length (br e3.n e3.m e3.L e3.n))]),Obj.rows 38 3 (dz e3.L) none,Obj.row 89 (br e3.n
 e3.m e3.L e3.n)])=([AV.ptr 0 0 [] 0,AV.agg [AV.ad 61 e1.ds,AV.ad 66 e1.rs],ar e1.a,AV.bL 44 []],[Obj.box 122 (AV.agg [AV.an 1 0 e1.n,AV.an 2 0
 (List.length (br e1.n e1.m e1.L e1.n))]),Obj.rows 38 3 (dz e1.L) none,Obj.row 89 (br e1.n e1.m e1.L e1.n)])/\(e1.h=bw e1.a.rel e1.ds/\((0:Int)<=e1.h/\
 e1.h<(↑(e1.n):Int))/\e1.ds.length<=9223372036854775807/\List.length e1.a.bl<=9223372036854775807/\∀(e0:AV),List.Mem e0 e1.a.bl->fZ (toInt (ae e0
 0))=true->(0:Int)<=bw (toStr (ae (ae e0 1) 0)) e1.ds/\bw (toStr (ae (ae e0 1) 0)) e1.ds<(↑(e1.n):Int))/\aD (jh fZ e1.n e1.m e1.L e1.ds e1.h e1.a.bl)
 (K Exit.ret (sp 38 [(4,AV.int z4),(5,AV.int 71)] [Obj.box 122 (AV.agg [AV.an 1 0 e1.n,AV.an 2 0 (List.length (br e1.n e1.m e1.L e1.n))]),Obj.rows 38 3 (dz
 e1.L) none,Obj.row 89 (br e1.n e1.m e1.L e1.n)])) (∃(e0:Nat),e0<n/\I e0 (sp 38 [(0,AV.ptr 0 0 [] 0),(3,AV.ptr 3 0 [] 0),(11,AV.ad 66 rs),(12,
 AV.int (↑(rs.length):Int)),(13,AV.int z2)] [Obj.box 122 (AV.agg [AV.an 1 0 e1.n,AV.an 2 0 (List.length (br e1.n e1.m e1.L e1.n))]),Obj.rows 38 3 (dz e1.L)
 none,Obj.row 89 (br e1.n e1.m e1.L e1.n),Obj.box 25 z3]))) (∃(e0:Nat),e0<n/\I e0 (sp 38 [(0,AV.ptr 0 0 [] 0),(3,AV.ptr 3 0 [] 0),(11,AV.ad 66 rs),
 (12,AV.int (↑(rs.length):Int)),(13,AV.int z2)] [Obj.box 122 (AV.agg [AV.an 1 0 e3.n,AV.an 2 0 (List.length (br e3.n e3.m e3.L e3.n))]),Obj.rows 38 3 (dz
 e3.L) none,Obj.row 89 (br e3.n e3.m e3.L e3.n),Obj.box 25 z3]))) (∃(e0:Nat),e0<n/\I e0 (sp 38 [(0,AV.ptr 0 0 [] 0),(3,AV.ptr 3 0 [] 0),(11,AV.ad
 66 rs),(12,AV.int (↑(rs.length):Int)),(13,AV.int z2)] [Obj.box 122 (AV.agg [AV.an 1 0 e3.n,AV.an 2 0 (List.length (br e3.n e3.m e3.L e3.n))]),Obj.rows
 38 3 (dz e3.L) none,Obj.row 89 (br e3.n e3.m e3.L e3.n),Obj.box 25 z3]))) (∃(e0:Nat),e0<n/\I e0 (sp 38 [(0,AV.ptr 0 0 [] 0),(3,AV.ptr 3 0 [] 0),
 (11,AV.ad 66 rs),(12,AV.int (↑(rs.length):Int)),(13,AV.int z2)] [Obj.box 122 (AV.agg [AV.an 1 0 e3.n,AV.an 2 0 (List.length (br e3.n e3.m e3.L e3.n))]),
 Obj.rows 38 3 (dz e3.L) none,Obj.row 89 (br e3.n e3.m e3.L e3.n),Obj.box 25 z3]))))) (K (Exit.exit 0) (sp 38 [] [Obj.box 122 z6,Obj.rows 38 3 ls none,
 Obj.row 89 fs]))):=by kernel_rfl
theorem xLz(κ:Kp)(ls:List (List Value))(ds:List AV)(I:Nat->S->Prop)(n:Nat)(K:Exit->S->Prop):(vc (DW κ) 12 38 none 2 (af (Pr κ).toProgram 38 2) (sp 38 [(0, .ptr 0 0 [] 0),(3, .ptr 2 0 [] 0),(11, .ad 66 []),(12, .int 0),(13, .int 0)] (xn 0 ls++[.box 25 (gJ ds [])])) (bK (DW κ) 38 2 2 I n K))=(
 K (Exit.exit 0) (sp 38 [] [Obj.box 122 (AV.agg [AV.an 1 0 0,AV.nil]),Obj.rows 38 3 ls none])):=by kernel_rfl
def AM(r:AV):Bool:=aM (aF (ez r))&&iO (aF (ez r))&&K9 (aF (ez r))
def yy(ds:List AV)(r:AV):Int:=bw (toStr (ae (ae r 0) 0)) ds
def GJ(isf:Int->Bool)(n m:Nat)(L:Gr)(ds:List AV)(r:AV):Bool:=jh isf n m L ds (yy ds r) (ai (ae r 1))
def xC(n m:Nat)(L:Gr)(ds:List AV):List AV->Int×Int
 |[]=>(0,0)
 |r::rs=>bif GJ jb n m L ds r then(toInt (ae r 2),70) else bif AM r&&GJ fZ n m L ds r then(toInt (ae r 2),71) else xC n m L ds rs
structure Dh(n:Nat)(ds:List AV)(r:AV):Prop where
 hd:0<=yy ds r/\yy ds r<n
 at_: ∀l,l∈ai (ae r 1)->dH (toInt (ae l 0))=true->0<=bw (toStr (ae (ae l 1) 0)) ds/\bw (toStr (ae (ae l 1) 0)) ds<n
 le:(ai (ae r 1)).length<=aR
 Xh:dd (ez r)
theorem wS{op:Int}(h:fZ op=true):dH op=true:=by
 have:op=1:=by simpa[fZ] using h
 subst this;rfl
theorem Ll{op:Int}(h:jb op=true):dH op=true:=by
 unfold jb at h
 unfold dH
 by_cases e:op=2
 ·subst e;rfl
 ·rw[aa5 e,aa6,aa1] at h
  cases decide (op<3)
  ·rw[aa6,aa1];omega
  ·rfl
structure Qc where
 n:Nat
 m:Nat
 L:Gr
 ds:List AV
 rs:List AV
 i:Nat
abbrev OY(x:Qc):S:=sp 38 [(0, .ptr 0 0 [] 0),(3, .ptr 3 0 [] 0),(11, .ad 66 x.rs),(12, .int x.rs.length),(13, .int x.i)] (nB x.n x.m x.L++[.box 25 (gJ x.ds x.rs)])
def DR(x:Qc):Prop:=x.ds.length<=aR/\x.rs.length<=aR/\x.i<=x.rs.length/\∀r,r∈x.rs->Dh x.n x.ds r
def BN(x:Qc):Out (Exit×S):= .aD (decide ((xC x.n x.m x.L x.ds (x.rs.drop x.i)).2=0))
 (.one (.exit 0,sp 38 [] (nB x.n x.m x.L)))
 (.one (.ret,sp 38 [(4, .int (xC x.n x.m x.L x.ds (x.rs.drop x.i)).1),(5, .int (xC x.n x.m x.L x.ds (x.rs.drop x.i)).2)] (nB x.n x.m x.L)))
theorem lLy(κ:Kp):bj (DW κ) 12 38 2 (aO 3 OY DR BN):=by
 refine aK (fun x=>x.rs.length - x.i) ?_
 rintro⟨n,m,L,ds,rs,i⟩ K ⟨hd,hr,hi,hg⟩ ho
 simp only at hd hr hi hg
 rw[show(DW κ).P=Pr κ from rfl]
 refine Eq.mpr (xLy κ n i (dz L) ds rs (br n m L n) _ _ K) ?_
 have ho2:=ho
 simp only[BN,Out.run,ah,aa1,aa3] at ho2
 simp only[aR] at hr
 rw[ah,aa1,aa3,aq,ac0,aa1]
 refine⟨fun h=>⟨h,?_⟩,fun h=>?_⟩
 ·have hk:i<rs.length:=by omega
  have hx:nth rs i∈rs:=by rw[bf _ _ hk];exact List.getElem_mem _
  have hG:=hg _ hx
  have hs:xC n m L ds (rs.drop i)=bif GJ jb n m L ds (nth rs i) then(toInt (ae (nth rs i) 2),70) else bif AM (nth rs i)&&GJ fZ n m L ds (nth rs i) then(toInt (ae (nth rs i) 2),71) else xC n m L ds (rs.drop (i+1)):=by
   rw[ab2 hk,←bf rs i hk];rfl
  have next:GJ jb n m L ds (nth rs i)=false->(AM (nth rs i)&&GJ fZ n m L ds (nth rs i))=false->∃k,k<rs.length - i/\fq OY DR BN (fun x=>x.rs.length - x.i) K k (OY ⟨n,m,L,ds,rs,i+1⟩):=fun e1 e2=>by
   rw[e1,e2,aa6,aa6] at hs
   refine⟨_,?_,⟨n,m,L,ds,rs,i+1⟩,rfl,⟨hd,by simpa[aR] using hr,hk,hg⟩,rfl,?_⟩
   ·simp only;omega
   ·simp only[BN,Out.run,←hs];exact ho
  rw[Int.toNat_natCast,aW (n:=(i:Int)+1) (by omega) (by omega)]
  refine⟨⟨n,m,L,ds,rs,ez (nth rs i),yy ds (nth rs i)⟩,rfl,⟨rfl,hG.hd,hd,hG.le,fun l hl h=>hG.at_ l hl (Ll h)⟩,?_⟩
  rw[ah]
  refine⟨fun e=>?_,fun e=>?_⟩
  ·have e:GJ jb n m L ds (nth rs i)=true:=e
   rw[e,aa8] at hs
   have:=ho2.2 (by rw[hs];exact fun h=>nomatch h)
   rw[hs] at this
   exact this
  ·have e:GJ jb n m L ds (nth rs i)=false:=e
   refine⟨ez (nth rs i),rfl,hG.Xh,?_⟩
   rw[ah]
   refine⟨fun e1=>?_,fun e1=>next e (by unfold AM;rw[e1];rfl)⟩
   rw[ah]
   refine⟨fun e2=>?_,fun e2=>next e (by unfold AM;rw[e1,e2];rfl)⟩
   rw[ah]
   refine⟨fun e3=>?_,fun e3=>next e (by unfold AM;rw[e1,e2,e3];rfl)⟩
   have hv:AM (nth rs i)=true:=by unfold AM;rw[e1,e2,e3];rfl
   refine⟨⟨n,m,L,ds,rs,ez (nth rs i),yy ds (nth rs i)⟩,rfl,⟨rfl,hG.hd,hd,hG.le,fun l hl h=>hG.at_ l hl (wS h)⟩,?_⟩
   rw[ah]
   refine⟨fun e4=>?_,fun e4=>next e (by have e4:GJ fZ n m L ds (nth rs i)=false:=e4;rw[e4,Bool.and_false])⟩
   have e4:GJ fZ n m L ds (nth rs i)=true:=e4
   rw[e,hv,e4,aa6,Bool.and_true,aa8] at hs
   have:=ho2.2 (by rw[hs];exact fun h=>nomatch h)
   rw[hs] at this
   exact this
 ·rw[aa9 (by omega)] at ho2
  exact ho2.1 rfl
structure St where
 ls:List (List Value)
 ds:List AV
abbrev Tc(x:St):S:=sp 38 [(0, .ptr 0 0 [] 0),(3, .ptr 2 0 [] 0),(11, .ad 66 []),(12, .int 0),(13, .int 0)] (xn 0 x.ls++[.box 25 (gJ x.ds [])])
def PL(x:St):Out (Exit×S):= .one (.exit 0,sp 38 [] (xn 0 x.ls))
theorem lLz(κ:Kp):bj (DW κ) 12 38 2 (aO 2 Tc (fun _=>True) PL):=by
 refine aK (fun _=>0) ?_
 rintro⟨ls,ds⟩ K _ ho
 rw[show(DW κ).P=Pr κ from rfl]
 exact Eq.mpr (xLz κ ls ds _ _ K) ho
noncomputable def Q1(κ:Kp):Env:=(DW κ).ak 38 2 (qu UL (aO 3 OY DR BN) (aO 2 Tc (fun _=>True) PL))
theorem eLl(κ:Kp):aB (Q1 κ):=(eAg κ).ak (Z2 κ) (nz (lLy κ) (lLz κ))
theorem ZT(κ:Kp):aj (Q1 κ):=(Z2 κ).ak (kU aG aG)
theorem yLy(κ:Kp)(N:Nat)(ls:List (List Value))(ds rs fs:List AV)(K:AV->List Dn.Obj->Prop):(a8 (Q1 κ) 12 38 [.ptr 0 0 [] 0,gJ ds rs] (tJ N ls fs) K)=(
 af (Pg.toProgram (Env.P (DW κ))) 38 2=af (Pg.toProgram (Env.P (DW κ))) 38 2/\∃(a:Qc),sp 38 [(0,AV.ptr 0 0 [] 0),(3,AV.ptr 3 0 [] 0),
 (11,AV.ad 66 rs),(12,AV.int (↑(rs.length):Int)),(13,AV.int 0)] [Obj.box 122 (AV.agg [AV.an 1 0 N,AV.an 2 0 fs.length]),Obj.rows 38 3 ls none,
 Obj.row 89 fs,Obj.box 25 (AV.agg [AV.ad 61 ds,AV.ad 66 rs])]=sp 38 [(0,AV.ptr 0 0 [] 0),(3,AV.ptr 3 0 [] 0),(11,AV.ad 66 a.rs),(12,AV.int
 (↑(a.rs.length):Int)),(13,AV.int (↑(a.i):Int))] [Obj.box 122 (AV.agg [AV.an 1 0 a.n,AV.an 2 0 (List.length (br a.n a.m a.L a.n))]),Obj.rows 38 3
 (dz a.L) none,Obj.row 89 (br a.n a.m a.L a.n),Obj.box 25 (AV.agg [AV.ad 61 a.ds,AV.ad 66 a.rs])]/\(a.ds.length<=9223372036854775807/\a.rs.length<=
 9223372036854775807/\a.i<=a.rs.length/\∀(r:AV),List.Mem r a.rs->Dh a.n a.ds r)/\aD (decide (Prod.snd (xC a.n a.m a.L a.ds (List.drop a.i a.rs))=
 (0:Int))) (K (AV.bh [AV.int 0,AV.int 0]) [Obj.box 122 (AV.agg [AV.an 1 0 a.n,AV.an 2 0 (List.length (br a.n a.m a.L a.n))]),Obj.rows 38 3 (dz a.L)
 none,Obj.row 89 (br a.n a.m a.L a.n)]) (K (AV.bh [AV.int (Prod.fst (xC a.n a.m a.L a.ds (List.drop a.i a.rs))),AV.int (Prod.snd (xC a.n a.m a.L a.ds
 (List.drop a.i a.rs)))]) [Obj.box 122 (AV.agg [AV.an 1 0 a.n,AV.an 2 0 (List.length (br a.n a.m a.L a.n))]),Obj.rows 38 3 (dz a.L) none,Obj.row 89
 (br a.n a.m a.L a.n)])):=by kernel_rfl
theorem yLz(κ:Kp)(ls:List (List Value))(ds:List AV)(K:AV->List Dn.Obj->Prop):(a8 (Q1 κ) 12 38 [.ptr 0 0 [] 0,gJ ds []] (xn 0 ls) K)=(
 letI z1:=AV.agg [AV.an 1 0 0,AV.nil]
 letI z2:=Pg.toProgram (Env.P (DW κ))
 af z2 38 2=af z2 38 2/\∃(e0:St),sp 38 [(0,AV.ptr 0 0 [] 0),(3,AV.ptr 2 0 [] 0),(11,AV.ad 66 []),(12,AV.int 0),(13,AV.int 0)] [Obj.box 122 z1,
 Obj.rows 38 3 ls none,Obj.box 25 (AV.agg [AV.ad 61 ds,AV.ad 66 []])]=sp 38 [(0,AV.ptr 0 0 [] 0),(3,AV.ptr 2 0 [] 0),(11,AV.ad 66 []),(12,AV.int 0),
 (13,AV.int 0)] [Obj.box 122 z1,Obj.rows 38 3 e0.ls none,Obj.box 25 (AV.agg [AV.ad 61 e0.ds,AV.ad 66 []])]/\True/\K (AV.bh [AV.int 0,AV.int 0]) [Obj.box
 122 z1,Obj.rows 38 3 e0.ls none]):=by kernel_rfl
def P0(x:Qc):List AV×List Dn.Obj:=([.ptr 0 0 [] 0,gJ x.ds x.rs],nB x.n x.m x.L)
def FU(x:Qc):Prop:=x.ds.length<=aR/\x.rs.length<=aR/\∀r,r∈x.rs->Dh x.n x.ds r
def D3(x:Qc):Out (AV×List Dn.Obj):= .one (.bh [.int (xC x.n x.m x.L x.ds x.rs).1, .int (xC x.n x.m x.L x.ds x.rs).2],nB x.n x.m x.L)
theorem BI(n m:Nat)(L:Gr)(ds:List AV): ∀rs:List AV,(xC n m L ds rs).2=0->xC n m L ds rs=(0,0)
 |[],_=>rfl
 | r::rs,h=>by
  rw[xC] at h⊢
  cases e:GJ jb n m L ds r with
  |true=>rw[e,aa8] at h;cases h
  | false=>
   rw[e,aa6] at h
   rw[aa6]
   cases e2:AM r&&GJ fZ n m L ds r with
   |true=>rw[e2,aa8] at h;cases h
   |false=>
    rw[e2,aa6] at h
    rw[aa6]
    exact BI n m L ds rs h
theorem cLy(κ:Kp):bt (Q1 κ) 12 38 (aL P0 FU D3):=by
 refine aZ ?_
 rintro⟨n,m,L,ds,rs,i⟩ K ⟨hd,hr,hg⟩ ho
 refine Eq.mpr (yLy κ n (dz L) ds rs (br n m L n) K) ?_
 refine⟨rfl,⟨n,m,L,ds,rs,0⟩,rfl,⟨hd,hr,Nat.zero_le _,hg⟩,?_⟩
 simp only[D3,Out.run] at ho
 rw[ab1,ah]
 refine⟨fun e=>?_,fun _=>ho⟩
 rw[BI n m L ds rs (of_decide_eq_true e)] at ho
 exact ho
def Pt(x:St):List AV×List Dn.Obj:=([.ptr 0 0 [] 0,gJ x.ds []],xn 0 x.ls)
def JT(x:St):Out (AV×List Dn.Obj):= .one (.bh [.int 0, .int 0],xn 0 x.ls)
theorem cLz(κ:Kp):bt (Q1 κ) 12 38 (aL Pt (fun _=>True) JT):=by
 refine aZ ?_
 rintro⟨ls,ds⟩ K _ ho
 refine Eq.mpr (yLz κ ls ds K) ?_
 exact⟨rfl,⟨ls,ds⟩,rfl,trivial,ho⟩
noncomputable def UT(κ:Kp):Env:=(Q1 κ).ax 38 (EX Ug (aL P0 FU D3) (aL Pt (fun _=>True) JT))
theorem eLy(κ:Kp):aB (UT κ):=(eLl κ).ax (ZT κ) (A5 (cLy κ) (cLz κ))
theorem YR(κ:Kp):aj (UT κ):=(ZT κ).ax (rW aJ aJ)
theorem yCk(κ:Kp)(ds rs:List AV)(a b n:Int)(K:AV->List Dn.Obj->Prop):(a8 (UT κ) 12 42 [gJ ds rs, .int a, .int b, .int n] [] K)=(
 ∃(e1:rT),([AV.agg [AV.ad 61 ds,AV.ad 66 rs]],aI)=([AV.agg [AV.ad 61 e1.1,AV.ad 66 e1.2]],aI)/\(e1.1.length<=9223372036854775807/\e1.2.length<=
 9223372036854775807/\∀(e0:AV),List.Mem e0 e1.2->a6 (aa (bm 56 (cm.hl (ez e0)) (cm.bl (ez e0))))<=100000/\List.length (cm.bl (ez e0))<=100000)/\aD
 (Prod.snd (fH e1.1 e1.2)==(0:Int)) (aD (decide ((if b<a then b else a)<(0:Int))) (K (AV.int 2) []) (aD (decide ((if b>a then b else a)>=n)) (K
 (AV.int 2) []) (K (AV.int (Prod.snd (fH e1.1 e1.2))) []))) (K (AV.int (Prod.snd (fH e1.1 e1.2))) [])):=by kernel_rfl
def HH(a b n:Int):Bool:=(decide (0<=a)&&decide (a<n))&&(decide (0<=b)&&decide (b<n))
def xl(ds rs:List AV)(a b n:Int):Int:=bif decide ((fH ds rs).2=0) then(bif HH a b n then 0 else 2) else(fH ds rs).2
structure Wg where
 ds:List AV
 rs:List AV
 a:Int
 b:Int
 n:Int
def RS(x:Wg):List AV×List Dn.Obj:=([gJ x.ds x.rs, .int x.a, .int x.b, .int x.n],[])
def Ex(x:Wg):Prop:=fE x.ds x.rs
def Mb(x:Wg):Out (AV×List Dn.Obj):= .one (.int (xl x.ds x.rs x.a x.b x.n),[])
theorem cCk(κ:Kp):bt (UT κ) 12 42 (aL RS Ex Mb):=by
 refine aZ ?_
 rintro⟨ds,rs,a,b,n⟩ K hs ho
 refine Eq.mpr (yCk κ ds rs a b n K) ?_
 simp only[Mb,Out.run,xl] at ho
 refine⟨(ds,rs),rfl,hs,?_⟩
 simp only[Qi,ah,aa1,aa3]
 refine⟨fun e=>?_,fun e=>?_⟩
 ·rw[aa7 e,aa8] at ho
  by_cases h1:HH a b n=true
  ·have h2:=h1
   simp only[HH,aa2,aa1] at h2
   rw[h1,aa8] at ho
   refine⟨fun h=>?_,fun _=>⟨fun h=>?_,fun _=>by rw[e];exact ho⟩⟩
   ·split at h<;>omega
   ·split at h<;>omega
  ·have h2:=h1
   simp only[HH,aa2,aa1] at h2
   rw[(by simpa using h1:HH a b n=false),aa6] at ho
   refine⟨fun _=>ho,fun h3=>⟨fun _=>ho,fun h4=>?_⟩⟩
   exfalso
   apply h2
   split at h3<;>split at h4<;>omega
 ·rw[aa5 e,aa6] at ho
  exact ho
noncomputable def Np(κ:Kp):Env:=(UT κ).ax 42 (aL RS Ex Mb)
theorem eCk(κ:Kp):aB (Np κ):=(eLy κ).ax (YR κ) (cCk κ)
theorem ZH(κ:Kp):aj (Np κ):=(YR κ).ax aJ
theorem xGi(κ:Kp)(N i:Nat)(ls:List (List Value))(fs gs l:List AV)(es:List (Value×AV))(I:Nat->S->Prop)(n:Nat)(K:Exit->S->Prop):(vc (Np κ) 12 15 none 0 (af (Pr κ).toProgram 15 15) (sp 63 [(7, .ptr 0 0 [] 0),(10, .an 3 0 gs.length),(11, .mp 4),(13, .ad 3 l),(49, .ad 3 l),(50, .int l.length),(51, .int i)] (tJ N ls fs++[.row 38 gs, .map 3 4 es])) (bK (Np κ) 15 15 0 I n K))=(
 letI z1:=AV.agg [AV.an 1 0 N,AV.an 2 0 fs.length]
 letI z2:=(↑i:Int)<(↑(l.length):Int)
 aD (decide z2) (aX (true&&decide z2) (∃(e0:Nat),e0<n/\I e0 (sp 63 [(7,AV.ptr 0 0 [] 0),(10,AV.an 3 0 gs.length),(11,AV.mp 4),(13,AV.ad 3 l),
 (49,AV.ad 3 l),(50,AV.int (↑(l.length):Int)),(51,AV.int (IntKind.wrap IntKind.i64 ((↑i:Int)+(1:Int))))] [Obj.box 122 z1,Obj.rows 38 3 ls none,
 Obj.row 89 fs,Obj.row 38 gs,Dn.Obj.map 3 4 (eX es (Value.int IntKind.i64 (toInt (nth l (Int.toNat (↑i:Int))))) (AV.bool true))]))) (K (Exit.exit 2) (sp 63
 [(7,AV.ptr 0 0 [] 0),(10,AV.an 3 0 gs.length),(11,AV.mp 4),(13,AV.ad 3 l)] [Obj.box 122 z1,Obj.rows 38 3 ls none,Obj.row 89 fs,Obj.row 38 gs,
 Dn.Obj.map 3 4 es]))):=by kernel_rfl
def lP(gs:List (List Int)):List AV:=gs.map fun g=> .ad 3 (iA g)
theorem NP(a b:List (List Int)):lP (a++b)=lP a++lP b:=by simp[lP]
theorem ug(a:List (List Int)):(lP a).length=a.length:=by simp[lP]
structure Wc where
 n:Nat
 m:Nat
 L:Gr
 gs:List (List Int)
 l:List Int
 done:List Int
 i:Nat
abbrev QS(x:Wc):S:=sp 63 [(7, .ptr 0 0 [] 0),(10, .an 3 0 (lP x.gs).length),(11, .mp 4),(13, .ad 3 (iA x.l)),(49, .ad 3 (iA x.l)),(50, .int (iA x.l).length),(51, .int x.i)] (nB x.n x.m x.L++[.row 38 (lP x.gs), .map 3 4 (iC x.done)])
def Lm(x:Wc):Prop:=x.i<=x.l.length/\x.l.length<=60
def HD(x:Wc):Out (Exit×S):= .one (.exit 2,sp 63 [(7, .ptr 0 0 [] 0),(10, .an 3 0 (lP x.gs).length),(11, .mp 4),(13, .ad 3 (iA x.l))] (nB x.n x.m x.L++[.row 38 (lP x.gs), .map 3 4 (iC (rC x.done (x.l.drop x.i)))]))
theorem QK: ∀(l:List Int) (k:Nat) (h:k<l.length),toInt (nth (iA l) k)=l[k]:=fun l k h=>by
 rw[bf _ _ (by rw[fo];exact h)]
 simp[iA,toInt]
theorem lGi(κ:Kp):bj (Np κ) 12 15 15 (aO 0 QS Lm HD):=by
 refine aK (fun x=>x.l.length - x.i) ?_
 rintro⟨n,m,L,gs,l,done,i⟩ K ⟨hi,hl⟩ ho
 simp only at hi hl
 rw[show(Np κ).P=Pr κ from rfl]
 refine Eq.mpr (xGi κ n i (dz L) (br n m L n) (lP gs) (iA l) (iC done) _ _ K) ?_
 simp only[HD,Out.run] at ho
 rw[ah,aq,ac0,aa1,aa3,fo]
 refine⟨fun h=>⟨h,?_⟩,fun h=>?_⟩
 ·have hk:i<l.length:=by omega
  rw[Int.toNat_natCast,QK l i hk,aW (n:=(i:Int)+1) (by omega) (by omega),show Value.int IntKind.i64 l[i]=gq l[i] from rfl,qK]
  refine⟨_,?_,⟨n,m,L,gs,l,bif done.contains l[i] then done else done++[l[i]],i+1⟩,?_,⟨hk,hl⟩,rfl,?_⟩
  ·simp only;omega
  ·simp only[QS,fo];rfl
  ·rw[ab2 hk] at ho
   simp only[HD,Out.run]
   exact ho
 ·rw[aa9 (by omega)] at ho
  exact ho
noncomputable def ED(κ:Kp):Env:=(Np κ).ak 15 15 (aO 0 QS Lm HD)
theorem eGi(κ:Kp):aB (ED κ):=(eCk κ).ak (ZH κ) (lGi κ)
theorem mGi(κ:Kp):aj (ED κ):=(ZH κ).ak aG
theorem xGo(κ:Kp)(N:Nat)(a:Int)(ls:List (List Value))(fs:List AV)(gs:List (List Int))(es:List (Value×AV))(I:Nat->S->Prop)(n:Nat)(K:Exit->S->Prop):(vc (ED κ) 12 15 none 0 (af (Pr κ).toProgram 15 11) (sp 63 [(7, .ptr 0 0 [] 0),(10, .an 3 0 (lP gs).length),(11, .mp 4),(12, .int a)] (tJ N ls fs++[.row 38 (lP gs), .map 3 4 es])) (bK (ED κ) 15 11 0 I n K))=(
 letI z1:=Pg.toProgram (Env.P (Np κ))
 aD (decide (a>=(0:Int))) (∃(e3:Pm),([AV.ptr 0 0 [] 0,AV.int a],[Obj.box 122 (AV.agg [AV.an 1 0 N,AV.an 2 0 fs.length]),Obj.rows 38 3 ls none,Obj.row
 89 fs])=([AV.ptr 0 0 [] 0,AV.int e3.a],[Obj.box 122 (AV.agg [AV.an 1 0 e3.n,AV.an 2 0 (List.length (br e3.n e3.m e3.L e3.n))]),Obj.rows 38 3 (dz e3.L)
 none,Obj.row 89 (br e3.n e3.m e3.L e3.n)])/\(((0:Int)<=e3.a/\e3.a<(↑(e3.n):Int))/\e3.n<=60)/\af z1 15 15=af z1 15 15/\∃(e2:Wc),sp 63 [(7,
 AV.ptr 0 0 [] 0),(10,AV.an 3 0 (List.length (lP gs))),(11,AV.mp 4),(13,AV.ad 3 (iA (dO e3.n e3.m e3.L e3.a))),(49,AV.ad 3 (iA (dO e3.n e3.m e3.L
 e3.a))),(50,AV.int (↑(List.length (iA (dO e3.n e3.m e3.L e3.a))):Int)),(51,AV.int 0)] [Obj.box 122 (AV.agg [AV.an 1 0 e3.n,AV.an 2 0 (List.length (br
 e3.n e3.m e3.L e3.n))]),Obj.rows 38 3 (dz e3.L) none,Obj.row 89 (br e3.n e3.m e3.L e3.n),Obj.row 38 (lP gs),Dn.Obj.map 3 4 es]=sp 63 [(7,AV.ptr 0 0 []
 0),(10,AV.an 3 0 (List.length (lP e2.gs))),(11,AV.mp 4),(13,AV.ad 3 (iA e2.l)),(49,AV.ad 3 (iA e2.l)),(50,AV.int (↑(List.length (iA e2.l)):Int)),
 (51,AV.int (↑(e2.i):Int))] [Obj.box 122 (AV.agg [AV.an 1 0 e2.n,AV.an 2 0 (List.length (br e2.n e2.m e2.L e2.n))]),Obj.rows 38 3 (dz e2.L) none,Obj.row 89
 (br e2.n e2.m e2.L e2.n),Obj.row 38 (lP e2.gs),Dn.Obj.map 3 4 (iC e2.done)]/\(e2.i<=e2.l.length/\e2.l.length<=60)/\aX (decide ((List.length (lP e2.gs)+
 1+1)*25<=70368744177664)) (∃(e1:HA),([AV.ptr 0 0 [] 0,AV.mp 3],[Obj.box 122 (AV.agg [AV.an 1 0 e2.n,AV.an 2 0 (List.length (br e2.n e2.m e2.L
 e2.n))]),Obj.rows 38 3 (dz e2.L) none,Obj.row 89 (br e2.n e2.m e2.L e2.n),Dn.Obj.map 3 4 (iC (rC e2.done (List.drop e2.i e2.l)))])=([AV.ptr 0 0 [] 0,AV.mp
 3],[Obj.box 122 (AV.agg [AV.an 1 0 e1.n,AV.an 2 0 (List.length (br e1.n e1.m e1.L e1.n))]),Obj.rows 38 3 (dz e1.L) none,Obj.row 89 (br e1.n e1.m e1.L e1.n),
 Dn.Obj.map 3 4 (iC e1.done)])/\(WG e1.n e1.m e1.L/\e1.n<=60)/\∃(e0:Nat),e0<n/\I e0 (sp 63 [(7,AV.ptr 0 0 [] 0),(10,AV.an 3 0 (List.length (lP
 e2.gs)+1)),(11,AV.mp 4),(12,AV.int (dw e1.n e1.m e1.L e1.done))] [Obj.box 122 (AV.agg [AV.an 1 0 e1.n,AV.an 2 0 (List.length (br e1.n e1.m e1.L e1.n))]),
 Obj.rows 38 3 (dz e1.L) none,Obj.row 89 (br e1.n e1.m e1.L e1.n),Obj.row 38 (List.take (List.length (lP e2.gs)) (lP e2.gs)++[AV.ad 3 (iA e2.l)]),Dn.Obj.map
 3 4 (iC e1.done)]))) (K (Exit.exit 0) (sp 63 [(10,AV.an 0 0 (List.length (lP gs)))] [Obj.row 38 (lP gs)]))):=by kernel_rfl
theorem xGz(κ:Kp)(ls:List (List Value))(es:List (Value×AV))(I:Nat->S->Prop)(n:Nat)(K:Exit->S->Prop):(vc (ED κ) 12 15 none 0 (af (Pr κ).toProgram 15 11) (sp 63 [(7, .ptr 0 0 [] 0),(10, .an 2 0 0),(11, .mp 3),(12, .int (-1))] (xn 0 ls++[.row 38 [], .map 3 4 es])) (bK (ED κ) 15 11 0 I n K))=(
 K (Exit.exit 0) (sp 63 [(10,AV.an 0 0 0)] [Obj.row 38 []])):=by kernel_rfl
structure V7 where
 n:Nat
 m:Nat
 L:Gr
 gs:List (List Int)
 done:List Int
abbrev Rg(x:V7):S:=sp 63 [(7, .ptr 0 0 [] 0),(10, .an 3 0 (lP x.gs).length),(11, .mp 4),(12, .int (dw x.n x.m x.L x.done))] (nB x.n x.m x.L++[.row 38 (lP x.gs), .map 3 4 (iC x.done)])
def Lb(x:V7):Prop:=WG x.n x.m x.L/\x.n<=60/\x.gs.length+v8 x.n x.done<=x.n
def FB(x:V7):Out (Exit×S):= .one (.exit 0,sp 63 [(10, .an 0 0 (lP (x.gs++lA x.n x.m x.L x.done)).length)] [.row 38 (lP (x.gs++lA x.n x.m x.L x.done))])
theorem xF(n m:Nat)(L:Gr)(a:Int):(dO n m L a).length<=n:=Dg n m L a n
theorem lGo(κ:Kp):bj (ED κ) 12 15 11 (aO 0 Rg Lb FB):=by
 refine aK (fun x=>v8 x.n x.done) ?_
 rintro⟨n,m,L,gs,done⟩ K ⟨hG,hn,hl⟩ ho
 simp only at hG hn hl
 rw[show(ED κ).P=Pr κ from rfl]
 refine Eq.mpr (xGo κ n (dw n m L done) (dz L) (br n m L n) gs (iC done) _ _ K) ?_
 simp only[FB,Out.run] at ho
 have hg:=oz (n:=n) (m:=m) (L:=L) done
 rw[ah,aa1,aa3]
 refine⟨fun h=>?_,fun h=>?_⟩
 ·have h1:=(oY (n:=n) (m:=m) (L:=L) (done:=done) h).1
  have h2:=o6 (n:=n) (m:=m) (L:=L) (done:=done) h
  have h3:=xF n m L (dw n m L done)
  rw[aa5 (by omega),aa6] at hg
  rw[hg] at ho
  refine⟨⟨n,m,L,dw n m L done,0⟩,rfl,⟨h1,hn⟩,rfl,⟨n,m,L,gs,dO n m L (dw n m L done),done,0⟩,rfl,⟨Nat.zero_le _,by simp only;omega⟩,?_⟩
  rw[aq,aa1]
  refine⟨by rw[ug];simp only;omega,⟨n,m,L,rC done (dO n m L (dw n m L done)),0,[]⟩,rfl,⟨hG,hn⟩,_,h2,⟨n,m,L,gs++[dO n m L (dw n m L done)],rC done (dO n m L (dw n m L done))⟩,?_,⟨hG,hn,?_⟩,rfl,?_⟩
  ·rw[List.take_length]
   simp only[Rg,NP,ab9]
   rfl
  ·simp only[ab9,List.length_singleton];omega
  ·simp only[FB,Out.run,List.append_assoc,List.singleton_append]
   exact ho
 ·rw[aa7 (show dw n m L done<0 by omega),aa8] at hg
  rw[hg,List.append_nil] at ho
  exact ho
abbrev SU(x:Ns):S:=sp 63 [(7, .ptr 0 0 [] 0),(10, .an 2 0 0),(11, .mp 3),(12, .int (-1))] (xn 0 x.ls++[.row 38 [], .map 3 4 x.es])
def PQ(_:Ns):Out (Exit×S):= .one (.exit 0,sp 63 [(10, .an 0 0 0)] [.row 38 []])
theorem lGz(κ:Kp):bj (ED κ) 12 15 11 (aO 0 SU (fun _=>True) PQ):=by
 refine aK (fun _=>0) ?_
 rintro⟨ls,es⟩ K _ ho
 rw[show(ED κ).P=Pr κ from rfl]
 exact Eq.mpr (xGz κ ls es _ _ K) ho
noncomputable def TI(κ:Kp):Env:=(ED κ).ak 15 11 (qu UD (aO 0 Rg Lb FB) (aO 0 SU (fun _=>True) PQ))
theorem eGo(κ:Kp):aB (TI κ):=(eGi κ).ak (mGi κ) (nz (lGo κ) (lGz κ))
theorem YJ(κ:Kp):aj (TI κ):=(mGi κ).ak (kU aG aG)
theorem il{ds rs:List AV}(h:(fH ds rs).2=0):pN ds rs:=by
 have h1:=(zH.1 h).1
 simp only[eW,aa2,aa1,List.all_eq_true] at h1
 refine⟨h1.1.1.1,h1.1.1.2,fun r hr=>?_,Vh h⟩
 have h2:=h1.2 r hr
 simp only[lK,aM,aa2,aa1] at h2
 have h3:=h2.1.1.2
 simpa[tB,dg] using h3
theorem vv{ds rs:List AV}(hs:fE ds rs)(h:(fH ds rs).2=0): ∀r,r∈rs->Dh ds.length ds r:=by
 intro r hr
 have h1:=BR h hr
 refine⟨h1.1,h1.2,?_,hs.2.2 r hr⟩
 have:=(il h).bs r hr
 simp only[aR];omega
def sR(ds rs:List AV):Int×Int:=bif decide ((fH ds rs).2=0) then xC ds.length (jK ds rs) (ph ds rs) ds rs else fH ds rs
def fu(ds rs:List AV):List (List Int):=lA ds.length (jK ds rs) (ph ds rs) []
theorem yGr(κ:Kp)(ds rs:List AV)(K:AV->List Dn.Obj->Prop):(a8 (TI κ) 12 15 [gJ ds rs] [] K)=(
 letI z1:=AV.agg [AV.an 1 0 0,AV.nil]
 letI z2:=Pg.toProgram (Env.P (ED κ))
 ∃(e4:rT),([AV.agg [AV.ad 61 ds,AV.ad 66 rs]],aI)=([AV.agg [AV.ad 61 e4.1,AV.ad 66 e4.2]],aI)/\(e4.1.length<=9223372036854775807/\e4.2.length<=
 9223372036854775807/\∀(e0:AV),List.Mem e0 e4.2->a6 (aa (bm 56 (cm.hl (ez e0)) (cm.bl (ez e0))))<=100000/\List.length (cm.bl (ez e0))<=100000)/\aD
 (Prod.snd (fH e4.1 e4.2) != (0:Int)) (K (AV.bh [AV.nil,AV.int (Prod.fst (fH e4.1 e4.2)),AV.int (Prod.snd (fH e4.1 e4.2))]) []) (∃(e3:rT),([AV.agg [AV.ad
 61 ds,AV.ad 66 rs]],aI)=([AV.agg [AV.ad 61 e3.1,AV.ad 66 e3.2]],aI)/\pN e3.1 e3.2/\aD (Nat.beq e3.1.length 0) (∃(e2:St),([AV.ptr 0 0 [] 0,AV.agg
 [AV.ad 61 ds,AV.ad 66 rs]],[Obj.box 122 (AV.agg [AV.an 1 0 e3.1.length,AV.nil]),Obj.rows 38 3 (dz (ph e3.1 e3.2)) none])=([AV.ptr 0 0 [] 0,AV.agg [AV.ad
 61 e2.ds,AV.ad 66 []]],[Obj.box 122 z1,Obj.rows 38 3 e2.ls none])/\True/\∃(e1:Ns),([AV.ptr 0 0 [] 0,AV.mp 2],[Obj.box 122 z1,Obj.rows 38 3 e2.ls
 none,Dn.Obj.map 3 4 []])=([AV.ptr 0 0 [] 0,AV.mp 2],[Obj.box 122 z1,Obj.rows 38 3 e1.ls none,Dn.Obj.map 3 4 e1.es])/\True/\af z2 15 11=af z2 15 11/\
 ∃(e0:Ns),sp 63 [(7,AV.ptr 0 0 [] 0),(10,AV.an 2 0 0),(11,AV.mp 3),(12,AV.int (-1))] [Obj.box 122 z1,Obj.rows 38 3 e1.ls none,Obj.row 38 [],
 Dn.Obj.map 3 4 e1.es]=sp 63 [(7,AV.ptr 0 0 [] 0),(10,AV.an 2 0 0),(11,AV.mp 3),(12,AV.int (-1))] [Obj.box 122 z1,Obj.rows 38 3 e0.ls none,Obj.row 38
 [],Dn.Obj.map 3 4 e0.es]/\True/\K (AV.bh [AV.an 0 0 0,AV.int 0,AV.int 0]) [Obj.row 38 []]) (∃(e2:Qc),([AV.ptr 0 0 [] 0,AV.agg [AV.ad 61 ds,AV.ad 66
 rs]],[Obj.box 122 (AV.agg [AV.an 1 0 e3.1.length,AV.an 2 0 (List.length (br e3.1.length (jK e3.1 e3.2) (ph e3.1 e3.2) e3.1.length))]),Obj.rows 38 3 (dz (ph
 e3.1 e3.2)) none,Obj.row 89 (br e3.1.length (jK e3.1 e3.2) (ph e3.1 e3.2) e3.1.length)])=([AV.ptr 0 0 [] 0,AV.agg [AV.ad 61 e2.ds,AV.ad 66 e2.rs]],
 [Obj.box 122 (AV.agg [AV.an 1 0 e2.n,AV.an 2 0 (List.length (br e2.n e2.m e2.L e2.n))]),Obj.rows 38 3 (dz e2.L) none,Obj.row 89 (br e2.n e2.m e2.L e2.n)])/\
 (e2.ds.length<=9223372036854775807/\e2.rs.length<=9223372036854775807/\∀(e0:AV),List.Mem e0 e2.rs->Dh e2.n e2.ds e0)/\aD (Prod.snd (xC e2.n e2.m e2.L
 e2.ds e2.rs) != (0:Int)) (K (AV.bh [AV.nil,AV.int (Prod.fst (xC e2.n e2.m e2.L e2.ds e2.rs)),AV.int (Prod.snd (xC e2.n e2.m e2.L e2.ds e2.rs))]) []) (∃(e1
 :HA),([AV.ptr 0 0 [] 0,AV.mp 3],[Obj.box 122 (AV.agg [AV.an 1 0 e2.n,AV.an 2 0 (List.length (br e2.n e2.m e2.L e2.n))]),Obj.rows 38 3 (dz e2.L) none,
 Obj.row 89 (br e2.n e2.m e2.L e2.n),Dn.Obj.map 3 4 []])=([AV.ptr 0 0 [] 0,AV.mp 3],[Obj.box 122 (AV.agg [AV.an 1 0 e1.n,AV.an 2 0 (List.length (br e1.n
 e1.m e1.L e1.n))]),Obj.rows 38 3 (dz e1.L) none,Obj.row 89 (br e1.n e1.m e1.L e1.n),Dn.Obj.map 3 4 (iC e1.done)])/\(WG e1.n e1.m e1.L/\e1.n<=60)/\af z2
 15 11=af z2 15 11/\∃(e0:V7),sp 63 [(7,AV.ptr 0 0 [] 0),(10,AV.an 3 0 0),(11,AV.mp 4),(12,AV.int (dw e1.n e1.m e1.L e1.done))] [Obj.box 122 (AV.agg
 [AV.an 1 0 e1.n,AV.an 2 0 (List.length (br e1.n e1.m e1.L e1.n))]),Obj.rows 38 3 (dz e1.L) none,Obj.row 89 (br e1.n e1.m e1.L e1.n),Obj.row 38 [],
 Dn.Obj.map 3 4 (iC e1.done)]=sp 63 [(7,AV.ptr 0 0 [] 0),(10,AV.an 3 0 (List.length (lP e0.gs))),(11,AV.mp 4),(12,AV.int (dw e0.n e0.m e0.L e0.done))]
 [Obj.box 122 (AV.agg [AV.an 1 0 e0.n,AV.an 2 0 (List.length (br e0.n e0.m e0.L e0.n))]),Obj.rows 38 3 (dz e0.L) none,Obj.row 89 (br e0.n e0.m e0.L e0.n),
 Obj.row 38 (lP e0.gs),Dn.Obj.map 3 4 (iC e0.done)]/\(WG e0.n e0.m e0.L/\e0.n<=60/\e0.gs.length+v8 e0.n e0.done<=e0.n)/\K (AV.bh [AV.an 0 0 (List.length
 (lP (e0.gs++lA e0.n e0.m e0.L e0.done))),AV.int 0,AV.int 0]) [Obj.row 38 (lP (e0.gs++lA e0.n e0.m e0.L e0.done))])))):=by kernel_rfl
def R9(x:rT):List AV×List Dn.Obj:=([gJ x.1 x.2],[])
def Fs(x:rT):Prop:=fE x.1 x.2
def Pv(x:rT):Out (AV×List Dn.Obj):= .aD (decide ((sR x.1 x.2).2=0))
 (.one (.bh [.an 0 0 (lP (fu x.1 x.2)).length, .int 0, .int 0],[.row 38 (lP (fu x.1 x.2))]))
 (.one (.bh [.nil, .int (sR x.1 x.2).1, .int (sR x.1 x.2).2],[]))
theorem cGr(κ:Kp):bt (TI κ) 12 15 (aL R9 Fs Pv):=by
 refine aZ ?_
 rintro⟨ds,rs⟩ K hs ho
 refine Eq.mpr (yGr κ ds rs K) ?_
 have ho:aD (decide ((sR ds rs).2=0)) (K (.bh [.an 0 0 (lP (fu ds rs)).length, .int 0, .int 0]) [.row 38 (lP (fu ds rs))]) (K (.bh [.nil, .int (sR ds rs).1, .int (sR ds rs).2]) []):=ho
 rw[ah,aa1,aa3] at ho
 have hs:fE ds rs:=hs
 refine⟨(ds,rs),rfl,hs,?_⟩
 rw[ah]
 by_cases hc:(fH ds rs).2=0
 ·refine⟨fun e=>absurd hc (by simpa using e),fun _=>⟨(ds,rs),rfl,il hc,?_⟩⟩
  have hf:=il hc
  have hg:=vv hs hc
  rw[show sR ds rs=xC ds.length (jK ds rs) (ph ds rs) ds rs by unfold sR;rw[aa7 hc];rfl] at ho
  rw[ah]
  refine⟨fun e=>?_,fun e=>?_⟩
  ·obtain rfl:ds=[]:=List.eq_nil_of_length_eq_zero (Nat.eq_of_beq_eq_true e)
   obtain rfl:rs=[]:=by
    cases rs with
    |nil=>rfl
    |cons r rs=>have:=(hg r (by simp)).hd;simp only[List.length_nil] at this;omega
   refine⟨⟨dz (ph [] []),[]⟩,rfl,trivial,⟨_,[]⟩,rfl,trivial,rfl,⟨_,_⟩,rfl,trivial,?_⟩
   have h1:=ho.1 rfl
   have h2:fu [] []=[]:=by
    unfold fu
    rw[oz];rfl
   rw[h2] at h1
   exact h1
  ·refine⟨⟨ds.length,jK ds rs,ph ds rs,ds,rs,0⟩,rfl,⟨hs.1,hs.2.1,hg⟩,?_⟩
   rw[ah]
   refine⟨fun e2=>ho.2 (by simpa using e2),fun e2=>?_⟩
   have h1:=ho.1 (by simpa using e2)
   exact⟨⟨ds.length,jK ds rs,ph ds rs,[],0,[]⟩,rfl,⟨hf.wg,hf.hd⟩,rfl,⟨ds.length,jK ds rs,ph ds rs,[],[]⟩,rfl,⟨hf.wg,hf.hd,by simp only[List.length_nil,Nat.zero_add];exact Ez _ _⟩,h1⟩
 ·rw[show sR ds rs=fH ds rs by unfold sR;rw[aa5 hc];rfl] at ho
  exact⟨fun _=>ho.2 hc,fun e=>absurd (by simpa using e) hc⟩
noncomputable def Xt(κ:Kp):Env:=(TI κ).ax 15 (aL R9 Fs Pv)
theorem eGr(κ:Kp):aB (Xt κ):=(eGo κ).ax (YJ κ) (cGr κ)
theorem mGr(κ:Kp):aj (Xt κ):=(YJ κ).ax aJ
structure AQ where
 ds:List AV
 rs:List AV
 a:Int
 b:Int
theorem NX{ds rs:List AV}{a b n:Int}(h:xl ds rs a b n=0):(fH ds rs).2=0/\(0<=a/\a<n)/\0<=b/\b<n:=by
 unfold xl at h
 by_cases hc:(fH ds rs).2=0
 ·rw[aa7 hc,aa8] at h
  cases e:HH a b n with
  |true=>
   simp only[HH,aa2,aa1] at e
   exact⟨hc,e⟩
  |false=>rw[e] at h;cases h
 ·rw[aa5 hc,aa6] at h
  exact absurd h hc
noncomputable abbrev Yi(κ:Kp):Env:=Xt κ
theorem eHg(κ:Kp):aB (Yi κ):=eGr κ
theorem mHg(κ:Kp):aj (Yi κ):=mGr κ
end Go.Proofs.YthaiinlfnommnaaGreatDoor
namespace Go.Rl
open Go Go.Dn
section
variable {n m m':Nat} {L M:Gr}
theorem te(n:Nat):(fL n).Pairwise (· < ·):=by
 unfold fL
 rw[List.pairwise_map]
 exact List.pairwise_lt_range.imp fun h=>by omega
theorem vC(a:Int):(dO n m L a).Pairwise (· < ·):=(te n).filter _
structure Pl(n m:Nat)(L:Gr)(done:List Int)(gs:List (List Int)):Prop where
 srt: ∀g,g∈gs->g.Pairwise (· < ·)
 ke: ∀c,c∈gs.flatten->(0<=c/\c<n)/\c∉done
 all: ∀c:Int,0<=c->c<n->c∉done->c∈gs.flatten
 rH:gs.flatten.Nodup
theorem yC{l:List Int}(h:l.Pairwise (· < ·)):l.Nodup:=h.imp fun h=>by omega
theorem F0(hG:WG n m L): ∀(k:Nat) (done:List Int),v8 n done<=k->LH n m L done->Pl n m L done (lA n m L done):=by
 intro k
 induction k with
 | zero=>
  intro done h hS
  have hd: ∀c:Int,0<=c->c<n->c∈done:=fun c h0 h1=>by
   have h2:=h
   simp only[v8,Nat.le_zero,List.countP_eq_zero] at h2
   simpa using h2 c (fy.2 ⟨h0,h1⟩)
  have hn:dw n m L done<0:=by
   rcases Int.lt_or_le (dw n m L done) 0 with e|e
   ·exact e
   ·have:=o6 (n:=n) (m:=m) (L:=L) e;omega
  rw[oz,aa7 hn,aa8]
  exact⟨fun g hg=>(nomatch hg),fun c hc=>(nomatch hc),fun c h0 h1 h2=>absurd (hd c h0 h1) h2,List.nodup_nil⟩
 | succ k ih=>
  intro done h hS
  rw[oz]
  rcases Int.lt_or_le (dw n m L done) 0 with e|e
  ·rw[aa7 e,aa8]
   refine⟨fun g hg=>(nomatch hg),fun c hc=>(nomatch hc),fun c h0 h1 h2=>?_,List.nodup_nil⟩
   have:=F9 hG ⟨h0,h1⟩ h2;omega
  ·rw[aa5 (by omega),aa6]
   have hx:=oY (n:=n) (m:=m) (L:=L) e
   have hxd:dw n m L done∉done:=by
    have h2:=hx.2
    simp only[fV,aa2,Bool.not_eq_true',List.contains_eq_mem,aa3] at h2
    exact h2.1
   have hu:=o6 (n:=n) (m:=m) (L:=L) e
   have hL:=ih _ (by omega) (Bd hG hS e)
   refine⟨fun g hg=>?_,fun c hc=>?_,fun c h0 h1 h2=>?_,?_⟩
   ·rcases List.mem_cons.1 hg with rfl|hg
    ·exact vC _
    ·exact hL.srt g hg
   ·rw[List.flatten_cons,List.mem_append] at hc
    rcases hc with hc|hc
    ·have hc':=qw.1 hc
     refine⟨hc'.1,fun hd=>hxd ?_⟩
     exact hS c _ hc'.1.1 hx.1.1 hx.1.2 hd (by rw[uK];exact hc'.2)
    ·have:=hL.ke c hc
     rw[jI,not_or] at this
     exact⟨this.1,this.2.1⟩
   ·rw[List.flatten_cons,List.mem_append]
    by_cases hg:c∈dO n m L (dw n m L done)
    ·exact .inl hg
    ·exact .inr (hL.all c h0 h1 (by rw[jI,not_or];exact⟨h2,hg⟩))
   ·rw[List.flatten_cons,List.nodup_append]
    refine⟨yC (vC _),hL.rH,fun a ha b hb=>?_⟩
    rintro rfl
    exact(hL.ke a hb).2 (by rw[jI];exact .inr ha)
def Ho:List (List Int)->Int->Int->Int
 |[],_,_=> -1
 |g::gs,a,i=>bif g.contains a then i else Ho gs a (i+1)
theorem J1(a:Int): ∀(gs:List (List Int)) (i:Int),a∈gs.flatten->i<=Ho gs a i
 |[],_,h=>nomatch h
 | g::gs,i,h=>by
  rw[Ho]
  cases e:g.contains a with
  |true=>rw[aa8];exact Int.le_refl _
  |false=>
   rw[aa6]
   rw[List.flatten_cons,List.mem_append] at h
   have:=J1 a gs (i+1) (h.resolve_left (by simpa using e))
   omega
theorem TO(hG:WG n m L): ∀(k:Nat) (done:List Int),v8 n done<=k->LH n m L done->∀(a b i:Int),(0<=a/\a<n)->(0<=b/\b<n)->a∉done->b∉done->
  (gr n m L a b=true↔Ho (lA n m L done) a i=Ho (lA n m L done) b i)/\(Rc L a b->Ho (lA n m L done) b i<=Ho (lA n m L done) a i):=by
 intro k
 induction k with
 |zero=>
  intro done h hS a b i ha hb had hbd
  exfalso
  simp only[v8,Nat.le_zero,List.countP_eq_zero] at h
  exact had (by simpa using h a (fy.2 ha))
 | succ k ih=>
  intro done h hS a b i ha hb had hbd
  have e:=F9 hG ha had
  rw[oz,aa5 (by omega),aa6]
  have hx:=oY (n:=n) (m:=m) (L:=L) e
  have hu:=o6 (n:=n) (m:=m) (L:=L) e
  have hS':=Bd hG hS e
  have hI:=ih _ (by omega) hS'
  have hL:=F0 hG _ _ (Nat.le_refl _) hS'
  have hin: ∀c:Int,(0<=c/\c<n)->(c∈dO n m L (dw n m L done)↔gr n m L (dw n m L done) c=true):=fun c hc=>by rw[qw];exact and_iff_right hc
  have hout: ∀c:Int,(0<=c/\c<n)->c∉done->c∉dO n m L (dw n m L done)->c∉rC done (dO n m L (dw n m L done)):=fun c hc h1 h2=>by rw[jI,not_or];exact⟨h1,h2⟩
  have hge: ∀c:Int,(0<=c/\c<n)->c∉done->c∉dO n m L (dw n m L done)->i+1<=Ho (lA n m L (rC done (dO n m L (dw n m L done)))) c (i+1):=fun c hc h1 h2=>J1 c _ _ (hL.all c hc.1 hc.2 (hout c hc h1 h2))
  rw[Ho,Ho]
  by_cases h1:a∈dO n m L (dw n m L done)
  ·have m1:=(hin a ha).1 h1
   rw[show(dO n m L (dw n m L done)).contains a=true by simpa using h1,aa8]
   by_cases h2:b∈dO n m L (dw n m L done)
   ·have m2:=(hin b hb).1 h2
    rw[show(dO n m L (dw n m L done)).contains b=true by simpa using h2,aa8]
    refine⟨⟨fun _=>rfl,fun _=>?_⟩,fun _=>Int.le_refl _⟩
    exact oW hG ha.1 hx.1.1 hb.1 (by rw[uK];exact m1) m2
   ·rw[show(dO n m L (dw n m L done)).contains b=false by simpa using h2,aa6]
    have h3:=hge b hb hbd h2
    refine⟨⟨fun hm=>absurd ((hin b hb).2 (oW hG hx.1.1 ha.1 hb.1 m1 hm)) h2,fun hm=>by omega⟩,fun hr=>?_⟩
    exfalso
    have hf:=hx.2
    simp only[fV,aa2,List.all_eq_true] at hf
    have hr2:Rc L (dw n m L done) b:=by
     rcases(qt hG hx.1.1 ha.1).1 m1 with hq|⟨hq,_⟩
     ·rw[hq];exact hr
     ·exact hq.trans hr
    have:=hf.2 b ((ll hG hx.1.1).2 hr2)
    rw[ab6] at this
    rcases this with h4|h4
    ·exact hbd (by simpa using h4)
    ·exact h2 ((hin b hb).2 h4)
  ·rw[show(dO n m L (dw n m L done)).contains a=false by simpa using h1,aa6]
   have h3:=hge a ha had h1
   by_cases h2:b∈dO n m L (dw n m L done)
   ·have m2:=(hin b hb).1 h2
    rw[show(dO n m L (dw n m L done)).contains b=true by simpa using h2,aa8]
    refine⟨⟨fun hm=>absurd ((hin a ha).2 (oW hG hx.1.1 hb.1 ha.1 m2 (by rw[uK];exact hm))) h1,fun hm=>by omega⟩,fun _=>by omega⟩
   ·rw[show(dO n m L (dw n m L done)).contains b=false by simpa using h2,aa6]
    exact hI a b (i+1) ha hb (hout a ha had h1) (hout b hb hbd h2)
theorem BJ:LH n m L []:=fun _ _ _ _ _ h=>nomatch h
end
end Go.Rl
namespace Go.Proofs.YthaiinlfnommnaaGreatDoor
open Go Go.Dn Go.Rl Go.Proofs
theorem Sf{ds rs:List AV}:(sR ds rs).2=0↔(fH ds rs).2=0/\(xC ds.length (jK ds rs) (ph ds rs) ds rs).2=0:=by
 unfold sR
 by_cases h:(fH ds rs).2=0
 ·rw[aa7 h,aa8];simp[h]
 ·rw[aa5 h,aa6];simp[h]
theorem B1{ds rs:List AV}(f:pN ds rs):Pl ds.length (jK ds rs) (ph ds rs) [] (fu ds rs):=F0 f.wg _ _ (Nat.le_refl _) BJ
theorem Ku{ds rs:List AV}{a b n:Int}(hc:(fH ds rs).2=0)(ha:0<=a/\a<n)(hb:0<=b/\b<n):xl ds rs a b n=0:=by
 unfold xl
 rw[aa7 hc,aa8,show HH a b n=true by simp[HH,ha,hb]];rfl
theorem sO{ds rs:List AV}(h:jN ds rs=true):fE ds rs:=by
 simp only[jN,aa2,aa1] at h
 obtain⟨_,h1,h2,h3⟩:=h
 refine⟨by simp only[aR];omega,by simp only[aR];omega,fun x hx=>?_⟩
 have hc:=yk (rs.map tB) 2000 (by omega) h1 (tB x) (List.mem_map_of_mem hx)
 have e:tB x=aF (ez x):=rfl
 rw[e,fT] at hc
 have hc:pG (aF (ez x))+(ez x).bl.length<=2000:=by omega
 refine⟨?_,by omega⟩
 rw[mv 56 (ez x).rel (ez x).hl (ez x).bl]
 have:pG (aF (ez x))<=2000:=by omega
 exact Nat.le_trans this (by omega)
end Go.Proofs.YthaiinlfnommnaaGreatDoor
