import Derived.Test.YthaiinlfnommnaaGreatDoorDbM9
namespace Go.Proofs.YthaiinlfnommnaaGreatDoor
open Go Go.Dn Go.Rl Go.Proofs
attribute [local irreducible] a9 vc
set_option maxRecDepth 20000
theorem yMu(κ:Kp)(N:Nat)(ls:List (List Value))(fs:List AV)(a b:Int)(K:AV->List Dn.Obj->Prop):(a9 (QV κ) 12 75 [.ptr 0 0 [] 0, .int a, .int b] (sL N ls fs) K)=(
 letI z1:=AV.agg [AV.ar 1 0 N,AV.ar 2 0 fs.length]
 letI z2:=AV.bool false
 aD (a==b) (K (AV.bool true) [Obj.box 122 z1,Obj.rows 38 3 ls none,Obj.row 89 fs]) (a7 (decide ((0:Int)<=a)&&decide (a<(↑(fs.length):Int))) (aD
 (Dn.toBool (dh (List.zip (Cd (nth fs (0+a.toNat))) (wE (nth fs (0+a.toNat)))) (Value.int IntKind.i64 b) z2)) (a7 (decide ((0:Int)<=b)&&decide (b<
 (↑(fs.length):Int))) (K (AV.bool (Dn.toBool (dh (List.zip (Cd (nth fs (0+b.toNat))) (wE (nth fs (0+b.toNat)))) (Value.int IntKind.i64 a) z2))) [Obj.box
 122 z1,Obj.rows 38 3 ls none,Obj.row 89 fs])) (K z2 [Obj.box 122 z1,Obj.rows 38 3 ls none,Obj.row 89 fs])))):=by kernel_rfl
theorem zF: ∀l:List Int,(l.map fV).zip (l.map fun _=>AV.lit (.bool true))=ic l
 |[]=>rfl
 |a::l=>by
  have ih:=zF l
  simp only[ac1,List.zip_cons_cons,ic] at ih⊢
  rw[ih]
theorem Bb(n m:Nat)(L:Gr)(k:Nat)(a:Int)(h0:0<=a)(h:a<k):nth (bn n m L k) (0+a.toNat)=QC (iv n m L a):=by
 rw[Nat.zero_add,bg _ _ (by rw[kn];omega)]
 simp only[bn,List.getElem_map,List.getElem_range]
 rw[show((a.toNat:Nat):Int)=a by omega]
theorem Ft(n m:Nat)(L:Gr)(k:Nat)(a b:Int)(h0:0<=a)(h:a<k):Dn.toBool (dh (List.zip (Cd (nth (bn n m L k) (0+a.toNat))) (wE (nth (bn n m L k) (0+a.toNat)))) (Value.int IntKind.i64 b) (AV.lit (Value.bool false)))=(iv n m L a).contains b:=by
 rw[Bb n m L k a h0 h]
 simp only[Cd,wE]
 rw[zF,l3]
 rfl
structure Qq where
 n:Nat
 m:Nat
 L:Gr
 a:Int
 b:Int
abbrev nI(n m:Nat)(L:Gr):List Dn.Obj:=sL n (dt L) (bn n m L n)
def TF(x:Qq):List AV×List Dn.Obj:=([.ptr 0 0 [] 0, .int x.a, .int x.b],nI x.n x.m x.L)
def K7(x:Qq):Prop:=(0<=x.a/\x.a<x.n)/\0<=x.b/\x.b<x.n
def Jh(x:Qq):Out (AV×List Dn.Obj):= .one (.bool (j4 x.n x.m x.L x.a x.b),nI x.n x.m x.L)
theorem cMu(κ:Kp):bq (QV κ) 12 75 (aM TF K7 Jh):=by
 refine aZ ?_
 rintro⟨n,m,L,a,b⟩ K ⟨⟨ha,ha'⟩,hb,hb'⟩ ho
 simp only at ha ha' hb hb'
 refine Eq.mpr (yMu κ n (dt L) (bn n m L n) a b K) ?_
 simp only[Jh,Out.run,j4,nI,sL,kn] at ho
 rw[Ft n m L n a b ha ha',Ft n m L n b a hb hb',kn]
 simp only[an,ah,aa2,aa1,beq_iff_eq,beq_eq_false_iff_ne]
 refine⟨fun e=>?_,fun e=>⟨⟨ha,ha'⟩,fun h=>⟨⟨hb,hb'⟩,?_⟩,fun h=>?_⟩⟩
 ·rw[aa7 e,Bool.true_or] at ho;exact ho
 ·rw[aa5 e,h,Bool.false_or,ac0] at ho;exact ho
 ·rw[aa5 e,h,Bool.false_or,Bool.false_and] at ho;exact ho
noncomputable def Mo(κ:Kp):Env:=(QV κ).ay 75 (aM TF K7 Jh)
theorem eMu(κ:Kp):aB (Mo κ):=(eOf κ).ay (XM κ) (cMu κ)
theorem W0(κ:Kp):aj (Mo κ):=(XM κ).ay aJ
theorem xGp(κ:Kp)(N i:Nat)(ls:List (List Value))(fs ws:List AV)(a:Int)(I:Nat->S->Prop)(n:Nat)(K:Exit->S->Prop):(vc (Mo κ) 12 40 none 3 (af (Pr κ).toProgram 40 3) (sp 25 [(0, .ptr 0 0 [] 0),(1, .int a),(5, .ar 3 0 ws.length),(11, .int N),(12, .int i)] (sL N ls fs++[.row 3 ws])) (bH (Mo κ) 40 3 3 I n K))=(
 letI z1:=IntKind.wrap IntKind.i64 ((↑i:Int)+(1:Int))
 letI z2:=AV.agg [AV.ar 1 0 N,AV.ar 2 0 fs.length]
 aD (decide ((↑i:Int)<(↑N:Int))) (∃(e1:Qq),([AV.ptr 0 0 [] 0,AV.int a,AV.int (↑i:Int)],[Obj.box 122 z2,Obj.rows 38 3 ls none,Obj.row 89 fs])=
 ([AV.ptr 0 0 [] 0,AV.int e1.a,AV.int e1.b],[Obj.box 122 (AV.agg [AV.ar 1 0 e1.n,AV.ar 2 0 (List.length (bn e1.n e1.m e1.L e1.n))]),Obj.rows 38 3 (dt e1.L)
 none,Obj.row 89 (bn e1.n e1.m e1.L e1.n)])/\(((0:Int)<=e1.a/\e1.a<(↑(e1.n):Int))/\(0:Int)<=e1.b/\e1.b<(↑(e1.n):Int))/\aD (j4 e1.n e1.m e1.L
 e1.a e1.b) (a7 (decide ((ws.length+1+1)*9<=70368744177664)) (∃(e0:Nat),e0<n/\I e0 (sp 25 [(0,AV.ptr 0 0 [] 0),(1,AV.int a),(5,AV.ar 3 0
 (ws.length+1)),(11,AV.int (↑N:Int)),(12,AV.int z1)] [Obj.box 122 (AV.agg [AV.ar 1 0 e1.n,AV.ar 2 0 (List.length (bn e1.n e1.m e1.L e1.n))]),Obj.rows
 38 3 (dt e1.L) none,Obj.row 89 (bn e1.n e1.m e1.L e1.n),Obj.row 3 (List.take ws.length ws++[AV.int (↑i:Int)])]))) (∃(e0:Nat),e0<n/\I e0 (sp 25 [(0,
 AV.ptr 0 0 [] 0),(1,AV.int a),(5,AV.ar 3 0 ws.length),(11,AV.int (↑N:Int)),(12,AV.int z1)] [Obj.box 122 (AV.agg [AV.ar 1 0 e1.n,AV.ar 2 0
 (List.length (bn e1.n e1.m e1.L e1.n))]),Obj.rows 38 3 (dt e1.L) none,Obj.row 89 (bn e1.n e1.m e1.L e1.n),Obj.row 3 ws]))) (K (Exit.exit 0) (sp 25 [(5,AV.ar
 3 0 ws.length)] [Obj.box 122 z2,Obj.rows 38 3 ls none,Obj.row 89 fs,Obj.row 3 ws]))):=by kernel_rfl
def uJ(n m:Nat)(L:Gr)(a:Int)(i:Nat):List Int:=(iP i).filter (j4 n m L a)
theorem HH(n m:Nat)(L:Gr)(a:Int)(i:Nat):uJ n m L a (i+1)=bif j4 n m L a i then uJ n m L a i++[(i:Int)] else uJ n m L a i:=by
 unfold uJ iP
 rw[List.range_succ,List.map_append,List.filter_append]
 cases h:j4 n m L a i<;>simp[h]
theorem AE(n m:Nat)(L:Gr)(a:Int)(i:Nat):(uJ n m L a i).length<=i:=by
 have:=List.length_filter_le (j4 n m L a) (iP i)
 simpa[uJ,iP] using this
structure ON where
 n:Nat
 m:Nat
 L:Gr
 a:Int
 i:Nat
abbrev LY(x:ON):S:=sp 25 [(0, .ptr 0 0 [] 0),(1, .int x.a),(5, .ar 3 0 (iA (uJ x.n x.m x.L x.a x.i)).length),(11, .int x.n),(12, .int x.i)] (nI x.n x.m x.L++[.row 3 (iA (uJ x.n x.m x.L x.a x.i))])
def JH(x:ON):Prop:=(0<=x.a/\x.a<x.n)/\x.i<=x.n/\x.n<=60
def OT(x:ON):Out (Exit×S):= .one (.exit 0,sp 25 [(5, .ar 3 0 (iA (gM x.n x.m x.L x.a)).length)] (nI x.n x.m x.L++[.row 3 (iA (gM x.n x.m x.L x.a))]))
theorem lGp(κ:Kp):bh (Mo κ) 12 40 3 (aP 3 LY JH OT):=by
 refine aL (fun x=>x.n - x.i) ?_
 rintro⟨n,m,L,a,i⟩ K ⟨ha,hi,hn⟩ ho
 simp only at ha hi hn
 rw[show(Mo κ).P=Pr κ from rfl]
 refine Eq.mpr (xGp κ n i (dt L) (bn n m L n) (iA (uJ n m L a i)) a _ _ K) ?_
 have hl:=AE n m L a i
 rw[ah,aa1,aa3]
 refine⟨fun h=>⟨⟨n,m,L,a,i⟩,rfl,⟨ha,by simp only;omega,h⟩,?_⟩,fun h=>?_⟩
 ·rw[aW (n:=(i:Int)+1) (by omega) (by omega),ah,an,aa1,List.take_length]
  have hs:=HH n m L a i
  refine⟨fun e=>⟨by rw[fP];omega,_,?_,⟨n,m,L,a,i+1⟩,?_,⟨ha,by simp only;omega,hn⟩,rfl,ho⟩,fun e=>⟨_,?_,⟨n,m,L,a,i+1⟩,?_,⟨ha,by simp only;omega,hn⟩,rfl,ho⟩⟩
  ·simp only;omega
  ·simp only at e
   rw[e,aa8] at hs
   simp only[LY,hs,tJ,ab9]
   rfl
  ·simp only;omega
  ·simp only at e
   rw[e,aa6] at hs
   simp only[LY,hs]
   rfl
 ·obtain rfl:n=i:=by omega
  exact ho
noncomputable def SV(κ:Kp):Env:=(Mo κ).ak 40 3 (aP 3 LY JH OT)
theorem eGp(κ:Kp):aB (SV κ):=(eMu κ).ak (W0 κ) (lGp κ)
theorem WS(κ:Kp):aj (SV κ):=(W0 κ).ak aF
theorem yGp(κ:Kp)(N:Nat)(ls:List (List Value))(fs:List AV)(a:Int)(K:AV->List Dn.Obj->Prop):(a9 (SV κ) 12 40 [.ptr 0 0 [] 0, .int a] (sL N ls fs) K)=(
 letI z1:=Pg.toProgram (Env.P (Mo κ))
 af z1 40 3=af z1 40 3/\∃(e0:ON),sp 25 [(0,AV.ptr 0 0 [] 0),(1,AV.int a),(5,AV.ar 3 0 0),(11,AV.int (↑N:Int)),(12,AV.int 0)] [Obj.box 122
 (AV.agg [AV.ar 1 0 N,AV.ar 2 0 fs.length]),Obj.rows 38 3 ls none,Obj.row 89 fs,Obj.row 3 []]=sp 25 [(0,AV.ptr 0 0 [] 0),(1,AV.int e0.a),(5,AV.ar 3 0
 (List.length (iA (uJ e0.n e0.m e0.L e0.a e0.i)))),(11,AV.int (↑(e0.n):Int)),(12,AV.int (↑(e0.i):Int))] [Obj.box 122 (AV.agg [AV.ar 1 0 e0.n,AV.ar 2 0
 (List.length (bn e0.n e0.m e0.L e0.n))]),Obj.rows 38 3 (dt e0.L) none,Obj.row 89 (bn e0.n e0.m e0.L e0.n),Obj.row 3 (iA (uJ e0.n e0.m e0.L e0.a e0.i))]/\
 (((0:Int)<=e0.a/\e0.a<(↑(e0.n):Int))/\e0.i<=e0.n/\e0.n<=60)/\K (AV.ad 3 (List.take (List.length (iA (gM e0.n e0.m e0.L e0.a))) (List.drop 0 (iA (gM
 e0.n e0.m e0.L e0.a))))) [Obj.box 122 (AV.agg [AV.ar 1 0 e0.n,AV.ar 2 0 (List.length (bn e0.n e0.m e0.L e0.n))]),Obj.rows 38 3 (dt e0.L) none,Obj.row 89 (bn
 e0.n e0.m e0.L e0.n)]):=by kernel_rfl
def RH(x:ON):List AV×List Dn.Obj:=([.ptr 0 0 [] 0, .int x.a],nI x.n x.m x.L)
def Lc(x:ON):Prop:=(0<=x.a/\x.a<x.n)/\x.n<=60
def Om(x:ON):Out (AV×List Dn.Obj):= .one (.ad 3 (iA (gM x.n x.m x.L x.a)),nI x.n x.m x.L)
theorem cGq(κ:Kp):bq (SV κ) 12 40 (aM RH Lc Om):=by
 refine aZ ?_
 rintro⟨n,m,L,a,i⟩ K ⟨ha,hn⟩ ho
 refine Eq.mpr (yGp κ n (dt L) (bn n m L n) a K) ?_
 refine⟨rfl,⟨n,m,L,a,0⟩,rfl,⟨ha,Nat.zero_le _,hn⟩,?_⟩
 rw[ab1,List.take_length]
 exact ho
noncomputable def Nr(κ:Kp):Env:=(SV κ).ay 40 (aM RH Lc Om)
theorem eGq(κ:Kp):aB (Nr κ):=(eGp κ).ay (WS κ) (cGq κ)
theorem Xw(κ:Kp):aj (Nr κ):=(WS κ).ay aJ
theorem xNi(κ:Kp)(N:Nat)(a:Int)(ls:List (List Value))(fs:List AV)(es:List (Value×AV))(ks met:List Value)(vs:List AV)(I:Nat->S->Prop)(n:Nat)(K:Exit->S->Prop):(vc (Nr κ) 12 39 none 4 (af (Pr κ).toProgram 39 6) (sp 43 [(0, .ptr 0 0 [] 0),(1, .mp 3),(5, .int a),(11, .int N),(12, .int a),(25, .ptr 4 0 [] 0)] (sL N ls fs++[.map 3 4 es, .fit 3 4 ks vs met])) (bH (Nr κ) 39 6 4 I n K))=(
 letI z1:=AV.agg [AV.ar 1 0 N,AV.ar 2 0 fs.length]
 (∀(e3:Int) (e2:AV),List.Mem (Value.int IntKind.i64 e3,e2) (List.zip ks vs)->jN met (Value.int IntKind.i64 e3)=false->aD (!Dn.toBool (dh es (Value.int
 IntKind.i64 e3) (AV.bool false))) (∃(e1:Qq),([AV.ptr 0 0 [] 0,AV.int a,AV.int e3],[Obj.box 122 z1,Obj.rows 38 3 ls none,Obj.row 89 fs])=([AV.ptr 0 0
 [] 0,AV.int e1.a,AV.int e1.b],[Obj.box 122 (AV.agg [AV.ar 1 0 e1.n,AV.ar 2 0 (List.length (bn e1.n e1.m e1.L e1.n))]),Obj.rows 38 3 (dt e1.L) none,Obj.row
 89 (bn e1.n e1.m e1.L e1.n)])/\(((0:Int)<=e1.a/\e1.a<(↑(e1.n):Int))/\(0:Int)<=e1.b/\e1.b<(↑(e1.n):Int))/\aD (!j4 e1.n e1.m e1.L e1.a e1.b) (K
 (Exit.exit 1) (sp 43 [(0,AV.ptr 0 0 [] 0),(1,AV.mp 3),(11,AV.int (↑N:Int)),(12,AV.int a)] [Obj.box 122 (AV.agg [AV.ar 1 0 e1.n,AV.ar 2 0 (List.length
 (bn e1.n e1.m e1.L e1.n))]),Obj.rows 38 3 (dt e1.L) none,Obj.row 89 (bn e1.n e1.m e1.L e1.n),Dn.Obj.map 3 4 es])) (∃(e0:Nat),e0<n/\I e0 (sp 43 [(0,
 AV.ptr 0 0 [] 0),(1,AV.mp 3),(5,AV.int a),(11,AV.int (↑N:Int)),(12,AV.int a),(25,AV.ptr 4 0 [] 0)] [Obj.box 122 (AV.agg [AV.ar 1 0 e1.n,AV.ar 2 0
 (List.length (bn e1.n e1.m e1.L e1.n))]),Obj.rows 38 3 (dt e1.L) none,Obj.row 89 (bn e1.n e1.m e1.L e1.n),Dn.Obj.map 3 4 es,Obj.fit 3 4 ks vs (Value.int
 IntKind.i64 e3::met)]))) (∃(e0:Nat),e0<n/\I e0 (sp 43 [(0,AV.ptr 0 0 [] 0),(1,AV.mp 3),(5,AV.int a),(11,AV.int (↑N:Int)),(12,AV.int a),(25,
 AV.ptr 4 0 [] 0)] [Obj.box 122 z1,Obj.rows 38 3 ls none,Obj.row 89 fs,Dn.Obj.map 3 4 es,Obj.fit 3 4 ks vs (Value.int IntKind.i64 e3::met)])))/\(j3 met
 (List.zip ks vs)=true->K (Exit.exit 2) (sp 43 [(5,AV.int a)] [Obj.box 122 z1,Obj.rows 38 3 ls none,Obj.row 89 fs,Dn.Obj.map 3 4 es]))):=by kernel_rfl
theorem GI(n i:Nat)(h:i<n):(iP n).drop i=(i:Int)::(iP n).drop (i+1):=by
 rw[ab2 (by simpa[iP] using h)]
 congr 1
 simp[iP]
def wA(n m:Nat)(L:Gr)(done:List Int)(i:Nat):Int:=(((iP n).drop i).find? (iV n m L done)).getD (-1)
theorem Hq{n:Nat}(m:Nat)(L:Gr)(done:List Int){i:Nat}(h:i<n):wA n m L done i=bif iV n m L done i then(i:Int) else wA n m L done (i+1):=by
 unfold wA
 rw[GI n i h,List.find?_cons]
 cases iV n m L done i<;>rfl
theorem KQ(n m:Nat)(L:Gr)(done:List Int):wA n m L done n= -1:=by
 unfold wA
 rw[aa9 (by simp[iP])];rfl
structure FY where
 n:Nat
 m:Nat
 L:Gr
 done:List Int
 i:Nat
 met:List Value
def wb(x:FY):Bool:=(iv x.n x.m x.L x.i).all fun b=>x.done.contains b||j4 x.n x.m x.L x.i b
abbrev LZ(x:FY):S:=sp 43 [(0, .ptr 0 0 [] 0),(1, .mp 3),(5, .int x.i),(11, .int x.n),(12, .int x.i),(25, .ptr 4 0 [] 0)] (nI x.n x.m x.L++[.map 3 4 (ic x.done), .fit 3 4 ((iv x.n x.m x.L x.i).map fV) ((iv x.n x.m x.L x.i).map fun _=> .lit (.bool true)) x.met])
def DQ(x:FY):Prop:=WG x.n x.m x.L/\x.i<x.n/\∀b:Int,jN x.met (fV b)=true->b∈iv x.n x.m x.L x.i->(x.done.contains b||j4 x.n x.m x.L x.i b)=true
def FI(x:FY):Out (Exit×S):= .aD (wb x)
 (.one (.exit 2,sp 43 [(5, .int x.i)] (nI x.n x.m x.L++[.map 3 4 (ic x.done)])))
 (.one (.exit 1,sp 43 [(0, .ptr 0 0 [] 0),(1, .mp 3),(11, .int x.n),(12, .int x.i)] (nI x.n x.m x.L++[.map 3 4 (ic x.done)])))
theorem ux(c b:Int)(met:List Value):jN (fV c::met) (fV b)=(decide (c=b)||jN met (fV b)):=by
 simp only[jN,dc,fV]
 by_cases h:c=b
 ·subst h;simp
 ·rw[aa5 h];simp[h]
theorem Bi: ∀{l:List Int} {met:List Value},j3 met (ic l)=true->∀b,b∈l->jN met (fV b)=true
 |[],_,_,b,hb=>nomatch hb
 |a::l,met,h,b,hb=>by
  simp only[ic,ac1,j3,aa2] at h
  rcases List.mem_cons.1 hb with rfl|hb
  ·exact h.1
  ·exact Bi (l:=l) h.2 b hb
theorem MZ{x:Int}{v:AV}{l:List Int}(h:(fV x,v)∈ic l):x∈l:=by
 obtain⟨k,h1,h2⟩:=List.mem_map.1 h
 cases h2;exact h1
theorem lNi(κ:Kp):bh (Nr κ) 12 39 6 (aP 4 LZ DQ FI):=by
 refine aL (fun x=>(iv x.n x.m x.L x.i).countP fun b=>!jN x.met (fV b)) ?_
 rintro⟨n,m,L,done,i,met⟩ K ⟨hG,hi,hm⟩ ho
 simp only at hG hi hm
 rw[show(Nr κ).P=Pr κ from rfl]
 refine Eq.mpr (xNi κ n i (dt L) (bn n m L n) (ic done) ((iv n m L i).map fV) met ((iv n m L i).map fun _=> .lit (.bool true)) _ _ K) ?_
 have hi0:(0:Int)<=i:=by omega
 have ho2:=ho
 simp only[FI,Out.run,ah] at ho2
 rw[zF]
 refine⟨fun b v hbv hb=>?_,fun hs=>?_⟩
 ·have hf:b∈iv n m L i:=MZ hbv
  have hr:=Rc.lF hG hi0 ((M4 hG hi0).1 hf)
  have hn:(done.contains b||j4 n m L i b)=true->∃k,k<(iv n m L i).countP (fun b=>!jN met (fV b))/\fe LZ DQ FI (fun x=>(iv x.n x.m x.L x.i).countP fun b=>!jN x.met (fV b)) K k (LZ ⟨n,m,L,done,i,fV b::met⟩):=fun hok=>by
   refine⟨_,?_,⟨n,m,L,done,i,fV b::met⟩,rfl,⟨hG,hi,fun c hc hcf=>?_⟩,rfl,ho⟩
   ·refine oD (fun c _ hc=>?_) ⟨b,hf,?_,?_⟩
    ·rw[ux] at hc
     cases h:jN met (fV c) with
     |true=>rw[h] at hc;simp at hc
     |false=>rfl
    ·simp only[fV] at hb⊢;rw[hb];rfl
    ·rw[ux];simp
   ·rw[ux] at hc
    by_cases e:b=c
    ·subst e;exact hok
    ·rw[aa5 e,Bool.false_or] at hc
     exact hm c hc hcf
  have hg:Dn.toBool (dh (ic done) (Value.int IntKind.i64 b) (AV.lit (Value.bool false)))=done.contains b:=by rw[l3];rfl
  rw[hg]
  simp only[ah]
  refine⟨fun e=>⟨⟨n,m,L,i,b⟩,rfl,⟨⟨hi0,by simp only;omega⟩,hr⟩,fun e2=>?_,fun e2=>?_⟩,fun e=>?_⟩
  ·have h1:wb ⟨n,m,L,done,i,met⟩=false:=by
    rw[←Bool.not_eq_true,wb,List.all_eq_true]
    intro h
    have:=h b hf
    simp only at this e2 e
    rw[ab6] at this
    rcases this with h|h
    ·rw[h] at e;cases e
    ·rw[h] at e2;cases e2
   exact ho2.2 h1
  ·exact hn (by simp only at e2⊢;rw[ab6];right;simpa using e2)
  ·exact hn (by rw[ab6];left;simpa using e)
 ·have h1:wb ⟨n,m,L,done,i,met⟩=true:=by
   rw[wb,List.all_eq_true]
   exact fun b hb=>hm b (Bi hs b hb) hb
  exact ho2.1 h1
noncomputable def CL(κ:Kp):Env:=(Nr κ).ak 39 6 (aP 4 LZ DQ FI)
theorem eNi(κ:Kp):aB (CL κ):=(eGq κ).ak (Xw κ) (lNi κ)
theorem XX(κ:Kp):aj (CL κ):=(Xw κ).ak aF
theorem xNx(κ:Kp)(N i:Nat)(ls:List (List Value))(fs:List AV)(es:List (Value×AV))(I:Nat->S->Prop)(n:Nat)(K:Exit->S->Prop):(vc (CL κ) 12 39 none 4 (af (Pr κ).toProgram 39 2) (sp 43 [(0, .ptr 0 0 [] 0),(1, .mp 3),(11, .int N),(12, .int i)] (sL N ls fs++[.map 3 4 es])) (bH (CL κ) 39 2 4 I n K))=(
 letI z1:=AV.agg [AV.ar 1 0 N,AV.ar 2 0 fs.length]
 letI z2:=Pg.toProgram (Env.P (Nr κ))
 aD (decide ((↑i:Int)<(↑N:Int))) (aD (Dn.toBool (dh es (Value.int IntKind.i64 (↑i:Int)) (AV.bool false))) (∃(e0:Nat),e0<n/\I e0 (sp 43 [(0,AV.ptr
 0 0 [] 0),(1,AV.mp 3),(11,AV.int (↑N:Int)),(12,AV.int (IntKind.wrap IntKind.i64 ((↑i:Int)+(1:Int))))] [Obj.box 122 z1,Obj.rows 38 3 ls none,
 Obj.row 89 fs,Dn.Obj.map 3 4 es])) (a7 (true&&decide ((↑i:Int)<(↑(fs.length):Int))) (af z2 39 6=af z2 39 6/\∃(e1:FY),sp 43 [(0,AV.ptr 0 0 []
 0),(1,AV.mp 3),(5,AV.int (↑i:Int)),(11,AV.int (↑N:Int)),(12,AV.int (↑i:Int)),(25,AV.ptr 4 0 [] 0)] [Obj.box 122 z1,Obj.rows 38 3 ls none,
 Obj.row 89 fs,Dn.Obj.map 3 4 es,Obj.fit 3 4 (Cd (nth fs (0+Int.toNat (↑i:Int)))) (wE (nth fs (0+Int.toNat (↑i:Int)))) []]=sp 43 [(0,AV.ptr 0 0 []
 0),(1,AV.mp 3),(5,AV.int (↑(e1.i):Int)),(11,AV.int (↑(e1.n):Int)),(12,AV.int (↑(e1.i):Int)),(25,AV.ptr 4 0 [] 0)] [Obj.box 122 (AV.agg [AV.ar 1
 0 e1.n,AV.ar 2 0 (List.length (bn e1.n e1.m e1.L e1.n))]),Obj.rows 38 3 (dt e1.L) none,Obj.row 89 (bn e1.n e1.m e1.L e1.n),Dn.Obj.map 3 4 (ic e1.done),
 Obj.fit 3 4 (List.map fV (iv e1.n e1.m e1.L (↑(e1.i):Int))) (List.map (fun(e0:Int)=>AV.bool true) (iv e1.n e1.m e1.L (↑(e1.i):Int))) e1.met]/\(WG e1.n
 e1.m e1.L/\e1.i<e1.n/\∀(e0:Int),jN e1.met (Value.int IntKind.i64 e0)=true->List.Mem e0 (iv e1.n e1.m e1.L (↑(e1.i):Int))->(List.contains e1.done
 e0||j4 e1.n e1.m e1.L (↑(e1.i):Int) e0)=true)/\aD (wb e1) (K Exit.ret (sp 43 [(4,AV.int (↑(e1.i):Int))] [Obj.box 122 (AV.agg [AV.ar 1 0 e1.n,AV.ar 2
 0 (List.length (bn e1.n e1.m e1.L e1.n))]),Obj.rows 38 3 (dt e1.L) none,Obj.row 89 (bn e1.n e1.m e1.L e1.n),Dn.Obj.map 3 4 (ic e1.done)])) (∃(e0:Nat),e0
 <n/\I e0 (sp 43 [(0,AV.ptr 0 0 [] 0),(1,AV.mp 3),(11,AV.int (↑(e1.n):Int)),(12,AV.int (IntKind.wrap IntKind.i64 ((↑(e1.i):Int)+(1:Int))))]
 [Obj.box 122 (AV.agg [AV.ar 1 0 e1.n,AV.ar 2 0 (List.length (bn e1.n e1.m e1.L e1.n))]),Obj.rows 38 3 (dt e1.L) none,Obj.row 89 (bn e1.n e1.m e1.L e1.n),
 Dn.Obj.map 3 4 (ic e1.done)]))))) (K (Exit.exit 0) (sp 43 [] [Obj.box 122 z1,Obj.rows 38 3 ls none,Obj.row 89 fs,Dn.Obj.map 3 4 es]))):=by kernel_rfl
abbrev MG(x:FY):S:=sp 43 [(0, .ptr 0 0 [] 0),(1, .mp 3),(11, .int x.n),(12, .int x.i)] (nI x.n x.m x.L++[.map 3 4 (ic x.done)])
def CO(x:FY):Prop:=WG x.n x.m x.L/\x.i<=x.n/\x.n<=60
def BX(x:FY):Out (Exit×S):= .aD (decide (wA x.n x.m x.L x.done x.i<0))
 (.one (.exit 0,sp 43 [] (nI x.n x.m x.L++[.map 3 4 (ic x.done)])))
 (.one (.ret,sp 43 [(4, .int (wA x.n x.m x.L x.done x.i))] (nI x.n x.m x.L++[.map 3 4 (ic x.done)])))
theorem zN(n m:Nat)(L:Gr)(done:List Int)(i:Nat)(met:List Value):iV n m L done i=(!done.contains (i:Int)&&wb ⟨n,m,L,done,i,met⟩):=rfl
theorem lNx(κ:Kp):bh (CL κ) 12 39 2 (aP 4 MG CO BX):=by
 refine aL (fun x=>x.n - x.i) ?_
 rintro⟨n,m,L,done,i,met⟩ K ⟨hG,hi,hn⟩ ho
 simp only at hG hi hn
 rw[show(CL κ).P=Pr κ from rfl]
 refine Eq.mpr (xNx κ n i (dt L) (bn n m L n) (ic done) _ _ K) ?_
 have ho2:=ho
 simp only[BX,Out.run,ah] at ho2
 have hg:Dn.toBool (dh (ic done) (Value.int IntKind.i64 i) (AV.lit (Value.bool false)))=done.contains (i:Int):=by rw[l3];rfl
 rw[hg,ah,aa1,aa3]
 refine⟨fun h=>?_,fun h=>?_⟩
 ·have hi':i<n:=by omega
  have hs:=Hq m L done hi'
  have next:iV n m L done i=false->∃k,k<n - i/\fe MG CO BX (fun x=>x.n - x.i) K k (MG ⟨n,m,L,done,i+1,[]⟩):=fun e=>by
   rw[e,aa6] at hs
   refine⟨_,?_,⟨n,m,L,done,i+1,[]⟩,rfl,⟨hG,hi',hn⟩,rfl,?_⟩
   ·simp only;omega
   ·simp only[BX,Out.run,←hs];exact ho
  rw[ah]
  refine⟨fun e=>?_,fun e=>?_⟩
  ·rw[aW (n:=(i:Int)+1) (by omega) (by omega)]
   exact next (by rw[zN n m L done i [],e];rfl)
  ·rw[an,ac0,aa1,kn,Bb n m L n i (by omega) h]
   refine⟨h,rfl,⟨n,m,L,done,i,[]⟩,?_,⟨hG,hi',fun b hb=>(nomatch hb)⟩,?_⟩
   ·simp only[kn]
    rfl
   ·rw[ah]
    refine⟨fun e2=>?_,fun e2=>?_⟩
    ·have hf:iV n m L done i=true:=by rw[zN n m L done i [],e,e2];rfl
     rw[hf,aa8] at hs
     have:=ho2.2 (by rw[hs,aa3];omega)
     rw[hs] at this
     exact this
    ·rw[aW (n:=(i:Int)+1) (by omega) (by omega)]
     exact next (by rw[zN n m L done i [],e2,Bool.and_false])
 ·obtain rfl:i=n:=by omega
  rw[KQ] at ho2
  exact ho2.1 rfl
theorem xNz(κ:Kp)(ls:List (List Value))(es:List (Value×AV))(I:Nat->S->Prop)(n:Nat)(K:Exit->S->Prop):(vc (CL κ) 12 39 none 3 (af (Pr κ).toProgram 39 2) (sp 43 [(0, .ptr 0 0 [] 0),(1, .mp 2),(11, .int 0),(12, .int 0)] (wB 0 ls++[.map 3 4 es])) (bH (CL κ) 39 2 3 I n K))=(
 K (Exit.exit 0) (sp 43 [] [Obj.box 122 (AV.agg [AV.ar 1 0 0,AV.nil]),Obj.rows 38 3 ls none,Dn.Obj.map 3 4 es])):=by kernel_rfl
structure Mc where
 ls:List (List Value)
 es:List (Value×AV)
abbrev Tp(x:Mc):S:=sp 43 [(0, .ptr 0 0 [] 0),(1, .mp 2),(11, .int 0),(12, .int 0)] (wB 0 x.ls++[.map 3 4 x.es])
def Oi(x:Mc):Out (Exit×S):= .one (.exit 0,sp 43 [] (wB 0 x.ls++[.map 3 4 x.es]))
theorem lNz(κ:Kp):bh (CL κ) 12 39 2 (aP 3 Tp (fun _=>True) Oi):=by
 refine aL (fun _=>0) ?_
 rintro⟨ls,es⟩ K _ ho
 rw[show(CL κ).P=Pr κ from rfl]
 exact Eq.mpr (xNz κ ls es _ _ K) ho
def TE(s:S):Bool:=Nat.beq s.st.length 4
noncomputable def Px(κ:Kp):Env:=(CL κ).ak 39 2 (o6 TE (aP 4 MG CO BX) (aP 3 Tp (fun _=>True) Oi))
theorem eNx(κ:Kp):aB (Px κ):=(eNi κ).ak (XX κ) (lS (lNx κ) (lNz κ))
theorem Xq(κ:Kp):aj (Px κ):=(XX κ).ak (jg aF aF)
theorem yNx(κ:Kp)(N:Nat)(ls:List (List Value))(fs:List AV)(es:List (Value×AV))(K:AV->List Dn.Obj->Prop):(a9 (Px κ) 12 39 [.ptr 0 0 [] 0, .mp 3] (sL N ls fs++[.map 3 4 es]) K)=(
 af (Pg.toProgram (Env.P (CL κ))) 39 2=af (Pg.toProgram (Env.P (CL κ))) 39 2/\∃(a:FY),sp 43 [(0,AV.ptr 0 0 [] 0),(1,AV.mp 3),(11,AV.int
 (↑N:Int)),(12,AV.int 0)] [Obj.box 122 (AV.agg [AV.ar 1 0 N,AV.ar 2 0 fs.length]),Obj.rows 38 3 ls none,Obj.row 89 fs,Dn.Obj.map 3 4 es]=sp 43 [(0,
 AV.ptr 0 0 [] 0),(1,AV.mp 3),(11,AV.int (↑(a.n):Int)),(12,AV.int (↑(a.i):Int))] [Obj.box 122 (AV.agg [AV.ar 1 0 a.n,AV.ar 2 0 (List.length (bn
 a.n a.m a.L a.n))]),Obj.rows 38 3 (dt a.L) none,Obj.row 89 (bn a.n a.m a.L a.n),Dn.Obj.map 3 4 (ic a.done)]/\(WG a.n a.m a.L/\a.i<=a.n/\a.n<=60)/\
 aD (decide (wA a.n a.m a.L a.done a.i<(0:Int))) (K (AV.int (-1)) [Obj.box 122 (AV.agg [AV.ar 1 0 a.n,AV.ar 2 0 (List.length (bn a.n a.m a.L
 a.n))]),Obj.rows 38 3 (dt a.L) none,Obj.row 89 (bn a.n a.m a.L a.n),Dn.Obj.map 3 4 (ic a.done)]) (K (AV.int (wA a.n a.m a.L a.done a.i)) [Obj.box 122
 (AV.agg [AV.ar 1 0 a.n,AV.ar 2 0 (List.length (bn a.n a.m a.L a.n))]),Obj.rows 38 3 (dt a.L) none,Obj.row 89 (bn a.n a.m a.L a.n),Dn.Obj.map 3 4
 (ic a.done)])):=by kernel_rfl
def TL(x:FY):List AV×List Dn.Obj:=([.ptr 0 0 [] 0, .mp 3],nI x.n x.m x.L++[.map 3 4 (ic x.done)])
def IA(x:FY):Prop:=WG x.n x.m x.L/\x.n<=60
def Kv(x:FY):Out (AV×List Dn.Obj):= .one (.int (fS x.n x.m x.L x.done),nI x.n x.m x.L++[.map 3 4 (ic x.done)])
theorem MH(n m:Nat)(L:Gr)(done:List Int)(h:fS n m L done<0):fS n m L done= -1:=by
 unfold fS at h⊢
 cases e:(iP n).find? (iV n m L done) with
 |none=>rfl
 |some a=>
  rw[e] at h
  have:=(nr.1 (List.mem_of_find?_eq_some e)).1
  simp only[Option.getD_some] at h;omega
theorem Y4(κ:Kp):bq (Px κ) 12 39 (aM TL IA Kv):=by
 refine aZ ?_
 rintro⟨n,m,L,done,i,met⟩ K ⟨hG,hn⟩ ho
 refine Eq.mpr (yNx κ n (dt L) (bn n m L n) (ic done) K) ?_
 refine⟨rfl,⟨n,m,L,done,0,[]⟩,rfl,⟨hG,Nat.zero_le _,hn⟩,?_⟩
 simp only[Kv,Out.run] at ho
 rw[show wA n m L done 0=fS n m L done from rfl,ah]
 refine⟨fun e=>?_,fun _=>ho⟩
 rw[MH n m L done (of_decide_eq_true e)] at ho
 exact ho
theorem yNz(κ:Kp)(ls:List (List Value))(es:List (Value×AV))(K:AV->List Dn.Obj->Prop):(a9 (Px κ) 12 39 [.ptr 0 0 [] 0, .mp 2] (wB 0 ls++[.map 3 4 es]) K)=(
 letI z1:=AV.agg [AV.ar 1 0 0,AV.nil]
 letI z2:=Pg.toProgram (Env.P (CL κ))
 af z2 39 2=af z2 39 2/\∃(e0:Mc),sp 43 [(0,AV.ptr 0 0 [] 0),(1,AV.mp 2),(11,AV.int 0),(12,AV.int 0)] [Obj.box 122 z1,Obj.rows 38 3 ls none,
 Dn.Obj.map 3 4 es]=sp 43 [(0,AV.ptr 0 0 [] 0),(1,AV.mp 2),(11,AV.int 0),(12,AV.int 0)] [Obj.box 122 z1,Obj.rows 38 3 e0.ls none,Dn.Obj.map 3 4 e0.es]
 /\True/\K (AV.int (-1)) [Obj.box 122 z1,Obj.rows 38 3 e0.ls none,Dn.Obj.map 3 4 e0.es]):=by kernel_rfl
def TD(x:Mc):List AV×List Dn.Obj:=([.ptr 0 0 [] 0, .mp 2],wB 0 x.ls++[.map 3 4 x.es])
def N4(x:Mc):Out (AV×List Dn.Obj):= .one (.int (-1),wB 0 x.ls++[.map 3 4 x.es])
theorem cNw(κ:Kp):bq (Px κ) 12 39 (aM TD (fun _=>True) N4):=by
 refine aZ ?_
 rintro⟨ls,es⟩ K _ ho
 refine Eq.mpr (yNz κ ls es K) ?_
 exact⟨rfl,⟨ls,es⟩,rfl,trivial,ho⟩
def Sg(st:List Dn.Obj):Bool:=Nat.beq st.length 4
noncomputable def Sk(κ:Kp):Env:=(Px κ).ay 39 (D2 Sg (aM TL IA Kv) (aM TD (fun _=>True) N4))
theorem eNy(κ:Kp):aB (Sk κ):=(eNx κ).ay (Xq κ) (zV (Y4 κ) (cNw κ))
theorem X7(κ:Kp):aj (Sk κ):=(Xq κ).ay (rA aJ aJ)
def Np(op:Int):List AV×List Dn.Obj:=([.int op],[])
def Kq(op:Int):Out (AV×List Dn.Obj):= .one (.bool (fF op),[])
def JR(op:Int):Out (AV×List Dn.Obj):= .one (.bool (iK op),[])
def zm(_:Int):Prop:=True
theorem yIa(κ:Kp)(op:Int)(K:AV->List Dn.Obj->Prop):(a9 (Sk κ) 12 44 [.int op] [] K)=(
 K (AV.bool (op==(1:Int))) []):=by kernel_rfl
theorem cIa(κ:Kp):bq (Sk κ) 12 44 (aM Np zm Kq):=by
 refine aZ ?_
 rintro op K _ ho
 refine Eq.mpr (yIa κ op K) ?_
 simp only[Kq,Out.run,fF] at ho
 rw[NQ];exact ho
noncomputable def Tx(κ:Kp):Env:=(Sk κ).ay 44 (aM Np zm Kq)
theorem eIa(κ:Kp):aB (Tx κ):=(eNy κ).ay (X7 κ) (cIa κ)
theorem XF(κ:Kp):aj (Tx κ):=(X7 κ).ay aJ
theorem yIb(κ:Kp)(op:Int)(K:AV->List Dn.Obj->Prop):(a9 (Tx κ) 12 73 [.int op] [] K)=(
 aD (op==(2:Int)) (K (AV.bool true) []) (K (AV.bool (decide (op>=(7:Int)))) [])):=by kernel_rfl
theorem cIb(κ:Kp):bq (Tx κ) 12 73 (aM Np zm JR):=by
 refine aZ ?_
 rintro op K _ ho
 refine Eq.mpr (yIb κ op K) ?_
 simp only[JR,Out.run,iK] at ho
 rw[NQ]
 cases h:decide (op=2)<;>rw[h] at ho<;>exact ho
noncomputable def CK(κ:Kp):Env:=(Tx κ).ay 73 (aM Np zm JR)
theorem Z5(κ:Kp):aB (CK κ):=(eIa κ).ay (XF κ) (cIb κ)
theorem Xe(κ:Kp):aj (CK κ):=(XF κ).ay aJ
structure z7 where
 n:Nat
 m:Nat
 L:Gr
 ds:List AV
 rs:List AV
 a:cg
 h:Int
def iy(isf:Int->Bool)(n m:Nat)(L:Gr)(ds:List AV)(h:Int)(bl:List AV):Bool:=bl.any fun l=>isf (toInt (ae l 0))&&j4 n m L h (bt (toStr (ae (ae l 1) 0)) ds)
def rX(isf:Int->Bool)(x:z7):Prop:=(0<=x.h/\x.h<x.n)/\x.ds.length<=aR/\x.a.bl.length<=aR/\0<=x.a.i/\x.a.i<=x.a.bl.length/\∀l,l∈x.a.bl->isf (toInt (ae l 0))=true->0<=bt (toStr (ae (ae l 1) 0)) x.ds/\bt (toStr (ae (ae l 1) 0)) x.ds<x.n
def y3(isf:Int->Bool)(x:z7):Prop:=x.h=bt x.a.rel x.ds/\(0<=x.h/\x.h<x.n)/\x.ds.length<=aR/\x.a.bl.length<=aR/\∀l,l∈x.a.bl->isf (toInt (ae l 0))=true->0<=bt (toStr (ae (ae l 1) 0)) x.ds/\bt (toStr (ae (ae l 1) 0)) x.ds<x.n
theorem xAa(κ:Kp)(N:Nat)(ls:List (List Value))(ds rs fs:List AV)(a:cg)(h:Int)(I:Nat->S->Prop)(n:Nat)(K:Exit->S->Prop):(vc (CK κ) 12 128 none 8 (af (Pr κ).toProgram 128 2) (sp 19 [(0, .ad 72 a.bl),(1, .bI 80 [.ptr 4 0 [] 0, .ptr 6 0 [] 0, .ptr 3 0 [] 0, .ptr 7 0 [] 0]),(7, .int a.bl.length),(8, .int a.i)] (sL N ls fs++[.box 87 (.ptr 0 0 [] 0), .box 25 (gC ds rs), .box 66 (aq a), .box 94 (.bI 44 []), .box 3 (.int h)])) (bH (CK κ) 128 2 8 I n K))=(
 letI z1:=AV.agg [AV.ad 61 ds,AV.ad 66 rs]
 letI z2:=AV.agg [AV.ar 1 0 N,AV.ar 2 0 fs.length]
 letI z3:=AV.ptr 0 0 [] 0
 letI z4:=IntKind.wrap IntKind.i64 (a.i+(1:Int))
 letI z5:=a.bl.length
 letI z6:=AV.bI 44 []
 aD (decide (a.i<(↑z5:Int))) (a7 (decide ((0:Int)<=a.i)&&decide (a.i<(↑z5:Int))) (∃(e3:List AV×ByteArray),([AV.ad 61 ds,AV.str (toStr (ae (ae
 (nth a.bl a.i.toNat) 1) 0))],aI)=([AV.ad 61 e3.1,AV.str e3.2],aI)/\gx e3/\∃(e2:Int),([AV.int (toInt (ae (nth a.bl a.i.toNat) 0))],aI)=([AV.int
 e2],aI)/\True/\aD (fF e2) (∃(e1:Qq),([AV.ptr 0 0 [] 0,AV.int h,AV.int (bt e3.2 e3.1)],[Obj.box 122 z2,Obj.rows 38 3 ls none,Obj.row 89 fs])=
 ([AV.ptr 0 0 [] 0,AV.int e1.a,AV.int e1.b],[Obj.box 122 (AV.agg [AV.ar 1 0 e1.n,AV.ar 2 0 (List.length (bn e1.n e1.m e1.L e1.n))]),Obj.rows 38 3 (dt e1.L)
 none,Obj.row 89 (bn e1.n e1.m e1.L e1.n)])/\(((0:Int)<=e1.a/\e1.a<(↑(e1.n):Int))/\(0:Int)<=e1.b/\e1.b<(↑(e1.n):Int))/\aD (j4 e1.n e1.m e1.L
 e1.a e1.b) (K Exit.ret (sp 19 [(4,AV.int a.i)] [Obj.box 122 (AV.agg [AV.ar 1 0 e1.n,AV.ar 2 0 (List.length (bn e1.n e1.m e1.L e1.n))]),Obj.rows 38 3 (dt
 e1.L) none,Obj.row 89 (bn e1.n e1.m e1.L e1.n),Obj.box 87 z3,Obj.box 25 z1,Obj.box 66 (aq a),Obj.box 94 z6,Obj.box 3 (AV.int h)])) (∃(e0:Nat),e0<n/\
 I e0 (sp 19 [(0,AV.ad 72 a.bl),(1,AV.bI 80 [AV.ptr 4 0 [] 0,AV.ptr 6 0 [] 0,AV.ptr 3 0 [] 0,AV.ptr 7 0 [] 0]),(7,AV.int (↑z5:Int)),(8,AV.int z4)]
 [Obj.box 122 (AV.agg [AV.ar 1 0 e1.n,AV.ar 2 0 (List.length (bn e1.n e1.m e1.L e1.n))]),Obj.rows 38 3 (dt e1.L) none,Obj.row 89 (bn e1.n e1.m e1.L e1.n),
 Obj.box 87 z3,Obj.box 25 z1,Obj.box 66 (aq a),Obj.box 94 z6,Obj.box 3 (AV.int h)]))) (∃(e0:Nat),e0<n/\I e0 (sp 19 [(0,AV.ad 72 a.bl),(1,AV.bI 80
 [AV.ptr 4 0 [] 0,AV.ptr 6 0 [] 0,AV.ptr 3 0 [] 0,AV.ptr 7 0 [] 0]),(7,AV.int (↑z5:Int)),(8,AV.int z4)] [Obj.box 122 z2,Obj.rows 38 3 ls none,Obj.row
 89 fs,Obj.box 87 z3,Obj.box 25 z1,Obj.box 66 (aq a),Obj.box 94 z6,Obj.box 3 (AV.int h)])))) (K (Exit.exit 0) (sp 19 [] [Obj.box 122 z2,Obj.rows 38 3 ls
 none,Obj.row 89 fs,Obj.box 87 z3,Obj.box 25 z1,Obj.box 66 (aq a),Obj.box 94 z6,Obj.box 3 (AV.int h)]))):=by kernel_rfl
abbrev MP(x:z7):S:=(sp 19 [(0, .ad 72 x.a.bl),(1, .bI 80 [.ptr 4 0 [] 0, .ptr 6 0 [] 0, .ptr 3 0 [] 0, .ptr 7 0 [] 0]),(7, .int x.a.bl.length),(8, .int x.a.i)] (sL x.n (dt x.L) (bn x.n x.m x.L x.n)++[.box 87 (.ptr 0 0 [] 0), .box 25 (gC x.ds x.rs), .box 66 (aq x.a), .box 94 (.bI 44 []), .box 3 (.int x.h)]))
def El(x:z7):Out (Exit×S):= .all (fun j:Int=>0<=j) fun j=> .aD (iy fF x.n x.m x.L x.ds x.h (x.a.bl.drop x.a.i.toNat))
 (.one (.ret,sp 19 [(4, .int j)] (nI x.n x.m x.L++[.box 87 (.ptr 0 0 [] 0), .box 25 (gC x.ds x.rs), .box 66 (aq x.a), .box 94 (.bI 44 []), .box 3 (.int x.h)])))
 (.one (.exit 0,sp 19 [] (nI x.n x.m x.L++[.box 87 (.ptr 0 0 [] 0), .box 25 (gC x.ds x.rs), .box 66 (aq x.a), .box 94 (.bI 44 []), .box 3 (.int x.h)])))
theorem lAa(κ:Kp):bh (CK κ) 12 128 2 (aP 8 MP (rX fF) El):=by
 refine aL (fun x=>x.a.bl.length - x.a.i.toNat) ?_
 rintro⟨n,m,L,ds,rs,⟨xs,more,rel,hl,bl,line,i⟩,h⟩ K ⟨hh,hd,hb,h0,h1,hm⟩ ho
 simp only at hh hd hb h0 h1 hm
 rw[show(CK κ).P=Pr κ from rfl]
 refine Eq.mpr (xAa κ n (dt L) ds rs (bn n m L n) ⟨xs,more,rel,hl,bl,line,i⟩ h _ _ K) ?_
 simp only[aR] at hb
 rw[ah,an,aa2,aa1,aa1,aa3]
 refine⟨fun hi=>⟨⟨h0,hi⟩,(ds,toStr (ae (ae (nth bl i.toNat) 1) 0)),rfl,hd,toInt (ae (nth bl i.toNat) 0),rfl,trivial,?_⟩,fun hi=>?_⟩
 ·have hi:i<(bl.length:Int):=hi
  have hk:i.toNat<bl.length:=by omega
  have hx:nth bl i.toNat∈bl:=by rw[bg _ _ hk];exact List.getElem_mem _
  have hs:iy fF n m L ds h (bl.drop i.toNat)=((fF (toInt (ae (nth bl i.toNat) 0))&&j4 n m L h (bt (toStr (ae (ae (nth bl i.toNat) 1) 0)) ds))||iy fF n m L ds h (bl.drop (i.toNat+1))):=by
   rw[ab2 hk,←bg bl i.toNat hk];rfl
  have next:(fF (toInt (ae (nth bl i.toNat) 0))&&j4 n m L h (bt (toStr (ae (ae (nth bl i.toNat) 1) 0)) ds))=false->∃k,k<bl.length - i.toNat/\fe MP (rX fF) El (fun x=>x.a.bl.length - x.a.i.toNat) K k (MP ⟨n,m,L,ds,rs,⟨xs,more,rel,hl,bl,line,i+1⟩,h⟩):=fun e=>by
   rw[e,Bool.false_or] at hs
   refine⟨_,?_,⟨n,m,L,ds,rs,⟨xs,more,rel,hl,bl,line,i+1⟩,h⟩,rfl,⟨hh,hd,by simpa[aR] using hb,by simp only;omega,by simp only;omega,hm⟩,rfl,?_⟩
   ·simp only;omega
   ·simp only[El,Out.run,show(i+1).toNat=i.toNat+1 by omega,←hs]
    exact ho
  rw[aW (n:=i+1) (by omega) (by omega),ah]
  refine⟨fun e=>⟨⟨n,m,L,h,bt (toStr (ae (ae (nth bl i.toNat) 1) 0)) ds⟩,rfl,⟨hh,hm _ hx e⟩,?_⟩,fun e=>?_⟩
  ·rw[ah]
   refine⟨fun e2=>?_,fun e2=>?_⟩
   ·have:=ho i h0
    simp only at e2
    simp only[Out.run] at this
    rw[hs,e,e2] at this
    exact this
   ·exact next (by rw[e,ac0];exact e2)
  ·exact next (by rw[e,Bool.false_and])
 ·have:=ho 0 (by omega)
  simp only at hi
  simp only[Out.run] at this
  rw[aa9 (by omega)] at this
  exact this
theorem xAb(κ:Kp)(N:Nat)(ls:List (List Value))(ds rs fs:List AV)(a:cg)(h:Int)(I:Nat->S->Prop)(n:Nat)(K:Exit->S->Prop):(vc (CK κ) 12 128 none 8 (af (Pr κ).toProgram 128 2) (sp 19 [(0, .ad 72 a.bl),(1, .bI 80 [.ptr 4 0 [] 0, .ptr 6 0 [] 0, .ptr 3 0 [] 0, .ptr 7 0 [] 0]),(7, .int a.bl.length),(8, .int a.i)] (sL N ls fs++[.box 87 (.ptr 0 0 [] 0), .box 25 (gC ds rs), .box 66 (aq a), .box 94 (.bI 73 []), .box 3 (.int h)])) (bH (CK κ) 128 2 8 I n K))=(
 letI z1:=AV.agg [AV.ad 61 ds,AV.ad 66 rs]
 letI z2:=AV.agg [AV.ar 1 0 N,AV.ar 2 0 fs.length]
 letI z3:=AV.ptr 0 0 [] 0
 letI z4:=IntKind.wrap IntKind.i64 (a.i+(1:Int))
 letI z5:=a.bl.length
 letI z6:=AV.bI 73 []
 aD (decide (a.i<(↑z5:Int))) (a7 (decide ((0:Int)<=a.i)&&decide (a.i<(↑z5:Int))) (∃(e3:List AV×ByteArray),([AV.ad 61 ds,AV.str (toStr (ae (ae
 (nth a.bl a.i.toNat) 1) 0))],aI)=([AV.ad 61 e3.1,AV.str e3.2],aI)/\gx e3/\∃(e2:Int),([AV.int (toInt (ae (nth a.bl a.i.toNat) 0))],aI)=([AV.int
 e2],aI)/\True/\aD (iK e2) (∃(e1:Qq),([AV.ptr 0 0 [] 0,AV.int h,AV.int (bt e3.2 e3.1)],[Obj.box 122 z2,Obj.rows 38 3 ls none,Obj.row 89 fs])=
 ([AV.ptr 0 0 [] 0,AV.int e1.a,AV.int e1.b],[Obj.box 122 (AV.agg [AV.ar 1 0 e1.n,AV.ar 2 0 (List.length (bn e1.n e1.m e1.L e1.n))]),Obj.rows 38 3 (dt e1.L)
 none,Obj.row 89 (bn e1.n e1.m e1.L e1.n)])/\(((0:Int)<=e1.a/\e1.a<(↑(e1.n):Int))/\(0:Int)<=e1.b/\e1.b<(↑(e1.n):Int))/\aD (j4 e1.n e1.m e1.L
 e1.a e1.b) (K Exit.ret (sp 19 [(4,AV.int a.i)] [Obj.box 122 (AV.agg [AV.ar 1 0 e1.n,AV.ar 2 0 (List.length (bn e1.n e1.m e1.L e1.n))]),Obj.rows 38 3 (dt
 e1.L) none,Obj.row 89 (bn e1.n e1.m e1.L e1.n),Obj.box 87 z3,Obj.box 25 z1,Obj.box 66 (aq a),Obj.box 94 z6,Obj.box 3 (AV.int h)])) (∃(e0:Nat),e0<n/\
 I e0 (sp 19 [(0,AV.ad 72 a.bl),(1,AV.bI 80 [AV.ptr 4 0 [] 0,AV.ptr 6 0 [] 0,AV.ptr 3 0 [] 0,AV.ptr 7 0 [] 0]),(7,AV.int (↑z5:Int)),(8,AV.int z4)]
 [Obj.box 122 (AV.agg [AV.ar 1 0 e1.n,AV.ar 2 0 (List.length (bn e1.n e1.m e1.L e1.n))]),Obj.rows 38 3 (dt e1.L) none,Obj.row 89 (bn e1.n e1.m e1.L e1.n),
 Obj.box 87 z3,Obj.box 25 z1,Obj.box 66 (aq a),Obj.box 94 z6,Obj.box 3 (AV.int h)]))) (∃(e0:Nat),e0<n/\I e0 (sp 19 [(0,AV.ad 72 a.bl),(1,AV.bI 80
 [AV.ptr 4 0 [] 0,AV.ptr 6 0 [] 0,AV.ptr 3 0 [] 0,AV.ptr 7 0 [] 0]),(7,AV.int (↑z5:Int)),(8,AV.int z4)] [Obj.box 122 z2,Obj.rows 38 3 ls none,Obj.row
 89 fs,Obj.box 87 z3,Obj.box 25 z1,Obj.box 66 (aq a),Obj.box 94 z6,Obj.box 3 (AV.int h)])))) (K (Exit.exit 0) (sp 19 [] [Obj.box 122 z2,Obj.rows 38 3 ls
 none,Obj.row 89 fs,Obj.box 87 z3,Obj.box 25 z1,Obj.box 66 (aq a),Obj.box 94 z6,Obj.box 3 (AV.int h)]))):=by kernel_rfl
abbrev MV(x:z7):S:=(sp 19 [(0, .ad 72 x.a.bl),(1, .bI 80 [.ptr 4 0 [] 0, .ptr 6 0 [] 0, .ptr 3 0 [] 0, .ptr 7 0 [] 0]),(7, .int x.a.bl.length),(8, .int x.a.i)] (sL x.n (dt x.L) (bn x.n x.m x.L x.n)++[.box 87 (.ptr 0 0 [] 0), .box 25 (gC x.ds x.rs), .box 66 (aq x.a), .box 94 (.bI 73 []), .box 3 (.int x.h)]))
def Er(x:z7):Out (Exit×S):= .all (fun j:Int=>0<=j) fun j=> .aD (iy iK x.n x.m x.L x.ds x.h (x.a.bl.drop x.a.i.toNat))
 (.one (.ret,sp 19 [(4, .int j)] (nI x.n x.m x.L++[.box 87 (.ptr 0 0 [] 0), .box 25 (gC x.ds x.rs), .box 66 (aq x.a), .box 94 (.bI 73 []), .box 3 (.int x.h)])))
 (.one (.exit 0,sp 19 [] (nI x.n x.m x.L++[.box 87 (.ptr 0 0 [] 0), .box 25 (gC x.ds x.rs), .box 66 (aq x.a), .box 94 (.bI 73 []), .box 3 (.int x.h)])))
theorem lAb(κ:Kp):bh (CK κ) 12 128 2 (aP 8 MV (rX iK) Er):=by
 refine aL (fun x=>x.a.bl.length - x.a.i.toNat) ?_
 rintro⟨n,m,L,ds,rs,⟨xs,more,rel,hl,bl,line,i⟩,h⟩ K ⟨hh,hd,hb,h0,h1,hm⟩ ho
 simp only at hh hd hb h0 h1 hm
 rw[show(CK κ).P=Pr κ from rfl]
 refine Eq.mpr (xAb κ n (dt L) ds rs (bn n m L n) ⟨xs,more,rel,hl,bl,line,i⟩ h _ _ K) ?_
 simp only[aR] at hb
 rw[ah,an,aa2,aa1,aa1,aa3]
 refine⟨fun hi=>⟨⟨h0,hi⟩,(ds,toStr (ae (ae (nth bl i.toNat) 1) 0)),rfl,hd,toInt (ae (nth bl i.toNat) 0),rfl,trivial,?_⟩,fun hi=>?_⟩
 ·have hi:i<(bl.length:Int):=hi
  have hk:i.toNat<bl.length:=by omega
  have hx:nth bl i.toNat∈bl:=by rw[bg _ _ hk];exact List.getElem_mem _
  have hs:iy iK n m L ds h (bl.drop i.toNat)=((iK (toInt (ae (nth bl i.toNat) 0))&&j4 n m L h (bt (toStr (ae (ae (nth bl i.toNat) 1) 0)) ds))||iy iK n m L ds h (bl.drop (i.toNat+1))):=by
   rw[ab2 hk,←bg bl i.toNat hk];rfl
  have next:(iK (toInt (ae (nth bl i.toNat) 0))&&j4 n m L h (bt (toStr (ae (ae (nth bl i.toNat) 1) 0)) ds))=false->∃k,k<bl.length - i.toNat/\fe MV (rX iK) Er (fun x=>x.a.bl.length - x.a.i.toNat) K k (MV ⟨n,m,L,ds,rs,⟨xs,more,rel,hl,bl,line,i+1⟩,h⟩):=fun e=>by
   rw[e,Bool.false_or] at hs
   refine⟨_,?_,⟨n,m,L,ds,rs,⟨xs,more,rel,hl,bl,line,i+1⟩,h⟩,rfl,⟨hh,hd,by simpa[aR] using hb,by simp only;omega,by simp only;omega,hm⟩,rfl,?_⟩
   ·simp only;omega
   ·simp only[Er,Out.run,show(i+1).toNat=i.toNat+1 by omega,←hs]
    exact ho
  rw[aW (n:=i+1) (by omega) (by omega),ah]
  refine⟨fun e=>⟨⟨n,m,L,h,bt (toStr (ae (ae (nth bl i.toNat) 1) 0)) ds⟩,rfl,⟨hh,hm _ hx e⟩,?_⟩,fun e=>?_⟩
  ·rw[ah]
   refine⟨fun e2=>?_,fun e2=>?_⟩
   ·have:=ho i h0
    simp only at e2
    simp only[Out.run] at this
    rw[hs,e,e2] at this
    exact this
   ·exact next (by rw[e,ac0];exact e2)
  ·exact next (by rw[e,Bool.false_and])
 ·have:=ho 0 (by omega)
  simp only at hi
  simp only[Out.run] at this
  rw[aa9 (by omega)] at this
  exact this
def VK(s:S):Bool:=match ax s.st 6 with| .box _ (.bI f _)=>Nat.beq f 44|_=>false
noncomputable def Ql(κ:Kp):Env:=(CK κ).ak 128 2 (o6 VK (aP 8 MP (rX fF) El) (aP 8 MV (rX iK) Er))
theorem ZA(κ:Kp):aB (Ql κ):=(Z5 κ).ak (Xe κ) (lS (lAa κ) (lAb κ))
theorem Xn(κ:Kp):aj (Ql κ):=(Xe κ).ak (jg aF aF)
theorem Z6(κ:Kp)(N:Nat)(ls:List (List Value))(ds rs fs:List AV)(a:cg)(K:AV->List Dn.Obj->Prop):(a9 (Ql κ) 12 43 [.ptr 0 0 [] 0,gC ds rs,aq a, .bI 44 []] (sL N ls fs) K)=(
 letI z1:=Pg.toProgram (Env.P (CK κ))
 ∃(e2:List AV×ByteArray),([AV.ad 61 ds,AV.str a.rel],aI)=([AV.ad 61 e2.1,AV.str e2.2],aI)/\gx e2/\af z1 128 2=af z1 128 2/\∃(e1:z7),sp 19
 [(0,AV.ad 72 a.bl),(1,AV.bI 80 [AV.ptr 4 0 [] 0,AV.ptr 6 0 [] 0,AV.ptr 3 0 [] 0,AV.ptr 7 0 [] 0]),(7,AV.int (↑(a.bl.length):Int)),(8,AV.int 0)]
 [Obj.box 122 (AV.agg [AV.ar 1 0 N,AV.ar 2 0 fs.length]),Obj.rows 38 3 ls none,Obj.row 89 fs,Obj.box 87 (AV.ptr 0 0 [] 0),Obj.box 25 (AV.agg [AV.ad 61 ds,
 AV.ad 66 rs]),Obj.box 66 (aq a),Obj.box 94 (AV.bI 44 []),Obj.box 3 (AV.int (bt e2.2 e2.1))]=sp 19 [(0,AV.ad 72 e1.a.bl),(1,AV.bI 80 [AV.ptr 4 0 [] 0,
 AV.ptr 6 0 [] 0,AV.ptr 3 0 [] 0,AV.ptr 7 0 [] 0]),(7,AV.int (↑(List.length e1.a.bl):Int)),(8,AV.int e1.a.i)] [Obj.box 122 (AV.agg [AV.ar 1 0 e1.n,AV.ar
 2 0 (List.length (bn e1.n e1.m e1.L e1.n))]),Obj.rows 38 3 (dt e1.L) none,Obj.row 89 (bn e1.n e1.m e1.L e1.n),Obj.box 87 (AV.ptr 0 0 [] 0),Obj.box 25
 (AV.agg [AV.ad 61 e1.ds,AV.ad 66 e1.rs]),Obj.box 66 (aq e1.a),Obj.box 94 (AV.bI 44 []),Obj.box 3 (AV.int e1.h)]/\(((0:Int)<=e1.h/\e1.h<(↑(e1.n):
 Int))/\e1.ds.length<=9223372036854775807/\List.length e1.a.bl<=9223372036854775807/\(0:Int)<=e1.a.i/\e1.a.i<=(↑(List.length e1.a.bl):Int)/\∀(e0:
 AV),List.Mem e0 e1.a.bl->fF (toInt (ae e0 0))=true->(0:Int)<=bt (toStr (ae (ae e0 1) 0)) e1.ds/\bt (toStr (ae (ae e0 1) 0)) e1.ds<(↑(e1.n):Int))/\
 ∀(e0:Int),(0:Int)<=e0->aD (iy fF e1.n e1.m e1.L e1.ds e1.h (List.drop (Int.toNat e1.a.i) e1.a.bl)) (K (AV.bool (decide (e0>=(0:Int)))) [Obj.box 122
 (AV.agg [AV.ar 1 0 e1.n,AV.ar 2 0 (List.length (bn e1.n e1.m e1.L e1.n))]),Obj.rows 38 3 (dt e1.L) none,Obj.row 89 (bn e1.n e1.m e1.L e1.n)]) (K (AV.bool
 false) [Obj.box 122 (AV.agg [AV.ar 1 0 e1.n,AV.ar 2 0 (List.length (bn e1.n e1.m e1.L e1.n))]),Obj.rows 38 3 (dt e1.L) none,Obj.row 89 (bn e1.n e1.m e1.L
 e1.n)])):=by kernel_rfl
def wZ(x:z7):List AV×List Dn.Obj:=([.ptr 0 0 [] 0,gC x.ds x.rs,aq x.a, .bI 44 []],nI x.n x.m x.L)
def Eh(x:z7):Out (AV×List Dn.Obj):= .one (.bool (iy fF x.n x.m x.L x.ds x.h x.a.bl),nI x.n x.m x.L)
theorem cAa(κ:Kp):bq (Ql κ) 12 43 (aM wZ (y3 fF) Eh):=by
 refine aZ ?_
 rintro⟨n,m,L,ds,rs,⟨xs,more,rel,hl,bl,line,i⟩,h⟩ K ⟨he,hh,hd,hb,hm⟩ ho
 simp only at he hh hd hb hm
 refine Eq.mpr (Z6 κ n (dt L) ds rs (bn n m L n) ⟨xs,more,rel,hl,bl,line,i⟩ K) ?_
 simp only[Eh,Out.run] at ho
 refine⟨(ds,rel),rfl,hd,rfl,⟨n,m,L,ds,rs,⟨xs,more,rel,hl,bl,line,0⟩,h⟩,by simp only[he],⟨hh,hd,hb,by simp only;omega,by simp only;omega,hm⟩,fun j hj=>?_⟩
 show aD (iy fF n m L ds h bl) (K (.bool (decide (j>=0))) (nI n m L)) (K (.bool false) (nI n m L))
 rw[ah,aa7 (show j>=0 from hj)]
 exact⟨fun e=>by rw[e] at ho;exact ho,fun e=>by rw[e] at ho;exact ho⟩
theorem yAb(κ:Kp)(N:Nat)(ls:List (List Value))(ds rs fs:List AV)(a:cg)(K:AV->List Dn.Obj->Prop):(a9 (Ql κ) 12 43 [.ptr 0 0 [] 0,gC ds rs,aq a, .bI 73 []] (sL N ls fs) K)=(
 letI z1:=Pg.toProgram (Env.P (CK κ))
 ∃(e2:List AV×ByteArray),([AV.ad 61 ds,AV.str a.rel],aI)=([AV.ad 61 e2.1,AV.str e2.2],aI)/\gx e2/\af z1 128 2=af z1 128 2/\∃(e1:z7),sp 19
 [(0,AV.ad 72 a.bl),(1,AV.bI 80 [AV.ptr 4 0 [] 0,AV.ptr 6 0 [] 0,AV.ptr 3 0 [] 0,AV.ptr 7 0 [] 0]),(7,AV.int (↑(a.bl.length):Int)),(8,AV.int 0)]
 [Obj.box 122 (AV.agg [AV.ar 1 0 N,AV.ar 2 0 fs.length]),Obj.rows 38 3 ls none,Obj.row 89 fs,Obj.box 87 (AV.ptr 0 0 [] 0),Obj.box 25 (AV.agg [AV.ad 61 ds,
 AV.ad 66 rs]),Obj.box 66 (aq a),Obj.box 94 (AV.bI 73 []),Obj.box 3 (AV.int (bt e2.2 e2.1))]=sp 19 [(0,AV.ad 72 e1.a.bl),(1,AV.bI 80 [AV.ptr 4 0 [] 0,
 AV.ptr 6 0 [] 0,AV.ptr 3 0 [] 0,AV.ptr 7 0 [] 0]),(7,AV.int (↑(List.length e1.a.bl):Int)),(8,AV.int e1.a.i)] [Obj.box 122 (AV.agg [AV.ar 1 0 e1.n,AV.ar
 2 0 (List.length (bn e1.n e1.m e1.L e1.n))]),Obj.rows 38 3 (dt e1.L) none,Obj.row 89 (bn e1.n e1.m e1.L e1.n),Obj.box 87 (AV.ptr 0 0 [] 0),Obj.box 25
 (AV.agg [AV.ad 61 e1.ds,AV.ad 66 e1.rs]),Obj.box 66 (aq e1.a),Obj.box 94 (AV.bI 73 []),Obj.box 3 (AV.int e1.h)]/\(((0:Int)<=e1.h/\e1.h<(↑(e1.n):
 Int))/\e1.ds.length<=9223372036854775807/\List.length e1.a.bl<=9223372036854775807/\(0:Int)<=e1.a.i/\e1.a.i<=(↑(List.length e1.a.bl):Int)/\∀(e0:
 AV),List.Mem e0 e1.a.bl->iK (toInt (ae e0 0))=true->(0:Int)<=bt (toStr (ae (ae e0 1) 0)) e1.ds/\bt (toStr (ae (ae e0 1) 0)) e1.ds<(↑(e1.n):Int))/\
 ∀(e0:Int),(0:Int)<=e0->aD (iy iK e1.n e1.m e1.L e1.ds e1.h (List.drop (Int.toNat e1.a.i) e1.a.bl)) (K (AV.bool (decide (e0>=(0:Int)))) [Obj.box 122
 (AV.agg [AV.ar 1 0 e1.n,AV.ar 2 0 (List.length (bn e1.n e1.m e1.L e1.n))]),Obj.rows 38 3 (dt e1.L) none,Obj.row 89 (bn e1.n e1.m e1.L e1.n)]) (K (AV.bool
 false) [Obj.box 122 (AV.agg [AV.ar 1 0 e1.n,AV.ar 2 0 (List.length (bn e1.n e1.m e1.L e1.n))]),Obj.rows 38 3 (dt e1.L) none,Obj.row 89 (bn e1.n e1.m e1.L
 e1.n)])):=by kernel_rfl
def OF(x:z7):List AV×List Dn.Obj:=([.ptr 0 0 [] 0,gC x.ds x.rs,aq x.a, .bI 73 []],nI x.n x.m x.L)
def D3(x:z7):Out (AV×List Dn.Obj):= .one (.bool (iy iK x.n x.m x.L x.ds x.h x.a.bl),nI x.n x.m x.L)
theorem YS(κ:Kp):bq (Ql κ) 12 43 (aM OF (y3 iK) D3):=by
 refine aZ ?_
 rintro⟨n,m,L,ds,rs,⟨xs,more,rel,hl,bl,line,i⟩,h⟩ K ⟨he,hh,hd,hb,hm⟩ ho
 simp only at he hh hd hb hm
 refine Eq.mpr (yAb κ n (dt L) ds rs (bn n m L n) ⟨xs,more,rel,hl,bl,line,i⟩ K) ?_
 simp only[D3,Out.run] at ho
 refine⟨(ds,rel),rfl,hd,rfl,⟨n,m,L,ds,rs,⟨xs,more,rel,hl,bl,line,0⟩,h⟩,by simp only[he],⟨hh,hd,hb,by simp only;omega,by simp only;omega,hm⟩,fun j hj=>?_⟩
 show aD (iy iK n m L ds h bl) (K (.bool (decide (j>=0))) (nI n m L)) (K (.bool false) (nI n m L))
 rw[ah,aa7 (show j>=0 from hj)]
 exact⟨fun e=>by rw[e] at ho;exact ho,fun e=>by rw[e] at ho;exact ho⟩
def K8(sel:List AV->Bool)(a b:dj):dj:=fun args st K=>bif sel args then a args st K else b args st K
theorem HN{sel:List AV->Bool}{a b:dj}(ha:a.iT)(hb:b.iT):(K8 sel a b).iT:=fun args st K K' hK h=>by
 unfold K8 at h⊢
 cases hs:sel args<;>simp only[hs] at h⊢
 ·exact hb _ _ _ _ hK h
 ·exact ha _ _ _ _ hK h
theorem MW{E:Env}{N f:Nat}{sel:List AV->Bool}{a b:dj}(ha:bq E N f a)(hb:bq E N f b):bq E N f (K8 sel a b):=fun args st K h=>by
 unfold K8 at h
 cases hs:sel args<;>rw[hs] at h
 ·exact hb _ _ _ h
 ·exact ha _ _ _ h
def VV:List AV->Bool
 |[_,_,_, .bI f _]=>Nat.beq f 44
 |_=>false
noncomputable def Ed(κ:Kp):Env:=(Ql κ).ay 43 (K8 VV (aM wZ (y3 fF) Eh) (aM OF (y3 iK) D3))
theorem eAg(κ:Kp):aB (Ed κ):=(ZA κ).ay (Xn κ) (MW (cAa κ) (YS κ))
theorem WR(κ:Kp):aj (Ed κ):=(Xn κ).ay (HN aJ aJ)
theorem Zx(κ:Kp)(N i:Nat)(ls:List (List Value))(ds rs fs:List AV)(I:Nat->S->Prop)(n:Nat)(K:Exit->S->Prop):(vc (Ed κ) 12 38 none 3 (af (Pr κ).toProgram 38 2) (sp 38 [(0, .ptr 0 0 [] 0),(3, .ptr 3 0 [] 0),(11, .ad 66 rs),(12, .int rs.length),(13, .int i)] (sL N ls fs++[.box 25 (gC ds rs)])) (bH (Ed κ) 38 2 3 I n K))=(
 letI z1:=nth rs (Int.toNat (↑i:Int))
 letI z2:=IntKind.wrap IntKind.i64 ((↑i:Int)+(1:Int))
 letI z3:=AV.agg [AV.ad 61 ds,AV.ad 66 rs]
 letI z4:=toInt (ae z1 2)
 letI z5:=toStr (ae (ae z1 0) 0)
 letI z6:=AV.agg [AV.ar 1 0 N,AV.ar 2 0 fs.length]
 letI z8:=(↑i:Int)<(↑(rs.length):Int)
 letI z9:=ai (ae (ae z1 0) 1)
 letI z10:=ai (ae z1 1)
 aD (decide z8) (a7 (true&&decide z8) (∃(e3:z7),([AV.ptr 0 0 [] 0,AV.agg [AV.ad 61 ds,AV.ad 66 rs],AV.agg [AV.agg [AV.str z5,AV.ad 56 z9],AV.ad 72
 z10,AV.int z4],AV.bI 73 []],[Obj.box 122 z6,Obj.rows 38 3 ls none,Obj.row 89 fs])=([AV.ptr 0 0 [] 0,AV.agg [AV.ad 61 e3.ds,AV.ad 66 e3.rs],aq e3.a,
 AV.bI 73 []],[Obj.box 122 (AV.agg [AV.ar 1 0 e3.n,AV.ar 2 0 (List.length (bn e3.n e3.m e3.L e3.n))]),Obj.rows 38 3 (dt e3.L) none,Obj.row 89 (bn e3.n e3.m
 e3.L e3.n)])/\(e3.h=bt e3.a.rel e3.ds/\((0:Int)<=e3.h/\e3.h<(↑(e3.n):Int))/\e3.ds.length<=9223372036854775807/\List.length e3.a.bl<=
 9223372036854775807/\∀(e0:AV),List.Mem e0 e3.a.bl->iK (toInt (ae e0 0))=true->(0:Int)<=bt (toStr (ae (ae e0 1) 0)) e3.ds/\bt (toStr (ae (ae e0 1)
 0)) e3.ds<(↑(e3.n):Int))/\aD (iy iK e3.n e3.m e3.L e3.ds e3.h e3.a.bl) (K Exit.ret (sp 38 [(4,AV.int z4),(5,AV.int 70)] [Obj.box 122 (AV.agg [AV.ar 1 0
 e3.n,AV.ar 2 0 (List.length (bn e3.n e3.m e3.L e3.n))]),Obj.rows 38 3 (dt e3.L) none,Obj.row 89 (bn e3.n e3.m e3.L e3.n)])) (∃(e2:cg),([AV.agg [AV.agg
 [AV.str z5,AV.ad 56 z9],AV.ad 72 z10,AV.int z4]],aI)=([aq e2],aI)/\(aX (aa (bc 56 e2.hl e2.bl))<=100000/\e2.bl.length<=100000)/\aD (aK (aG e2)) (aD
 (iH (aG e2)) (aD (J6 (aG e2)) (∃(e1:z7),([AV.ptr 0 0 [] 0,AV.agg [AV.ad 61 ds,AV.ad 66 rs],AV.agg [AV.agg [AV.str z5,AV.ad 56 z9],AV.ad 72 z10,AV.int
 z4],AV.bI 44 []],[Obj.box 122 (AV.agg [AV.ar 1 0 e3.n,AV.ar 2 0 (List.length (bn e3.n e3.m e3.L e3.n))]),Obj.rows 38 3 (dt e3.L) none,Obj.row 89 (bn e3.n
 e3.m e3.L e3.n)])=([AV.ptr 0 0 [] 0,AV.agg [AV.ad 61 e1.ds,AV.ad 66 e1.rs],aq e1.a,AV.bI 44 []],[Obj.box 122 (AV.agg [AV.ar 1 0 e1.n,AV.ar 2 0
 (List.length (bn e1.n e1.m e1.L e1.n))]),Obj.rows 38 3 (dt e1.L) none,Obj.row 89 (bn e1.n e1.m e1.L e1.n)])/\(e1.h=bt e1.a.rel e1.ds/\((0:Int)<=e1.h/\
 e1.h<(↑(e1.n):Int))/\e1.ds.length<=9223372036854775807/\List.length e1.a.bl<=9223372036854775807/\∀(e0:AV),List.Mem e0 e1.a.bl->fF (toInt (ae e0
 0))=true->(0:Int)<=bt (toStr (ae (ae e0 1) 0)) e1.ds/\bt (toStr (ae (ae e0 1) 0)) e1.ds<(↑(e1.n):Int))/\aD (iy fF e1.n e1.m e1.L e1.ds e1.h e1.a.bl)
 (K Exit.ret (sp 38 [(4,AV.int z4),(5,AV.int 71)] [Obj.box 122 (AV.agg [AV.ar 1 0 e1.n,AV.ar 2 0 (List.length (bn e1.n e1.m e1.L e1.n))]),Obj.rows 38 3 (dt
 e1.L) none,Obj.row 89 (bn e1.n e1.m e1.L e1.n)])) (∃(e0:Nat),e0<n/\I e0 (sp 38 [(0,AV.ptr 0 0 [] 0),(3,AV.ptr 3 0 [] 0),(11,AV.ad 66 rs),(12,
 AV.int (↑(rs.length):Int)),(13,AV.int z2)] [Obj.box 122 (AV.agg [AV.ar 1 0 e1.n,AV.ar 2 0 (List.length (bn e1.n e1.m e1.L e1.n))]),Obj.rows 38 3 (dt e1.L)
 none,Obj.row 89 (bn e1.n e1.m e1.L e1.n),Obj.box 25 z3]))) (∃(e0:Nat),e0<n/\I e0 (sp 38 [(0,AV.ptr 0 0 [] 0),(3,AV.ptr 3 0 [] 0),(11,AV.ad 66 rs),
 (12,AV.int (↑(rs.length):Int)),(13,AV.int z2)] [Obj.box 122 (AV.agg [AV.ar 1 0 e3.n,AV.ar 2 0 (List.length (bn e3.n e3.m e3.L e3.n))]),Obj.rows 38 3 (dt
 e3.L) none,Obj.row 89 (bn e3.n e3.m e3.L e3.n),Obj.box 25 z3]))) (∃(e0:Nat),e0<n/\I e0 (sp 38 [(0,AV.ptr 0 0 [] 0),(3,AV.ptr 3 0 [] 0),(11,AV.ad
 66 rs),(12,AV.int (↑(rs.length):Int)),(13,AV.int z2)] [Obj.box 122 (AV.agg [AV.ar 1 0 e3.n,AV.ar 2 0 (List.length (bn e3.n e3.m e3.L e3.n))]),Obj.rows
 38 3 (dt e3.L) none,Obj.row 89 (bn e3.n e3.m e3.L e3.n),Obj.box 25 z3]))) (∃(e0:Nat),e0<n/\I e0 (sp 38 [(0,AV.ptr 0 0 [] 0),(3,AV.ptr 3 0 [] 0),
 (11,AV.ad 66 rs),(12,AV.int (↑(rs.length):Int)),(13,AV.int z2)] [Obj.box 122 (AV.agg [AV.ar 1 0 e3.n,AV.ar 2 0 (List.length (bn e3.n e3.m e3.L e3.n))]),
 Obj.rows 38 3 (dt e3.L) none,Obj.row 89 (bn e3.n e3.m e3.L e3.n),Obj.box 25 z3]))))) (K (Exit.exit 0) (sp 38 [] [Obj.box 122 z6,Obj.rows 38 3 ls none,
 Obj.row 89 fs]))):=by kernel_rfl
theorem xLz(κ:Kp)(ls:List (List Value))(ds:List AV)(I:Nat->S->Prop)(n:Nat)(K:Exit->S->Prop):(vc (Ed κ) 12 38 none 2 (af (Pr κ).toProgram 38 2) (sp 38 [(0, .ptr 0 0 [] 0),(3, .ptr 2 0 [] 0),(11, .ad 66 []),(12, .int 0),(13, .int 0)] (wB 0 ls++[.box 25 (gC ds [])])) (bH (Ed κ) 38 2 2 I n K))=(
 K (Exit.exit 0) (sp 38 [] [Obj.box 122 (AV.agg [AV.ar 1 0 0,AV.nil]),Obj.rows 38 3 ls none])):=by kernel_rfl
def y5(r:AV):Bool:=aK (aG (eE r))&&iH (aG (eE r))&&J6 (aG (eE r))
def BK(ds:List AV)(r:AV):Int:=bt (toStr (ae (ae r 0) 0)) ds
def FV(isf:Int->Bool)(n m:Nat)(L:Gr)(ds:List AV)(r:AV):Bool:=iy isf n m L ds (BK ds r) (ai (ae r 1))
def wC(n m:Nat)(L:Gr)(ds:List AV):List AV->Int×Int
 |[]=>(0,0)
 |r::rs=>bif FV iK n m L ds r then(toInt (ae r 2),70) else bif y5 r&&FV fF n m L ds r then(toInt (ae r 2),71) else wC n m L ds rs
structure BQ(n:Nat)(ds:List AV)(r:AV):Prop where
 hd:0<=BK ds r/\BK ds r<n
 at_: ∀l,l∈ai (ae r 1)->dN (toInt (ae l 0))=true->0<=bt (toStr (ae (ae l 1) 0)) ds/\bt (toStr (ae (ae l 1) 0)) ds<n
 le:(ai (ae r 1)).length<=aR
 Uu:cV (eE r)
theorem ur{op:Int}(h:fF op=true):dN op=true:=by
 have:op=1:=by simpa[fF] using h
 subst this;rfl
theorem Lo{op:Int}(h:iK op=true):dN op=true:=by
 unfold iK at h
 unfold dN
 by_cases e:op=2
 ·subst e;rfl
 ·rw[aa5 e,aa6,aa1] at h
  cases decide (op<3)
  ·rw[aa6,aa1];omega
  ·rfl
structure Oc where
 n:Nat
 m:Nat
 L:Gr
 ds:List AV
 rs:List AV
 i:Nat
abbrev Nx(x:Oc):S:=sp 38 [(0, .ptr 0 0 [] 0),(3, .ptr 3 0 [] 0),(11, .ad 66 x.rs),(12, .int x.rs.length),(13, .int x.i)] (nI x.n x.m x.L++[.box 25 (gC x.ds x.rs)])
def D1(x:Oc):Prop:=x.ds.length<=aR/\x.rs.length<=aR/\x.i<=x.rs.length/\∀r,r∈x.rs->BQ x.n x.ds r
def Ba(x:Oc):Out (Exit×S):= .aD (decide ((wC x.n x.m x.L x.ds (x.rs.drop x.i)).2=0))
 (.one (.exit 0,sp 38 [] (nI x.n x.m x.L)))
 (.one (.ret,sp 38 [(4, .int (wC x.n x.m x.L x.ds (x.rs.drop x.i)).1),(5, .int (wC x.n x.m x.L x.ds (x.rs.drop x.i)).2)] (nI x.n x.m x.L)))
theorem lLy(κ:Kp):bh (Ed κ) 12 38 2 (aP 3 Nx D1 Ba):=by
 refine aL (fun x=>x.rs.length - x.i) ?_
 rintro⟨n,m,L,ds,rs,i⟩ K ⟨hd,hr,hi,hg⟩ ho
 simp only at hd hr hi hg
 rw[show(Ed κ).P=Pr κ from rfl]
 refine Eq.mpr (Zx κ n i (dt L) ds rs (bn n m L n) _ _ K) ?_
 have ho2:=ho
 simp only[Ba,Out.run,ah,aa1,aa3] at ho2
 simp only[aR] at hr
 rw[ah,aa1,aa3,an,ac0,aa1]
 refine⟨fun h=>⟨h,?_⟩,fun h=>?_⟩
 ·have hk:i<rs.length:=by omega
  have hx:nth rs i∈rs:=by rw[bg _ _ hk];exact List.getElem_mem _
  have hG:=hg _ hx
  have hs:wC n m L ds (rs.drop i)=bif FV iK n m L ds (nth rs i) then(toInt (ae (nth rs i) 2),70) else bif y5 (nth rs i)&&FV fF n m L ds (nth rs i) then(toInt (ae (nth rs i) 2),71) else wC n m L ds (rs.drop (i+1)):=by
   rw[ab2 hk,←bg rs i hk];rfl
  have next:FV iK n m L ds (nth rs i)=false->(y5 (nth rs i)&&FV fF n m L ds (nth rs i))=false->∃k,k<rs.length - i/\fe Nx D1 Ba (fun x=>x.rs.length - x.i) K k (Nx ⟨n,m,L,ds,rs,i+1⟩):=fun e1 e2=>by
   rw[e1,e2,aa6,aa6] at hs
   refine⟨_,?_,⟨n,m,L,ds,rs,i+1⟩,rfl,⟨hd,by simpa[aR] using hr,hk,hg⟩,rfl,?_⟩
   ·simp only;omega
   ·simp only[Ba,Out.run,←hs];exact ho
  rw[Int.toNat_natCast,aW (n:=(i:Int)+1) (by omega) (by omega)]
  refine⟨⟨n,m,L,ds,rs,eE (nth rs i),BK ds (nth rs i)⟩,rfl,⟨rfl,hG.hd,hd,hG.le,fun l hl h=>hG.at_ l hl (Lo h)⟩,?_⟩
  rw[ah]
  refine⟨fun e=>?_,fun e=>?_⟩
  ·have e:FV iK n m L ds (nth rs i)=true:=e
   rw[e,aa8] at hs
   have:=ho2.2 (by rw[hs];exact fun h=>nomatch h)
   rw[hs] at this
   exact this
  ·have e:FV iK n m L ds (nth rs i)=false:=e
   refine⟨eE (nth rs i),rfl,hG.Uu,?_⟩
   rw[ah]
   refine⟨fun e1=>?_,fun e1=>next e (by unfold y5;rw[e1];rfl)⟩
   rw[ah]
   refine⟨fun e2=>?_,fun e2=>next e (by unfold y5;rw[e1,e2];rfl)⟩
   rw[ah]
   refine⟨fun e3=>?_,fun e3=>next e (by unfold y5;rw[e1,e2,e3];rfl)⟩
   have hv:y5 (nth rs i)=true:=by unfold y5;rw[e1,e2,e3];rfl
   refine⟨⟨n,m,L,ds,rs,eE (nth rs i),BK ds (nth rs i)⟩,rfl,⟨rfl,hG.hd,hd,hG.le,fun l hl h=>hG.at_ l hl (ur h)⟩,?_⟩
   rw[ah]
   refine⟨fun e4=>?_,fun e4=>next e (by have e4:FV fF n m L ds (nth rs i)=false:=e4;rw[e4,Bool.and_false])⟩
   have e4:FV fF n m L ds (nth rs i)=true:=e4
   rw[e,hv,e4,aa6,Bool.and_true,aa8] at hs
   have:=ho2.2 (by rw[hs];exact fun h=>nomatch h)
   rw[hs] at this
   exact this
 ·rw[aa9 (by omega)] at ho2
  exact ho2.1 rfl
structure QH where
 ls:List (List Value)
 ds:List AV
abbrev R3(x:QH):S:=sp 38 [(0, .ptr 0 0 [] 0),(3, .ptr 2 0 [] 0),(11, .ad 66 []),(12, .int 0),(13, .int 0)] (wB 0 x.ls++[.box 25 (gC x.ds [])])
def Ou(x:QH):Out (Exit×S):= .one (.exit 0,sp 38 [] (wB 0 x.ls))
theorem lLz(κ:Kp):bh (Ed κ) 12 38 2 (aP 2 R3 (fun _=>True) Ou):=by
 refine aL (fun _=>0) ?_
 rintro⟨ls,ds⟩ K _ ho
 rw[show(Ed κ).P=Pr κ from rfl]
 exact Eq.mpr (xLz κ ls ds _ _ K) ho
noncomputable def Qm(κ:Kp):Env:=(Ed κ).ak 38 2 (o6 TE (aP 3 Nx D1 Ba) (aP 2 R3 (fun _=>True) Ou))
theorem eLl(κ:Kp):aB (Qm κ):=(eAg κ).ak (WR κ) (lS (lLy κ) (lLz κ))
theorem XS(κ:Kp):aj (Qm κ):=(WR κ).ak (jg aF aF)
theorem yLy(κ:Kp)(N:Nat)(ls:List (List Value))(ds rs fs:List AV)(K:AV->List Dn.Obj->Prop):(a9 (Qm κ) 12 38 [.ptr 0 0 [] 0,gC ds rs] (sL N ls fs) K)=(
 af (Pg.toProgram (Env.P (Ed κ))) 38 2=af (Pg.toProgram (Env.P (Ed κ))) 38 2/\∃(a:Oc),sp 38 [(0,AV.ptr 0 0 [] 0),(3,AV.ptr 3 0 [] 0),
 (11,AV.ad 66 rs),(12,AV.int (↑(rs.length):Int)),(13,AV.int 0)] [Obj.box 122 (AV.agg [AV.ar 1 0 N,AV.ar 2 0 fs.length]),Obj.rows 38 3 ls none,
 Obj.row 89 fs,Obj.box 25 (AV.agg [AV.ad 61 ds,AV.ad 66 rs])]=sp 38 [(0,AV.ptr 0 0 [] 0),(3,AV.ptr 3 0 [] 0),(11,AV.ad 66 a.rs),(12,AV.int
 (↑(a.rs.length):Int)),(13,AV.int (↑(a.i):Int))] [Obj.box 122 (AV.agg [AV.ar 1 0 a.n,AV.ar 2 0 (List.length (bn a.n a.m a.L a.n))]),Obj.rows 38 3
 (dt a.L) none,Obj.row 89 (bn a.n a.m a.L a.n),Obj.box 25 (AV.agg [AV.ad 61 a.ds,AV.ad 66 a.rs])]/\(a.ds.length<=9223372036854775807/\a.rs.length<=
 9223372036854775807/\a.i<=a.rs.length/\∀(r:AV),List.Mem r a.rs->BQ a.n a.ds r)/\aD (decide (Prod.snd (wC a.n a.m a.L a.ds (List.drop a.i a.rs))=
 (0:Int))) (K (AV.ba [AV.int 0,AV.int 0]) [Obj.box 122 (AV.agg [AV.ar 1 0 a.n,AV.ar 2 0 (List.length (bn a.n a.m a.L a.n))]),Obj.rows 38 3 (dt a.L)
 none,Obj.row 89 (bn a.n a.m a.L a.n)]) (K (AV.ba [AV.int (Prod.fst (wC a.n a.m a.L a.ds (List.drop a.i a.rs))),AV.int (Prod.snd (wC a.n a.m a.L a.ds
 (List.drop a.i a.rs)))]) [Obj.box 122 (AV.agg [AV.ar 1 0 a.n,AV.ar 2 0 (List.length (bn a.n a.m a.L a.n))]),Obj.rows 38 3 (dt a.L) none,Obj.row 89
 (bn a.n a.m a.L a.n)])):=by kernel_rfl
theorem YE(κ:Kp)(ls:List (List Value))(ds:List AV)(K:AV->List Dn.Obj->Prop):(a9 (Qm κ) 12 38 [.ptr 0 0 [] 0,gC ds []] (wB 0 ls) K)=(
 letI z1:=AV.agg [AV.ar 1 0 0,AV.nil]
 letI z2:=Pg.toProgram (Env.P (Ed κ))
 af z2 38 2=af z2 38 2/\∃(e0:QH),sp 38 [(0,AV.ptr 0 0 [] 0),(3,AV.ptr 2 0 [] 0),(11,AV.ad 66 []),(12,AV.int 0),(13,AV.int 0)] [Obj.box 122 z1,
 Obj.rows 38 3 ls none,Obj.box 25 (AV.agg [AV.ad 61 ds,AV.ad 66 []])]=sp 38 [(0,AV.ptr 0 0 [] 0),(3,AV.ptr 2 0 [] 0),(11,AV.ad 66 []),(12,AV.int 0),
 (13,AV.int 0)] [Obj.box 122 z1,Obj.rows 38 3 e0.ls none,Obj.box 25 (AV.agg [AV.ad 61 e0.ds,AV.ad 66 []])]/\True/\K (AV.ba [AV.int 0,AV.int 0]) [Obj.box
 122 z1,Obj.rows 38 3 e0.ls none]):=by kernel_rfl
def OD(x:Oc):List AV×List Dn.Obj:=([.ptr 0 0 [] 0,gC x.ds x.rs],nI x.n x.m x.L)
def FF(x:Oc):Prop:=x.ds.length<=aR/\x.rs.length<=aR/\∀r,r∈x.rs->BQ x.n x.ds r
def DY(x:Oc):Out (AV×List Dn.Obj):= .one (.ba [.int (wC x.n x.m x.L x.ds x.rs).1, .int (wC x.n x.m x.L x.ds x.rs).2],nI x.n x.m x.L)
theorem BY(n m:Nat)(L:Gr)(ds:List AV): ∀rs:List AV,(wC n m L ds rs).2=0->wC n m L ds rs=(0,0)
 |[],_=>rfl
 | r::rs,h=>by
  rw[wC] at h⊢
  cases e:FV iK n m L ds r with
  |true=>rw[e,aa8] at h;cases h
  | false=>
   rw[e,aa6] at h
   rw[aa6]
   cases e2:y5 r&&FV fF n m L ds r with
   |true=>rw[e2,aa8] at h;cases h
   |false=>
    rw[e2,aa6] at h
    rw[aa6]
    exact BY n m L ds rs h
theorem cLy(κ:Kp):bq (Qm κ) 12 38 (aM OD FF DY):=by
 refine aZ ?_
 rintro⟨n,m,L,ds,rs,i⟩ K ⟨hd,hr,hg⟩ ho
 refine Eq.mpr (yLy κ n (dt L) ds rs (bn n m L n) K) ?_
 refine⟨rfl,⟨n,m,L,ds,rs,0⟩,rfl,⟨hd,hr,Nat.zero_le _,hg⟩,?_⟩
 simp only[DY,Out.run] at ho
 rw[ab1,ah]
 refine⟨fun e=>?_,fun _=>ho⟩
 rw[BY n m L ds rs (of_decide_eq_true e)] at ho
 exact ho
def NY(x:QH):List AV×List Dn.Obj:=([.ptr 0 0 [] 0,gC x.ds []],wB 0 x.ls)
def Ki(x:QH):Out (AV×List Dn.Obj):= .one (.ba [.int 0, .int 0],wB 0 x.ls)
theorem cLz(κ:Kp):bq (Qm κ) 12 38 (aM NY (fun _=>True) Ki):=by
 refine aZ ?_
 rintro⟨ls,ds⟩ K _ ho
 refine Eq.mpr (YE κ ls ds K) ?_
 exact⟨rfl,⟨ls,ds⟩,rfl,trivial,ho⟩
noncomputable def Rb(κ:Kp):Env:=(Qm κ).ay 38 (D2 TM (aM OD FF DY) (aM NY (fun _=>True) Ki))
theorem YH(κ:Kp):aB (Rb κ):=(eLl κ).ay (XS κ) (zV (cLy κ) (cLz κ))
theorem XE(κ:Kp):aj (Rb κ):=(XS κ).ay (rA aJ aJ)
theorem Zh(κ:Kp)(ds rs:List AV)(a b n:Int)(K:AV->List Dn.Obj->Prop):(a9 (Rb κ) 12 42 [gC ds rs, .int a, .int b, .int n] [] K)=(
 ∃(e1:qB),([AV.agg [AV.ad 61 ds,AV.ad 66 rs]],aI)=([AV.agg [AV.ad 61 e1.1,AV.ad 66 e1.2]],aI)/\(e1.1.length<=9223372036854775807/\e1.2.length<=
 9223372036854775807/\∀(e0:AV),List.Mem e0 e1.2->aX (aa (bc 56 (cg.hl (eE e0)) (cg.bl (eE e0))))<=100000/\List.length (cg.bl (eE e0))<=100000)/\aD
 (Prod.snd (fG e1.1 e1.2)==(0:Int)) (aD (decide ((if b<a then b else a)<(0:Int))) (K (AV.int 2) []) (aD (decide ((if b>a then b else a)>=n)) (K
 (AV.int 2) []) (K (AV.int (Prod.snd (fG e1.1 e1.2))) []))) (K (AV.int (Prod.snd (fG e1.1 e1.2))) [])):=by kernel_rfl
def Hd(a b n:Int):Bool:=(decide (0<=a)&&decide (a<n))&&(decide (0<=b)&&decide (b<n))
def wq(ds rs:List AV)(a b n:Int):Int:=bif decide ((fG ds rs).2=0) then(bif Hd a b n then 0 else 2) else(fG ds rs).2
structure Us where
 ds:List AV
 rs:List AV
 a:Int
 b:Int
 n:Int
def PC(x:Us):List AV×List Dn.Obj:=([gC x.ds x.rs, .int x.a, .int x.b, .int x.n],[])
def D8(x:Us):Prop:=fX x.ds x.rs
def IY(x:Us):Out (AV×List Dn.Obj):= .one (.int (wq x.ds x.rs x.a x.b x.n),[])
theorem Z8(κ:Kp):bq (Rb κ) 12 42 (aM PC D8 IY):=by
 refine aZ ?_
 rintro⟨ds,rs,a,b,n⟩ K hs ho
 refine Eq.mpr (Zh κ ds rs a b n K) ?_
 simp only[IY,Out.run,wq] at ho
 refine⟨(ds,rs),rfl,hs,?_⟩
 simp only[NQ,ah,aa1,aa3]
 refine⟨fun e=>?_,fun e=>?_⟩
 ·rw[aa7 e,aa8] at ho
  by_cases h1:Hd a b n=true
  ·have h2:=h1
   simp only[Hd,aa2,aa1] at h2
   rw[h1,aa8] at ho
   refine⟨fun h=>?_,fun _=>⟨fun h=>?_,fun _=>by rw[e];exact ho⟩⟩
   ·split at h<;>omega
   ·split at h<;>omega
  ·have h2:=h1
   simp only[Hd,aa2,aa1] at h2
   rw[(by simpa using h1:Hd a b n=false),aa6] at ho
   refine⟨fun _=>ho,fun h3=>⟨fun _=>ho,fun h4=>?_⟩⟩
   exfalso
   apply h2
   split at h3<;>split at h4<;>omega
 ·rw[aa5 e,aa6] at ho
  exact ho
noncomputable def Mp(κ:Kp):Env:=(Rb κ).ay 42 (aM PC D8 IY)
theorem eCk(κ:Kp):aB (Mp κ):=(YH κ).ay (XE κ) (Z8 κ)
theorem Xi(κ:Kp):aj (Mp κ):=(XE κ).ay aJ
theorem xGi(κ:Kp)(N i:Nat)(ls:List (List Value))(fs gs l:List AV)(es:List (Value×AV))(I:Nat->S->Prop)(n:Nat)(K:Exit->S->Prop):(vc (Mp κ) 12 15 none 0 (af (Pr κ).toProgram 15 15) (sp 63 [(7, .ptr 0 0 [] 0),(10, .ar 3 0 gs.length),(11, .mp 4),(13, .ad 3 l),(49, .ad 3 l),(50, .int l.length),(51, .int i)] (sL N ls fs++[.row 38 gs, .map 3 4 es])) (bH (Mp κ) 15 15 0 I n K))=(
 letI z1:=AV.agg [AV.ar 1 0 N,AV.ar 2 0 fs.length]
 letI z2:=(↑i:Int)<(↑(l.length):Int)
 aD (decide z2) (a7 (true&&decide z2) (∃(e0:Nat),e0<n/\I e0 (sp 63 [(7,AV.ptr 0 0 [] 0),(10,AV.ar 3 0 gs.length),(11,AV.mp 4),(13,AV.ad 3 l),
 (49,AV.ad 3 l),(50,AV.int (↑(l.length):Int)),(51,AV.int (IntKind.wrap IntKind.i64 ((↑i:Int)+(1:Int))))] [Obj.box 122 z1,Obj.rows 38 3 ls none,
 Obj.row 89 fs,Obj.row 38 gs,Dn.Obj.map 3 4 (eM es (Value.int IntKind.i64 (toInt (nth l (Int.toNat (↑i:Int))))) (AV.bool true))]))) (K (Exit.exit 2) (sp 63
 [(7,AV.ptr 0 0 [] 0),(10,AV.ar 3 0 gs.length),(11,AV.mp 4),(13,AV.ad 3 l)] [Obj.box 122 z1,Obj.rows 38 3 ls none,Obj.row 89 fs,Obj.row 38 gs,
 Dn.Obj.map 3 4 es]))):=by kernel_rfl
def jy(gs:List (List Int)):List AV:=gs.map fun g=> .ad 3 (iA g)
theorem LH(a b:List (List Int)):jy (a++b)=jy a++jy b:=by simp[jy]
theorem kR(a:List (List Int)):(jy a).length=a.length:=by simp[jy]
structure Ub where
 n:Nat
 m:Nat
 L:Gr
 gs:List (List Int)
 l:List Int
 done:List Int
 i:Nat
abbrev PW(x:Ub):S:=sp 63 [(7, .ptr 0 0 [] 0),(10, .ar 3 0 (jy x.gs).length),(11, .mp 4),(13, .ad 3 (iA x.l)),(49, .ad 3 (iA x.l)),(50, .int (iA x.l).length),(51, .int x.i)] (nI x.n x.m x.L++[.row 38 (jy x.gs), .map 3 4 (ic x.done)])
def J9(x:Ub):Prop:=x.i<=x.l.length/\x.l.length<=60
def ES(x:Ub):Out (Exit×S):= .one (.exit 2,sp 63 [(7, .ptr 0 0 [] 0),(10, .ar 3 0 (jy x.gs).length),(11, .mp 4),(13, .ad 3 (iA x.l))] (nI x.n x.m x.L++[.row 38 (jy x.gs), .map 3 4 (ic (tC x.done (x.l.drop x.i)))]))
theorem P0: ∀(l:List Int) (k:Nat) (h:k<l.length),toInt (nth (iA l) k)=l[k]:=fun l k h=>by
 rw[bg _ _ (by rw[fP];exact h)]
 simp[iA,toInt]
theorem lGi(κ:Kp):bh (Mp κ) 12 15 15 (aP 0 PW J9 ES):=by
 refine aL (fun x=>x.l.length - x.i) ?_
 rintro⟨n,m,L,gs,l,done,i⟩ K ⟨hi,hl⟩ ho
 simp only at hi hl
 rw[show(Mp κ).P=Pr κ from rfl]
 refine Eq.mpr (xGi κ n i (dt L) (bn n m L n) (jy gs) (iA l) (ic done) _ _ K) ?_
 simp only[ES,Out.run] at ho
 rw[ah,an,ac0,aa1,aa3,fP]
 refine⟨fun h=>⟨h,?_⟩,fun h=>?_⟩
 ·have hk:i<l.length:=by omega
  rw[Int.toNat_natCast,P0 l i hk,aW (n:=(i:Int)+1) (by omega) (by omega),show Value.int IntKind.i64 l[i]=fV l[i] from rfl,qR]
  refine⟨_,?_,⟨n,m,L,gs,l,bif done.contains l[i] then done else done++[l[i]],i+1⟩,?_,⟨hk,hl⟩,rfl,?_⟩
  ·simp only;omega
  ·simp only[PW,fP];rfl
  ·rw[ab2 hk] at ho
   simp only[ES,Out.run]
   exact ho
 ·rw[aa9 (by omega)] at ho
  exact ho
noncomputable def Dh(κ:Kp):Env:=(Mp κ).ak 15 15 (aP 0 PW J9 ES)
theorem eGi(κ:Kp):aB (Dh κ):=(eCk κ).ak (Xi κ) (lGi κ)
theorem W3(κ:Kp):aj (Dh κ):=(Xi κ).ak aF
theorem xGo(κ:Kp)(N:Nat)(a:Int)(ls:List (List Value))(fs:List AV)(gs:List (List Int))(es:List (Value×AV))(I:Nat->S->Prop)(n:Nat)(K:Exit->S->Prop):(vc (Dh κ) 12 15 none 0 (af (Pr κ).toProgram 15 11) (sp 63 [(7, .ptr 0 0 [] 0),(10, .ar 3 0 (jy gs).length),(11, .mp 4),(12, .int a)] (sL N ls fs++[.row 38 (jy gs), .map 3 4 es])) (bH (Dh κ) 15 11 0 I n K))=(
 letI z1:=Pg.toProgram (Env.P (Mp κ))
 aD (decide (a>=(0:Int))) (∃(e3:ON),([AV.ptr 0 0 [] 0,AV.int a],[Obj.box 122 (AV.agg [AV.ar 1 0 N,AV.ar 2 0 fs.length]),Obj.rows 38 3 ls none,Obj.row
 89 fs])=([AV.ptr 0 0 [] 0,AV.int e3.a],[Obj.box 122 (AV.agg [AV.ar 1 0 e3.n,AV.ar 2 0 (List.length (bn e3.n e3.m e3.L e3.n))]),Obj.rows 38 3 (dt e3.L)
 none,Obj.row 89 (bn e3.n e3.m e3.L e3.n)])/\(((0:Int)<=e3.a/\e3.a<(↑(e3.n):Int))/\e3.n<=60)/\af z1 15 15=af z1 15 15/\∃(e2:Ub),sp 63 [(7,
 AV.ptr 0 0 [] 0),(10,AV.ar 3 0 (List.length (jy gs))),(11,AV.mp 4),(13,AV.ad 3 (iA (gM e3.n e3.m e3.L e3.a))),(49,AV.ad 3 (iA (gM e3.n e3.m e3.L
 e3.a))),(50,AV.int (↑(List.length (iA (gM e3.n e3.m e3.L e3.a))):Int)),(51,AV.int 0)] [Obj.box 122 (AV.agg [AV.ar 1 0 e3.n,AV.ar 2 0 (List.length (bn
 e3.n e3.m e3.L e3.n))]),Obj.rows 38 3 (dt e3.L) none,Obj.row 89 (bn e3.n e3.m e3.L e3.n),Obj.row 38 (jy gs),Dn.Obj.map 3 4 es]=sp 63 [(7,AV.ptr 0 0 []
 0),(10,AV.ar 3 0 (List.length (jy e2.gs))),(11,AV.mp 4),(13,AV.ad 3 (iA e2.l)),(49,AV.ad 3 (iA e2.l)),(50,AV.int (↑(List.length (iA e2.l)):Int)),
 (51,AV.int (↑(e2.i):Int))] [Obj.box 122 (AV.agg [AV.ar 1 0 e2.n,AV.ar 2 0 (List.length (bn e2.n e2.m e2.L e2.n))]),Obj.rows 38 3 (dt e2.L) none,Obj.row 89
 (bn e2.n e2.m e2.L e2.n),Obj.row 38 (jy e2.gs),Dn.Obj.map 3 4 (ic e2.done)]/\(e2.i<=e2.l.length/\e2.l.length<=60)/\a7 (decide ((List.length (jy e2.gs)+
 1+1)*25<=70368744177664)) (∃(e1:FY),([AV.ptr 0 0 [] 0,AV.mp 3],[Obj.box 122 (AV.agg [AV.ar 1 0 e2.n,AV.ar 2 0 (List.length (bn e2.n e2.m e2.L
 e2.n))]),Obj.rows 38 3 (dt e2.L) none,Obj.row 89 (bn e2.n e2.m e2.L e2.n),Dn.Obj.map 3 4 (ic (tC e2.done (List.drop e2.i e2.l)))])=([AV.ptr 0 0 [] 0,AV.mp
 3],[Obj.box 122 (AV.agg [AV.ar 1 0 e1.n,AV.ar 2 0 (List.length (bn e1.n e1.m e1.L e1.n))]),Obj.rows 38 3 (dt e1.L) none,Obj.row 89 (bn e1.n e1.m e1.L e1.n),
 Dn.Obj.map 3 4 (ic e1.done)])/\(WG e1.n e1.m e1.L/\e1.n<=60)/\∃(e0:Nat),e0<n/\I e0 (sp 63 [(7,AV.ptr 0 0 [] 0),(10,AV.ar 3 0 (List.length (jy
 e2.gs)+1)),(11,AV.mp 4),(12,AV.int (fS e1.n e1.m e1.L e1.done))] [Obj.box 122 (AV.agg [AV.ar 1 0 e1.n,AV.ar 2 0 (List.length (bn e1.n e1.m e1.L e1.n))]),
 Obj.rows 38 3 (dt e1.L) none,Obj.row 89 (bn e1.n e1.m e1.L e1.n),Obj.row 38 (List.take (List.length (jy e2.gs)) (jy e2.gs)++[AV.ad 3 (iA e2.l)]),Dn.Obj.map
 3 4 (ic e1.done)]))) (K (Exit.exit 0) (sp 63 [(10,AV.ar 0 0 (List.length (jy gs)))] [Obj.row 38 (jy gs)]))):=by kernel_rfl
theorem xGz(κ:Kp)(ls:List (List Value))(es:List (Value×AV))(I:Nat->S->Prop)(n:Nat)(K:Exit->S->Prop):(vc (Dh κ) 12 15 none 0 (af (Pr κ).toProgram 15 11) (sp 63 [(7, .ptr 0 0 [] 0),(10, .ar 2 0 0),(11, .mp 3),(12, .int (-1))] (wB 0 ls++[.row 38 [], .map 3 4 es])) (bH (Dh κ) 15 11 0 I n K))=(
 K (Exit.exit 0) (sp 63 [(10,AV.ar 0 0 0)] [Obj.row 38 []])):=by kernel_rfl
structure T9 where
 n:Nat
 m:Nat
 L:Gr
 gs:List (List Int)
 done:List Int
abbrev P5(x:T9):S:=sp 63 [(7, .ptr 0 0 [] 0),(10, .ar 3 0 (jy x.gs).length),(11, .mp 4),(12, .int (fS x.n x.m x.L x.done))] (nI x.n x.m x.L++[.row 38 (jy x.gs), .map 3 4 (ic x.done)])
def Kd(x:T9):Prop:=WG x.n x.m x.L/\x.n<=60/\x.gs.length+yz x.n x.done<=x.n
def EC(x:T9):Out (Exit×S):= .one (.exit 0,sp 63 [(10, .ar 0 0 (jy (x.gs++ss x.n x.m x.L x.done)).length)] [.row 38 (jy (x.gs++ss x.n x.m x.L x.done))])
theorem xJ(n m:Nat)(L:Gr)(a:Int):(gM n m L a).length<=n:=AE n m L a n
theorem lGo(κ:Kp):bh (Dh κ) 12 15 11 (aP 0 P5 Kd EC):=by
 refine aL (fun x=>yz x.n x.done) ?_
 rintro⟨n,m,L,gs,done⟩ K ⟨hG,hn,hl⟩ ho
 simp only at hG hn hl
 rw[show(Dh κ).P=Pr κ from rfl]
 refine Eq.mpr (xGo κ n (fS n m L done) (dt L) (bn n m L n) gs (ic done) _ _ K) ?_
 simp only[EC,Out.run] at ho
 have hg:=BG (n:=n) (m:=m) (L:=L) done
 rw[ah,aa1,aa3]
 refine⟨fun h=>?_,fun h=>?_⟩
 ·have h1:=(xz (n:=n) (m:=m) (L:=L) (done:=done) h).1
  have h2:=yE (n:=n) (m:=m) (L:=L) (done:=done) h
  have h3:=xJ n m L (fS n m L done)
  rw[aa5 (by omega),aa6] at hg
  rw[hg] at ho
  refine⟨⟨n,m,L,fS n m L done,0⟩,rfl,⟨h1,hn⟩,rfl,⟨n,m,L,gs,gM n m L (fS n m L done),done,0⟩,rfl,⟨Nat.zero_le _,by simp only;omega⟩,?_⟩
  rw[an,aa1]
  refine⟨by rw[kR];simp only;omega,⟨n,m,L,tC done (gM n m L (fS n m L done)),0,[]⟩,rfl,⟨hG,hn⟩,_,h2,⟨n,m,L,gs++[gM n m L (fS n m L done)],tC done (gM n m L (fS n m L done))⟩,?_,⟨hG,hn,?_⟩,rfl,?_⟩
  ·rw[List.take_length]
   simp only[P5,LH,ab9]
   rfl
  ·simp only[ab9,List.length_singleton];omega
  ·simp only[EC,Out.run,List.append_assoc,List.singleton_append]
   exact ho
 ·rw[aa7 (show fS n m L done<0 by omega),aa8] at hg
  rw[hg,List.append_nil] at ho
  exact ho
abbrev Tn(x:Mc):S:=sp 63 [(7, .ptr 0 0 [] 0),(10, .ar 2 0 0),(11, .mp 3),(12, .int (-1))] (wB 0 x.ls++[.row 38 [], .map 3 4 x.es])
def NR(_:Mc):Out (Exit×S):= .one (.exit 0,sp 63 [(10, .ar 0 0 0)] [.row 38 []])
theorem lGz(κ:Kp):bh (Dh κ) 12 15 11 (aP 0 Tn (fun _=>True) NR):=by
 refine aL (fun _=>0) ?_
 rintro⟨ls,es⟩ K _ ho
 rw[show(Dh κ).P=Pr κ from rfl]
 exact Eq.mpr (xGz κ ls es _ _ K) ho
noncomputable def Ss(κ:Kp):Env:=(Dh κ).ak 15 11 (o6 RD (aP 0 P5 Kd EC) (aP 0 Tn (fun _=>True) NR))
theorem Zt(κ:Kp):aB (Ss κ):=(eGi κ).ak (W3 κ) (lS (lGo κ) (lGz κ))
theorem Xv(κ:Kp):aj (Ss κ):=(W3 κ).ak (jg aF aF)
theorem kr{ds rs:List AV}(h:(fG ds rs).2=0):sK ds rs:=by
 have h1:=(zY.1 h).1
 simp only[eL,aa2,aa1,List.all_eq_true] at h1
 refine⟨h1.1.1.1,h1.1.1.2,fun r hr=>?_,TP h⟩
 have h2:=h1.2 r hr
 simp only[lv,aK,aa2,aa1] at h2
 have h3:=h2.1.1.2
 simpa[sH,c6] using h3
theorem AI{ds rs:List AV}(hs:fX ds rs)(h:(fG ds rs).2=0): ∀r,r∈rs->BQ ds.length ds r:=by
 intro r hr
 have h1:=Ci h hr
 refine⟨h1.1,h1.2,?_,hs.2.2 r hr⟩
 have:=(kr h).bs r hr
 simp only[aR];omega
def qs(ds rs:List AV):Int×Int:=bif decide ((fG ds rs).2=0) then wC ds.length (jE ds rs) (pr ds rs) ds rs else fG ds rs
def jx(ds rs:List AV):List (List Int):=ss ds.length (jE ds rs) (pr ds rs) []
theorem yGr(κ:Kp)(ds rs:List AV)(K:AV->List Dn.Obj->Prop):(a9 (Ss κ) 12 15 [gC ds rs] [] K)=(
 letI z1:=AV.agg [AV.ar 1 0 0,AV.nil]
 letI z2:=Pg.toProgram (Env.P (Dh κ))
 ∃(e4:qB),([AV.agg [AV.ad 61 ds,AV.ad 66 rs]],aI)=([AV.agg [AV.ad 61 e4.1,AV.ad 66 e4.2]],aI)/\(e4.1.length<=9223372036854775807/\e4.2.length<=
 9223372036854775807/\∀(e0:AV),List.Mem e0 e4.2->aX (aa (bc 56 (cg.hl (eE e0)) (cg.bl (eE e0))))<=100000/\List.length (cg.bl (eE e0))<=100000)/\aD
 (Prod.snd (fG e4.1 e4.2) != (0:Int)) (K (AV.ba [AV.nil,AV.int (Prod.fst (fG e4.1 e4.2)),AV.int (Prod.snd (fG e4.1 e4.2))]) []) (∃(e3:qB),([AV.agg [AV.ad
 61 ds,AV.ad 66 rs]],aI)=([AV.agg [AV.ad 61 e3.1,AV.ad 66 e3.2]],aI)/\sK e3.1 e3.2/\aD (Nat.beq e3.1.length 0) (∃(e2:QH),([AV.ptr 0 0 [] 0,AV.agg
 [AV.ad 61 ds,AV.ad 66 rs]],[Obj.box 122 (AV.agg [AV.ar 1 0 e3.1.length,AV.nil]),Obj.rows 38 3 (dt (pr e3.1 e3.2)) none])=([AV.ptr 0 0 [] 0,AV.agg [AV.ad
 61 e2.ds,AV.ad 66 []]],[Obj.box 122 z1,Obj.rows 38 3 e2.ls none])/\True/\∃(e1:Mc),([AV.ptr 0 0 [] 0,AV.mp 2],[Obj.box 122 z1,Obj.rows 38 3 e2.ls
 none,Dn.Obj.map 3 4 []])=([AV.ptr 0 0 [] 0,AV.mp 2],[Obj.box 122 z1,Obj.rows 38 3 e1.ls none,Dn.Obj.map 3 4 e1.es])/\True/\af z2 15 11=af z2 15 11/\
 ∃(e0:Mc),sp 63 [(7,AV.ptr 0 0 [] 0),(10,AV.ar 2 0 0),(11,AV.mp 3),(12,AV.int (-1))] [Obj.box 122 z1,Obj.rows 38 3 e1.ls none,Obj.row 38 [],
 Dn.Obj.map 3 4 e1.es]=sp 63 [(7,AV.ptr 0 0 [] 0),(10,AV.ar 2 0 0),(11,AV.mp 3),(12,AV.int (-1))] [Obj.box 122 z1,Obj.rows 38 3 e0.ls none,Obj.row 38
 [],Dn.Obj.map 3 4 e0.es]/\True/\K (AV.ba [AV.ar 0 0 0,AV.int 0,AV.int 0]) [Obj.row 38 []]) (∃(e2:Oc),([AV.ptr 0 0 [] 0,AV.agg [AV.ad 61 ds,AV.ad 66
 rs]],[Obj.box 122 (AV.agg [AV.ar 1 0 e3.1.length,AV.ar 2 0 (List.length (bn e3.1.length (jE e3.1 e3.2) (pr e3.1 e3.2) e3.1.length))]),Obj.rows 38 3 (dt (pr
 e3.1 e3.2)) none,Obj.row 89 (bn e3.1.length (jE e3.1 e3.2) (pr e3.1 e3.2) e3.1.length)])=([AV.ptr 0 0 [] 0,AV.agg [AV.ad 61 e2.ds,AV.ad 66 e2.rs]],
 [Obj.box 122 (AV.agg [AV.ar 1 0 e2.n,AV.ar 2 0 (List.length (bn e2.n e2.m e2.L e2.n))]),Obj.rows 38 3 (dt e2.L) none,Obj.row 89 (bn e2.n e2.m e2.L e2.n)])/\
 (e2.ds.length<=9223372036854775807/\e2.rs.length<=9223372036854775807/\∀(e0:AV),List.Mem e0 e2.rs->BQ e2.n e2.ds e0)/\aD (Prod.snd (wC e2.n e2.m e2.L
 e2.ds e2.rs) != (0:Int)) (K (AV.ba [AV.nil,AV.int (Prod.fst (wC e2.n e2.m e2.L e2.ds e2.rs)),AV.int (Prod.snd (wC e2.n e2.m e2.L e2.ds e2.rs))]) []) (∃(e1
 :FY),([AV.ptr 0 0 [] 0,AV.mp 3],[Obj.box 122 (AV.agg [AV.ar 1 0 e2.n,AV.ar 2 0 (List.length (bn e2.n e2.m e2.L e2.n))]),Obj.rows 38 3 (dt e2.L) none,
 Obj.row 89 (bn e2.n e2.m e2.L e2.n),Dn.Obj.map 3 4 []])=([AV.ptr 0 0 [] 0,AV.mp 3],[Obj.box 122 (AV.agg [AV.ar 1 0 e1.n,AV.ar 2 0 (List.length (bn e1.n
 e1.m e1.L e1.n))]),Obj.rows 38 3 (dt e1.L) none,Obj.row 89 (bn e1.n e1.m e1.L e1.n),Dn.Obj.map 3 4 (ic e1.done)])/\(WG e1.n e1.m e1.L/\e1.n<=60)/\af z2
 15 11=af z2 15 11/\∃(e0:T9),sp 63 [(7,AV.ptr 0 0 [] 0),(10,AV.ar 3 0 0),(11,AV.mp 4),(12,AV.int (fS e1.n e1.m e1.L e1.done))] [Obj.box 122 (AV.agg
 [AV.ar 1 0 e1.n,AV.ar 2 0 (List.length (bn e1.n e1.m e1.L e1.n))]),Obj.rows 38 3 (dt e1.L) none,Obj.row 89 (bn e1.n e1.m e1.L e1.n),Obj.row 38 [],
 Dn.Obj.map 3 4 (ic e1.done)]=sp 63 [(7,AV.ptr 0 0 [] 0),(10,AV.ar 3 0 (List.length (jy e0.gs))),(11,AV.mp 4),(12,AV.int (fS e0.n e0.m e0.L e0.done))]
 [Obj.box 122 (AV.agg [AV.ar 1 0 e0.n,AV.ar 2 0 (List.length (bn e0.n e0.m e0.L e0.n))]),Obj.rows 38 3 (dt e0.L) none,Obj.row 89 (bn e0.n e0.m e0.L e0.n),
 Obj.row 38 (jy e0.gs),Dn.Obj.map 3 4 (ic e0.done)]/\(WG e0.n e0.m e0.L/\e0.n<=60/\e0.gs.length+yz e0.n e0.done<=e0.n)/\K (AV.ba [AV.ar 0 0 (List.length
 (jy (e0.gs++ss e0.n e0.m e0.L e0.done))),AV.int 0,AV.int 0]) [Obj.row 38 (jy (e0.gs++ss e0.n e0.m e0.L e0.done))])))):=by kernel_rfl
def IF(x:qB):List AV×List Dn.Obj:=([gC x.1 x.2],[])
def um(x:qB):Prop:=fX x.1 x.2
def N6(x:qB):Out (AV×List Dn.Obj):= .aD (decide ((qs x.1 x.2).2=0))
 (.one (.ba [.ar 0 0 (jy (jx x.1 x.2)).length, .int 0, .int 0],[.row 38 (jy (jx x.1 x.2))]))
 (.one (.ba [.nil, .int (qs x.1 x.2).1, .int (qs x.1 x.2).2],[]))
theorem cGr(κ:Kp):bq (Ss κ) 12 15 (aM IF um N6):=by
 refine aZ ?_
 rintro⟨ds,rs⟩ K hs ho
 refine Eq.mpr (yGr κ ds rs K) ?_
 have ho:aD (decide ((qs ds rs).2=0)) (K (.ba [.ar 0 0 (jy (jx ds rs)).length, .int 0, .int 0]) [.row 38 (jy (jx ds rs))]) (K (.ba [.nil, .int (qs ds rs).1, .int (qs ds rs).2]) []):=ho
 rw[ah,aa1,aa3] at ho
 have hs:fX ds rs:=hs
 refine⟨(ds,rs),rfl,hs,?_⟩
 rw[ah]
 by_cases hc:(fG ds rs).2=0
 ·refine⟨fun e=>absurd hc (by simpa using e),fun _=>⟨(ds,rs),rfl,kr hc,?_⟩⟩
  have hf:=kr hc
  have hg:=AI hs hc
  rw[show qs ds rs=wC ds.length (jE ds rs) (pr ds rs) ds rs by unfold qs;rw[aa7 hc];rfl] at ho
  rw[ah]
  refine⟨fun e=>?_,fun e=>?_⟩
  ·obtain rfl:ds=[]:=List.eq_nil_of_length_eq_zero (Nat.eq_of_beq_eq_true e)
   obtain rfl:rs=[]:=by
    cases rs with
    |nil=>rfl
    |cons r rs=>have:=(hg r (by simp)).hd;simp only[List.length_nil] at this;omega
   refine⟨⟨dt (pr [] []),[]⟩,rfl,trivial,⟨_,[]⟩,rfl,trivial,rfl,⟨_,_⟩,rfl,trivial,?_⟩
   have h1:=ho.1 rfl
   have h2:jx [] []=[]:=by
    unfold jx
    rw[BG];rfl
   rw[h2] at h1
   exact h1
  ·refine⟨⟨ds.length,jE ds rs,pr ds rs,ds,rs,0⟩,rfl,⟨hs.1,hs.2.1,hg⟩,?_⟩
   rw[ah]
   refine⟨fun e2=>ho.2 (by simpa using e2),fun e2=>?_⟩
   have h1:=ho.1 (by simpa using e2)
   exact⟨⟨ds.length,jE ds rs,pr ds rs,[],0,[]⟩,rfl,⟨hf.wg,hf.hd⟩,rfl,⟨ds.length,jE ds rs,pr ds rs,[],[]⟩,rfl,⟨hf.wg,hf.hd,by simp only[List.length_nil,Nat.zero_add];exact Cx _ _⟩,h1⟩
 ·rw[show qs ds rs=fG ds rs by unfold qs;rw[aa5 hc];rfl] at ho
  exact⟨fun _=>ho.2 hc,fun e=>absurd (by simpa using e) hc⟩
noncomputable def Wb(κ:Kp):Env:=(Ss κ).ay 15 (aM IF um N6)
theorem eGr(κ:Kp):aB (Wb κ):=(Zt κ).ay (Xv κ) (cGr κ)
theorem mGr(κ:Kp):aj (Wb κ):=(Xv κ).ay aJ
structure AQ where
 ds:List AV
 rs:List AV
 a:Int
 b:Int
theorem NJ{ds rs:List AV}{a b n:Int}(h:wq ds rs a b n=0):(fG ds rs).2=0/\(0<=a/\a<n)/\0<=b/\b<n:=by
 unfold wq at h
 by_cases hc:(fG ds rs).2=0
 ·rw[aa7 hc,aa8] at h
  cases e:Hd a b n with
  |true=>
   simp only[Hd,aa2,aa1] at e
   exact⟨hc,e⟩
  |false=>rw[e] at h;cases h
 ·rw[aa5 hc,aa6] at h
  exact absurd h hc
noncomputable abbrev VS(κ:Kp):Env:=Wb κ
theorem eHg(κ:Kp):aB (VS κ):=eGr κ
theorem Yz(κ:Kp):aj (VS κ):=mGr κ
end Go.Proofs.YthaiinlfnommnaaGreatDoor
namespace Go.Rl
open Go Go.Dn
section
variable {n m m':Nat} {L M:Gr}
structure XH(n m:Nat)(L:Gr)(done:List Int)(gs:List (List Int)):Prop where
 srt: ∀g,g∈gs->g.Pairwise (· < ·)
 lF: ∀c,c∈gs.flatten->(0<=c/\c<n)/\c∉done
 all: ∀c:Int,0<=c->c<n->c∉done->c∈gs.flatten
 sF:gs.flatten.Nodup
end
end Go.Rl
namespace Go.Proofs.YthaiinlfnommnaaGreatDoor
open Go Go.Dn Go.Rl Go.Proofs
theorem O7{ds rs:List AV}:(qs ds rs).2=0↔(fG ds rs).2=0/\(wC ds.length (jE ds rs) (pr ds rs) ds rs).2=0:=by
 unfold qs
 by_cases h:(fG ds rs).2=0
 ·rw[aa7 h,aa8];simp[h]
 ·rw[aa5 h,aa6];simp[h]
theorem IL{ds rs:List AV}{a b n:Int}(hc:(fG ds rs).2=0)(ha:0<=a/\a<n)(hb:0<=b/\b<n):wq ds rs a b n=0:=by
 unfold wq
 rw[aa7 hc,aa8,show Hd a b n=true by simp[Hd,ha,hb]];rfl
theorem sr{ds rs:List AV}(h:jK ds rs=true):fX ds rs:=by
 simp only[jK,aa2,aa1] at h
 obtain⟨_,h1,h2,h3⟩:=h
 refine⟨by simp only[aR];omega,by simp only[aR];omega,fun x hx=>?_⟩
 have hc:=xx (rs.map sH) 2000 (by omega) h1 (sH x) (List.mem_map_of_mem hx)
 have e:sH x=aG (eE x):=rfl
 rw[e,gl] at hc
 have hc:oU (aG (eE x))+(eE x).bl.length<=2000:=by omega
 refine⟨?_,by omega⟩
 rw[mD 56 (eE x).rel (eE x).hl (eE x).bl]
 have:oU (aG (eE x))<=2000:=by omega
 exact Nat.le_trans this (by omega)
end Go.Proofs.YthaiinlfnommnaaGreatDoor
