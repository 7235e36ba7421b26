import Derived.Test.YthaiinlfnommnaaGreatDoorDbM9
namespace Go.Proofs.YthaiinlfnommnaaGreatDoor
open Go Go.Dn Go.Rl Go.Proofs
attribute [local irreducible] ba vc
set_option maxRecDepth 20000
theorem yMu(κ:Kp)(N:Nat)(ls:List (List Value))(fs:List AV)(a b:Int)(K:AV->List Dn.Obj->Prop):(ba (VC κ) 12 75 [.ptr 0 0 [] 0, .int a, .int b] (tj N ls fs) K)=(
 letI z1:=AV.agg [AV.aq 1 0 N,AV.aq 2 0 fs.length]
 letI z2:=AV.bool false
 aD (a==b) (K (AV.bool true) [Obj.box 122 z1,Obj.rows 38 3 ls none,Obj.row 89 fs]) (a7 (decide ((0:Int)<=a)&&decide (a<(↑(fs.length):Int))) (aD
 (Dn.toBool (dp (List.zip (Ct (nth fs (0+a.toNat))) (wW (nth fs (0+a.toNat)))) (Value.int IntKind.i64 b) z2)) (a7 (decide ((0:Int)<=b)&&decide (b<
 (↑(fs.length):Int))) (K (AV.bool (Dn.toBool (dp (List.zip (Ct (nth fs (0+b.toNat))) (wW (nth fs (0+b.toNat)))) (Value.int IntKind.i64 a) z2))) [Obj.box
 122 z1,Obj.rows 38 3 ls none,Obj.row 89 fs])) (K z2 [Obj.box 122 z1,Obj.rows 38 3 ls none,Obj.row 89 fs])))):=by kernel_rfl
theorem AA: ∀l:List Int,(l.map gl).zip (l.map fun _=>AV.lit (.bool true))=iv l
 |[]=>rfl
 |a::l=>by
  have ih:=AA l
  simp only[ac1,List.zip_cons_cons,iv] at ih⊢
  rw[ih]
theorem CW(n m:Nat)(L:Gr)(k:Nat)(a:Int)(h0:0<=a)(h:a<k):nth (br n m L k) (0+a.toNat)=Sb (iJ n m L a):=by
 rw[Nat.zero_add,bf _ _ (by rw[kR];omega)]
 simp only[br,List.getElem_map,List.getElem_range]
 rw[show((a.toNat:Nat):Int)=a by omega]
theorem GM(n m:Nat)(L:Gr)(k:Nat)(a b:Int)(h0:0<=a)(h:a<k):Dn.toBool (dp (List.zip (Ct (nth (br n m L k) (0+a.toNat))) (wW (nth (br n m L k) (0+a.toNat)))) (Value.int IntKind.i64 b) (AV.lit (Value.bool false)))=(iJ n m L a).contains b:=by
 rw[CW n m L k a h0 h]
 simp only[Ct,wW]
 rw[AA,lW]
 rfl
structure Qo where
 n:Nat
 m:Nat
 L:Gr
 a:Int
 b:Int
abbrev nE(n m:Nat)(L:Gr):List Dn.Obj:=tj n (dx L) (br n m L n)
def SR(x:Qo):List AV×List Dn.Obj:=([.ptr 0 0 [] 0, .int x.a, .int x.b],nE x.n x.m x.L)
def JM(x:Qo):Prop:=(0<=x.a/\x.a<x.n)/\0<=x.b/\x.b<x.n
def KA(x:Qo):Out (AV×List Dn.Obj):= .one (.bool (gD x.n x.m x.L x.a x.b),nE x.n x.m x.L)
theorem cMu(κ:Kp):bu (VC κ) 12 75 (aL SR JM KA):=by
 refine aX ?_
 rintro⟨n,m,L,a,b⟩ K ⟨⟨ha,ha'⟩,hb,hb'⟩ ho
 simp only at ha ha' hb hb'
 refine Eq.mpr (yMu κ n (dx L) (br n m L n) a b K) ?_
 simp only[KA,Out.run,gD,nE,tj,kR] at ho
 rw[GM n m L n a b ha ha',GM n m L n b a hb hb',kR]
 simp only[an,ah,aa2,aa1,beq_iff_eq,beq_eq_false_iff_ne]
 refine⟨fun e=>?_,fun e=>⟨⟨ha,ha'⟩,fun h=>⟨⟨hb,hb'⟩,?_⟩,fun h=>?_⟩⟩
 ·rw[aa7 e,Bool.true_or] at ho;exact ho
 ·rw[aa5 e,h,Bool.false_or,ac0] at ho;exact ho
 ·rw[aa5 e,h,Bool.false_or,Bool.false_and] at ho;exact ho
noncomputable def Nd(κ:Kp):Env:=(VC κ).aw 75 (aL SR JM KA)
theorem eMu(κ:Kp):aB (Nd κ):=(eOf κ).aw (ZO κ) (cMu κ)
theorem ZL(κ:Kp):aj (Nd κ):=(ZO κ).aw aJ
theorem xGp(κ:Kp)(N i:Nat)(ls:List (List Value))(fs ws:List AV)(a:Int)(I:Nat->S->Prop)(n:Nat)(K:Exit->S->Prop):(vc (Nd κ) 12 40 none 3 (af (Pr κ).toProgram 40 3) (sp 25 [(0, .ptr 0 0 [] 0),(1, .int a),(5, .aq 3 0 ws.length),(11, .int N),(12, .int i)] (tj N ls fs++[.row 3 ws])) (bJ (Nd κ) 40 3 3 I n K))=(
 letI z1:=IntKind.wrap IntKind.i64 ((↑i:Int)+(1:Int))
 letI z2:=AV.agg [AV.aq 1 0 N,AV.aq 2 0 fs.length]
 aD (decide ((↑i:Int)<(↑N:Int))) (∃(e1:Qo),([AV.ptr 0 0 [] 0,AV.int a,AV.int (↑i:Int)],[Obj.box 122 z2,Obj.rows 38 3 ls none,Obj.row 89 fs])=
 ([AV.ptr 0 0 [] 0,AV.int e1.a,AV.int e1.b],[Obj.box 122 (AV.agg [AV.aq 1 0 e1.n,AV.aq 2 0 (List.length (br e1.n e1.m e1.L e1.n))]),Obj.rows 38 3 (dx e1.L)
 none,Obj.row 89 (br e1.n e1.m e1.L e1.n)])/\(((0:Int)<=e1.a/\e1.a<(↑(e1.n):Int))/\(0:Int)<=e1.b/\e1.b<(↑(e1.n):Int))/\aD (gD e1.n e1.m e1.L
 e1.a e1.b) (a7 (decide ((ws.length+1+1)*9<=70368744177664)) (∃(e0:Nat),e0<n/\I e0 (sp 25 [(0,AV.ptr 0 0 [] 0),(1,AV.int a),(5,AV.aq 3 0
 (ws.length+1)),(11,AV.int (↑N:Int)),(12,AV.int z1)] [Obj.box 122 (AV.agg [AV.aq 1 0 e1.n,AV.aq 2 0 (List.length (br e1.n e1.m e1.L e1.n))]),Obj.rows
 38 3 (dx e1.L) none,Obj.row 89 (br e1.n e1.m e1.L e1.n),Obj.row 3 (List.take ws.length ws++[AV.int (↑i:Int)])]))) (∃(e0:Nat),e0<n/\I e0 (sp 25 [(0,
 AV.ptr 0 0 [] 0),(1,AV.int a),(5,AV.aq 3 0 ws.length),(11,AV.int (↑N:Int)),(12,AV.int z1)] [Obj.box 122 (AV.agg [AV.aq 1 0 e1.n,AV.aq 2 0
 (List.length (br e1.n e1.m e1.L e1.n))]),Obj.rows 38 3 (dx e1.L) none,Obj.row 89 (br e1.n e1.m e1.L e1.n),Obj.row 3 ws]))) (K (Exit.exit 0) (sp 25 [(5,AV.aq
 3 0 ws.length)] [Obj.box 122 z2,Obj.rows 38 3 ls none,Obj.row 89 fs,Obj.row 3 ws]))):=by kernel_rfl
def uE(n m:Nat)(L:Gr)(a:Int)(i:Nat):List Int:=(iQ i).filter (gD n m L a)
theorem HR(n m:Nat)(L:Gr)(a:Int)(i:Nat):uE n m L a (i+1)=bif gD n m L a i then uE n m L a i++[(i:Int)] else uE n m L a i:=by
 unfold uE iQ
 rw[List.range_succ,List.map_append,List.filter_append]
 cases h:gD n m L a i<;>simp[h]
theorem B6(n m:Nat)(L:Gr)(a:Int)(i:Nat):(uE n m L a i).length<=i:=by
 have:=List.length_filter_le (gD n m L a) (iQ i)
 simpa[uE,iQ] using this
structure PW where
 n:Nat
 m:Nat
 L:Gr
 a:Int
 i:Nat
abbrev Nl(x:PW):S:=sp 25 [(0, .ptr 0 0 [] 0),(1, .int x.a),(5, .aq 3 0 (iA (uE x.n x.m x.L x.a x.i)).length),(11, .int x.n),(12, .int x.i)] (nE x.n x.m x.L++[.row 3 (iA (uE x.n x.m x.L x.a x.i))])
def Jt(x:PW):Prop:=(0<=x.a/\x.a<x.n)/\x.i<=x.n/\x.n<=60
def PS(x:PW):Out (Exit×S):= .one (.exit 0,sp 25 [(5, .aq 3 0 (iA (gO x.n x.m x.L x.a)).length)] (nE x.n x.m x.L++[.row 3 (iA (gO x.n x.m x.L x.a))]))
theorem lGp(κ:Kp):bj (Nd κ) 12 40 3 (aO 3 Nl Jt PS):=by
 refine aK (fun x=>x.n - x.i) ?_
 rintro⟨n,m,L,a,i⟩ K ⟨ha,hi,hn⟩ ho
 simp only at ha hi hn
 rw[show(Nd κ).P=Pr κ from rfl]
 refine Eq.mpr (xGp κ n i (dx L) (br n m L n) (iA (uE n m L a i)) a _ _ K) ?_
 have hl:=B6 n m L a i
 rw[ah,aa1,aa3]
 refine⟨fun h=>⟨⟨n,m,L,a,i⟩,rfl,⟨ha,by simp only;omega,h⟩,?_⟩,fun h=>?_⟩
 ·rw[aV (n:=(i:Int)+1) (by omega) (by omega),ah,an,aa1,List.take_length]
  have hs:=HR n m L a i
  refine⟨fun e=>⟨by rw[gf];omega,_,?_,⟨n,m,L,a,i+1⟩,?_,⟨ha,by simp only;omega,hn⟩,rfl,ho⟩,fun e=>⟨_,?_,⟨n,m,L,a,i+1⟩,?_,⟨ha,by simp only;omega,hn⟩,rfl,ho⟩⟩
  ·simp only;omega
  ·simp only at e
   rw[e,aa8] at hs
   simp only[Nl,hs,wC,ab9]
   rfl
  ·simp only;omega
  ·simp only at e
   rw[e,aa6] at hs
   simp only[Nl,hs]
   rfl
 ·obtain rfl:n=i:=by omega
  exact ho
noncomputable def Vl(κ:Kp):Env:=(Nd κ).ak 40 3 (aO 3 Nl Jt PS)
theorem eGp(κ:Kp):aB (Vl κ):=(eMu κ).ak (ZL κ) (lGp κ)
theorem Zo(κ:Kp):aj (Vl κ):=(ZL κ).ak aG
theorem yGp(κ:Kp)(N:Nat)(ls:List (List Value))(fs:List AV)(a:Int)(K:AV->List Dn.Obj->Prop):(ba (Vl κ) 12 40 [.ptr 0 0 [] 0, .int a] (tj N ls fs) K)=(
 letI z1:=Pg.toProgram (Env.P (Nd κ))
 af z1 40 3=af z1 40 3/\∃(e0:PW),sp 25 [(0,AV.ptr 0 0 [] 0),(1,AV.int a),(5,AV.aq 3 0 0),(11,AV.int (↑N:Int)),(12,AV.int 0)] [Obj.box 122
 (AV.agg [AV.aq 1 0 N,AV.aq 2 0 fs.length]),Obj.rows 38 3 ls none,Obj.row 89 fs,Obj.row 3 []]=sp 25 [(0,AV.ptr 0 0 [] 0),(1,AV.int e0.a),(5,AV.aq 3 0
 (List.length (iA (uE e0.n e0.m e0.L e0.a e0.i)))),(11,AV.int (↑(e0.n):Int)),(12,AV.int (↑(e0.i):Int))] [Obj.box 122 (AV.agg [AV.aq 1 0 e0.n,AV.aq 2 0
 (List.length (br e0.n e0.m e0.L e0.n))]),Obj.rows 38 3 (dx e0.L) none,Obj.row 89 (br e0.n e0.m e0.L e0.n),Obj.row 3 (iA (uE e0.n e0.m e0.L e0.a e0.i))]/\
 (((0:Int)<=e0.a/\e0.a<(↑(e0.n):Int))/\e0.i<=e0.n/\e0.n<=60)/\K (AV.ad 3 (List.take (List.length (iA (gO e0.n e0.m e0.L e0.a))) (List.drop 0 (iA (gO
 e0.n e0.m e0.L e0.a))))) [Obj.box 122 (AV.agg [AV.aq 1 0 e0.n,AV.aq 2 0 (List.length (br e0.n e0.m e0.L e0.n))]),Obj.rows 38 3 (dx e0.L) none,Obj.row 89 (br
 e0.n e0.m e0.L e0.n)]):=by kernel_rfl
def Up(x:PW):List AV×List Dn.Obj:=([.ptr 0 0 [] 0, .int x.a],nE x.n x.m x.L)
def Ku(x:PW):Prop:=(0<=x.a/\x.a<x.n)/\x.n<=60
def Pj(x:PW):Out (AV×List Dn.Obj):= .one (.ad 3 (iA (gO x.n x.m x.L x.a)),nE x.n x.m x.L)
theorem cGq(κ:Kp):bu (Vl κ) 12 40 (aL Up Ku Pj):=by
 refine aX ?_
 rintro⟨n,m,L,a,i⟩ K ⟨ha,hn⟩ ho
 refine Eq.mpr (yGp κ n (dx L) (br n m L n) a K) ?_
 refine⟨rfl,⟨n,m,L,a,0⟩,rfl,⟨ha,Nat.zero_le _,hn⟩,?_⟩
 rw[ab1,List.take_length]
 exact ho
noncomputable def OU(κ:Kp):Env:=(Vl κ).aw 40 (aL Up Ku Pj)
theorem eGq(κ:Kp):aB (OU κ):=(eGp κ).aw (Zo κ) (cGq κ)
theorem YN(κ:Kp):aj (OU κ):=(Zo κ).aw aJ
theorem xNi(κ:Kp)(N:Nat)(a:Int)(ls:List (List Value))(fs:List AV)(es:List (Value×AV))(ks met:List Value)(vs:List AV)(I:Nat->S->Prop)(n:Nat)(K:Exit->S->Prop):(vc (OU κ) 12 39 none 4 (af (Pr κ).toProgram 39 6) (sp 43 [(0, .ptr 0 0 [] 0),(1, .mp 3),(5, .int a),(11, .int N),(12, .int a),(25, .ptr 4 0 [] 0)] (tj N ls fs++[.map 3 4 es, .fit 3 4 ks vs met])) (bJ (OU κ) 39 6 4 I n K))=(
 letI z1:=AV.agg [AV.aq 1 0 N,AV.aq 2 0 fs.length]
 (∀(e3:Int) (e2:AV),List.Mem (Value.int IntKind.i64 e3,e2) (List.zip ks vs)->jU met (Value.int IntKind.i64 e3)=false->aD (!Dn.toBool (dp es (Value.int
 IntKind.i64 e3) (AV.bool false))) (∃(e1:Qo),([AV.ptr 0 0 [] 0,AV.int a,AV.int e3],[Obj.box 122 z1,Obj.rows 38 3 ls none,Obj.row 89 fs])=([AV.ptr 0 0
 [] 0,AV.int e1.a,AV.int e1.b],[Obj.box 122 (AV.agg [AV.aq 1 0 e1.n,AV.aq 2 0 (List.length (br e1.n e1.m e1.L e1.n))]),Obj.rows 38 3 (dx e1.L) none,Obj.row
 89 (br e1.n e1.m e1.L e1.n)])/\(((0:Int)<=e1.a/\e1.a<(↑(e1.n):Int))/\(0:Int)<=e1.b/\e1.b<(↑(e1.n):Int))/\aD (!gD e1.n e1.m e1.L e1.a e1.b) (K
 (Exit.exit 1) (sp 43 [(0,AV.ptr 0 0 [] 0),(1,AV.mp 3),(11,AV.int (↑N:Int)),(12,AV.int a)] [Obj.box 122 (AV.agg [AV.aq 1 0 e1.n,AV.aq 2 0 (List.length
 (br e1.n e1.m e1.L e1.n))]),Obj.rows 38 3 (dx e1.L) none,Obj.row 89 (br e1.n e1.m e1.L e1.n),Dn.Obj.map 3 4 es])) (∃(e0:Nat),e0<n/\I e0 (sp 43 [(0,
 AV.ptr 0 0 [] 0),(1,AV.mp 3),(5,AV.int a),(11,AV.int (↑N:Int)),(12,AV.int a),(25,AV.ptr 4 0 [] 0)] [Obj.box 122 (AV.agg [AV.aq 1 0 e1.n,AV.aq 2 0
 (List.length (br e1.n e1.m e1.L e1.n))]),Obj.rows 38 3 (dx e1.L) none,Obj.row 89 (br e1.n e1.m e1.L e1.n),Dn.Obj.map 3 4 es,Obj.fit 3 4 ks vs (Value.int
 IntKind.i64 e3::met)]))) (∃(e0:Nat),e0<n/\I e0 (sp 43 [(0,AV.ptr 0 0 [] 0),(1,AV.mp 3),(5,AV.int a),(11,AV.int (↑N:Int)),(12,AV.int a),(25,
 AV.ptr 4 0 [] 0)] [Obj.box 122 z1,Obj.rows 38 3 ls none,Obj.row 89 fs,Dn.Obj.map 3 4 es,Obj.fit 3 4 ks vs (Value.int IntKind.i64 e3::met)])))/\(j7 met
 (List.zip ks vs)=true->K (Exit.exit 2) (sp 43 [(5,AV.int a)] [Obj.box 122 z1,Obj.rows 38 3 ls none,Obj.row 89 fs,Dn.Obj.map 3 4 es]))):=by kernel_rfl
theorem H6(n i:Nat)(h:i<n):(iQ n).drop i=(i:Int)::(iQ n).drop (i+1):=by
 rw[ab2 (by simpa[iQ] using h)]
 congr 1
 simp[iQ]
def w9(n m:Nat)(L:Gr)(done:List Int)(i:Nat):Int:=(((iQ n).drop i).find? (jh n m L done)).getD (-1)
theorem HQ{n:Nat}(m:Nat)(L:Gr)(done:List Int){i:Nat}(h:i<n):w9 n m L done i=bif jh n m L done i then(i:Int) else w9 n m L done (i+1):=by
 unfold w9
 rw[H6 n i h,List.find?_cons]
 cases jh n m L done i<;>rfl
theorem Mi(n m:Nat)(L:Gr)(done:List Int):w9 n m L done n= -1:=by
 unfold w9
 rw[aa9 (by simp[iQ])];rfl
structure Hk where
 n:Nat
 m:Nat
 L:Gr
 done:List Int
 i:Nat
 met:List Value
def vl(x:Hk):Bool:=(iJ x.n x.m x.L x.i).all fun b=>x.done.contains b||gD x.n x.m x.L x.i b
abbrev Og(x:Hk):S:=sp 43 [(0, .ptr 0 0 [] 0),(1, .mp 3),(5, .int x.i),(11, .int x.n),(12, .int x.i),(25, .ptr 4 0 [] 0)] (nE x.n x.m x.L++[.map 3 4 (iv x.done), .fit 3 4 ((iJ x.n x.m x.L x.i).map gl) ((iJ x.n x.m x.L x.i).map fun _=> .lit (.bool true)) x.met])
def Ew(x:Hk):Prop:=WG x.n x.m x.L/\x.i<x.n/\∀b:Int,jU x.met (gl b)=true->b∈iJ x.n x.m x.L x.i->(x.done.contains b||gD x.n x.m x.L x.i b)=true
def F6(x:Hk):Out (Exit×S):= .aD (vl x)
 (.one (.exit 2,sp 43 [(5, .int x.i)] (nE x.n x.m x.L++[.map 3 4 (iv x.done)])))
 (.one (.exit 1,sp 43 [(0, .ptr 0 0 [] 0),(1, .mp 3),(11, .int x.n),(12, .int x.i)] (nE x.n x.m x.L++[.map 3 4 (iv x.done)])))
theorem uH(c b:Int)(met:List Value):jU (gl c::met) (gl b)=(decide (c=b)||jU met (gl b)):=by
 simp only[jU,di,gl]
 by_cases h:c=b
 ·subst h;simp
 ·rw[aa5 h];simp[h]
theorem B1: ∀{l:List Int} {met:List Value},j7 met (iv l)=true->∀b,b∈l->jU met (gl b)=true
 |[],_,_,b,hb=>nomatch hb
 |a::l,met,h,b,hb=>by
  simp only[iv,ac1,j7,aa2] at h
  rcases List.mem_cons.1 hb with rfl|hb
  ·exact h.1
  ·exact B1 (l:=l) h.2 b hb
theorem Oq{x:Int}{v:AV}{l:List Int}(h:(gl x,v)∈iv l):x∈l:=by
 obtain⟨k,h1,h2⟩:=List.mem_map.1 h
 cases h2;exact h1
theorem lNi(κ:Kp):bj (OU κ) 12 39 6 (aO 4 Og Ew F6):=by
 refine aK (fun x=>(iJ x.n x.m x.L x.i).countP fun b=>!jU x.met (gl b)) ?_
 rintro⟨n,m,L,done,i,met⟩ K ⟨hG,hi,hm⟩ ho
 simp only at hG hi hm
 rw[show(OU κ).P=Pr κ from rfl]
 refine Eq.mpr (xNi κ n i (dx L) (br n m L n) (iv done) ((iJ n m L i).map gl) met ((iJ n m L i).map fun _=> .lit (.bool true)) _ _ K) ?_
 have hi0:(0:Int)<=i:=by omega
 have ho2:=ho
 simp only[F6,Out.run,ah] at ho2
 rw[AA]
 refine⟨fun b v hbv hb=>?_,fun hs=>?_⟩
 ·have hf:b∈iJ n m L i:=Oq hbv
  have hr:=Rc.kZ hG hi0 ((yD hG hi0).1 hf)
  have hn:(done.contains b||gD n m L i b)=true->∃k,k<(iJ n m L i).countP (fun b=>!jU met (gl b))/\fm Og Ew F6 (fun x=>(iJ x.n x.m x.L x.i).countP fun b=>!jU x.met (gl b)) K k (Og ⟨n,m,L,done,i,gl b::met⟩):=fun hok=>by
   refine⟨_,?_,⟨n,m,L,done,i,gl b::met⟩,rfl,⟨hG,hi,fun c hc hcf=>?_⟩,rfl,ho⟩
   ·refine oJ (fun c _ hc=>?_) ⟨b,hf,?_,?_⟩
    ·rw[uH] at hc
     cases h:jU met (gl c) with
     |true=>rw[h] at hc;simp at hc
     |false=>rfl
    ·simp only[gl] at hb⊢;rw[hb];rfl
    ·rw[uH];simp
   ·rw[uH] at hc
    by_cases e:b=c
    ·subst e;exact hok
    ·rw[aa5 e,Bool.false_or] at hc
     exact hm c hc hcf
  have hg:Dn.toBool (dp (iv done) (Value.int IntKind.i64 b) (AV.lit (Value.bool false)))=done.contains b:=by rw[lW];rfl
  rw[hg]
  simp only[ah]
  refine⟨fun e=>⟨⟨n,m,L,i,b⟩,rfl,⟨⟨hi0,by simp only;omega⟩,hr⟩,fun e2=>?_,fun e2=>?_⟩,fun e=>?_⟩
  ·have h1:vl ⟨n,m,L,done,i,met⟩=false:=by
    rw[←Bool.not_eq_true,vl,List.all_eq_true]
    intro h
    have:=h b hf
    simp only at this e2 e
    rw[ab6] at this
    rcases this with h|h
    ·rw[h] at e;cases e
    ·rw[h] at e2;cases e2
   exact ho2.2 h1
  ·exact hn (by simp only at e2⊢;rw[ab6];right;simpa using e2)
  ·exact hn (by rw[ab6];left;simpa using e)
 ·have h1:vl ⟨n,m,L,done,i,met⟩=true:=by
   rw[vl,List.all_eq_true]
   exact fun b hb=>hm b (B1 hs b hb) hb
  exact ho2.1 h1
noncomputable def Fe(κ:Kp):Env:=(OU κ).ak 39 6 (aO 4 Og Ew F6)
theorem eNi(κ:Kp):aB (Fe κ):=(eGq κ).ak (YN κ) (lNi κ)
theorem Ze(κ:Kp):aj (Fe κ):=(YN κ).ak aG
theorem xNx(κ:Kp)(N i:Nat)(ls:List (List Value))(fs:List AV)(es:List (Value×AV))(I:Nat->S->Prop)(n:Nat)(K:Exit->S->Prop):(vc (Fe κ) 12 39 none 4 (af (Pr κ).toProgram 39 2) (sp 43 [(0, .ptr 0 0 [] 0),(1, .mp 3),(11, .int N),(12, .int i)] (tj N ls fs++[.map 3 4 es])) (bJ (Fe κ) 39 2 4 I n K))=(
 letI z1:=AV.agg [AV.aq 1 0 N,AV.aq 2 0 fs.length]
 letI z2:=Pg.toProgram (Env.P (OU κ))
 aD (decide ((↑i:Int)<(↑N:Int))) (aD (Dn.toBool (dp es (Value.int IntKind.i64 (↑i:Int)) (AV.bool false))) (∃(e0:Nat),e0<n/\I e0 (sp 43 [(0,AV.ptr
 0 0 [] 0),(1,AV.mp 3),(11,AV.int (↑N:Int)),(12,AV.int (IntKind.wrap IntKind.i64 ((↑i:Int)+(1:Int))))] [Obj.box 122 z1,Obj.rows 38 3 ls none,
 Obj.row 89 fs,Dn.Obj.map 3 4 es])) (a7 (true&&decide ((↑i:Int)<(↑(fs.length):Int))) (af z2 39 6=af z2 39 6/\∃(e1:Hk),sp 43 [(0,AV.ptr 0 0 []
 0),(1,AV.mp 3),(5,AV.int (↑i:Int)),(11,AV.int (↑N:Int)),(12,AV.int (↑i:Int)),(25,AV.ptr 4 0 [] 0)] [Obj.box 122 z1,Obj.rows 38 3 ls none,
 Obj.row 89 fs,Dn.Obj.map 3 4 es,Obj.fit 3 4 (Ct (nth fs (0+Int.toNat (↑i:Int)))) (wW (nth fs (0+Int.toNat (↑i:Int)))) []]=sp 43 [(0,AV.ptr 0 0 []
 0),(1,AV.mp 3),(5,AV.int (↑(e1.i):Int)),(11,AV.int (↑(e1.n):Int)),(12,AV.int (↑(e1.i):Int)),(25,AV.ptr 4 0 [] 0)] [Obj.box 122 (AV.agg [AV.aq 1
 0 e1.n,AV.aq 2 0 (List.length (br e1.n e1.m e1.L e1.n))]),Obj.rows 38 3 (dx e1.L) none,Obj.row 89 (br e1.n e1.m e1.L e1.n),Dn.Obj.map 3 4 (iv e1.done),
 Obj.fit 3 4 (List.map gl (iJ e1.n e1.m e1.L (↑(e1.i):Int))) (List.map (fun(e0:Int)=>AV.bool true) (iJ e1.n e1.m e1.L (↑(e1.i):Int))) e1.met]/\(WG e1.n
 e1.m e1.L/\e1.i<e1.n/\∀(e0:Int),jU e1.met (Value.int IntKind.i64 e0)=true->List.Mem e0 (iJ e1.n e1.m e1.L (↑(e1.i):Int))->(List.contains e1.done
 e0||gD e1.n e1.m e1.L (↑(e1.i):Int) e0)=true)/\aD (vl e1) (K Exit.ret (sp 43 [(4,AV.int (↑(e1.i):Int))] [Obj.box 122 (AV.agg [AV.aq 1 0 e1.n,AV.aq 2
 0 (List.length (br e1.n e1.m e1.L e1.n))]),Obj.rows 38 3 (dx e1.L) none,Obj.row 89 (br e1.n e1.m e1.L e1.n),Dn.Obj.map 3 4 (iv e1.done)])) (∃(e0:Nat),e0
 <n/\I e0 (sp 43 [(0,AV.ptr 0 0 [] 0),(1,AV.mp 3),(11,AV.int (↑(e1.n):Int)),(12,AV.int (IntKind.wrap IntKind.i64 ((↑(e1.i):Int)+(1:Int))))]
 [Obj.box 122 (AV.agg [AV.aq 1 0 e1.n,AV.aq 2 0 (List.length (br e1.n e1.m e1.L e1.n))]),Obj.rows 38 3 (dx e1.L) none,Obj.row 89 (br e1.n e1.m e1.L e1.n),
 Dn.Obj.map 3 4 (iv e1.done)]))))) (K (Exit.exit 0) (sp 43 [] [Obj.box 122 z1,Obj.rows 38 3 ls none,Obj.row 89 fs,Dn.Obj.map 3 4 es]))):=by kernel_rfl
abbrev Ns(x:Hk):S:=sp 43 [(0, .ptr 0 0 [] 0),(1, .mp 3),(11, .int x.n),(12, .int x.i)] (nE x.n x.m x.L++[.map 3 4 (iv x.done)])
def Dd(x:Hk):Prop:=WG x.n x.m x.L/\x.i<=x.n/\x.n<=60
def B0(x:Hk):Out (Exit×S):= .aD (decide (w9 x.n x.m x.L x.done x.i<0))
 (.one (.exit 0,sp 43 [] (nE x.n x.m x.L++[.map 3 4 (iv x.done)])))
 (.one (.ret,sp 43 [(4, .int (w9 x.n x.m x.L x.done x.i))] (nE x.n x.m x.L++[.map 3 4 (iv x.done)])))
theorem AH(n m:Nat)(L:Gr)(done:List Int)(i:Nat)(met:List Value):jh n m L done i=(!done.contains (i:Int)&&vl ⟨n,m,L,done,i,met⟩):=rfl
theorem lNx(κ:Kp):bj (Fe κ) 12 39 2 (aO 4 Ns Dd B0):=by
 refine aK (fun x=>x.n - x.i) ?_
 rintro⟨n,m,L,done,i,met⟩ K ⟨hG,hi,hn⟩ ho
 simp only at hG hi hn
 rw[show(Fe κ).P=Pr κ from rfl]
 refine Eq.mpr (xNx κ n i (dx L) (br n m L n) (iv done) _ _ K) ?_
 have ho2:=ho
 simp only[B0,Out.run,ah] at ho2
 have hg:Dn.toBool (dp (iv done) (Value.int IntKind.i64 i) (AV.lit (Value.bool false)))=done.contains (i:Int):=by rw[lW];rfl
 rw[hg,ah,aa1,aa3]
 refine⟨fun h=>?_,fun h=>?_⟩
 ·have hi':i<n:=by omega
  have hs:=HQ m L done hi'
  have next:jh n m L done i=false->∃k,k<n - i/\fm Ns Dd B0 (fun x=>x.n - x.i) K k (Ns ⟨n,m,L,done,i+1,[]⟩):=fun e=>by
   rw[e,aa6] at hs
   refine⟨_,?_,⟨n,m,L,done,i+1,[]⟩,rfl,⟨hG,hi',hn⟩,rfl,?_⟩
   ·simp only;omega
   ·simp only[B0,Out.run,←hs];exact ho
  rw[ah]
  refine⟨fun e=>?_,fun e=>?_⟩
  ·rw[aV (n:=(i:Int)+1) (by omega) (by omega)]
   exact next (by rw[AH n m L done i [],e];rfl)
  ·rw[an,ac0,aa1,kR,CW n m L n i (by omega) h]
   refine⟨h,rfl,⟨n,m,L,done,i,[]⟩,?_,⟨hG,hi',fun b hb=>(nomatch hb)⟩,?_⟩
   ·simp only[kR]
    rfl
   ·rw[ah]
    refine⟨fun e2=>?_,fun e2=>?_⟩
    ·have hf:jh n m L done i=true:=by rw[AH n m L done i [],e,e2];rfl
     rw[hf,aa8] at hs
     have:=ho2.2 (by rw[hs,aa3];omega)
     rw[hs] at this
     exact this
    ·rw[aV (n:=(i:Int)+1) (by omega) (by omega)]
     exact next (by rw[AH n m L done i [],e2,Bool.and_false])
 ·obtain rfl:i=n:=by omega
  rw[Mi] at ho2
  exact ho2.1 rfl
theorem xNz(κ:Kp)(ls:List (List Value))(es:List (Value×AV))(I:Nat->S->Prop)(n:Nat)(K:Exit->S->Prop):(vc (Fe κ) 12 39 none 3 (af (Pr κ).toProgram 39 2) (sp 43 [(0, .ptr 0 0 [] 0),(1, .mp 2),(11, .int 0),(12, .int 0)] (w5 0 ls++[.map 3 4 es])) (bJ (Fe κ) 39 2 3 I n K))=(
 K (Exit.exit 0) (sp 43 [] [Obj.box 122 (AV.agg [AV.aq 1 0 0,AV.nil]),Obj.rows 38 3 ls none,Dn.Obj.map 3 4 es])):=by kernel_rfl
structure Nz where
 ls:List (List Value)
 es:List (Value×AV)
abbrev TX(x:Nz):S:=sp 43 [(0, .ptr 0 0 [] 0),(1, .mp 2),(11, .int 0),(12, .int 0)] (w5 0 x.ls++[.map 3 4 x.es])
def Pm(x:Nz):Out (Exit×S):= .one (.exit 0,sp 43 [] (w5 0 x.ls++[.map 3 4 x.es]))
theorem lNz(κ:Kp):bj (Fe κ) 12 39 2 (aO 3 TX (fun _=>True) Pm):=by
 refine aK (fun _=>0) ?_
 rintro⟨ls,es⟩ K _ ho
 rw[show(Fe κ).P=Pr κ from rfl]
 exact Eq.mpr (xNz κ ls es _ _ K) ho
def Uu(s:S):Bool:=Nat.beq s.st.length 4
noncomputable def Q2(κ:Kp):Env:=(Fe κ).ak 39 2 (qv Uu (aO 4 Ns Dd B0) (aO 3 TX (fun _=>True) Pm))
theorem eNx(κ:Kp):aB (Q2 κ):=(eNi κ).ak (Ze κ) (nJ (lNx κ) (lNz κ))
theorem Y8(κ:Kp):aj (Q2 κ):=(Ze κ).ak (kP aG aG)
theorem yNx(κ:Kp)(N:Nat)(ls:List (List Value))(fs:List AV)(es:List (Value×AV))(K:AV->List Dn.Obj->Prop):(ba (Q2 κ) 12 39 [.ptr 0 0 [] 0, .mp 3] (tj N ls fs++[.map 3 4 es]) K)=(
 af (Pg.toProgram (Env.P (Fe κ))) 39 2=af (Pg.toProgram (Env.P (Fe κ))) 39 2/\∃(a:Hk),sp 43 [(0,AV.ptr 0 0 [] 0),(1,AV.mp 3),(11,AV.int
 (↑N:Int)),(12,AV.int 0)] [Obj.box 122 (AV.agg [AV.aq 1 0 N,AV.aq 2 0 fs.length]),Obj.rows 38 3 ls none,Obj.row 89 fs,Dn.Obj.map 3 4 es]=sp 43 [(0,
 AV.ptr 0 0 [] 0),(1,AV.mp 3),(11,AV.int (↑(a.n):Int)),(12,AV.int (↑(a.i):Int))] [Obj.box 122 (AV.agg [AV.aq 1 0 a.n,AV.aq 2 0 (List.length (br
 a.n a.m a.L a.n))]),Obj.rows 38 3 (dx a.L) none,Obj.row 89 (br a.n a.m a.L a.n),Dn.Obj.map 3 4 (iv a.done)]/\(WG a.n a.m a.L/\a.i<=a.n/\a.n<=60)/\
 aD (decide (w9 a.n a.m a.L a.done a.i<(0:Int))) (K (AV.int (-1)) [Obj.box 122 (AV.agg [AV.aq 1 0 a.n,AV.aq 2 0 (List.length (br a.n a.m a.L
 a.n))]),Obj.rows 38 3 (dx a.L) none,Obj.row 89 (br a.n a.m a.L a.n),Dn.Obj.map 3 4 (iv a.done)]) (K (AV.int (w9 a.n a.m a.L a.done a.i)) [Obj.box 122
 (AV.agg [AV.aq 1 0 a.n,AV.aq 2 0 (List.length (br a.n a.m a.L a.n))]),Obj.rows 38 3 (dx a.L) none,Obj.row 89 (br a.n a.m a.L a.n),Dn.Obj.map 3 4
 (iv a.done)])):=by kernel_rfl
def Uq(x:Hk):List AV×List Dn.Obj:=([.ptr 0 0 [] 0, .mp 3],nE x.n x.m x.L++[.map 3 4 (iv x.done)])
def KG(x:Hk):Prop:=WG x.n x.m x.L/\x.n<=60
def Jf(x:Hk):Out (AV×List Dn.Obj):= .one (.int (fU x.n x.m x.L x.done),nE x.n x.m x.L++[.map 3 4 (iv x.done)])
theorem N7(n m:Nat)(L:Gr)(done:List Int)(h:fU n m L done<0):fU n m L done= -1:=by
 unfold fU at h⊢
 cases e:(iQ n).find? (jh n m L done) with
 |none=>rfl
 |some a=>
  rw[e] at h
  have:=(nS.1 (List.mem_of_find?_eq_some e)).1
  simp only[Option.getD_some] at h;omega
theorem cNy(κ:Kp):bu (Q2 κ) 12 39 (aL Uq KG Jf):=by
 refine aX ?_
 rintro⟨n,m,L,done,i,met⟩ K ⟨hG,hn⟩ ho
 refine Eq.mpr (yNx κ n (dx L) (br n m L n) (iv done) K) ?_
 refine⟨rfl,⟨n,m,L,done,0,[]⟩,rfl,⟨hG,Nat.zero_le _,hn⟩,?_⟩
 simp only[Jf,Out.run] at ho
 rw[show w9 n m L done 0=fU n m L done from rfl,ah]
 refine⟨fun e=>?_,fun _=>ho⟩
 rw[N7 n m L done (of_decide_eq_true e)] at ho
 exact ho
theorem yNz(κ:Kp)(ls:List (List Value))(es:List (Value×AV))(K:AV->List Dn.Obj->Prop):(ba (Q2 κ) 12 39 [.ptr 0 0 [] 0, .mp 2] (w5 0 ls++[.map 3 4 es]) K)=(
 letI z1:=AV.agg [AV.aq 1 0 0,AV.nil]
 letI z2:=Pg.toProgram (Env.P (Fe κ))
 af z2 39 2=af z2 39 2/\∃(e0:Nz),sp 43 [(0,AV.ptr 0 0 [] 0),(1,AV.mp 2),(11,AV.int 0),(12,AV.int 0)] [Obj.box 122 z1,Obj.rows 38 3 ls none,
 Dn.Obj.map 3 4 es]=sp 43 [(0,AV.ptr 0 0 [] 0),(1,AV.mp 2),(11,AV.int 0),(12,AV.int 0)] [Obj.box 122 z1,Obj.rows 38 3 e0.ls none,Dn.Obj.map 3 4 e0.es]
 /\True/\K (AV.int (-1)) [Obj.box 122 z1,Obj.rows 38 3 e0.ls none,Dn.Obj.map 3 4 e0.es]):=by kernel_rfl
def TT(x:Nz):List AV×List Dn.Obj:=([.ptr 0 0 [] 0, .mp 2],w5 0 x.ls++[.map 3 4 x.es])
def Pn(x:Nz):Out (AV×List Dn.Obj):= .one (.int (-1),w5 0 x.ls++[.map 3 4 x.es])
theorem cNw(κ:Kp):bu (Q2 κ) 12 39 (aL TT (fun _=>True) Pn):=by
 refine aX ?_
 rintro⟨ls,es⟩ K _ ho
 refine Eq.mpr (yNz κ ls es K) ?_
 exact⟨rfl,⟨ls,es⟩,rfl,trivial,ho⟩
def Sz(st:List Dn.Obj):Bool:=Nat.beq st.length 4
noncomputable def Ve(κ:Kp):Env:=(Q2 κ).aw 39 (DI Sz (aL Uq KG Jf) (aL TT (fun _=>True) Pn))
theorem Z8(κ:Kp):aB (Ve κ):=(eNx κ).aw (Y8 κ) (yQ (cNy κ) (cNw κ))
theorem YZ(κ:Kp):aj (Ve κ):=(Y8 κ).aw (sg aJ aJ)
def OQ(op:Int):List AV×List Dn.Obj:=([.int op],[])
def Mn(op:Int):Out (AV×List Dn.Obj):= .one (.bool (fB op),[])
def Ld(op:Int):Out (AV×List Dn.Obj):= .one (.bool (gH op),[])
def Av(_:Int):Prop:=True
theorem yIa(κ:Kp)(op:Int)(K:AV->List Dn.Obj->Prop):(ba (Ve κ) 12 44 [.int op] [] K)=(
 K (AV.bool (op==(1:Int))) []):=by kernel_rfl
theorem cIa(κ:Kp):bu (Ve κ) 12 44 (aL OQ Av Mn):=by
 refine aX ?_
 rintro op K _ ho
 refine Eq.mpr (yIa κ op K) ?_
 simp only[Mn,Out.run,fB] at ho
 rw[Pf];exact ho
noncomputable def Sq(κ:Kp):Env:=(Ve κ).aw 44 (aL OQ Av Mn)
theorem eIa(κ:Kp):aB (Sq κ):=(Z8 κ).aw (YZ κ) (cIa κ)
theorem Zn(κ:Kp):aj (Sq κ):=(YZ κ).aw aJ
theorem yIb(κ:Kp)(op:Int)(K:AV->List Dn.Obj->Prop):(ba (Sq κ) 12 73 [.int op] [] K)=(
 aD (op==(2:Int)) (K (AV.bool true) []) (K (AV.bool (decide (op>=(7:Int)))) [])):=by kernel_rfl
theorem cIb(κ:Kp):bu (Sq κ) 12 73 (aL OQ Av Ld):=by
 refine aX ?_
 rintro op K _ ho
 refine Eq.mpr (yIb κ op K) ?_
 simp only[Ld,Out.run,gH] at ho
 rw[Pf]
 cases h:decide (op=2)<;>rw[h] at ho<;>exact ho
noncomputable def EZ(κ:Kp):Env:=(Sq κ).aw 73 (aL OQ Av Ld)
theorem eIb(κ:Kp):aB (EZ κ):=(eIa κ).aw (Zn κ) (cIb κ)
theorem ZK(κ:Kp):aj (EZ κ):=(Zn κ).aw aJ
structure AP where
 n:Nat
 m:Nat
 L:Gr
 ds:List AV
 rs:List AV
 a:cm
 h:Int
def iP(isf:Int->Bool)(n m:Nat)(L:Gr)(ds:List AV)(h:Int)(bl:List AV):Bool:=bl.any fun l=>isf (toInt (ae l 0))&&gD n m L h (bw (toStr (ae (ae l 1) 0)) ds)
def rm(isf:Int->Bool)(x:AP):Prop:=(0<=x.h/\x.h<x.n)/\x.ds.length<=aR/\x.a.bl.length<=aR/\0<=x.a.i/\x.a.i<=x.a.bl.length/\∀l,l∈x.a.bl->isf (toInt (ae l 0))=true->0<=bw (toStr (ae (ae l 1) 0)) x.ds/\bw (toStr (ae (ae l 1) 0)) x.ds<x.n
def AB(isf:Int->Bool)(x:AP):Prop:=x.h=bw x.a.rel x.ds/\(0<=x.h/\x.h<x.n)/\x.ds.length<=aR/\x.a.bl.length<=aR/\∀l,l∈x.a.bl->isf (toInt (ae l 0))=true->0<=bw (toStr (ae (ae l 1) 0)) x.ds/\bw (toStr (ae (ae l 1) 0)) x.ds<x.n
theorem xAa(κ:Kp)(N:Nat)(ls:List (List Value))(ds rs fs:List AV)(a:cm)(h:Int)(I:Nat->S->Prop)(n:Nat)(K:Exit->S->Prop):(vc (EZ κ) 12 128 none 8 (af (Pr κ).toProgram 128 2) (sp 19 [(0, .ad 72 a.bl),(1, .bL 80 [.ptr 4 0 [] 0, .ptr 6 0 [] 0, .ptr 3 0 [] 0, .ptr 7 0 [] 0]),(7, .int a.bl.length),(8, .int a.i)] (tj N ls fs++[.box 87 (.ptr 0 0 [] 0), .box 25 (gN ds rs), .box 66 (ar a), .box 94 (.bL 44 []), .box 3 (.int h)])) (bJ (EZ κ) 128 2 8 I n K))=(
 letI z1:=AV.agg [AV.ad 61 ds,AV.ad 66 rs]
 letI z2:=AV.agg [AV.aq 1 0 N,AV.aq 2 0 fs.length]
 letI z3:=AV.ptr 0 0 [] 0
 letI z4:=IntKind.wrap IntKind.i64 (a.i+(1:Int))
 letI z5:=a.bl.length
 letI z6:=AV.bL 44 []
 aD (decide (a.i<(↑z5:Int))) (a7 (decide ((0:Int)<=a.i)&&decide (a.i<(↑z5:Int))) (∃(e3:List AV×ByteArray),([AV.ad 61 ds,AV.str (toStr (ae (ae
 (nth a.bl a.i.toNat) 1) 0))],aI)=([AV.ad 61 e3.1,AV.str e3.2],aI)/\gL e3/\∃(e2:Int),([AV.int (toInt (ae (nth a.bl a.i.toNat) 0))],aI)=([AV.int
 e2],aI)/\True/\aD (fB e2) (∃(e1:Qo),([AV.ptr 0 0 [] 0,AV.int h,AV.int (bw e3.2 e3.1)],[Obj.box 122 z2,Obj.rows 38 3 ls none,Obj.row 89 fs])=
 ([AV.ptr 0 0 [] 0,AV.int e1.a,AV.int e1.b],[Obj.box 122 (AV.agg [AV.aq 1 0 e1.n,AV.aq 2 0 (List.length (br e1.n e1.m e1.L e1.n))]),Obj.rows 38 3 (dx e1.L)
 none,Obj.row 89 (br e1.n e1.m e1.L e1.n)])/\(((0:Int)<=e1.a/\e1.a<(↑(e1.n):Int))/\(0:Int)<=e1.b/\e1.b<(↑(e1.n):Int))/\aD (gD e1.n e1.m e1.L
 e1.a e1.b) (K Exit.ret (sp 19 [(4,AV.int a.i)] [Obj.box 122 (AV.agg [AV.aq 1 0 e1.n,AV.aq 2 0 (List.length (br e1.n e1.m e1.L e1.n))]),Obj.rows 38 3 (dx
 e1.L) none,Obj.row 89 (br e1.n e1.m e1.L e1.n),Obj.box 87 z3,Obj.box 25 z1,Obj.box 66 (ar a),Obj.box 94 z6,Obj.box 3 (AV.int h)])) (∃(e0:Nat),e0<n/\
 I e0 (sp 19 [(0,AV.ad 72 a.bl),(1,AV.bL 80 [AV.ptr 4 0 [] 0,AV.ptr 6 0 [] 0,AV.ptr 3 0 [] 0,AV.ptr 7 0 [] 0]),(7,AV.int (↑z5:Int)),(8,AV.int z4)]
 [Obj.box 122 (AV.agg [AV.aq 1 0 e1.n,AV.aq 2 0 (List.length (br e1.n e1.m e1.L e1.n))]),Obj.rows 38 3 (dx e1.L) none,Obj.row 89 (br e1.n e1.m e1.L e1.n),
 Obj.box 87 z3,Obj.box 25 z1,Obj.box 66 (ar a),Obj.box 94 z6,Obj.box 3 (AV.int h)]))) (∃(e0:Nat),e0<n/\I e0 (sp 19 [(0,AV.ad 72 a.bl),(1,AV.bL 80
 [AV.ptr 4 0 [] 0,AV.ptr 6 0 [] 0,AV.ptr 3 0 [] 0,AV.ptr 7 0 [] 0]),(7,AV.int (↑z5:Int)),(8,AV.int z4)] [Obj.box 122 z2,Obj.rows 38 3 ls none,Obj.row
 89 fs,Obj.box 87 z3,Obj.box 25 z1,Obj.box 66 (ar a),Obj.box 94 z6,Obj.box 3 (AV.int h)])))) (K (Exit.exit 0) (sp 19 [] [Obj.box 122 z2,Obj.rows 38 3 ls
 none,Obj.row 89 fs,Obj.box 87 z3,Obj.box 25 z1,Obj.box 66 (ar a),Obj.box 94 z6,Obj.box 3 (AV.int h)]))):=by kernel_rfl
abbrev Oz(x:AP):S:=(sp 19 [(0, .ad 72 x.a.bl),(1, .bL 80 [.ptr 4 0 [] 0, .ptr 6 0 [] 0, .ptr 3 0 [] 0, .ptr 7 0 [] 0]),(7, .int x.a.bl.length),(8, .int x.a.i)] (tj x.n (dx x.L) (br x.n x.m x.L x.n)++[.box 87 (.ptr 0 0 [] 0), .box 25 (gN x.ds x.rs), .box 66 (ar x.a), .box 94 (.bL 44 []), .box 3 (.int x.h)]))
def GF(x:AP):Out (Exit×S):= .all (fun j:Int=>0<=j) fun j=> .aD (iP fB x.n x.m x.L x.ds x.h (x.a.bl.drop x.a.i.toNat))
 (.one (.ret,sp 19 [(4, .int j)] (nE x.n x.m x.L++[.box 87 (.ptr 0 0 [] 0), .box 25 (gN x.ds x.rs), .box 66 (ar x.a), .box 94 (.bL 44 []), .box 3 (.int x.h)])))
 (.one (.exit 0,sp 19 [] (nE x.n x.m x.L++[.box 87 (.ptr 0 0 [] 0), .box 25 (gN x.ds x.rs), .box 66 (ar x.a), .box 94 (.bL 44 []), .box 3 (.int x.h)])))
theorem lAa(κ:Kp):bj (EZ κ) 12 128 2 (aO 8 Oz (rm fB) GF):=by
 refine aK (fun x=>x.a.bl.length - x.a.i.toNat) ?_
 rintro⟨n,m,L,ds,rs,⟨xs,more,rel,hl,bl,line,i⟩,h⟩ K ⟨hh,hd,hb,h0,h1,hm⟩ ho
 simp only at hh hd hb h0 h1 hm
 rw[show(EZ κ).P=Pr κ from rfl]
 refine Eq.mpr (xAa κ n (dx L) ds rs (br n m L n) ⟨xs,more,rel,hl,bl,line,i⟩ h _ _ K) ?_
 simp only[aR] at hb
 rw[ah,an,aa2,aa1,aa1,aa3]
 refine⟨fun hi=>⟨⟨h0,hi⟩,(ds,toStr (ae (ae (nth bl i.toNat) 1) 0)),rfl,hd,toInt (ae (nth bl i.toNat) 0),rfl,trivial,?_⟩,fun hi=>?_⟩
 ·have hi:i<(bl.length:Int):=hi
  have hk:i.toNat<bl.length:=by omega
  have hx:nth bl i.toNat∈bl:=by rw[bf _ _ hk];exact List.getElem_mem _
  have hs:iP fB n m L ds h (bl.drop i.toNat)=((fB (toInt (ae (nth bl i.toNat) 0))&&gD n m L h (bw (toStr (ae (ae (nth bl i.toNat) 1) 0)) ds))||iP fB n m L ds h (bl.drop (i.toNat+1))):=by
   rw[ab2 hk,←bf bl i.toNat hk];rfl
  have next:(fB (toInt (ae (nth bl i.toNat) 0))&&gD n m L h (bw (toStr (ae (ae (nth bl i.toNat) 1) 0)) ds))=false->∃k,k<bl.length - i.toNat/\fm Oz (rm fB) GF (fun x=>x.a.bl.length - x.a.i.toNat) K k (Oz ⟨n,m,L,ds,rs,⟨xs,more,rel,hl,bl,line,i+1⟩,h⟩):=fun e=>by
   rw[e,Bool.false_or] at hs
   refine⟨_,?_,⟨n,m,L,ds,rs,⟨xs,more,rel,hl,bl,line,i+1⟩,h⟩,rfl,⟨hh,hd,by simpa[aR] using hb,by simp only;omega,by simp only;omega,hm⟩,rfl,?_⟩
   ·simp only;omega
   ·simp only[GF,Out.run,show(i+1).toNat=i.toNat+1 by omega,←hs]
    exact ho
  rw[aV (n:=i+1) (by omega) (by omega),ah]
  refine⟨fun e=>⟨⟨n,m,L,h,bw (toStr (ae (ae (nth bl i.toNat) 1) 0)) ds⟩,rfl,⟨hh,hm _ hx e⟩,?_⟩,fun e=>?_⟩
  ·rw[ah]
   refine⟨fun e2=>?_,fun e2=>?_⟩
   ·have:=ho i h0
    simp only at e2
    simp only[Out.run] at this
    rw[hs,e,e2] at this
    exact this
   ·exact next (by rw[e,ac0];exact e2)
  ·exact next (by rw[e,Bool.false_and])
 ·have:=ho 0 (by omega)
  simp only at hi
  simp only[Out.run] at this
  rw[aa9 (by omega)] at this
  exact this
theorem xAb(κ:Kp)(N:Nat)(ls:List (List Value))(ds rs fs:List AV)(a:cm)(h:Int)(I:Nat->S->Prop)(n:Nat)(K:Exit->S->Prop):(vc (EZ κ) 12 128 none 8 (af (Pr κ).toProgram 128 2) (sp 19 [(0, .ad 72 a.bl),(1, .bL 80 [.ptr 4 0 [] 0, .ptr 6 0 [] 0, .ptr 3 0 [] 0, .ptr 7 0 [] 0]),(7, .int a.bl.length),(8, .int a.i)] (tj N ls fs++[.box 87 (.ptr 0 0 [] 0), .box 25 (gN ds rs), .box 66 (ar a), .box 94 (.bL 73 []), .box 3 (.int h)])) (bJ (EZ κ) 128 2 8 I n K))=(
 letI z1:=AV.agg [AV.ad 61 ds,AV.ad 66 rs]
 letI z2:=AV.agg [AV.aq 1 0 N,AV.aq 2 0 fs.length]
 letI z3:=AV.ptr 0 0 [] 0
 letI z4:=IntKind.wrap IntKind.i64 (a.i+(1:Int))
 letI z5:=a.bl.length
 letI z6:=AV.bL 73 []
 aD (decide (a.i<(↑z5:Int))) (a7 (decide ((0:Int)<=a.i)&&decide (a.i<(↑z5:Int))) (∃(e3:List AV×ByteArray),([AV.ad 61 ds,AV.str (toStr (ae (ae
 (nth a.bl a.i.toNat) 1) 0))],aI)=([AV.ad 61 e3.1,AV.str e3.2],aI)/\gL e3/\∃(e2:Int),([AV.int (toInt (ae (nth a.bl a.i.toNat) 0))],aI)=([AV.int
 e2],aI)/\True/\aD (gH e2) (∃(e1:Qo),([AV.ptr 0 0 [] 0,AV.int h,AV.int (bw e3.2 e3.1)],[Obj.box 122 z2,Obj.rows 38 3 ls none,Obj.row 89 fs])=
 ([AV.ptr 0 0 [] 0,AV.int e1.a,AV.int e1.b],[Obj.box 122 (AV.agg [AV.aq 1 0 e1.n,AV.aq 2 0 (List.length (br e1.n e1.m e1.L e1.n))]),Obj.rows 38 3 (dx e1.L)
 none,Obj.row 89 (br e1.n e1.m e1.L e1.n)])/\(((0:Int)<=e1.a/\e1.a<(↑(e1.n):Int))/\(0:Int)<=e1.b/\e1.b<(↑(e1.n):Int))/\aD (gD e1.n e1.m e1.L
 e1.a e1.b) (K Exit.ret (sp 19 [(4,AV.int a.i)] [Obj.box 122 (AV.agg [AV.aq 1 0 e1.n,AV.aq 2 0 (List.length (br e1.n e1.m e1.L e1.n))]),Obj.rows 38 3 (dx
 e1.L) none,Obj.row 89 (br e1.n e1.m e1.L e1.n),Obj.box 87 z3,Obj.box 25 z1,Obj.box 66 (ar a),Obj.box 94 z6,Obj.box 3 (AV.int h)])) (∃(e0:Nat),e0<n/\
 I e0 (sp 19 [(0,AV.ad 72 a.bl),(1,AV.bL 80 [AV.ptr 4 0 [] 0,AV.ptr 6 0 [] 0,AV.ptr 3 0 [] 0,AV.ptr 7 0 [] 0]),(7,AV.int (↑z5:Int)),(8,AV.int z4)]
 [Obj.box 122 (AV.agg [AV.aq 1 0 e1.n,AV.aq 2 0 (List.length (br e1.n e1.m e1.L e1.n))]),Obj.rows 38 3 (dx e1.L) none,Obj.row 89 (br e1.n e1.m e1.L e1.n),
 Obj.box 87 z3,Obj.box 25 z1,Obj.box 66 (ar a),Obj.box 94 z6,Obj.box 3 (AV.int h)]))) (∃(e0:Nat),e0<n/\I e0 (sp 19 [(0,AV.ad 72 a.bl),(1,AV.bL 80
 [AV.ptr 4 0 [] 0,AV.ptr 6 0 [] 0,AV.ptr 3 0 [] 0,AV.ptr 7 0 [] 0]),(7,AV.int (↑z5:Int)),(8,AV.int z4)] [Obj.box 122 z2,Obj.rows 38 3 ls none,Obj.row
 89 fs,Obj.box 87 z3,Obj.box 25 z1,Obj.box 66 (ar a),Obj.box 94 z6,Obj.box 3 (AV.int h)])))) (K (Exit.exit 0) (sp 19 [] [Obj.box 122 z2,Obj.rows 38 3 ls
 none,Obj.row 89 fs,Obj.box 87 z3,Obj.box 25 z1,Obj.box 66 (ar a),Obj.box 94 z6,Obj.box 3 (AV.int h)]))):=by kernel_rfl
abbrev Ov(x:AP):S:=(sp 19 [(0, .ad 72 x.a.bl),(1, .bL 80 [.ptr 4 0 [] 0, .ptr 6 0 [] 0, .ptr 3 0 [] 0, .ptr 7 0 [] 0]),(7, .int x.a.bl.length),(8, .int x.a.i)] (tj x.n (dx x.L) (br x.n x.m x.L x.n)++[.box 87 (.ptr 0 0 [] 0), .box 25 (gN x.ds x.rs), .box 66 (ar x.a), .box 94 (.bL 73 []), .box 3 (.int x.h)]))
def FW(x:AP):Out (Exit×S):= .all (fun j:Int=>0<=j) fun j=> .aD (iP gH x.n x.m x.L x.ds x.h (x.a.bl.drop x.a.i.toNat))
 (.one (.ret,sp 19 [(4, .int j)] (nE x.n x.m x.L++[.box 87 (.ptr 0 0 [] 0), .box 25 (gN x.ds x.rs), .box 66 (ar x.a), .box 94 (.bL 73 []), .box 3 (.int x.h)])))
 (.one (.exit 0,sp 19 [] (nE x.n x.m x.L++[.box 87 (.ptr 0 0 [] 0), .box 25 (gN x.ds x.rs), .box 66 (ar x.a), .box 94 (.bL 73 []), .box 3 (.int x.h)])))
theorem lAb(κ:Kp):bj (EZ κ) 12 128 2 (aO 8 Ov (rm gH) FW):=by
 refine aK (fun x=>x.a.bl.length - x.a.i.toNat) ?_
 rintro⟨n,m,L,ds,rs,⟨xs,more,rel,hl,bl,line,i⟩,h⟩ K ⟨hh,hd,hb,h0,h1,hm⟩ ho
 simp only at hh hd hb h0 h1 hm
 rw[show(EZ κ).P=Pr κ from rfl]
 refine Eq.mpr (xAb κ n (dx L) ds rs (br n m L n) ⟨xs,more,rel,hl,bl,line,i⟩ h _ _ K) ?_
 simp only[aR] at hb
 rw[ah,an,aa2,aa1,aa1,aa3]
 refine⟨fun hi=>⟨⟨h0,hi⟩,(ds,toStr (ae (ae (nth bl i.toNat) 1) 0)),rfl,hd,toInt (ae (nth bl i.toNat) 0),rfl,trivial,?_⟩,fun hi=>?_⟩
 ·have hi:i<(bl.length:Int):=hi
  have hk:i.toNat<bl.length:=by omega
  have hx:nth bl i.toNat∈bl:=by rw[bf _ _ hk];exact List.getElem_mem _
  have hs:iP gH n m L ds h (bl.drop i.toNat)=((gH (toInt (ae (nth bl i.toNat) 0))&&gD n m L h (bw (toStr (ae (ae (nth bl i.toNat) 1) 0)) ds))||iP gH n m L ds h (bl.drop (i.toNat+1))):=by
   rw[ab2 hk,←bf bl i.toNat hk];rfl
  have next:(gH (toInt (ae (nth bl i.toNat) 0))&&gD n m L h (bw (toStr (ae (ae (nth bl i.toNat) 1) 0)) ds))=false->∃k,k<bl.length - i.toNat/\fm Ov (rm gH) FW (fun x=>x.a.bl.length - x.a.i.toNat) K k (Ov ⟨n,m,L,ds,rs,⟨xs,more,rel,hl,bl,line,i+1⟩,h⟩):=fun e=>by
   rw[e,Bool.false_or] at hs
   refine⟨_,?_,⟨n,m,L,ds,rs,⟨xs,more,rel,hl,bl,line,i+1⟩,h⟩,rfl,⟨hh,hd,by simpa[aR] using hb,by simp only;omega,by simp only;omega,hm⟩,rfl,?_⟩
   ·simp only;omega
   ·simp only[FW,Out.run,show(i+1).toNat=i.toNat+1 by omega,←hs]
    exact ho
  rw[aV (n:=i+1) (by omega) (by omega),ah]
  refine⟨fun e=>⟨⟨n,m,L,h,bw (toStr (ae (ae (nth bl i.toNat) 1) 0)) ds⟩,rfl,⟨hh,hm _ hx e⟩,?_⟩,fun e=>?_⟩
  ·rw[ah]
   refine⟨fun e2=>?_,fun e2=>?_⟩
   ·have:=ho i h0
    simp only at e2
    simp only[Out.run] at this
    rw[hs,e,e2] at this
    exact this
   ·exact next (by rw[e,ac0];exact e2)
  ·exact next (by rw[e,Bool.false_and])
 ·have:=ho 0 (by omega)
  simp only at hi
  simp only[Out.run] at this
  rw[aa9 (by omega)] at this
  exact this
def W4(s:S):Bool:=match ax s.st 6 with| .box _ (.bL f _)=>Nat.beq f 44|_=>false
noncomputable def QA(κ:Kp):Env:=(EZ κ).ak 128 2 (qv W4 (aO 8 Oz (rm fB) GF) (aO 8 Ov (rm gH) FW))
theorem eAl(κ:Kp):aB (QA κ):=(eIb κ).ak (ZK κ) (nJ (lAa κ) (lAb κ))
theorem Y9(κ:Kp):aj (QA κ):=(ZK κ).ak (kP aG aG)
theorem yAa(κ:Kp)(N:Nat)(ls:List (List Value))(ds rs fs:List AV)(a:cm)(K:AV->List Dn.Obj->Prop):(ba (QA κ) 12 43 [.ptr 0 0 [] 0,gN ds rs,ar a, .bL 44 []] (tj N ls fs) K)=(
 letI z1:=Pg.toProgram (Env.P (EZ κ))
 ∃(e2:List AV×ByteArray),([AV.ad 61 ds,AV.str a.rel],aI)=([AV.ad 61 e2.1,AV.str e2.2],aI)/\gL e2/\af z1 128 2=af z1 128 2/\∃(e1:AP),sp 19
 [(0,AV.ad 72 a.bl),(1,AV.bL 80 [AV.ptr 4 0 [] 0,AV.ptr 6 0 [] 0,AV.ptr 3 0 [] 0,AV.ptr 7 0 [] 0]),(7,AV.int (↑(a.bl.length):Int)),(8,AV.int 0)]
 [Obj.box 122 (AV.agg [AV.aq 1 0 N,AV.aq 2 0 fs.length]),Obj.rows 38 3 ls none,Obj.row 89 fs,Obj.box 87 (AV.ptr 0 0 [] 0),Obj.box 25 (AV.agg [AV.ad 61 ds,
 AV.ad 66 rs]),Obj.box 66 (ar a),Obj.box 94 (AV.bL 44 []),Obj.box 3 (AV.int (bw e2.2 e2.1))]=sp 19 [(0,AV.ad 72 e1.a.bl),(1,AV.bL 80 [AV.ptr 4 0 [] 0,
 AV.ptr 6 0 [] 0,AV.ptr 3 0 [] 0,AV.ptr 7 0 [] 0]),(7,AV.int (↑(List.length e1.a.bl):Int)),(8,AV.int e1.a.i)] [Obj.box 122 (AV.agg [AV.aq 1 0 e1.n,AV.aq
 2 0 (List.length (br e1.n e1.m e1.L e1.n))]),Obj.rows 38 3 (dx e1.L) none,Obj.row 89 (br e1.n e1.m e1.L e1.n),Obj.box 87 (AV.ptr 0 0 [] 0),Obj.box 25
 (AV.agg [AV.ad 61 e1.ds,AV.ad 66 e1.rs]),Obj.box 66 (ar e1.a),Obj.box 94 (AV.bL 44 []),Obj.box 3 (AV.int e1.h)]/\(((0:Int)<=e1.h/\e1.h<(↑(e1.n):
 Int))/\e1.ds.length<=9223372036854775807/\List.length e1.a.bl<=9223372036854775807/\(0:Int)<=e1.a.i/\e1.a.i<=(↑(List.length e1.a.bl):Int)/\∀(e0:
 AV),List.Mem e0 e1.a.bl->fB (toInt (ae e0 0))=true->(0:Int)<=bw (toStr (ae (ae e0 1) 0)) e1.ds/\bw (toStr (ae (ae e0 1) 0)) e1.ds<(↑(e1.n):Int))/\
 ∀(e0:Int),(0:Int)<=e0->aD (iP fB e1.n e1.m e1.L e1.ds e1.h (List.drop (Int.toNat e1.a.i) e1.a.bl)) (K (AV.bool (decide (e0>=(0:Int)))) [Obj.box 122
 (AV.agg [AV.aq 1 0 e1.n,AV.aq 2 0 (List.length (br e1.n e1.m e1.L e1.n))]),Obj.rows 38 3 (dx e1.L) none,Obj.row 89 (br e1.n e1.m e1.L e1.n)]) (K (AV.bool
 false) [Obj.box 122 (AV.agg [AV.aq 1 0 e1.n,AV.aq 2 0 (List.length (br e1.n e1.m e1.L e1.n))]),Obj.rows 38 3 (dx e1.L) none,Obj.row 89 (br e1.n e1.m e1.L
 e1.n)])):=by kernel_rfl
def yi(x:AP):List AV×List Dn.Obj:=([.ptr 0 0 [] 0,gN x.ds x.rs,ar x.a, .bL 44 []],nE x.n x.m x.L)
def Dy(x:AP):Out (AV×List Dn.Obj):= .one (.bool (iP fB x.n x.m x.L x.ds x.h x.a.bl),nE x.n x.m x.L)
theorem cAa(κ:Kp):bu (QA κ) 12 43 (aL yi (AB fB) Dy):=by
 refine aX ?_
 rintro⟨n,m,L,ds,rs,⟨xs,more,rel,hl,bl,line,i⟩,h⟩ K ⟨he,hh,hd,hb,hm⟩ ho
 simp only at he hh hd hb hm
 refine Eq.mpr (yAa κ n (dx L) ds rs (br n m L n) ⟨xs,more,rel,hl,bl,line,i⟩ K) ?_
 simp only[Dy,Out.run] at ho
 refine⟨(ds,rel),rfl,hd,rfl,⟨n,m,L,ds,rs,⟨xs,more,rel,hl,bl,line,0⟩,h⟩,by simp only[he],⟨hh,hd,hb,by simp only;omega,by simp only;omega,hm⟩,fun j hj=>?_⟩
 show aD (iP fB n m L ds h bl) (K (.bool (decide (j>=0))) (nE n m L)) (K (.bool false) (nE n m L))
 rw[ah,aa7 (show j>=0 from hj)]
 exact⟨fun e=>by rw[e] at ho;exact ho,fun e=>by rw[e] at ho;exact ho⟩
theorem yAb(κ:Kp)(N:Nat)(ls:List (List Value))(ds rs fs:List AV)(a:cm)(K:AV->List Dn.Obj->Prop):(ba (QA κ) 12 43 [.ptr 0 0 [] 0,gN ds rs,ar a, .bL 73 []] (tj N ls fs) K)=(
 letI z1:=Pg.toProgram (Env.P (EZ κ))
 ∃(e2:List AV×ByteArray),([AV.ad 61 ds,AV.str a.rel],aI)=([AV.ad 61 e2.1,AV.str e2.2],aI)/\gL e2/\af z1 128 2=af z1 128 2/\∃(e1:AP),sp 19
 [(0,AV.ad 72 a.bl),(1,AV.bL 80 [AV.ptr 4 0 [] 0,AV.ptr 6 0 [] 0,AV.ptr 3 0 [] 0,AV.ptr 7 0 [] 0]),(7,AV.int (↑(a.bl.length):Int)),(8,AV.int 0)]
 [Obj.box 122 (AV.agg [AV.aq 1 0 N,AV.aq 2 0 fs.length]),Obj.rows 38 3 ls none,Obj.row 89 fs,Obj.box 87 (AV.ptr 0 0 [] 0),Obj.box 25 (AV.agg [AV.ad 61 ds,
 AV.ad 66 rs]),Obj.box 66 (ar a),Obj.box 94 (AV.bL 73 []),Obj.box 3 (AV.int (bw e2.2 e2.1))]=sp 19 [(0,AV.ad 72 e1.a.bl),(1,AV.bL 80 [AV.ptr 4 0 [] 0,
 AV.ptr 6 0 [] 0,AV.ptr 3 0 [] 0,AV.ptr 7 0 [] 0]),(7,AV.int (↑(List.length e1.a.bl):Int)),(8,AV.int e1.a.i)] [Obj.box 122 (AV.agg [AV.aq 1 0 e1.n,AV.aq
 2 0 (List.length (br e1.n e1.m e1.L e1.n))]),Obj.rows 38 3 (dx e1.L) none,Obj.row 89 (br e1.n e1.m e1.L e1.n),Obj.box 87 (AV.ptr 0 0 [] 0),Obj.box 25
 (AV.agg [AV.ad 61 e1.ds,AV.ad 66 e1.rs]),Obj.box 66 (ar e1.a),Obj.box 94 (AV.bL 73 []),Obj.box 3 (AV.int e1.h)]/\(((0:Int)<=e1.h/\e1.h<(↑(e1.n):
 Int))/\e1.ds.length<=9223372036854775807/\List.length e1.a.bl<=9223372036854775807/\(0:Int)<=e1.a.i/\e1.a.i<=(↑(List.length e1.a.bl):Int)/\∀(e0:
 AV),List.Mem e0 e1.a.bl->gH (toInt (ae e0 0))=true->(0:Int)<=bw (toStr (ae (ae e0 1) 0)) e1.ds/\bw (toStr (ae (ae e0 1) 0)) e1.ds<(↑(e1.n):Int))/\
 ∀(e0:Int),(0:Int)<=e0->aD (iP gH e1.n e1.m e1.L e1.ds e1.h (List.drop (Int.toNat e1.a.i) e1.a.bl)) (K (AV.bool (decide (e0>=(0:Int)))) [Obj.box 122
 (AV.agg [AV.aq 1 0 e1.n,AV.aq 2 0 (List.length (br e1.n e1.m e1.L e1.n))]),Obj.rows 38 3 (dx e1.L) none,Obj.row 89 (br e1.n e1.m e1.L e1.n)]) (K (AV.bool
 false) [Obj.box 122 (AV.agg [AV.aq 1 0 e1.n,AV.aq 2 0 (List.length (br e1.n e1.m e1.L e1.n))]),Obj.rows 38 3 (dx e1.L) none,Obj.row 89 (br e1.n e1.m e1.L
 e1.n)])):=by kernel_rfl
def PU(x:AP):List AV×List Dn.Obj:=([.ptr 0 0 [] 0,gN x.ds x.rs,ar x.a, .bL 73 []],nE x.n x.m x.L)
def Eg(x:AP):Out (AV×List Dn.Obj):= .one (.bool (iP gH x.n x.m x.L x.ds x.h x.a.bl),nE x.n x.m x.L)
theorem cAb(κ:Kp):bu (QA κ) 12 43 (aL PU (AB gH) Eg):=by
 refine aX ?_
 rintro⟨n,m,L,ds,rs,⟨xs,more,rel,hl,bl,line,i⟩,h⟩ K ⟨he,hh,hd,hb,hm⟩ ho
 simp only at he hh hd hb hm
 refine Eq.mpr (yAb κ n (dx L) ds rs (br n m L n) ⟨xs,more,rel,hl,bl,line,i⟩ K) ?_
 simp only[Eg,Out.run] at ho
 refine⟨(ds,rel),rfl,hd,rfl,⟨n,m,L,ds,rs,⟨xs,more,rel,hl,bl,line,0⟩,h⟩,by simp only[he],⟨hh,hd,hb,by simp only;omega,by simp only;omega,hm⟩,fun j hj=>?_⟩
 show aD (iP gH n m L ds h bl) (K (.bool (decide (j>=0))) (nE n m L)) (K (.bool false) (nE n m L))
 rw[ah,aa7 (show j>=0 from hj)]
 exact⟨fun e=>by rw[e] at ho;exact ho,fun e=>by rw[e] at ho;exact ho⟩
def Lk(sel:List AV->Bool)(a b:dr):dr:=fun args st K=>bif sel args then a args st K else b args st K
theorem Hr{sel:List AV->Bool}{a b:dr}(ha:a.jf)(hb:b.jf):(Lk sel a b).jf:=fun args st K K' hK h=>by
 unfold Lk at h⊢
 cases hs:sel args<;>simp only[hs] at h⊢
 ·exact hb _ _ _ _ hK h
 ·exact ha _ _ _ _ hK h
theorem Na{E:Env}{N f:Nat}{sel:List AV->Bool}{a b:dr}(ha:bu E N f a)(hb:bu E N f b):bu E N f (Lk sel a b):=fun args st K h=>by
 unfold Lk at h
 cases hs:sel args<;>rw[hs] at h
 ·exact hb _ _ _ h
 ·exact ha _ _ _ h
def Xq:List AV->Bool
 |[_,_,_, .bL f _]=>Nat.beq f 44
 |_=>false
noncomputable def Eo(κ:Kp):Env:=(QA κ).aw 43 (Lk Xq (aL yi (AB fB) Dy) (aL PU (AB gH) Eg))
theorem eAg(κ:Kp):aB (Eo κ):=(eAl κ).aw (Y9 κ) (Na (cAa κ) (cAb κ))
theorem YA(κ:Kp):aj (Eo κ):=(Y9 κ).aw (Hr aJ aJ)
theorem xLy(κ:Kp)(N i:Nat)(ls:List (List Value))(ds rs fs:List AV)(I:Nat->S->Prop)(n:Nat)(K:Exit->S->Prop):(vc (Eo κ) 12 38 none 3 (af (Pr κ).toProgram 38 2) (sp 38 [(0, .ptr 0 0 [] 0),(3, .ptr 3 0 [] 0),(11, .ad 66 rs),(12, .int rs.length),(13, .int i)] (tj N ls fs++[.box 25 (gN ds rs)])) (bJ (Eo κ) 38 2 3 I n K))=(
 letI z1:=nth rs (Int.toNat (↑i:Int))
 letI z2:=IntKind.wrap IntKind.i64 ((↑i:Int)+(1:Int))
 letI z3:=AV.agg [AV.ad 61 ds,AV.ad 66 rs]
 letI z4:=toInt (ae z1 2)
 letI z5:=toStr (ae (ae z1 0) 0)
 letI z6:=AV.agg [AV.aq 1 0 N,AV.aq 2 0 fs.length]
 letI z7:=(↑i:Int)<(↑(rs.length):Int)
 letI z8:=ai (ae (ae z1 0) 1)
 letI z9:=ai (ae z1 1)
 aD (decide z7) (a7 (true&&decide z7) (∃(e3:AP),([AV.ptr 0 0 [] 0,AV.agg [AV.ad 61 ds,AV.ad 66 rs],AV.agg [AV.agg [AV.str z5,AV.ad 56 z8],AV.ad 72 z9,
 AV.int z4],AV.bL 73 []],[Obj.box 122 z6,Obj.rows 38 3 ls none,Obj.row 89 fs])=([AV.ptr 0 0 [] 0,AV.agg [AV.ad 61 e3.ds,AV.ad 66 e3.rs],ar e3.a,AV.bL
 73 []],[Obj.box 122 (AV.agg [AV.aq 1 0 e3.n,AV.aq 2 0 (List.length (br e3.n e3.m e3.L e3.n))]),Obj.rows 38 3 (dx e3.L) none,Obj.row 89 (br e3.n e3.m e3.L
 e3.n)])/\(e3.h=bw e3.a.rel e3.ds/\((0:Int)<=e3.h/\e3.h<(↑(e3.n):Int))/\e3.ds.length<=9223372036854775807/\List.length e3.a.bl<=
 9223372036854775807/\∀(e0:AV),List.Mem e0 e3.a.bl->gH (toInt (ae e0 0))=true->(0:Int)<=bw (toStr (ae (ae e0 1) 0)) e3.ds/\bw (toStr (ae (ae e0 1)
 0)) e3.ds<(↑(e3.n):Int))/\aD (iP gH e3.n e3.m e3.L e3.ds e3.h e3.a.bl) (K Exit.ret (sp 38 [(4,AV.int z4),(5,AV.int 70)] [Obj.box 122 (AV.agg [AV.aq 1 0
 e3.n,AV.aq 2 0 (List.length (br e3.n e3.m e3.L e3.n))]),Obj.rows 38 3 (dx e3.L) none,Obj.row 89 (br e3.n e3.m e3.L e3.n)])) (∃(e2:cm),([AV.agg [AV.agg
 [AV.str z5,AV.ad 56 z8],AV.ad 72 z9,AV.int z4]],aI)=([ar e2],aI)/\(aZ (aa (bk 56 e2.hl e2.bl))<=100000/\e2.bl.length<=100000)/\aD (aM (aF e2)) (aD
 (jb (aF e2)) (aD (JK (aF e2)) (∃(e1:AP),([AV.ptr 0 0 [] 0,AV.agg [AV.ad 61 ds,AV.ad 66 rs],AV.agg [AV.agg [AV.str z5,AV.ad 56 z8],AV.ad 72 z9,AV.int
 z4],AV.bL 44 []],[Obj.box 122 (AV.agg [AV.aq 1 0 e3.n,AV.aq 2 0 (List.length (br e3.n e3.m e3.L e3.n))]),Obj.rows 38 3 (dx e3.L) none,Obj.row 89 (br e3.n
 e3.m e3.L e3.n)])=([AV.ptr 0 0 [] 0,AV.agg [AV.ad 61 e1.ds,AV.ad 66 e1.rs],ar e1.a,AV.bL 44 []],[Obj.box 122 (AV.agg [AV.aq 1 0 e1.n,AV.aq 2 0
 (List.length (br e1.n e1.m e1.L e1.n))]),Obj.rows 38 3 (dx e1.L) none,Obj.row 89 (br e1.n e1.m e1.L e1.n)])/\(e1.h=bw e1.a.rel e1.ds/\((0:Int)<=e1.h/\
 e1.h<(↑(e1.n):Int))/\e1.ds.length<=9223372036854775807/\List.length e1.a.bl<=9223372036854775807/\∀(e0:AV),List.Mem e0 e1.a.bl->fB (toInt (ae e0
 0))=true->(0:Int)<=bw (toStr (ae (ae e0 1) 0)) e1.ds/\bw (toStr (ae (ae e0 1) 0)) e1.ds<(↑(e1.n):Int))/\aD (iP fB e1.n e1.m e1.L e1.ds e1.h e1.a.bl)
 (K Exit.ret (sp 38 [(4,AV.int z4),(5,AV.int 71)] [Obj.box 122 (AV.agg [AV.aq 1 0 e1.n,AV.aq 2 0 (List.length (br e1.n e1.m e1.L e1.n))]),Obj.rows 38 3 (dx
 e1.L) none,Obj.row 89 (br e1.n e1.m e1.L e1.n)])) (∃(e0:Nat),e0<n/\I e0 (sp 38 [(0,AV.ptr 0 0 [] 0),(3,AV.ptr 3 0 [] 0),(11,AV.ad 66 rs),(12,
 AV.int (↑(rs.length):Int)),(13,AV.int z2)] [Obj.box 122 (AV.agg [AV.aq 1 0 e1.n,AV.aq 2 0 (List.length (br e1.n e1.m e1.L e1.n))]),Obj.rows 38 3 (dx e1.L)
 none,Obj.row 89 (br e1.n e1.m e1.L e1.n),Obj.box 25 z3]))) (∃(e0:Nat),e0<n/\I e0 (sp 38 [(0,AV.ptr 0 0 [] 0),(3,AV.ptr 3 0 [] 0),(11,AV.ad 66 rs),
 (12,AV.int (↑(rs.length):Int)),(13,AV.int z2)] [Obj.box 122 (AV.agg [AV.aq 1 0 e3.n,AV.aq 2 0 (List.length (br e3.n e3.m e3.L e3.n))]),Obj.rows 38 3 (dx
 e3.L) none,Obj.row 89 (br e3.n e3.m e3.L e3.n),Obj.box 25 z3]))) (∃(e0:Nat),e0<n/\I e0 (sp 38 [(0,AV.ptr 0 0 [] 0),(3,AV.ptr 3 0 [] 0),(11,AV.ad
 66 rs),(12,AV.int (↑(rs.length):Int)),(13,AV.int z2)] [Obj.box 122 (AV.agg [AV.aq 1 0 e3.n,AV.aq 2 0 (List.length (br e3.n e3.m e3.L e3.n))]),Obj.rows
 38 3 (dx e3.L) none,Obj.row 89 (br e3.n e3.m e3.L e3.n),Obj.box 25 z3]))) (∃(e0:Nat),e0<n/\I e0 (sp 38 [(0,AV.ptr 0 0 [] 0),(3,AV.ptr 3 0 [] 0),
 (11,AV.ad 66 rs),(12,AV.int (↑(rs.length):Int)),(13,AV.int z2)] [Obj.box 122 (AV.agg [AV.aq 1 0 e3.n,AV.aq 2 0 (List.length (br e3.n e3.m e3.L e3.n))]),
 Obj.rows 38 3 (dx e3.L) none,Obj.row 89 (br e3.n e3.m e3.L e3.n),Obj.box 25 z3]))))) (K (Exit.exit 0) (sp 38 [] [Obj.box 122 z6,Obj.rows 38 3 ls none,
 Obj.row 89 fs]))):=by kernel_rfl
theorem xLz(κ:Kp)(ls:List (List Value))(ds:List AV)(I:Nat->S->Prop)(n:Nat)(K:Exit->S->Prop):(vc (Eo κ) 12 38 none 2 (af (Pr κ).toProgram 38 2) (sp 38 [(0, .ptr 0 0 [] 0),(3, .ptr 2 0 [] 0),(11, .ad 66 []),(12, .int 0),(13, .int 0)] (w5 0 ls++[.box 25 (gN ds [])])) (bJ (Eo κ) 38 2 2 I n K))=(
 K (Exit.exit 0) (sp 38 [] [Obj.box 122 (AV.agg [AV.aq 1 0 0,AV.nil]),Obj.rows 38 3 ls none])):=by kernel_rfl
def uP(r:AV):Bool:=aM (aF (eo r))&&jb (aF (eo r))&&JK (aF (eo r))
def AF(ds:List AV)(r:AV):Int:=bw (toStr (ae (ae r 0) 0)) ds
def yL(isf:Int->Bool)(n m:Nat)(L:Gr)(ds:List AV)(r:AV):Bool:=iP isf n m L ds (AF ds r) (ai (ae r 1))
def tw(n m:Nat)(L:Gr)(ds:List AV):List AV->Int×Int
 |[]=>(0,0)
 |r::rs=>bif yL gH n m L ds r then(toInt (ae r 2),70) else bif uP r&&yL fB n m L ds r then(toInt (ae r 2),71) else tw n m L ds rs
structure Br(n:Nat)(ds:List AV)(r:AV):Prop where
 hd:0<=AF ds r/\AF ds r<n
 at_: ∀l,l∈ai (ae r 1)->dy (toInt (ae l 0))=true->0<=bw (toStr (ae (ae l 1) 0)) ds/\bw (toStr (ae (ae l 1) 0)) ds<n
 le:(ai (ae r 1)).length<=aR
 Xi:de (eo r)
theorem tO{op:Int}(h:fB op=true):dy op=true:=by
 have:op=1:=by simpa[fB] using h
 subst this;rfl
theorem KW{op:Int}(h:gH op=true):dy op=true:=by
 unfold gH at h
 unfold dy
 by_cases e:op=2
 ·subst e;rfl
 ·rw[aa5 e,aa6,aa1] at h
  cases decide (op<3)
  ·rw[aa6,aa1];omega
  ·rfl
structure PK where
 n:Nat
 m:Nat
 L:Gr
 ds:List AV
 rs:List AV
 i:Nat
abbrev Oi(x:PK):S:=sp 38 [(0, .ptr 0 0 [] 0),(3, .ptr 3 0 [] 0),(11, .ad 66 x.rs),(12, .int x.rs.length),(13, .int x.i)] (nE x.n x.m x.L++[.box 25 (gN x.ds x.rs)])
def Dr(x:PK):Prop:=x.ds.length<=aR/\x.rs.length<=aR/\x.i<=x.rs.length/\∀r,r∈x.rs->Br x.n x.ds r
def CR(x:PK):Out (Exit×S):= .aD (decide ((tw x.n x.m x.L x.ds (x.rs.drop x.i)).2=0))
 (.one (.exit 0,sp 38 [] (nE x.n x.m x.L)))
 (.one (.ret,sp 38 [(4, .int (tw x.n x.m x.L x.ds (x.rs.drop x.i)).1),(5, .int (tw x.n x.m x.L x.ds (x.rs.drop x.i)).2)] (nE x.n x.m x.L)))
theorem lLy(κ:Kp):bj (Eo κ) 12 38 2 (aO 3 Oi Dr CR):=by
 refine aK (fun x=>x.rs.length - x.i) ?_
 rintro⟨n,m,L,ds,rs,i⟩ K ⟨hd,hr,hi,hg⟩ ho
 simp only at hd hr hi hg
 rw[show(Eo κ).P=Pr κ from rfl]
 refine Eq.mpr (xLy κ n i (dx L) ds rs (br n m L n) _ _ K) ?_
 have ho2:=ho
 simp only[CR,Out.run,ah,aa1,aa3] at ho2
 simp only[aR] at hr
 rw[ah,aa1,aa3,an,ac0,aa1]
 refine⟨fun h=>⟨h,?_⟩,fun h=>?_⟩
 ·have hk:i<rs.length:=by omega
  have hx:nth rs i∈rs:=by rw[bf _ _ hk];exact List.getElem_mem _
  have hG:=hg _ hx
  have hs:tw n m L ds (rs.drop i)=bif yL gH n m L ds (nth rs i) then(toInt (ae (nth rs i) 2),70) else bif uP (nth rs i)&&yL fB n m L ds (nth rs i) then(toInt (ae (nth rs i) 2),71) else tw n m L ds (rs.drop (i+1)):=by
   rw[ab2 hk,←bf rs i hk];rfl
  have next:yL gH n m L ds (nth rs i)=false->(uP (nth rs i)&&yL fB n m L ds (nth rs i))=false->∃k,k<rs.length - i/\fm Oi Dr CR (fun x=>x.rs.length - x.i) K k (Oi ⟨n,m,L,ds,rs,i+1⟩):=fun e1 e2=>by
   rw[e1,e2,aa6,aa6] at hs
   refine⟨_,?_,⟨n,m,L,ds,rs,i+1⟩,rfl,⟨hd,by simpa[aR] using hr,hk,hg⟩,rfl,?_⟩
   ·simp only;omega
   ·simp only[CR,Out.run,←hs];exact ho
  rw[Int.toNat_natCast,aV (n:=(i:Int)+1) (by omega) (by omega)]
  refine⟨⟨n,m,L,ds,rs,eo (nth rs i),AF ds (nth rs i)⟩,rfl,⟨rfl,hG.hd,hd,hG.le,fun l hl h=>hG.at_ l hl (KW h)⟩,?_⟩
  rw[ah]
  refine⟨fun e=>?_,fun e=>?_⟩
  ·have e:yL gH n m L ds (nth rs i)=true:=e
   rw[e,aa8] at hs
   have:=ho2.2 (by rw[hs];exact fun h=>nomatch h)
   rw[hs] at this
   exact this
  ·have e:yL gH n m L ds (nth rs i)=false:=e
   refine⟨eo (nth rs i),rfl,hG.Xi,?_⟩
   rw[ah]
   refine⟨fun e1=>?_,fun e1=>next e (by unfold uP;rw[e1];rfl)⟩
   rw[ah]
   refine⟨fun e2=>?_,fun e2=>next e (by unfold uP;rw[e1,e2];rfl)⟩
   rw[ah]
   refine⟨fun e3=>?_,fun e3=>next e (by unfold uP;rw[e1,e2,e3];rfl)⟩
   have hv:uP (nth rs i)=true:=by unfold uP;rw[e1,e2,e3];rfl
   refine⟨⟨n,m,L,ds,rs,eo (nth rs i),AF ds (nth rs i)⟩,rfl,⟨rfl,hG.hd,hd,hG.le,fun l hl h=>hG.at_ l hl (tO h)⟩,?_⟩
   rw[ah]
   refine⟨fun e4=>?_,fun e4=>next e (by have e4:yL fB n m L ds (nth rs i)=false:=e4;rw[e4,Bool.and_false])⟩
   have e4:yL fB n m L ds (nth rs i)=true:=e4
   rw[e,hv,e4,aa6,Bool.and_true,aa8] at hs
   have:=ho2.2 (by rw[hs];exact fun h=>nomatch h)
   rw[hs] at this
   exact this
 ·rw[aa9 (by omega)] at ho2
  exact ho2.1 rfl
structure R7 where
 ls:List (List Value)
 ds:List AV
abbrev Vz(x:R7):S:=sp 38 [(0, .ptr 0 0 [] 0),(3, .ptr 2 0 [] 0),(11, .ad 66 []),(12, .int 0),(13, .int 0)] (w5 0 x.ls++[.box 25 (gN x.ds [])])
def Pp(x:R7):Out (Exit×S):= .one (.exit 0,sp 38 [] (w5 0 x.ls))
theorem lLz(κ:Kp):bj (Eo κ) 12 38 2 (aO 2 Vz (fun _=>True) Pp):=by
 refine aK (fun _=>0) ?_
 rintro⟨ls,ds⟩ K _ ho
 rw[show(Eo κ).P=Pr κ from rfl]
 exact Eq.mpr (xLz κ ls ds _ _ K) ho
noncomputable def Q8(κ:Kp):Env:=(Eo κ).ak 38 2 (qv Uu (aO 3 Oi Dr CR) (aO 2 Vz (fun _=>True) Pp))
theorem eLl(κ:Kp):aB (Q8 κ):=(eAg κ).ak (YA κ) (nJ (lLy κ) (lLz κ))
theorem Y6(κ:Kp):aj (Q8 κ):=(YA κ).ak (kP aG aG)
theorem yLy(κ:Kp)(N:Nat)(ls:List (List Value))(ds rs fs:List AV)(K:AV->List Dn.Obj->Prop):(ba (Q8 κ) 12 38 [.ptr 0 0 [] 0,gN ds rs] (tj N ls fs) K)=(
 af (Pg.toProgram (Env.P (Eo κ))) 38 2=af (Pg.toProgram (Env.P (Eo κ))) 38 2/\∃(a:PK),sp 38 [(0,AV.ptr 0 0 [] 0),(3,AV.ptr 3 0 [] 0),
 (11,AV.ad 66 rs),(12,AV.int (↑(rs.length):Int)),(13,AV.int 0)] [Obj.box 122 (AV.agg [AV.aq 1 0 N,AV.aq 2 0 fs.length]),Obj.rows 38 3 ls none,
 Obj.row 89 fs,Obj.box 25 (AV.agg [AV.ad 61 ds,AV.ad 66 rs])]=sp 38 [(0,AV.ptr 0 0 [] 0),(3,AV.ptr 3 0 [] 0),(11,AV.ad 66 a.rs),(12,AV.int
 (↑(a.rs.length):Int)),(13,AV.int (↑(a.i):Int))] [Obj.box 122 (AV.agg [AV.aq 1 0 a.n,AV.aq 2 0 (List.length (br a.n a.m a.L a.n))]),Obj.rows 38 3
 (dx a.L) none,Obj.row 89 (br a.n a.m a.L a.n),Obj.box 25 (AV.agg [AV.ad 61 a.ds,AV.ad 66 a.rs])]/\(a.ds.length<=9223372036854775807/\a.rs.length<=
 9223372036854775807/\a.i<=a.rs.length/\∀(r:AV),List.Mem r a.rs->Br a.n a.ds r)/\aD (decide (Prod.snd (tw a.n a.m a.L a.ds (List.drop a.i a.rs))=
 (0:Int))) (K (AV.bh [AV.int 0,AV.int 0]) [Obj.box 122 (AV.agg [AV.aq 1 0 a.n,AV.aq 2 0 (List.length (br a.n a.m a.L a.n))]),Obj.rows 38 3 (dx a.L)
 none,Obj.row 89 (br a.n a.m a.L a.n)]) (K (AV.bh [AV.int (Prod.fst (tw a.n a.m a.L a.ds (List.drop a.i a.rs))),AV.int (Prod.snd (tw a.n a.m a.L a.ds
 (List.drop a.i a.rs)))]) [Obj.box 122 (AV.agg [AV.aq 1 0 a.n,AV.aq 2 0 (List.length (br a.n a.m a.L a.n))]),Obj.rows 38 3 (dx a.L) none,Obj.row 89
 (br a.n a.m a.L a.n)])):=by kernel_rfl
theorem yLz(κ:Kp)(ls:List (List Value))(ds:List AV)(K:AV->List Dn.Obj->Prop):(ba (Q8 κ) 12 38 [.ptr 0 0 [] 0,gN ds []] (w5 0 ls) K)=(
 letI z1:=AV.agg [AV.aq 1 0 0,AV.nil]
 letI z2:=Pg.toProgram (Env.P (Eo κ))
 af z2 38 2=af z2 38 2/\∃(e0:R7),sp 38 [(0,AV.ptr 0 0 [] 0),(3,AV.ptr 2 0 [] 0),(11,AV.ad 66 []),(12,AV.int 0),(13,AV.int 0)] [Obj.box 122 z1,
 Obj.rows 38 3 ls none,Obj.box 25 (AV.agg [AV.ad 61 ds,AV.ad 66 []])]=sp 38 [(0,AV.ptr 0 0 [] 0),(3,AV.ptr 2 0 [] 0),(11,AV.ad 66 []),(12,AV.int 0),
 (13,AV.int 0)] [Obj.box 122 z1,Obj.rows 38 3 e0.ls none,Obj.box 25 (AV.agg [AV.ad 61 e0.ds,AV.ad 66 []])]/\True/\K (AV.bh [AV.int 0,AV.int 0]) [Obj.box
 122 z1,Obj.rows 38 3 e0.ls none]):=by kernel_rfl
def P6(x:PK):List AV×List Dn.Obj:=([.ptr 0 0 [] 0,gN x.ds x.rs],nE x.n x.m x.L)
def Hg(x:PK):Prop:=x.ds.length<=aR/\x.rs.length<=aR/\∀r,r∈x.rs->Br x.n x.ds r
def DS(x:PK):Out (AV×List Dn.Obj):= .one (.bh [.int (tw x.n x.m x.L x.ds x.rs).1, .int (tw x.n x.m x.L x.ds x.rs).2],nE x.n x.m x.L)
theorem Ck(n m:Nat)(L:Gr)(ds:List AV): ∀rs:List AV,(tw n m L ds rs).2=0->tw n m L ds rs=(0,0)
 |[],_=>rfl
 | r::rs,h=>by
  rw[tw] at h⊢
  cases e:yL gH n m L ds r with
  |true=>rw[e,aa8] at h;cases h
  | false=>
   rw[e,aa6] at h
   rw[aa6]
   cases e2:uP r&&yL fB n m L ds r with
   |true=>rw[e2,aa8] at h;cases h
   |false=>
    rw[e2,aa6] at h
    rw[aa6]
    exact Ck n m L ds rs h
theorem cLy(κ:Kp):bu (Q8 κ) 12 38 (aL P6 Hg DS):=by
 refine aX ?_
 rintro⟨n,m,L,ds,rs,i⟩ K ⟨hd,hr,hg⟩ ho
 refine Eq.mpr (yLy κ n (dx L) ds rs (br n m L n) K) ?_
 refine⟨rfl,⟨n,m,L,ds,rs,0⟩,rfl,⟨hd,hr,Nat.zero_le _,hg⟩,?_⟩
 simp only[DS,Out.run] at ho
 rw[ab1,ah]
 refine⟨fun e=>?_,fun _=>ho⟩
 rw[Ck n m L ds rs (of_decide_eq_true e)] at ho
 exact ho
def O4(x:R7):List AV×List Dn.Obj:=([.ptr 0 0 [] 0,gN x.ds []],w5 0 x.ls)
def Ke(x:R7):Out (AV×List Dn.Obj):= .one (.bh [.int 0, .int 0],w5 0 x.ls)
theorem cLz(κ:Kp):bu (Q8 κ) 12 38 (aL O4 (fun _=>True) Ke):=by
 refine aX ?_
 rintro⟨ls,ds⟩ K _ ho
 refine Eq.mpr (yLz κ ls ds K) ?_
 exact⟨rfl,⟨ls,ds⟩,rfl,trivial,ho⟩
noncomputable def TY(κ:Kp):Env:=(Q8 κ).aw 38 (DI TK (aL P6 Hg DS) (aL O4 (fun _=>True) Ke))
theorem eLy(κ:Kp):aB (TY κ):=(eLl κ).aw (Y6 κ) (yQ (cLy κ) (cLz κ))
theorem ZH(κ:Kp):aj (TY κ):=(Y6 κ).aw (sg aJ aJ)
theorem yCk(κ:Kp)(ds rs:List AV)(a b n:Int)(K:AV->List Dn.Obj->Prop):(ba (TY κ) 12 42 [gN ds rs, .int a, .int b, .int n] [] K)=(
 ∃(e1:rr),([AV.agg [AV.ad 61 ds,AV.ad 66 rs]],aI)=([AV.agg [AV.ad 61 e1.1,AV.ad 66 e1.2]],aI)/\(e1.1.length<=9223372036854775807/\e1.2.length<=
 9223372036854775807/\∀(e0:AV),List.Mem e0 e1.2->aZ (aa (bk 56 (cm.hl (eo e0)) (cm.bl (eo e0))))<=100000/\List.length (cm.bl (eo e0))<=100000)/\aD
 (Prod.snd (fD e1.1 e1.2)==(0:Int)) (aD (decide ((if b<a then b else a)<(0:Int))) (K (AV.int 2) []) (aD (decide ((if b>a then b else a)>=n)) (K
 (AV.int 2) []) (K (AV.int (Prod.snd (fD e1.1 e1.2))) []))) (K (AV.int (Prod.snd (fD e1.1 e1.2))) [])):=by kernel_rfl
def IN(a b n:Int):Bool:=(decide (0<=a)&&decide (a<n))&&(decide (0<=b)&&decide (b<n))
def wR(ds rs:List AV)(a b n:Int):Int:=bif decide ((fD ds rs).2=0) then(bif IN a b n then 0 else 2) else(fD ds rs).2
structure VP where
 ds:List AV
 rs:List AV
 a:Int
 b:Int
 n:Int
def Rp(x:VP):List AV×List Dn.Obj:=([gN x.ds x.rs, .int x.a, .int x.b, .int x.n],[])
def EI(x:VP):Prop:=fw x.ds x.rs
def LU(x:VP):Out (AV×List Dn.Obj):= .one (.int (wR x.ds x.rs x.a x.b x.n),[])
theorem cCk(κ:Kp):bu (TY κ) 12 42 (aL Rp EI LU):=by
 refine aX ?_
 rintro⟨ds,rs,a,b,n⟩ K hs ho
 refine Eq.mpr (yCk κ ds rs a b n K) ?_
 simp only[LU,Out.run,wR] at ho
 refine⟨(ds,rs),rfl,hs,?_⟩
 simp only[Pf,ah,aa1,aa3]
 refine⟨fun e=>?_,fun e=>?_⟩
 ·rw[aa7 e,aa8] at ho
  by_cases h1:IN a b n=true
  ·have h2:=h1
   simp only[IN,aa2,aa1] at h2
   rw[h1,aa8] at ho
   refine⟨fun h=>?_,fun _=>⟨fun h=>?_,fun _=>by rw[e];exact ho⟩⟩
   ·split at h<;>omega
   ·split at h<;>omega
  ·have h2:=h1
   simp only[IN,aa2,aa1] at h2
   rw[(by simpa using h1:IN a b n=false),aa6] at ho
   refine⟨fun _=>ho,fun h3=>⟨fun _=>ho,fun h4=>?_⟩⟩
   exfalso
   apply h2
   split at h3<;>split at h4<;>omega
 ·rw[aa5 e,aa6] at ho
  exact ho
noncomputable def Oa(κ:Kp):Env:=(TY κ).aw 42 (aL Rp EI LU)
theorem eCk(κ:Kp):aB (Oa κ):=(eLy κ).aw (ZH κ) (cCk κ)
theorem YB(κ:Kp):aj (Oa κ):=(ZH κ).aw aJ
theorem xGi(κ:Kp)(N i:Nat)(ls:List (List Value))(fs gs l:List AV)(es:List (Value×AV))(I:Nat->S->Prop)(n:Nat)(K:Exit->S->Prop):(vc (Oa κ) 12 15 none 0 (af (Pr κ).toProgram 15 15) (sp 63 [(7, .ptr 0 0 [] 0),(10, .aq 3 0 gs.length),(11, .mp 4),(13, .ad 3 l),(49, .ad 3 l),(50, .int l.length),(51, .int i)] (tj N ls fs++[.row 38 gs, .map 3 4 es])) (bJ (Oa κ) 15 15 0 I n K))=(
 letI z1:=AV.agg [AV.aq 1 0 N,AV.aq 2 0 fs.length]
 letI z2:=(↑i:Int)<(↑(l.length):Int)
 aD (decide z2) (a7 (true&&decide z2) (∃(e0:Nat),e0<n/\I e0 (sp 63 [(7,AV.ptr 0 0 [] 0),(10,AV.aq 3 0 gs.length),(11,AV.mp 4),(13,AV.ad 3 l),
 (49,AV.ad 3 l),(50,AV.int (↑(l.length):Int)),(51,AV.int (IntKind.wrap IntKind.i64 ((↑i:Int)+(1:Int))))] [Obj.box 122 z1,Obj.rows 38 3 ls none,
 Obj.row 89 fs,Obj.row 38 gs,Dn.Obj.map 3 4 (eR es (Value.int IntKind.i64 (toInt (nth l (Int.toNat (↑i:Int))))) (AV.bool true))]))) (K (Exit.exit 2) (sp 63
 [(7,AV.ptr 0 0 [] 0),(10,AV.aq 3 0 gs.length),(11,AV.mp 4),(13,AV.ad 3 l)] [Obj.box 122 z1,Obj.rows 38 3 ls none,Obj.row 89 fs,Obj.row 38 gs,
 Dn.Obj.map 3 4 es]))):=by kernel_rfl
def lK(gs:List (List Int)):List AV:=gs.map fun g=> .ad 3 (iA g)
theorem N3(a b:List (List Int)):lK (a++b)=lK a++lK b:=by simp[lK]
theorem tz(a:List (List Int)):(lK a).length=a.length:=by simp[lK]
structure VW where
 n:Nat
 m:Nat
 L:Gr
 gs:List (List Int)
 l:List Int
 done:List Int
 i:Nat
abbrev Ri(x:VW):S:=sp 63 [(7, .ptr 0 0 [] 0),(10, .aq 3 0 (lK x.gs).length),(11, .mp 4),(13, .ad 3 (iA x.l)),(49, .ad 3 (iA x.l)),(50, .int (iA x.l).length),(51, .int x.i)] (nE x.n x.m x.L++[.row 38 (lK x.gs), .map 3 4 (iv x.done)])
def K7(x:VW):Prop:=x.i<=x.l.length/\x.l.length<=60
def G7(x:VW):Out (Exit×S):= .one (.exit 2,sp 63 [(7, .ptr 0 0 [] 0),(10, .aq 3 0 (lK x.gs).length),(11, .mp 4),(13, .ad 3 (iA x.l))] (nE x.n x.m x.L++[.row 38 (lK x.gs), .map 3 4 (iv (uk x.done (x.l.drop x.i)))]))
theorem RW: ∀(l:List Int) (k:Nat) (h:k<l.length),toInt (nth (iA l) k)=l[k]:=fun l k h=>by
 rw[bf _ _ (by rw[gf];exact h)]
 simp[iA,toInt]
theorem lGi(κ:Kp):bj (Oa κ) 12 15 15 (aO 0 Ri K7 G7):=by
 refine aK (fun x=>x.l.length - x.i) ?_
 rintro⟨n,m,L,gs,l,done,i⟩ K ⟨hi,hl⟩ ho
 simp only at hi hl
 rw[show(Oa κ).P=Pr κ from rfl]
 refine Eq.mpr (xGi κ n i (dx L) (br n m L n) (lK gs) (iA l) (iv done) _ _ K) ?_
 simp only[G7,Out.run] at ho
 rw[ah,an,ac0,aa1,aa3,gf]
 refine⟨fun h=>⟨h,?_⟩,fun h=>?_⟩
 ·have hk:i<l.length:=by omega
  rw[Int.toNat_natCast,RW l i hk,aV (n:=(i:Int)+1) (by omega) (by omega),show Value.int IntKind.i64 l[i]=gl l[i] from rfl,qo]
  refine⟨_,?_,⟨n,m,L,gs,l,bif done.contains l[i] then done else done++[l[i]],i+1⟩,?_,⟨hk,hl⟩,rfl,?_⟩
  ·simp only;omega
  ·simp only[Ri,gf];rfl
  ·rw[ab2 hk] at ho
   simp only[G7,Out.run]
   exact ho
 ·rw[aa9 (by omega)] at ho
  exact ho
noncomputable def DM(κ:Kp):Env:=(Oa κ).ak 15 15 (aO 0 Ri K7 G7)
theorem eGi(κ:Kp):aB (DM κ):=(eCk κ).ak (YB κ) (lGi κ)
theorem ZY(κ:Kp):aj (DM κ):=(YB κ).ak aG
theorem xGo(κ:Kp)(N:Nat)(a:Int)(ls:List (List Value))(fs:List AV)(gs:List (List Int))(es:List (Value×AV))(I:Nat->S->Prop)(n:Nat)(K:Exit->S->Prop):(vc (DM κ) 12 15 none 0 (af (Pr κ).toProgram 15 11) (sp 63 [(7, .ptr 0 0 [] 0),(10, .aq 3 0 (lK gs).length),(11, .mp 4),(12, .int a)] (tj N ls fs++[.row 38 (lK gs), .map 3 4 es])) (bJ (DM κ) 15 11 0 I n K))=(
 letI z1:=Pg.toProgram (Env.P (Oa κ))
 aD (decide (a>=(0:Int))) (∃(e3:PW),([AV.ptr 0 0 [] 0,AV.int a],[Obj.box 122 (AV.agg [AV.aq 1 0 N,AV.aq 2 0 fs.length]),Obj.rows 38 3 ls none,Obj.row
 89 fs])=([AV.ptr 0 0 [] 0,AV.int e3.a],[Obj.box 122 (AV.agg [AV.aq 1 0 e3.n,AV.aq 2 0 (List.length (br e3.n e3.m e3.L e3.n))]),Obj.rows 38 3 (dx e3.L)
 none,Obj.row 89 (br e3.n e3.m e3.L e3.n)])/\(((0:Int)<=e3.a/\e3.a<(↑(e3.n):Int))/\e3.n<=60)/\af z1 15 15=af z1 15 15/\∃(e2:VW),sp 63 [(7,
 AV.ptr 0 0 [] 0),(10,AV.aq 3 0 (List.length (lK gs))),(11,AV.mp 4),(13,AV.ad 3 (iA (gO e3.n e3.m e3.L e3.a))),(49,AV.ad 3 (iA (gO e3.n e3.m e3.L
 e3.a))),(50,AV.int (↑(List.length (iA (gO e3.n e3.m e3.L e3.a))):Int)),(51,AV.int 0)] [Obj.box 122 (AV.agg [AV.aq 1 0 e3.n,AV.aq 2 0 (List.length (br
 e3.n e3.m e3.L e3.n))]),Obj.rows 38 3 (dx e3.L) none,Obj.row 89 (br e3.n e3.m e3.L e3.n),Obj.row 38 (lK gs),Dn.Obj.map 3 4 es]=sp 63 [(7,AV.ptr 0 0 []
 0),(10,AV.aq 3 0 (List.length (lK e2.gs))),(11,AV.mp 4),(13,AV.ad 3 (iA e2.l)),(49,AV.ad 3 (iA e2.l)),(50,AV.int (↑(List.length (iA e2.l)):Int)),
 (51,AV.int (↑(e2.i):Int))] [Obj.box 122 (AV.agg [AV.aq 1 0 e2.n,AV.aq 2 0 (List.length (br e2.n e2.m e2.L e2.n))]),Obj.rows 38 3 (dx e2.L) none,Obj.row 89
 (br e2.n e2.m e2.L e2.n),Obj.row 38 (lK e2.gs),Dn.Obj.map 3 4 (iv e2.done)]/\(e2.i<=e2.l.length/\e2.l.length<=60)/\a7 (decide ((List.length (lK e2.gs)+
 1+1)*25<=70368744177664)) (∃(e1:Hk),([AV.ptr 0 0 [] 0,AV.mp 3],[Obj.box 122 (AV.agg [AV.aq 1 0 e2.n,AV.aq 2 0 (List.length (br e2.n e2.m e2.L
 e2.n))]),Obj.rows 38 3 (dx e2.L) none,Obj.row 89 (br e2.n e2.m e2.L e2.n),Dn.Obj.map 3 4 (iv (uk e2.done (List.drop e2.i e2.l)))])=([AV.ptr 0 0 [] 0,AV.mp
 3],[Obj.box 122 (AV.agg [AV.aq 1 0 e1.n,AV.aq 2 0 (List.length (br e1.n e1.m e1.L e1.n))]),Obj.rows 38 3 (dx e1.L) none,Obj.row 89 (br e1.n e1.m e1.L e1.n),
 Dn.Obj.map 3 4 (iv e1.done)])/\(WG e1.n e1.m e1.L/\e1.n<=60)/\∃(e0:Nat),e0<n/\I e0 (sp 63 [(7,AV.ptr 0 0 [] 0),(10,AV.aq 3 0 (List.length (lK
 e2.gs)+1)),(11,AV.mp 4),(12,AV.int (fU e1.n e1.m e1.L e1.done))] [Obj.box 122 (AV.agg [AV.aq 1 0 e1.n,AV.aq 2 0 (List.length (br e1.n e1.m e1.L e1.n))]),
 Obj.rows 38 3 (dx e1.L) none,Obj.row 89 (br e1.n e1.m e1.L e1.n),Obj.row 38 (List.take (List.length (lK e2.gs)) (lK e2.gs)++[AV.ad 3 (iA e2.l)]),Dn.Obj.map
 3 4 (iv e1.done)]))) (K (Exit.exit 0) (sp 63 [(10,AV.aq 0 0 (List.length (lK gs)))] [Obj.row 38 (lK gs)]))):=by kernel_rfl
theorem xGz(κ:Kp)(ls:List (List Value))(es:List (Value×AV))(I:Nat->S->Prop)(n:Nat)(K:Exit->S->Prop):(vc (DM κ) 12 15 none 0 (af (Pr κ).toProgram 15 11) (sp 63 [(7, .ptr 0 0 [] 0),(10, .aq 2 0 0),(11, .mp 3),(12, .int (-1))] (w5 0 ls++[.row 38 [], .map 3 4 es])) (bJ (DM κ) 15 11 0 I n K))=(
 K (Exit.exit 0) (sp 63 [(10,AV.aq 0 0 0)] [Obj.row 38 []])):=by kernel_rfl
structure VV where
 n:Nat
 m:Nat
 L:Gr
 gs:List (List Int)
 done:List Int
abbrev QU(x:VV):S:=sp 63 [(7, .ptr 0 0 [] 0),(10, .aq 3 0 (lK x.gs).length),(11, .mp 4),(12, .int (fU x.n x.m x.L x.done))] (nE x.n x.m x.L++[.row 38 (lK x.gs), .map 3 4 (iv x.done)])
def MA(x:VV):Prop:=WG x.n x.m x.L/\x.n<=60/\x.gs.length+zD x.n x.done<=x.n
def Gn(x:VV):Out (Exit×S):= .one (.exit 0,sp 63 [(10, .aq 0 0 (lK (x.gs++sJ x.n x.m x.L x.done)).length)] [.row 38 (lK (x.gs++sJ x.n x.m x.L x.done))])
theorem xK(n m:Nat)(L:Gr)(a:Int):(gO n m L a).length<=n:=B6 n m L a n
theorem lGo(κ:Kp):bj (DM κ) 12 15 11 (aO 0 QU MA Gn):=by
 refine aK (fun x=>zD x.n x.done) ?_
 rintro⟨n,m,L,gs,done⟩ K ⟨hG,hn,hl⟩ ho
 simp only at hG hn hl
 rw[show(DM κ).P=Pr κ from rfl]
 refine Eq.mpr (xGo κ n (fU n m L done) (dx L) (br n m L n) gs (iv done) _ _ K) ?_
 simp only[Gn,Out.run] at ho
 have hg:=Cy (n:=n) (m:=m) (L:=L) done
 rw[ah,aa1,aa3]
 refine⟨fun h=>?_,fun h=>?_⟩
 ·have h1:=(yu (n:=n) (m:=m) (L:=L) (done:=done) h).1
  have h2:=zJ (n:=n) (m:=m) (L:=L) (done:=done) h
  have h3:=xK n m L (fU n m L done)
  rw[aa5 (by omega),aa6] at hg
  rw[hg] at ho
  refine⟨⟨n,m,L,fU n m L done,0⟩,rfl,⟨h1,hn⟩,rfl,⟨n,m,L,gs,gO n m L (fU n m L done),done,0⟩,rfl,⟨Nat.zero_le _,by simp only;omega⟩,?_⟩
  rw[an,aa1]
  refine⟨by rw[tz];simp only;omega,⟨n,m,L,uk done (gO n m L (fU n m L done)),0,[]⟩,rfl,⟨hG,hn⟩,_,h2,⟨n,m,L,gs++[gO n m L (fU n m L done)],uk done (gO n m L (fU n m L done))⟩,?_,⟨hG,hn,?_⟩,rfl,?_⟩
  ·rw[List.take_length]
   simp only[QU,N3,ab9]
   rfl
  ·simp only[ab9,List.length_singleton];omega
  ·simp only[Gn,Out.run,List.append_assoc,List.singleton_append]
   exact ho
 ·rw[aa7 (show fU n m L done<0 by omega),aa8] at hg
  rw[hg,List.append_nil] at ho
  exact ho
abbrev TE(x:Nz):S:=sp 63 [(7, .ptr 0 0 [] 0),(10, .aq 2 0 0),(11, .mp 3),(12, .int (-1))] (w5 0 x.ls++[.row 38 [], .map 3 4 x.es])
def Ph(_:Nz):Out (Exit×S):= .one (.exit 0,sp 63 [(10, .aq 0 0 0)] [.row 38 []])
theorem lGz(κ:Kp):bj (DM κ) 12 15 11 (aO 0 TE (fun _=>True) Ph):=by
 refine aK (fun _=>0) ?_
 rintro⟨ls,es⟩ K _ ho
 rw[show(DM κ).P=Pr κ from rfl]
 exact Eq.mpr (xGz κ ls es _ _ K) ho
noncomputable def Uc(κ:Kp):Env:=(DM κ).ak 15 11 (qv Ti (aO 0 QU MA Gn) (aO 0 TE (fun _=>True) Ph))
theorem eGo(κ:Kp):aB (Uc κ):=(eGi κ).ak (ZY κ) (nJ (lGo κ) (lGz κ))
theorem YX(κ:Kp):aj (Uc κ):=(ZY κ).ak (kP aG aG)
theorem jF{ds rs:List AV}(h:(fD ds rs).2=0):rX ds rs:=by
 have h1:=(yF.1 h).1
 simp only[eU,aa2,aa1,List.all_eq_true] at h1
 refine⟨h1.1.1.1,h1.1.1.2,fun r hr=>?_,Vy h⟩
 have h2:=h1.2 r hr
 simp only[lH,aM,aa2,aa1] at h2
 have h3:=h2.1.1.2
 simpa[s6,dg] using h3
theorem CN{ds rs:List AV}(hs:fw ds rs)(h:(fD ds rs).2=0): ∀r,r∈rs->Br ds.length ds r:=by
 intro r hr
 have h1:=Cr h hr
 refine⟨h1.1,h1.2,?_,hs.2.2 r hr⟩
 have:=(jF h).bs r hr
 simp only[aR];omega
def sF(ds rs:List AV):Int×Int:=bif decide ((fD ds rs).2=0) then tw ds.length (iR ds rs) (nv ds rs) ds rs else fD ds rs
def ko(ds rs:List AV):List (List Int):=sJ ds.length (iR ds rs) (nv ds rs) []
theorem yGr(κ:Kp)(ds rs:List AV)(K:AV->List Dn.Obj->Prop):(ba (Uc κ) 12 15 [gN ds rs] [] K)=(
 letI z1:=AV.agg [AV.aq 1 0 0,AV.nil]
 letI z2:=Pg.toProgram (Env.P (DM κ))
 ∃(e4:rr),([AV.agg [AV.ad 61 ds,AV.ad 66 rs]],aI)=([AV.agg [AV.ad 61 e4.1,AV.ad 66 e4.2]],aI)/\(e4.1.length<=9223372036854775807/\e4.2.length<=
 9223372036854775807/\∀(e0:AV),List.Mem e0 e4.2->aZ (aa (bk 56 (cm.hl (eo e0)) (cm.bl (eo e0))))<=100000/\List.length (cm.bl (eo e0))<=100000)/\aD
 (Prod.snd (fD e4.1 e4.2) != (0:Int)) (K (AV.bh [AV.nil,AV.int (Prod.fst (fD e4.1 e4.2)),AV.int (Prod.snd (fD e4.1 e4.2))]) []) (∃(e3:rr),([AV.agg [AV.ad
 61 ds,AV.ad 66 rs]],aI)=([AV.agg [AV.ad 61 e3.1,AV.ad 66 e3.2]],aI)/\rX e3.1 e3.2/\aD (Nat.beq e3.1.length 0) (∃(e2:R7),([AV.ptr 0 0 [] 0,AV.agg
 [AV.ad 61 ds,AV.ad 66 rs]],[Obj.box 122 (AV.agg [AV.aq 1 0 e3.1.length,AV.nil]),Obj.rows 38 3 (dx (nv e3.1 e3.2)) none])=([AV.ptr 0 0 [] 0,AV.agg [AV.ad
 61 e2.ds,AV.ad 66 []]],[Obj.box 122 z1,Obj.rows 38 3 e2.ls none])/\True/\∃(e1:Nz),([AV.ptr 0 0 [] 0,AV.mp 2],[Obj.box 122 z1,Obj.rows 38 3 e2.ls
 none,Dn.Obj.map 3 4 []])=([AV.ptr 0 0 [] 0,AV.mp 2],[Obj.box 122 z1,Obj.rows 38 3 e1.ls none,Dn.Obj.map 3 4 e1.es])/\True/\af z2 15 11=af z2 15 11/\
 ∃(e0:Nz),sp 63 [(7,AV.ptr 0 0 [] 0),(10,AV.aq 2 0 0),(11,AV.mp 3),(12,AV.int (-1))] [Obj.box 122 z1,Obj.rows 38 3 e1.ls none,Obj.row 38 [],
 Dn.Obj.map 3 4 e1.es]=sp 63 [(7,AV.ptr 0 0 [] 0),(10,AV.aq 2 0 0),(11,AV.mp 3),(12,AV.int (-1))] [Obj.box 122 z1,Obj.rows 38 3 e0.ls none,Obj.row 38
 [],Dn.Obj.map 3 4 e0.es]/\True/\K (AV.bh [AV.aq 0 0 0,AV.int 0,AV.int 0]) [Obj.row 38 []]) (∃(e2:PK),([AV.ptr 0 0 [] 0,AV.agg [AV.ad 61 ds,AV.ad 66
 rs]],[Obj.box 122 (AV.agg [AV.aq 1 0 e3.1.length,AV.aq 2 0 (List.length (br e3.1.length (iR e3.1 e3.2) (nv e3.1 e3.2) e3.1.length))]),Obj.rows 38 3 (dx (nv
 e3.1 e3.2)) none,Obj.row 89 (br e3.1.length (iR e3.1 e3.2) (nv e3.1 e3.2) e3.1.length)])=([AV.ptr 0 0 [] 0,AV.agg [AV.ad 61 e2.ds,AV.ad 66 e2.rs]],
 [Obj.box 122 (AV.agg [AV.aq 1 0 e2.n,AV.aq 2 0 (List.length (br e2.n e2.m e2.L e2.n))]),Obj.rows 38 3 (dx e2.L) none,Obj.row 89 (br e2.n e2.m e2.L e2.n)])/\
 (e2.ds.length<=9223372036854775807/\e2.rs.length<=9223372036854775807/\∀(e0:AV),List.Mem e0 e2.rs->Br e2.n e2.ds e0)/\aD (Prod.snd (tw e2.n e2.m e2.L
 e2.ds e2.rs) != (0:Int)) (K (AV.bh [AV.nil,AV.int (Prod.fst (tw e2.n e2.m e2.L e2.ds e2.rs)),AV.int (Prod.snd (tw e2.n e2.m e2.L e2.ds e2.rs))]) []) (∃(e1
 :Hk),([AV.ptr 0 0 [] 0,AV.mp 3],[Obj.box 122 (AV.agg [AV.aq 1 0 e2.n,AV.aq 2 0 (List.length (br e2.n e2.m e2.L e2.n))]),Obj.rows 38 3 (dx e2.L) none,
 Obj.row 89 (br e2.n e2.m e2.L e2.n),Dn.Obj.map 3 4 []])=([AV.ptr 0 0 [] 0,AV.mp 3],[Obj.box 122 (AV.agg [AV.aq 1 0 e1.n,AV.aq 2 0 (List.length (br e1.n
 e1.m e1.L e1.n))]),Obj.rows 38 3 (dx e1.L) none,Obj.row 89 (br e1.n e1.m e1.L e1.n),Dn.Obj.map 3 4 (iv e1.done)])/\(WG e1.n e1.m e1.L/\e1.n<=60)/\af z2
 15 11=af z2 15 11/\∃(e0:VV),sp 63 [(7,AV.ptr 0 0 [] 0),(10,AV.aq 3 0 0),(11,AV.mp 4),(12,AV.int (fU e1.n e1.m e1.L e1.done))] [Obj.box 122 (AV.agg
 [AV.aq 1 0 e1.n,AV.aq 2 0 (List.length (br e1.n e1.m e1.L e1.n))]),Obj.rows 38 3 (dx e1.L) none,Obj.row 89 (br e1.n e1.m e1.L e1.n),Obj.row 38 [],
 Dn.Obj.map 3 4 (iv e1.done)]=sp 63 [(7,AV.ptr 0 0 [] 0),(10,AV.aq 3 0 (List.length (lK e0.gs))),(11,AV.mp 4),(12,AV.int (fU e0.n e0.m e0.L e0.done))]
 [Obj.box 122 (AV.agg [AV.aq 1 0 e0.n,AV.aq 2 0 (List.length (br e0.n e0.m e0.L e0.n))]),Obj.rows 38 3 (dx e0.L) none,Obj.row 89 (br e0.n e0.m e0.L e0.n),
 Obj.row 38 (lK e0.gs),Dn.Obj.map 3 4 (iv e0.done)]/\(WG e0.n e0.m e0.L/\e0.n<=60/\e0.gs.length+zD e0.n e0.done<=e0.n)/\K (AV.bh [AV.aq 0 0 (List.length
 (lK (e0.gs++sJ e0.n e0.m e0.L e0.done))),AV.int 0,AV.int 0]) [Obj.row 38 (lK (e0.gs++sJ e0.n e0.m e0.L e0.done))])))):=by kernel_rfl
def RO(x:rr):List AV×List Dn.Obj:=([gN x.1 x.2],[])
def ET(x:rr):Prop:=fw x.1 x.2
def O9(x:rr):Out (AV×List Dn.Obj):= .aD (decide ((sF x.1 x.2).2=0))
 (.one (.bh [.aq 0 0 (lK (ko x.1 x.2)).length, .int 0, .int 0],[.row 38 (lK (ko x.1 x.2))]))
 (.one (.bh [.nil, .int (sF x.1 x.2).1, .int (sF x.1 x.2).2],[]))
theorem cGr(κ:Kp):bu (Uc κ) 12 15 (aL RO ET O9):=by
 refine aX ?_
 rintro⟨ds,rs⟩ K hs ho
 refine Eq.mpr (yGr κ ds rs K) ?_
 have ho:aD (decide ((sF ds rs).2=0)) (K (.bh [.aq 0 0 (lK (ko ds rs)).length, .int 0, .int 0]) [.row 38 (lK (ko ds rs))]) (K (.bh [.nil, .int (sF ds rs).1, .int (sF ds rs).2]) []):=ho
 rw[ah,aa1,aa3] at ho
 have hs:fw ds rs:=hs
 refine⟨(ds,rs),rfl,hs,?_⟩
 rw[ah]
 by_cases hc:(fD ds rs).2=0
 ·refine⟨fun e=>absurd hc (by simpa using e),fun _=>⟨(ds,rs),rfl,jF hc,?_⟩⟩
  have hf:=jF hc
  have hg:=CN hs hc
  rw[show sF ds rs=tw ds.length (iR ds rs) (nv ds rs) ds rs by unfold sF;rw[aa7 hc];rfl] at ho
  rw[ah]
  refine⟨fun e=>?_,fun e=>?_⟩
  ·obtain rfl:ds=[]:=List.eq_nil_of_length_eq_zero (Nat.eq_of_beq_eq_true e)
   obtain rfl:rs=[]:=by
    cases rs with
    |nil=>rfl
    |cons r rs=>have:=(hg r (by simp)).hd;simp only[List.length_nil] at this;omega
   refine⟨⟨dx (nv [] []),[]⟩,rfl,trivial,⟨_,[]⟩,rfl,trivial,rfl,⟨_,_⟩,rfl,trivial,?_⟩
   have h1:=ho.1 rfl
   have h2:ko [] []=[]:=by
    unfold ko
    rw[Cy];rfl
   rw[h2] at h1
   exact h1
  ·refine⟨⟨ds.length,iR ds rs,nv ds rs,ds,rs,0⟩,rfl,⟨hs.1,hs.2.1,hg⟩,?_⟩
   rw[ah]
   refine⟨fun e2=>ho.2 (by simpa using e2),fun e2=>?_⟩
   have h1:=ho.1 (by simpa using e2)
   exact⟨⟨ds.length,iR ds rs,nv ds rs,[],0,[]⟩,rfl,⟨hf.wg,hf.hd⟩,rfl,⟨ds.length,iR ds rs,nv ds rs,[],[]⟩,rfl,⟨hf.wg,hf.hd,by simp only[List.length_nil,Nat.zero_add];exact E4 _ _⟩,h1⟩
 ·rw[show sF ds rs=fD ds rs by unfold sF;rw[aa5 hc];rfl] at ho
  exact⟨fun _=>ho.2 hc,fun e=>absurd (by simpa using e) hc⟩
noncomputable def XT(κ:Kp):Env:=(Uc κ).aw 15 (aL RO ET O9)
theorem eGr(κ:Kp):aB (XT κ):=(eGo κ).aw (YX κ) (cGr κ)
theorem mGr(κ:Kp):aj (XT κ):=(YX κ).aw aJ
structure AQ where
 ds:List AV
 rs:List AV
 a:Int
 b:Int
theorem NR{ds rs:List AV}{a b n:Int}(h:wR ds rs a b n=0):(fD ds rs).2=0/\(0<=a/\a<n)/\0<=b/\b<n:=by
 unfold wR at h
 by_cases hc:(fD ds rs).2=0
 ·rw[aa7 hc,aa8] at h
  cases e:IN a b n with
  |true=>
   simp only[IN,aa2,aa1] at e
   exact⟨hc,e⟩
  |false=>rw[e] at h;cases h
 ·rw[aa5 hc,aa6] at h
  exact absurd h hc
noncomputable abbrev XG(κ:Kp):Env:=XT κ
theorem eHg(κ:Kp):aB (XG κ):=eGr κ
theorem mHg(κ:Kp):aj (XG κ):=mGr κ
end Go.Proofs.YthaiinlfnommnaaGreatDoor
namespace Go.Rl
open Go Go.Dn
section
variable {n m m':Nat} {L M:Gr}
structure Yu(n m:Nat)(L:Gr)(done:List Int)(gs:List (List Int)):Prop where
 srt: ∀g,g∈gs->g.Pairwise (· < ·)
 kZ: ∀c,c∈gs.flatten->(0<=c/\c<n)/\c∉done
 all: ∀c:Int,0<=c->c<n->c∉done->c∈gs.flatten
 tf:gs.flatten.Nodup
end
end Go.Rl
namespace Go.Proofs.YthaiinlfnommnaaGreatDoor
open Go Go.Dn Go.Rl Go.Proofs
theorem F7{n m:Nat}{L:Gr}{ds:List AV}: ∀{rs:List AV},(tw n m L ds rs).2=0↔ ∀r,r∈rs->yL gH n m L ds r=false/\(uP r&&yL fB n m L ds r)=false
 |[]=>by simp[tw]
 | r::rs=>by
  rw[tw]
  cases e:yL gH n m L ds r with
  |true=>
   rw[aa8]
   exact⟨fun h=>by simp at h,fun h=>by have:=(h r (by simp)).1;rw[e] at this;cases this⟩
  | false=>
   rw[aa6]
   cases e2:uP r&&yL fB n m L ds r with
   |true=>
    rw[aa8]
    exact⟨fun h=>by simp at h,fun h=>by have:=(h r (by simp)).2;rw[e2] at this;cases this⟩
   |false=>
    rw[aa6,F7]
    refine⟨fun h x hx=>?_,fun h x hx=>h x (by simp[hx])⟩
    rcases List.mem_cons.1 hx with rfl|hx
    ·exact⟨e,e2⟩
    ·exact h x hx
theorem LH{ds rs:List AV}:(sF ds rs).2=0↔(fD ds rs).2=0/\(tw ds.length (iR ds rs) (nv ds rs) ds rs).2=0:=by
 unfold sF
 by_cases h:(fD ds rs).2=0
 ·rw[aa7 h,aa8];simp[h]
 ·rw[aa5 h,aa6];simp[h]
theorem J4{ds rs:List AV}{a b n:Int}(hc:(fD ds rs).2=0)(ha:0<=a/\a<n)(hb:0<=b/\b<n):wR ds rs a b n=0:=by
 unfold wR
 rw[aa7 hc,aa8,show IN a b n=true by simp[IN,ha,hb]];rfl
theorem sQ{ds rs:List AV}(h:jM ds rs=true):fw ds rs:=by
 simp only[jM,aa2,aa1] at h
 obtain⟨_,h1,h2,h3⟩:=h
 refine⟨by simp only[aR];omega,by simp only[aR];omega,fun x hx=>?_⟩
 have hc:=xD (rs.map s6) 2000 (by omega) h1 (s6 x) (List.mem_map_of_mem hx)
 have e:s6 x=aF (eo x):=rfl
 rw[e,fW] at hc
 have hc:po (aF (eo x))+(eo x).bl.length<=2000:=by omega
 refine⟨?_,by omega⟩
 rw[mh 56 (eo x).rel (eo x).hl (eo x).bl]
 have:po (aF (eo x))<=2000:=by omega
 exact Nat.le_trans this (by omega)
end Go.Proofs.YthaiinlfnommnaaGreatDoor
