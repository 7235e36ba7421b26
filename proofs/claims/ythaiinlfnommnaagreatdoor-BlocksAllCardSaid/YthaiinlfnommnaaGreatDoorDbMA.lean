import Derived.Test.YthaiinlfnommnaaGreatDoorDbM9
namespace Go.Proofs.YthaiinlfnommnaaGreatDoor
open Go Go.Dn Go.Rl Go.Proofs
attribute [local irreducible] bf vc
set_option maxRecDepth 20000
theorem yMu(κ:Kp)(N:Nat)(ls:List (List Value))(fs:List AV)(a b:Int)(K:AV->List Dn.Obj->Prop):(bf (UO κ) 12 75 [.ptr 0 0 [] 0, .int a, .int b] (tw N ls fs) K)=(
 letI z1:=AV.agg [AV.ar 1 0 N,AV.ar 2 0 fs.length]
 letI z2:=AV.bool false
 aC (a==b) (K (AV.bool true) [Obj.box 122 z1,Obj.rows 38 3 ls none,Obj.row 89 fs]) (ba (decide ((0:Int)<=a)&&decide (a<(↑(fs.length):Int))) (aC
 (Dn.toBool (dt (List.zip (Be (nth fs (0+a.toNat))) (xu (nth fs (0+a.toNat)))) (Value.int IntKind.i64 b) z2)) (ba (decide ((0:Int)<=b)&&decide (b<
 (↑(fs.length):Int))) (K (AV.bool (Dn.toBool (dt (List.zip (Be (nth fs (0+b.toNat))) (xu (nth fs (0+b.toNat)))) (Value.int IntKind.i64 a) z2))) [Obj.box
 122 z1,Obj.rows 38 3 ls none,Obj.row 89 fs])) (K z2 [Obj.box 122 z1,Obj.rows 38 3 ls none,Obj.row 89 fs])))):=by kernel_rfl
theorem Ad: ∀l:List Int,(l.map gq).zip (l.map fun _=>AV.lit (.bool true))=iF l
 |[]=>rfl
 |a::l=>by
  have ih:=Ad l
  simp only[ac2,List.zip_cons_cons,iF] at ih⊢
  rw[ih]
theorem CX(n m:Nat)(L:Gr)(k:Nat)(a:Int)(h0:0<=a)(h:a<k):nth (bw n m L k) (0+a.toNat)=SP (ik n m L a):=by
 rw[Nat.zero_add,aZ _ _ (by rw[kV];omega)]
 simp only[bw,List.getElem_map,List.getElem_range]
 rw[show((a.toNat:Nat):Int)=a by omega]
theorem FA(n m:Nat)(L:Gr)(k:Nat)(a b:Int)(h0:0<=a)(h:a<k):Dn.toBool (dt (List.zip (Be (nth (bw n m L k) (0+a.toNat))) (xu (nth (bw n m L k) (0+a.toNat)))) (Value.int IntKind.i64 b) (AV.lit (Value.bool false)))=(ik n m L a).contains b:=by
 rw[CX n m L k a h0 h]
 simp only[Be,xu]
 rw[Ad,ma]
 rfl
structure Ri where
 n:Nat
 m:Nat
 L:Gr
 a:Int
 b:Int
abbrev nP(n m:Nat)(L:Gr):List Dn.Obj:=tw n (dE L) (bw n m L n)
def Tt(x:Ri):List AV×List Dn.Obj:=([.ptr 0 0 [] 0, .int x.a, .int x.b],nP x.n x.m x.L)
def K3(x:Ri):Prop:=(0<=x.a/\x.a<x.n)/\0<=x.b/\x.b<x.n
def Jp(x:Ri):Out (AV×List Dn.Obj):= .one (.bool (gr x.n x.m x.L x.a x.b),nP x.n x.m x.L)
theorem cMu(κ:Kp):bz (UO κ) 12 75 (aR Tt K3 Jp):=by
 refine bg ?_
 rintro⟨n,m,L,a,b⟩ K ⟨⟨ha,ha'⟩,hb,hb'⟩ ho
 simp only at ha ha' hb hb'
 refine Eq.mpr (yMu κ n (dE L) (bw n m L n) a b K) ?_
 simp only[Jp,Out.run,gr,nP,tw,kV] at ho
 rw[FA n m L n a b ha ha',FA n m L n b a hb hb',kV]
 simp only[an,af,aa3,aa2,beq_iff_eq,beq_eq_false_iff_ne]
 refine⟨fun e=>?_,fun e=>⟨⟨ha,ha'⟩,fun h=>⟨⟨hb,hb'⟩,?_⟩,fun h=>?_⟩⟩
 ·rw[aa8 e,Bool.true_or] at ho;exact ho
 ·rw[aa6 e,h,Bool.false_or,ac1] at ho;exact ho
 ·rw[aa6 e,h,Bool.false_or,Bool.false_and] at ho;exact ho
noncomputable def Of(κ:Kp):Env:=(UO κ).ay 75 (aR Tt K3 Jp)
theorem eMu(κ:Kp):aD (Of κ):=(eOf κ).ay (ZY κ) (cMu κ)
theorem mMu(κ:Kp):aj (Of κ):=(ZY κ).ay aK
theorem xGp(κ:Kp)(N i:Nat)(ls:List (List Value))(fs ws:List AV)(a:Int)(I:Nat->S->Prop)(n:Nat)(K:Exit->S->Prop):(vc (Of κ) 12 40 none 3 (ah (Pr κ).toProgram 40 3) (sp 25 [(0, .ptr 0 0 [] 0),(1, .int a),(5, .ar 3 0 ws.length),(11, .int N),(12, .int i)] (tw N ls fs++[.row 3 ws])) (bL (Of κ) 40 3 3 I n K))=(
 letI z1:=IntKind.wrap IntKind.i64 ((↑i:Int)+(1:Int))
 letI z2:=AV.agg [AV.ar 1 0 N,AV.ar 2 0 fs.length]
 aC (decide ((↑i:Int)<(↑N:Int))) (∃(e1:Ri),([AV.ptr 0 0 [] 0,AV.int a,AV.int (↑i:Int)],[Obj.box 122 z2,Obj.rows 38 3 ls none,Obj.row 89 fs])=
 ([AV.ptr 0 0 [] 0,AV.int e1.a,AV.int e1.b],[Obj.box 122 (AV.agg [AV.ar 1 0 e1.n,AV.ar 2 0 (List.length (bw e1.n e1.m e1.L e1.n))]),Obj.rows 38 3 (dE e1.L)
 none,Obj.row 89 (bw e1.n e1.m e1.L e1.n)])/\(((0:Int)<=e1.a/\e1.a<(↑(e1.n):Int))/\(0:Int)<=e1.b/\e1.b<(↑(e1.n):Int))/\aC (gr e1.n e1.m e1.L
 e1.a e1.b) (ba (decide ((ws.length+1+1)*9<=70368744177664)) (∃(e0:Nat),e0<n/\I e0 (sp 25 [(0,AV.ptr 0 0 [] 0),(1,AV.int a),(5,AV.ar 3 0
 (ws.length+1)),(11,AV.int (↑N:Int)),(12,AV.int z1)] [Obj.box 122 (AV.agg [AV.ar 1 0 e1.n,AV.ar 2 0 (List.length (bw e1.n e1.m e1.L e1.n))]),Obj.rows
 38 3 (dE e1.L) none,Obj.row 89 (bw e1.n e1.m e1.L e1.n),Obj.row 3 (List.take ws.length ws++[AV.int (↑i:Int)])]))) (∃(e0:Nat),e0<n/\I e0 (sp 25 [(0,
 AV.ptr 0 0 [] 0),(1,AV.int a),(5,AV.ar 3 0 ws.length),(11,AV.int (↑N:Int)),(12,AV.int z1)] [Obj.box 122 (AV.agg [AV.ar 1 0 e1.n,AV.ar 2 0
 (List.length (bw e1.n e1.m e1.L e1.n))]),Obj.rows 38 3 (dE e1.L) none,Obj.row 89 (bw e1.n e1.m e1.L e1.n),Obj.row 3 ws]))) (K (Exit.exit 0) (sp 25 [(5,AV.ar
 3 0 ws.length)] [Obj.box 122 z2,Obj.rows 38 3 ls none,Obj.row 89 fs,Obj.row 3 ws]))):=by kernel_rfl
def vV(n m:Nat)(L:Gr)(a:Int)(i:Nat):List Int:=(gl i).filter (gr n m L a)
theorem Ji(n m:Nat)(L:Gr)(a:Int)(i:Nat):vV n m L a (i+1)=bif gr n m L a i then vV n m L a i++[(i:Int)] else vV n m L a i:=by
 unfold vV gl
 rw[List.range_succ,List.map_append,List.filter_append]
 cases h:gr n m L a i<;>simp[h]
theorem CB(n m:Nat)(L:Gr)(a:Int)(i:Nat):(vV n m L a i).length<=i:=by
 have:=List.length_filter_le (gr n m L a) (gl i)
 simpa[vV,gl] using this
structure Qk where
 n:Nat
 m:Nat
 L:Gr
 a:Int
 i:Nat
abbrev OM(x:Qk):S:=sp 25 [(0, .ptr 0 0 [] 0),(1, .int x.a),(5, .ar 3 0 (iA (vV x.n x.m x.L x.a x.i)).length),(11, .int x.n),(12, .int x.i)] (nP x.n x.m x.L++[.row 3 (iA (vV x.n x.m x.L x.a x.i))])
def Ks(x:Qk):Prop:=(0<=x.a/\x.a<x.n)/\x.i<=x.n/\x.n<=60
def Qw(x:Qk):Out (Exit×S):= .one (.exit 0,sp 25 [(5, .ar 3 0 (iA (fV x.n x.m x.L x.a)).length)] (nP x.n x.m x.L++[.row 3 (iA (fV x.n x.m x.L x.a))]))
theorem lGp(κ:Kp):bk (Of κ) 12 40 3 (aP 3 OM Ks Qw):=by
 refine aL (fun x=>x.n - x.i) ?_
 rintro⟨n,m,L,a,i⟩ K ⟨ha,hi,hn⟩ ho
 simp only at ha hi hn
 rw[show(Of κ).P=Pr κ from rfl]
 refine Eq.mpr (xGp κ n i (dE L) (bw n m L n) (iA (vV n m L a i)) a _ _ K) ?_
 have hl:=CB n m L a i
 rw[af,aa2,aa4]
 refine⟨fun h=>⟨⟨n,m,L,a,i⟩,rfl,⟨ha,by simp only;omega,h⟩,?_⟩,fun h=>?_⟩
 ·rw[aW (n:=(i:Int)+1) (by omega) (by omega),af,an,aa2,List.take_length]
  have hs:=Ji n m L a i
  refine⟨fun e=>⟨by rw[fv];omega,_,?_,⟨n,m,L,a,i+1⟩,?_,⟨ha,by simp only;omega,hn⟩,rfl,ho⟩,fun e=>⟨_,?_,⟨n,m,L,a,i+1⟩,?_,⟨ha,by simp only;omega,hn⟩,rfl,ho⟩⟩
  ·simp only;omega
  ·simp only at e
   rw[e,aa9] at hs
   simp only[OM,hs,wQ,ac0]
   rfl
  ·simp only;omega
  ·simp only at e
   rw[e,aa7] at hs
   simp only[OM,hs]
   rfl
 ·obtain rfl:n=i:=by omega
  exact ho
noncomputable def UU(κ:Kp):Env:=(Of κ).ak 40 3 (aP 3 OM Ks Qw)
theorem eGp(κ:Kp):aD (UU κ):=(eMu κ).ak (mMu κ) (lGp κ)
theorem Y9(κ:Kp):aj (UU κ):=(mMu κ).ak aI
theorem yGp(κ:Kp)(N:Nat)(ls:List (List Value))(fs:List AV)(a:Int)(K:AV->List Dn.Obj->Prop):(bf (UU κ) 12 40 [.ptr 0 0 [] 0, .int a] (tw N ls fs) K)=(
 letI z1:=Pg.toProgram (Env.P (Of κ))
 ah z1 40 3=ah z1 40 3/\∃(e0:Qk),sp 25 [(0,AV.ptr 0 0 [] 0),(1,AV.int a),(5,AV.ar 3 0 0),(11,AV.int (↑N:Int)),(12,AV.int 0)] [Obj.box 122
 (AV.agg [AV.ar 1 0 N,AV.ar 2 0 fs.length]),Obj.rows 38 3 ls none,Obj.row 89 fs,Obj.row 3 []]=sp 25 [(0,AV.ptr 0 0 [] 0),(1,AV.int e0.a),(5,AV.ar 3 0
 (List.length (iA (vV e0.n e0.m e0.L e0.a e0.i)))),(11,AV.int (↑(e0.n):Int)),(12,AV.int (↑(e0.i):Int))] [Obj.box 122 (AV.agg [AV.ar 1 0 e0.n,AV.ar 2 0
 (List.length (bw e0.n e0.m e0.L e0.n))]),Obj.rows 38 3 (dE e0.L) none,Obj.row 89 (bw e0.n e0.m e0.L e0.n),Obj.row 3 (iA (vV e0.n e0.m e0.L e0.a e0.i))]/\
 (((0:Int)<=e0.a/\e0.a<(↑(e0.n):Int))/\e0.i<=e0.n/\e0.n<=60)/\K (AV.ad 3 (List.take (List.length (iA (fV e0.n e0.m e0.L e0.a))) (List.drop 0 (iA (fV
 e0.n e0.m e0.L e0.a))))) [Obj.box 122 (AV.agg [AV.ar 1 0 e0.n,AV.ar 2 0 (List.length (bw e0.n e0.m e0.L e0.n))]),Obj.rows 38 3 (dE e0.L) none,Obj.row 89 (bw
 e0.n e0.m e0.L e0.n)]):=by kernel_rfl
def Tx(x:Qk):List AV×List Dn.Obj:=([.ptr 0 0 [] 0, .int x.a],nP x.n x.m x.L)
def Kr(x:Qk):Prop:=(0<=x.a/\x.a<x.n)/\x.n<=60
def QC(x:Qk):Out (AV×List Dn.Obj):= .one (.ad 3 (iA (fV x.n x.m x.L x.a)),nP x.n x.m x.L)
theorem cGq(κ:Kp):bz (UU κ) 12 40 (aR Tx Kr QC):=by
 refine bg ?_
 rintro⟨n,m,L,a,i⟩ K ⟨ha,hn⟩ ho
 refine Eq.mpr (yGp κ n (dE L) (bw n m L n) a K) ?_
 refine⟨rfl,⟨n,m,L,a,0⟩,rfl,⟨ha,Nat.zero_le _,hn⟩,?_⟩
 rw[ab2,List.take_length]
 exact ho
noncomputable def ND(κ:Kp):Env:=(UU κ).ay 40 (aR Tx Kr QC)
theorem eGq(κ:Kp):aD (ND κ):=(eGp κ).ay (Y9 κ) (cGq κ)
theorem ZG(κ:Kp):aj (ND κ):=(Y9 κ).ay aK
theorem xNi(κ:Kp)(N:Nat)(a:Int)(ls:List (List Value))(fs:List AV)(es:List (Value×AV))(ks met:List Value)(vs:List AV)(I:Nat->S->Prop)(n:Nat)(K:Exit->S->Prop):(vc (ND κ) 12 39 none 4 (ah (Pr κ).toProgram 39 6) (sp 43 [(0, .ptr 0 0 [] 0),(1, .mp 3),(5, .int a),(11, .int N),(12, .int a),(25, .ptr 4 0 [] 0)] (tw N ls fs++[.map 3 4 es, .fit 3 4 ks vs met])) (bL (ND κ) 39 6 4 I n K))=(
 letI z1:=AV.agg [AV.ar 1 0 N,AV.ar 2 0 fs.length]
 (∀(e3:Int) (e2:AV),List.Mem (Value.int IntKind.i64 e3,e2) (List.zip ks vs)->jY met (Value.int IntKind.i64 e3)=false->aC (!Dn.toBool (dt es (Value.int
 IntKind.i64 e3) (AV.bool false))) (∃(e1:Ri),([AV.ptr 0 0 [] 0,AV.int a,AV.int e3],[Obj.box 122 z1,Obj.rows 38 3 ls none,Obj.row 89 fs])=([AV.ptr 0 0
 [] 0,AV.int e1.a,AV.int e1.b],[Obj.box 122 (AV.agg [AV.ar 1 0 e1.n,AV.ar 2 0 (List.length (bw e1.n e1.m e1.L e1.n))]),Obj.rows 38 3 (dE e1.L) none,Obj.row
 89 (bw e1.n e1.m e1.L e1.n)])/\(((0:Int)<=e1.a/\e1.a<(↑(e1.n):Int))/\(0:Int)<=e1.b/\e1.b<(↑(e1.n):Int))/\aC (!gr e1.n e1.m e1.L e1.a e1.b) (K
 (Exit.exit 1) (sp 43 [(0,AV.ptr 0 0 [] 0),(1,AV.mp 3),(11,AV.int (↑N:Int)),(12,AV.int a)] [Obj.box 122 (AV.agg [AV.ar 1 0 e1.n,AV.ar 2 0 (List.length
 (bw e1.n e1.m e1.L e1.n))]),Obj.rows 38 3 (dE e1.L) none,Obj.row 89 (bw e1.n e1.m e1.L e1.n),Dn.Obj.map 3 4 es])) (∃(e0:Nat),e0<n/\I e0 (sp 43 [(0,
 AV.ptr 0 0 [] 0),(1,AV.mp 3),(5,AV.int a),(11,AV.int (↑N:Int)),(12,AV.int a),(25,AV.ptr 4 0 [] 0)] [Obj.box 122 (AV.agg [AV.ar 1 0 e1.n,AV.ar 2 0
 (List.length (bw e1.n e1.m e1.L e1.n))]),Obj.rows 38 3 (dE e1.L) none,Obj.row 89 (bw e1.n e1.m e1.L e1.n),Dn.Obj.map 3 4 es,Obj.fit 3 4 ks vs (Value.int
 IntKind.i64 e3::met)]))) (∃(e0:Nat),e0<n/\I e0 (sp 43 [(0,AV.ptr 0 0 [] 0),(1,AV.mp 3),(5,AV.int a),(11,AV.int (↑N:Int)),(12,AV.int a),(25,
 AV.ptr 4 0 [] 0)] [Obj.box 122 z1,Obj.rows 38 3 ls none,Obj.row 89 fs,Dn.Obj.map 3 4 es,Obj.fit 3 4 ks vs (Value.int IntKind.i64 e3::met)])))/\(kl met
 (List.zip ks vs)=true->K (Exit.exit 2) (sp 43 [(5,AV.int a)] [Obj.box 122 z1,Obj.rows 38 3 ls none,Obj.row 89 fs,Dn.Obj.map 3 4 es]))):=by kernel_rfl
theorem Ip(n i:Nat)(h:i<n):(gl n).drop i=(i:Int)::(gl n).drop (i+1):=by
 rw[ab3 (by simpa[gl] using h)]
 congr 1
 simp[gl]
def xk(n m:Nat)(L:Gr)(done:List Int)(i:Nat):Int:=(((gl n).drop i).find? (gk n m L done)).getD (-1)
theorem H3{n:Nat}(m:Nat)(L:Gr)(done:List Int){i:Nat}(h:i<n):xk n m L done i=bif gk n m L done i then(i:Int) else xk n m L done (i+1):=by
 unfold xk
 rw[Ip n i h,List.find?_cons]
 cases gk n m L done i<;>rfl
theorem KZ(n m:Nat)(L:Gr)(done:List Int):xk n m L done n= -1:=by
 unfold xk
 rw[ab0 (by simp[gl])];rfl
structure G6 where
 n:Nat
 m:Nat
 L:Gr
 done:List Int
 i:Nat
 met:List Value
def uD(x:G6):Bool:=(ik x.n x.m x.L x.i).all fun b=>x.done.contains b||gr x.n x.m x.L x.i b
abbrev NM(x:G6):S:=sp 43 [(0, .ptr 0 0 [] 0),(1, .mp 3),(5, .int x.i),(11, .int x.n),(12, .int x.i),(25, .ptr 4 0 [] 0)] (nP x.n x.m x.L++[.map 3 4 (iF x.done), .fit 3 4 ((ik x.n x.m x.L x.i).map gq) ((ik x.n x.m x.L x.i).map fun _=> .lit (.bool true)) x.met])
def En(x:G6):Prop:=WG x.n x.m x.L/\x.i<x.n/\∀b:Int,jY x.met (gq b)=true->b∈ik x.n x.m x.L x.i->(x.done.contains b||gr x.n x.m x.L x.i b)=true
def G2(x:G6):Out (Exit×S):= .aC (uD x)
 (.one (.exit 2,sp 43 [(5, .int x.i)] (nP x.n x.m x.L++[.map 3 4 (iF x.done)])))
 (.one (.exit 1,sp 43 [(0, .ptr 0 0 [] 0),(1, .mp 3),(11, .int x.n),(12, .int x.i)] (nP x.n x.m x.L++[.map 3 4 (iF x.done)])))
theorem u7(c b:Int)(met:List Value):jY (gq c::met) (gq b)=(decide (c=b)||jY met (gq b)):=by
 simp only[jY,dn,gq]
 by_cases h:c=b
 ·subst h;simp
 ·rw[aa6 h];simp[h]
theorem By: ∀{l:List Int} {met:List Value},kl met (iF l)=true->∀b,b∈l->jY met (gq b)=true
 |[],_,_,b,hb=>nomatch hb
 |a::l,met,h,b,hb=>by
  simp only[iF,ac2,kl,aa3] at h
  rcases List.mem_cons.1 hb with rfl|hb
  ·exact h.1
  ·exact By (l:=l) h.2 b hb
theorem ON{x:Int}{v:AV}{l:List Int}(h:(gq x,v)∈iF l):x∈l:=by
 obtain⟨k,h1,h2⟩:=List.mem_map.1 h
 cases h2;exact h1
theorem lNi(κ:Kp):bk (ND κ) 12 39 6 (aP 4 NM En G2):=by
 refine aL (fun x=>(ik x.n x.m x.L x.i).countP fun b=>!jY x.met (gq b)) ?_
 rintro⟨n,m,L,done,i,met⟩ K ⟨hG,hi,hm⟩ ho
 simp only at hG hi hm
 rw[show(ND κ).P=Pr κ from rfl]
 refine Eq.mpr (xNi κ n i (dE L) (bw n m L n) (iF done) ((ik n m L i).map gq) met ((ik n m L i).map fun _=> .lit (.bool true)) _ _ K) ?_
 have hi0:(0:Int)<=i:=by omega
 have ho2:=ho
 simp only[G2,Out.run,af] at ho2
 rw[Ad]
 refine⟨fun b v hbv hb=>?_,fun hs=>?_⟩
 ·have hf:b∈ik n m L i:=ON hbv
  have hr:=Rc.lk hG hi0 ((mG hG hi0).1 hf)
  have hn:(done.contains b||gr n m L i b)=true->∃k,k<(ik n m L i).countP (fun b=>!jY met (gq b))/\eY NM En G2 (fun x=>(ik x.n x.m x.L x.i).countP fun b=>!jY x.met (gq b)) K k (NM ⟨n,m,L,done,i,gq b::met⟩):=fun hok=>by
   refine⟨_,?_,⟨n,m,L,done,i,gq b::met⟩,rfl,⟨hG,hi,fun c hc hcf=>?_⟩,rfl,ho⟩
   ·refine l4 (fun c _ hc=>?_) ⟨b,hf,?_,?_⟩
    ·rw[u7] at hc
     cases h:jY met (gq c) with
     |true=>rw[h] at hc;simp at hc
     |false=>rfl
    ·simp only[gq] at hb⊢;rw[hb];rfl
    ·rw[u7];simp
   ·rw[u7] at hc
    by_cases e:b=c
    ·subst e;exact hok
    ·rw[aa6 e,Bool.false_or] at hc
     exact hm c hc hcf
  have hg:Dn.toBool (dt (iF done) (Value.int IntKind.i64 b) (AV.lit (Value.bool false)))=done.contains b:=by rw[ma];rfl
  rw[hg]
  simp only[af]
  refine⟨fun e=>⟨⟨n,m,L,i,b⟩,rfl,⟨⟨hi0,by simp only;omega⟩,hr⟩,fun e2=>?_,fun e2=>?_⟩,fun e=>?_⟩
  ·have h1:uD ⟨n,m,L,done,i,met⟩=false:=by
    rw[←Bool.not_eq_true,uD,List.all_eq_true]
    intro h
    have:=h b hf
    simp only at this e2 e
    rw[ab7] at this
    rcases this with h|h
    ·rw[h] at e;cases e
    ·rw[h] at e2;cases e2
   exact ho2.2 h1
  ·exact hn (by simp only at e2⊢;rw[ab7];right;simpa using e2)
  ·exact hn (by rw[ab7];left;simpa using e)
 ·have h1:uD ⟨n,m,L,done,i,met⟩=true:=by
   rw[uD,List.all_eq_true]
   exact fun b hb=>hm b (By hs b hb) hb
  exact ho2.1 h1
noncomputable def Fg(κ:Kp):Env:=(ND κ).ak 39 6 (aP 4 NM En G2)
theorem eNi(κ:Kp):aD (Fg κ):=(eGq κ).ak (ZG κ) (lNi κ)
theorem Y5(κ:Kp):aj (Fg κ):=(ZG κ).ak aI
theorem xNx(κ:Kp)(N i:Nat)(ls:List (List Value))(fs:List AV)(es:List (Value×AV))(I:Nat->S->Prop)(n:Nat)(K:Exit->S->Prop):(vc (Fg κ) 12 39 none 4 (ah (Pr κ).toProgram 39 2) (sp 43 [(0, .ptr 0 0 [] 0),(1, .mp 3),(11, .int N),(12, .int i)] (tw N ls fs++[.map 3 4 es])) (bL (Fg κ) 39 2 4 I n K))=(
 letI z1:=AV.agg [AV.ar 1 0 N,AV.ar 2 0 fs.length]
 letI z2:=Pg.toProgram (Env.P (ND κ))
 aC (decide ((↑i:Int)<(↑N:Int))) (aC (Dn.toBool (dt es (Value.int IntKind.i64 (↑i:Int)) (AV.bool false))) (∃(e0:Nat),e0<n/\I e0 (sp 43 [(0,AV.ptr
 0 0 [] 0),(1,AV.mp 3),(11,AV.int (↑N:Int)),(12,AV.int (IntKind.wrap IntKind.i64 ((↑i:Int)+(1:Int))))] [Obj.box 122 z1,Obj.rows 38 3 ls none,
 Obj.row 89 fs,Dn.Obj.map 3 4 es])) (ba (true&&decide ((↑i:Int)<(↑(fs.length):Int))) (ah z2 39 6=ah z2 39 6/\∃(e1:G6),sp 43 [(0,AV.ptr 0 0 []
 0),(1,AV.mp 3),(5,AV.int (↑i:Int)),(11,AV.int (↑N:Int)),(12,AV.int (↑i:Int)),(25,AV.ptr 4 0 [] 0)] [Obj.box 122 z1,Obj.rows 38 3 ls none,
 Obj.row 89 fs,Dn.Obj.map 3 4 es,Obj.fit 3 4 (Be (nth fs (0+Int.toNat (↑i:Int)))) (xu (nth fs (0+Int.toNat (↑i:Int)))) []]=sp 43 [(0,AV.ptr 0 0 []
 0),(1,AV.mp 3),(5,AV.int (↑(e1.i):Int)),(11,AV.int (↑(e1.n):Int)),(12,AV.int (↑(e1.i):Int)),(25,AV.ptr 4 0 [] 0)] [Obj.box 122 (AV.agg [AV.ar 1
 0 e1.n,AV.ar 2 0 (List.length (bw e1.n e1.m e1.L e1.n))]),Obj.rows 38 3 (dE e1.L) none,Obj.row 89 (bw e1.n e1.m e1.L e1.n),Dn.Obj.map 3 4 (iF e1.done),
 Obj.fit 3 4 (List.map gq (ik e1.n e1.m e1.L (↑(e1.i):Int))) (List.map (fun(e0:Int)=>AV.bool true) (ik e1.n e1.m e1.L (↑(e1.i):Int))) e1.met]/\(WG e1.n
 e1.m e1.L/\e1.i<e1.n/\∀(e0:Int),jY e1.met (Value.int IntKind.i64 e0)=true->List.Mem e0 (ik e1.n e1.m e1.L (↑(e1.i):Int))->(List.contains e1.done
 e0||gr e1.n e1.m e1.L (↑(e1.i):Int) e0)=true)/\aC (uD e1) (K Exit.ret (sp 43 [(4,AV.int (↑(e1.i):Int))] [Obj.box 122 (AV.agg [AV.ar 1 0 e1.n,AV.ar 2
 0 (List.length (bw e1.n e1.m e1.L e1.n))]),Obj.rows 38 3 (dE e1.L) none,Obj.row 89 (bw e1.n e1.m e1.L e1.n),Dn.Obj.map 3 4 (iF e1.done)])) (∃(e0:Nat),e0
 <n/\I e0 (sp 43 [(0,AV.ptr 0 0 [] 0),(1,AV.mp 3),(11,AV.int (↑(e1.n):Int)),(12,AV.int (IntKind.wrap IntKind.i64 ((↑(e1.i):Int)+(1:Int))))]
 [Obj.box 122 (AV.agg [AV.ar 1 0 e1.n,AV.ar 2 0 (List.length (bw e1.n e1.m e1.L e1.n))]),Obj.rows 38 3 (dE e1.L) none,Obj.row 89 (bw e1.n e1.m e1.L e1.n),
 Dn.Obj.map 3 4 (iF e1.done)]))))) (K (Exit.exit 0) (sp 43 [] [Obj.box 122 z1,Obj.rows 38 3 ls none,Obj.row 89 fs,Dn.Obj.map 3 4 es]))):=by kernel_rfl
abbrev Ny(x:G6):S:=sp 43 [(0, .ptr 0 0 [] 0),(1, .mp 3),(11, .int x.n),(12, .int x.i)] (nP x.n x.m x.L++[.map 3 4 (iF x.done)])
def Fp(x:G6):Prop:=WG x.n x.m x.L/\x.i<=x.n/\x.n<=60
def Cj(x:G6):Out (Exit×S):= .aC (decide (xk x.n x.m x.L x.done x.i<0))
 (.one (.exit 0,sp 43 [] (nP x.n x.m x.L++[.map 3 4 (iF x.done)])))
 (.one (.ret,sp 43 [(4, .int (xk x.n x.m x.L x.done x.i))] (nP x.n x.m x.L++[.map 3 4 (iF x.done)])))
theorem AI(n m:Nat)(L:Gr)(done:List Int)(i:Nat)(met:List Value):gk n m L done i=(!done.contains (i:Int)&&uD ⟨n,m,L,done,i,met⟩):=rfl
theorem lNx(κ:Kp):bk (Fg κ) 12 39 2 (aP 4 Ny Fp Cj):=by
 refine aL (fun x=>x.n - x.i) ?_
 rintro⟨n,m,L,done,i,met⟩ K ⟨hG,hi,hn⟩ ho
 simp only at hG hi hn
 rw[show(Fg κ).P=Pr κ from rfl]
 refine Eq.mpr (xNx κ n i (dE L) (bw n m L n) (iF done) _ _ K) ?_
 have ho2:=ho
 simp only[Cj,Out.run,af] at ho2
 have hg:Dn.toBool (dt (iF done) (Value.int IntKind.i64 i) (AV.lit (Value.bool false)))=done.contains (i:Int):=by rw[ma];rfl
 rw[hg,af,aa2,aa4]
 refine⟨fun h=>?_,fun h=>?_⟩
 ·have hi':i<n:=by omega
  have hs:=H3 m L done hi'
  have next:gk n m L done i=false->∃k,k<n - i/\eY Ny Fp Cj (fun x=>x.n - x.i) K k (Ny ⟨n,m,L,done,i+1,[]⟩):=fun e=>by
   rw[e,aa7] at hs
   refine⟨_,?_,⟨n,m,L,done,i+1,[]⟩,rfl,⟨hG,hi',hn⟩,rfl,?_⟩
   ·simp only;omega
   ·simp only[Cj,Out.run,←hs];exact ho
  rw[af]
  refine⟨fun e=>?_,fun e=>?_⟩
  ·rw[aW (n:=(i:Int)+1) (by omega) (by omega)]
   exact next (by rw[AI n m L done i [],e];rfl)
  ·rw[an,ac1,aa2,kV,CX n m L n i (by omega) h]
   refine⟨h,rfl,⟨n,m,L,done,i,[]⟩,?_,⟨hG,hi',fun b hb=>(nomatch hb)⟩,?_⟩
   ·simp only[kV]
    rfl
   ·rw[af]
    refine⟨fun e2=>?_,fun e2=>?_⟩
    ·have hf:gk n m L done i=true:=by rw[AI n m L done i [],e,e2];rfl
     rw[hf,aa9] at hs
     have:=ho2.2 (by rw[hs,aa4];omega)
     rw[hs] at this
     exact this
    ·rw[aW (n:=(i:Int)+1) (by omega) (by omega)]
     exact next (by rw[AI n m L done i [],e2,Bool.and_false])
 ·obtain rfl:i=n:=by omega
  rw[KZ] at ho2
  exact ho2.1 rfl
theorem xNz(κ:Kp)(ls:List (List Value))(es:List (Value×AV))(I:Nat->S->Prop)(n:Nat)(K:Exit->S->Prop):(vc (Fg κ) 12 39 none 3 (ah (Pr κ).toProgram 39 2) (sp 43 [(0, .ptr 0 0 [] 0),(1, .mp 2),(11, .int 0),(12, .int 0)] (xt 0 ls++[.map 3 4 es])) (bL (Fg κ) 39 2 3 I n K))=(
 K (Exit.exit 0) (sp 43 [] [Obj.box 122 (AV.agg [AV.ar 1 0 0,AV.nil]),Obj.rows 38 3 ls none,Dn.Obj.map 3 4 es])):=by kernel_rfl
structure NL where
 ls:List (List Value)
 es:List (Value×AV)
abbrev TY(x:NL):S:=sp 43 [(0, .ptr 0 0 [] 0),(1, .mp 2),(11, .int 0),(12, .int 0)] (xt 0 x.ls++[.map 3 4 x.es])
def PI(x:NL):Out (Exit×S):= .one (.exit 0,sp 43 [] (xt 0 x.ls++[.map 3 4 x.es]))
theorem lNz(κ:Kp):bk (Fg κ) 12 39 2 (aP 3 TY (fun _=>True) PI):=by
 refine aL (fun _=>0) ?_
 rintro⟨ls,es⟩ K _ ho
 rw[show(Fg κ).P=Pr κ from rfl]
 exact Eq.mpr (xNz κ ls es _ _ K) ho
def TX(s:S):Bool:=Nat.beq s.st.length 4
noncomputable def RL(κ:Kp):Env:=(Fg κ).ak 39 2 (qH TX (aP 4 Ny Fp Cj) (aP 3 TY (fun _=>True) PI))
theorem eNx(κ:Kp):aD (RL κ):=(eNi κ).ak (Y5 κ) (nv (lNx κ) (lNz κ))
theorem Zg(κ:Kp):aj (RL κ):=(Y5 κ).ak (kE aI aI)
theorem yNx(κ:Kp)(N:Nat)(ls:List (List Value))(fs:List AV)(es:List (Value×AV))(K:AV->List Dn.Obj->Prop):(bf (RL κ) 12 39 [.ptr 0 0 [] 0, .mp 3] (tw N ls fs++[.map 3 4 es]) K)=(
 ah (Pg.toProgram (Env.P (Fg κ))) 39 2=ah (Pg.toProgram (Env.P (Fg κ))) 39 2/\∃(a:G6),sp 43 [(0,AV.ptr 0 0 [] 0),(1,AV.mp 3),(11,AV.int
 (↑N:Int)),(12,AV.int 0)] [Obj.box 122 (AV.agg [AV.ar 1 0 N,AV.ar 2 0 fs.length]),Obj.rows 38 3 ls none,Obj.row 89 fs,Dn.Obj.map 3 4 es]=sp 43 [(0,
 AV.ptr 0 0 [] 0),(1,AV.mp 3),(11,AV.int (↑(a.n):Int)),(12,AV.int (↑(a.i):Int))] [Obj.box 122 (AV.agg [AV.ar 1 0 a.n,AV.ar 2 0 (List.length (bw
 a.n a.m a.L a.n))]),Obj.rows 38 3 (dE a.L) none,Obj.row 89 (bw a.n a.m a.L a.n),Dn.Obj.map 3 4 (iF a.done)]/\(WG a.n a.m a.L/\a.i<=a.n/\a.n<=60)/\
 aC (decide (xk a.n a.m a.L a.done a.i<(0:Int))) (K (AV.int (-1)) [Obj.box 122 (AV.agg [AV.ar 1 0 a.n,AV.ar 2 0 (List.length (bw a.n a.m a.L
 a.n))]),Obj.rows 38 3 (dE a.L) none,Obj.row 89 (bw a.n a.m a.L a.n),Dn.Obj.map 3 4 (iF a.done)]) (K (AV.int (xk a.n a.m a.L a.done a.i)) [Obj.box 122
 (AV.agg [AV.ar 1 0 a.n,AV.ar 2 0 (List.length (bw a.n a.m a.L a.n))]),Obj.rows 38 3 (dE a.L) none,Obj.row 89 (bw a.n a.m a.L a.n),Dn.Obj.map 3 4
 (iF a.done)])):=by kernel_rfl
def SY(x:G6):List AV×List Dn.Obj:=([.ptr 0 0 [] 0, .mp 3],nP x.n x.m x.L++[.map 3 4 (iF x.done)])
def Kd(x:G6):Prop:=WG x.n x.m x.L/\x.n<=60
def Ko(x:G6):Out (AV×List Dn.Obj):= .one (.int (eG x.n x.m x.L x.done),nP x.n x.m x.L++[.map 3 4 (iF x.done)])
theorem OQ(n m:Nat)(L:Gr)(done:List Int)(h:eG n m L done<0):eG n m L done= -1:=by
 unfold eG at h⊢
 cases e:(gl n).find? (gk n m L done) with
 |none=>rfl
 |some a=>
  rw[e] at h
  have:=(iq.1 (List.mem_of_find?_eq_some e)).1
  simp only[Option.getD_some] at h;omega
theorem cNy(κ:Kp):bz (RL κ) 12 39 (aR SY Kd Ko):=by
 refine bg ?_
 rintro⟨n,m,L,done,i,met⟩ K ⟨hG,hn⟩ ho
 refine Eq.mpr (yNx κ n (dE L) (bw n m L n) (iF done) K) ?_
 refine⟨rfl,⟨n,m,L,done,0,[]⟩,rfl,⟨hG,Nat.zero_le _,hn⟩,?_⟩
 simp only[Ko,Out.run] at ho
 rw[show xk n m L done 0=eG n m L done from rfl,af]
 refine⟨fun e=>?_,fun _=>ho⟩
 rw[OQ n m L done (of_decide_eq_true e)] at ho
 exact ho
theorem yNz(κ:Kp)(ls:List (List Value))(es:List (Value×AV))(K:AV->List Dn.Obj->Prop):(bf (RL κ) 12 39 [.ptr 0 0 [] 0, .mp 2] (xt 0 ls++[.map 3 4 es]) K)=(
 letI z1:=AV.agg [AV.ar 1 0 0,AV.nil]
 letI z2:=Pg.toProgram (Env.P (Fg κ))
 ah z2 39 2=ah z2 39 2/\∃(e0:NL),sp 43 [(0,AV.ptr 0 0 [] 0),(1,AV.mp 2),(11,AV.int 0),(12,AV.int 0)] [Obj.box 122 z1,Obj.rows 38 3 ls none,
 Dn.Obj.map 3 4 es]=sp 43 [(0,AV.ptr 0 0 [] 0),(1,AV.mp 2),(11,AV.int 0),(12,AV.int 0)] [Obj.box 122 z1,Obj.rows 38 3 e0.ls none,Dn.Obj.map 3 4 e0.es]
 /\True/\K (AV.int (-1)) [Obj.box 122 z1,Obj.rows 38 3 e0.ls none,Dn.Obj.map 3 4 e0.es]):=by kernel_rfl
def S7(x:NL):List AV×List Dn.Obj:=([.ptr 0 0 [] 0, .mp 2],xt 0 x.ls++[.map 3 4 x.es])
def Qj(x:NL):Out (AV×List Dn.Obj):= .one (.int (-1),xt 0 x.ls++[.map 3 4 x.es])
theorem cNw(κ:Kp):bz (RL κ) 12 39 (aR S7 (fun _=>True) Qj):=by
 refine bg ?_
 rintro⟨ls,es⟩ K _ ho
 refine Eq.mpr (yNz κ ls es K) ?_
 exact⟨rfl,⟨ls,es⟩,rfl,trivial,ho⟩
def TF(st:List Dn.Obj):Bool:=Nat.beq st.length 4
noncomputable def TO(κ:Kp):Env:=(RL κ).ay 39 (EV TF (aR SY Kd Ko) (aR S7 (fun _=>True) Qj))
theorem eNy(κ:Kp):aD (TO κ):=(eNx κ).ay (Zg κ) (An (cNy κ) (cNw κ))
theorem Y7(κ:Kp):aj (TO κ):=(Zg κ).ay (r5 aK aK)
def OK(op:Int):List AV×List Dn.Obj:=([.int op],[])
def Lr(op:Int):Out (AV×List Dn.Obj):= .one (.bool (fH op),[])
def Ky(op:Int):Out (AV×List Dn.Obj):= .one (.bool (jc op),[])
def Aa(_:Int):Prop:=True
theorem yIa(κ:Kp)(op:Int)(K:AV->List Dn.Obj->Prop):(bf (TO κ) 12 44 [.int op] [] K)=(
 K (AV.bool (op==(1:Int))) []):=by kernel_rfl
theorem cIa(κ:Kp):bz (TO κ) 12 44 (aR OK Aa Lr):=by
 refine bg ?_
 rintro op K _ ho
 refine Eq.mpr (yIa κ op K) ?_
 simp only[Lr,Out.run,fH] at ho
 rw[Qd];exact ho
noncomputable def TJ(κ:Kp):Env:=(TO κ).ay 44 (aR OK Aa Lr)
theorem eIa(κ:Kp):aD (TJ κ):=(eNy κ).ay (Y7 κ) (cIa κ)
theorem Zf(κ:Kp):aj (TJ κ):=(Y7 κ).ay aK
theorem yIb(κ:Kp)(op:Int)(K:AV->List Dn.Obj->Prop):(bf (TJ κ) 12 73 [.int op] [] K)=(
 aC (op==(2:Int)) (K (AV.bool true) []) (K (AV.bool (decide (op>=(7:Int)))) [])):=by kernel_rfl
theorem cIb(κ:Kp):bz (TJ κ) 12 73 (aR OK Aa Ky):=by
 refine bg ?_
 rintro op K _ ho
 refine Eq.mpr (yIb κ op K) ?_
 simp only[Ky,Out.run,jc] at ho
 rw[Qd]
 cases h:decide (op=2)<;>rw[h] at ho<;>exact ho
noncomputable def Ev(κ:Kp):Env:=(TJ κ).ay 73 (aR OK Aa Ky)
theorem eIb(κ:Kp):aD (Ev κ):=(eIa κ).ay (Zf κ) (cIb κ)
theorem mIb(κ:Kp):aj (Ev κ):=(Zf κ).ay aK
structure A7 where
 n:Nat
 m:Nat
 L:Gr
 ds:List AV
 rs:List AV
 a:cq
 h:Int
def iT(isf:Int->Bool)(n m:Nat)(L:Gr)(ds:List AV)(h:Int)(bl:List AV):Bool:=bl.any fun l=>isf (toInt (ae l 0))&&gr n m L h (bD (toStr (ae (ae l 1) 0)) ds)
def sg(isf:Int->Bool)(x:A7):Prop:=(0<=x.h/\x.h<x.n)/\x.ds.length<=aM/\x.a.bl.length<=aM/\0<=x.a.i/\x.a.i<=x.a.bl.length/\∀l,l∈x.a.bl->isf (toInt (ae l 0))=true->0<=bD (toStr (ae (ae l 1) 0)) x.ds/\bD (toStr (ae (ae l 1) 0)) x.ds<x.n
def zQ(isf:Int->Bool)(x:A7):Prop:=x.h=bD x.a.rel x.ds/\(0<=x.h/\x.h<x.n)/\x.ds.length<=aM/\x.a.bl.length<=aM/\∀l,l∈x.a.bl->isf (toInt (ae l 0))=true->0<=bD (toStr (ae (ae l 1) 0)) x.ds/\bD (toStr (ae (ae l 1) 0)) x.ds<x.n
theorem xAa(κ:Kp)(N:Nat)(ls:List (List Value))(ds rs fs:List AV)(a:cq)(h:Int)(I:Nat->S->Prop)(n:Nat)(K:Exit->S->Prop):(vc (Ev κ) 12 128 none 8 (ah (Pr κ).toProgram 128 2) (sp 19 [(0, .ad 72 a.bl),(1, .bQ 80 [.ptr 4 0 [] 0, .ptr 6 0 [] 0, .ptr 3 0 [] 0, .ptr 7 0 [] 0]),(7, .int a.bl.length),(8, .int a.i)] (tw N ls fs++[.box 87 (.ptr 0 0 [] 0), .box 25 (gS ds rs), .box 66 (aq a), .box 94 (.bQ 44 []), .box 3 (.int h)])) (bL (Ev κ) 128 2 8 I n K))=(
 letI z1:=AV.agg [AV.ad 61 ds,AV.ad 66 rs]
 letI z2:=AV.agg [AV.ar 1 0 N,AV.ar 2 0 fs.length]
 letI z3:=AV.ptr 0 0 [] 0
 letI z4:=IntKind.wrap IntKind.i64 (a.i+(1:Int))
 letI z5:=a.bl.length
 letI z6:=AV.bQ 44 []
 aC (decide (a.i<(↑z5:Int))) (ba (decide ((0:Int)<=a.i)&&decide (a.i<(↑z5:Int))) (∃(e3:List AV×ByteArray),([AV.ad 61 ds,AV.str (toStr (ae (ae
 (nth a.bl a.i.toNat) 1) 0))],aJ)=([AV.ad 61 e3.1,AV.str e3.2],aJ)/\gK e3/\∃(e2:Int),([AV.int (toInt (ae (nth a.bl a.i.toNat) 0))],aJ)=([AV.int
 e2],aJ)/\True/\aC (fH e2) (∃(e1:Ri),([AV.ptr 0 0 [] 0,AV.int h,AV.int (bD e3.2 e3.1)],[Obj.box 122 z2,Obj.rows 38 3 ls none,Obj.row 89 fs])=
 ([AV.ptr 0 0 [] 0,AV.int e1.a,AV.int e1.b],[Obj.box 122 (AV.agg [AV.ar 1 0 e1.n,AV.ar 2 0 (List.length (bw e1.n e1.m e1.L e1.n))]),Obj.rows 38 3 (dE e1.L)
 none,Obj.row 89 (bw e1.n e1.m e1.L e1.n)])/\(((0:Int)<=e1.a/\e1.a<(↑(e1.n):Int))/\(0:Int)<=e1.b/\e1.b<(↑(e1.n):Int))/\aC (gr e1.n e1.m e1.L
 e1.a e1.b) (K Exit.ret (sp 19 [(4,AV.int a.i)] [Obj.box 122 (AV.agg [AV.ar 1 0 e1.n,AV.ar 2 0 (List.length (bw e1.n e1.m e1.L e1.n))]),Obj.rows 38 3 (dE
 e1.L) none,Obj.row 89 (bw e1.n e1.m e1.L e1.n),Obj.box 87 z3,Obj.box 25 z1,Obj.box 66 (aq a),Obj.box 94 z6,Obj.box 3 (AV.int h)])) (∃(e0:Nat),e0<n/\
 I e0 (sp 19 [(0,AV.ad 72 a.bl),(1,AV.bQ 80 [AV.ptr 4 0 [] 0,AV.ptr 6 0 [] 0,AV.ptr 3 0 [] 0,AV.ptr 7 0 [] 0]),(7,AV.int (↑z5:Int)),(8,AV.int z4)]
 [Obj.box 122 (AV.agg [AV.ar 1 0 e1.n,AV.ar 2 0 (List.length (bw e1.n e1.m e1.L e1.n))]),Obj.rows 38 3 (dE e1.L) none,Obj.row 89 (bw e1.n e1.m e1.L e1.n),
 Obj.box 87 z3,Obj.box 25 z1,Obj.box 66 (aq a),Obj.box 94 z6,Obj.box 3 (AV.int h)]))) (∃(e0:Nat),e0<n/\I e0 (sp 19 [(0,AV.ad 72 a.bl),(1,AV.bQ 80
 [AV.ptr 4 0 [] 0,AV.ptr 6 0 [] 0,AV.ptr 3 0 [] 0,AV.ptr 7 0 [] 0]),(7,AV.int (↑z5:Int)),(8,AV.int z4)] [Obj.box 122 z2,Obj.rows 38 3 ls none,Obj.row
 89 fs,Obj.box 87 z3,Obj.box 25 z1,Obj.box 66 (aq a),Obj.box 94 z6,Obj.box 3 (AV.int h)])))) (K (Exit.exit 0) (sp 19 [] [Obj.box 122 z2,Obj.rows 38 3 ls
 none,Obj.row 89 fs,Obj.box 87 z3,Obj.box 25 z1,Obj.box 66 (aq a),Obj.box 94 z6,Obj.box 3 (AV.int h)]))):=by kernel_rfl
abbrev NH(x:A7):S:=(sp 19 [(0, .ad 72 x.a.bl),(1, .bQ 80 [.ptr 4 0 [] 0, .ptr 6 0 [] 0, .ptr 3 0 [] 0, .ptr 7 0 [] 0]),(7, .int x.a.bl.length),(8, .int x.a.i)] (tw x.n (dE x.L) (bw x.n x.m x.L x.n)++[.box 87 (.ptr 0 0 [] 0), .box 25 (gS x.ds x.rs), .box 66 (aq x.a), .box 94 (.bQ 44 []), .box 3 (.int x.h)]))
def GK(x:A7):Out (Exit×S):= .all (fun j:Int=>0<=j) fun j=> .aC (iT fH x.n x.m x.L x.ds x.h (x.a.bl.drop x.a.i.toNat))
 (.one (.ret,sp 19 [(4, .int j)] (nP x.n x.m x.L++[.box 87 (.ptr 0 0 [] 0), .box 25 (gS x.ds x.rs), .box 66 (aq x.a), .box 94 (.bQ 44 []), .box 3 (.int x.h)])))
 (.one (.exit 0,sp 19 [] (nP x.n x.m x.L++[.box 87 (.ptr 0 0 [] 0), .box 25 (gS x.ds x.rs), .box 66 (aq x.a), .box 94 (.bQ 44 []), .box 3 (.int x.h)])))
theorem lAa(κ:Kp):bk (Ev κ) 12 128 2 (aP 8 NH (sg fH) GK):=by
 refine aL (fun x=>x.a.bl.length - x.a.i.toNat) ?_
 rintro⟨n,m,L,ds,rs,⟨xs,more,rel,hl,bl,line,i⟩,h⟩ K ⟨hh,hd,hb,h0,h1,hm⟩ ho
 simp only at hh hd hb h0 h1 hm
 rw[show(Ev κ).P=Pr κ from rfl]
 refine Eq.mpr (xAa κ n (dE L) ds rs (bw n m L n) ⟨xs,more,rel,hl,bl,line,i⟩ h _ _ K) ?_
 simp only[aM] at hb
 rw[af,an,aa3,aa2,aa2,aa4]
 refine⟨fun hi=>⟨⟨h0,hi⟩,(ds,toStr (ae (ae (nth bl i.toNat) 1) 0)),rfl,hd,toInt (ae (nth bl i.toNat) 0),rfl,trivial,?_⟩,fun hi=>?_⟩
 ·have hi:i<(bl.length:Int):=hi
  have hk:i.toNat<bl.length:=by omega
  have hx:nth bl i.toNat∈bl:=by rw[aZ _ _ hk];exact List.getElem_mem _
  have hs:iT fH n m L ds h (bl.drop i.toNat)=((fH (toInt (ae (nth bl i.toNat) 0))&&gr n m L h (bD (toStr (ae (ae (nth bl i.toNat) 1) 0)) ds))||iT fH n m L ds h (bl.drop (i.toNat+1))):=by
   rw[ab3 hk,←aZ bl i.toNat hk];rfl
  have next:(fH (toInt (ae (nth bl i.toNat) 0))&&gr n m L h (bD (toStr (ae (ae (nth bl i.toNat) 1) 0)) ds))=false->∃k,k<bl.length - i.toNat/\eY NH (sg fH) GK (fun x=>x.a.bl.length - x.a.i.toNat) K k (NH ⟨n,m,L,ds,rs,⟨xs,more,rel,hl,bl,line,i+1⟩,h⟩):=fun e=>by
   rw[e,Bool.false_or] at hs
   refine⟨_,?_,⟨n,m,L,ds,rs,⟨xs,more,rel,hl,bl,line,i+1⟩,h⟩,rfl,⟨hh,hd,by simpa[aM] using hb,by simp only;omega,by simp only;omega,hm⟩,rfl,?_⟩
   ·simp only;omega
   ·simp only[GK,Out.run,show(i+1).toNat=i.toNat+1 by omega,←hs]
    exact ho
  rw[aW (n:=i+1) (by omega) (by omega),af]
  refine⟨fun e=>⟨⟨n,m,L,h,bD (toStr (ae (ae (nth bl i.toNat) 1) 0)) ds⟩,rfl,⟨hh,hm _ hx e⟩,?_⟩,fun e=>?_⟩
  ·rw[af]
   refine⟨fun e2=>?_,fun e2=>?_⟩
   ·have:=ho i h0
    simp only at e2
    simp only[Out.run] at this
    rw[hs,e,e2] at this
    exact this
   ·exact next (by rw[e,ac1];exact e2)
  ·exact next (by rw[e,Bool.false_and])
 ·have:=ho 0 (by omega)
  simp only at hi
  simp only[Out.run] at this
  rw[ab0 (by omega)] at this
  exact this
theorem xAb(κ:Kp)(N:Nat)(ls:List (List Value))(ds rs fs:List AV)(a:cq)(h:Int)(I:Nat->S->Prop)(n:Nat)(K:Exit->S->Prop):(vc (Ev κ) 12 128 none 8 (ah (Pr κ).toProgram 128 2) (sp 19 [(0, .ad 72 a.bl),(1, .bQ 80 [.ptr 4 0 [] 0, .ptr 6 0 [] 0, .ptr 3 0 [] 0, .ptr 7 0 [] 0]),(7, .int a.bl.length),(8, .int a.i)] (tw N ls fs++[.box 87 (.ptr 0 0 [] 0), .box 25 (gS ds rs), .box 66 (aq a), .box 94 (.bQ 73 []), .box 3 (.int h)])) (bL (Ev κ) 128 2 8 I n K))=(
 letI z1:=AV.agg [AV.ad 61 ds,AV.ad 66 rs]
 letI z2:=AV.agg [AV.ar 1 0 N,AV.ar 2 0 fs.length]
 letI z3:=AV.ptr 0 0 [] 0
 letI z4:=IntKind.wrap IntKind.i64 (a.i+(1:Int))
 letI z5:=a.bl.length
 letI z6:=AV.bQ 73 []
 aC (decide (a.i<(↑z5:Int))) (ba (decide ((0:Int)<=a.i)&&decide (a.i<(↑z5:Int))) (∃(e3:List AV×ByteArray),([AV.ad 61 ds,AV.str (toStr (ae (ae
 (nth a.bl a.i.toNat) 1) 0))],aJ)=([AV.ad 61 e3.1,AV.str e3.2],aJ)/\gK e3/\∃(e2:Int),([AV.int (toInt (ae (nth a.bl a.i.toNat) 0))],aJ)=([AV.int
 e2],aJ)/\True/\aC (jc e2) (∃(e1:Ri),([AV.ptr 0 0 [] 0,AV.int h,AV.int (bD e3.2 e3.1)],[Obj.box 122 z2,Obj.rows 38 3 ls none,Obj.row 89 fs])=
 ([AV.ptr 0 0 [] 0,AV.int e1.a,AV.int e1.b],[Obj.box 122 (AV.agg [AV.ar 1 0 e1.n,AV.ar 2 0 (List.length (bw e1.n e1.m e1.L e1.n))]),Obj.rows 38 3 (dE e1.L)
 none,Obj.row 89 (bw e1.n e1.m e1.L e1.n)])/\(((0:Int)<=e1.a/\e1.a<(↑(e1.n):Int))/\(0:Int)<=e1.b/\e1.b<(↑(e1.n):Int))/\aC (gr e1.n e1.m e1.L
 e1.a e1.b) (K Exit.ret (sp 19 [(4,AV.int a.i)] [Obj.box 122 (AV.agg [AV.ar 1 0 e1.n,AV.ar 2 0 (List.length (bw e1.n e1.m e1.L e1.n))]),Obj.rows 38 3 (dE
 e1.L) none,Obj.row 89 (bw e1.n e1.m e1.L e1.n),Obj.box 87 z3,Obj.box 25 z1,Obj.box 66 (aq a),Obj.box 94 z6,Obj.box 3 (AV.int h)])) (∃(e0:Nat),e0<n/\
 I e0 (sp 19 [(0,AV.ad 72 a.bl),(1,AV.bQ 80 [AV.ptr 4 0 [] 0,AV.ptr 6 0 [] 0,AV.ptr 3 0 [] 0,AV.ptr 7 0 [] 0]),(7,AV.int (↑z5:Int)),(8,AV.int z4)]
 [Obj.box 122 (AV.agg [AV.ar 1 0 e1.n,AV.ar 2 0 (List.length (bw e1.n e1.m e1.L e1.n))]),Obj.rows 38 3 (dE e1.L) none,Obj.row 89 (bw e1.n e1.m e1.L e1.n),
 Obj.box 87 z3,Obj.box 25 z1,Obj.box 66 (aq a),Obj.box 94 z6,Obj.box 3 (AV.int h)]))) (∃(e0:Nat),e0<n/\I e0 (sp 19 [(0,AV.ad 72 a.bl),(1,AV.bQ 80
 [AV.ptr 4 0 [] 0,AV.ptr 6 0 [] 0,AV.ptr 3 0 [] 0,AV.ptr 7 0 [] 0]),(7,AV.int (↑z5:Int)),(8,AV.int z4)] [Obj.box 122 z2,Obj.rows 38 3 ls none,Obj.row
 89 fs,Obj.box 87 z3,Obj.box 25 z1,Obj.box 66 (aq a),Obj.box 94 z6,Obj.box 3 (AV.int h)])))) (K (Exit.exit 0) (sp 19 [] [Obj.box 122 z2,Obj.rows 38 3 ls
 none,Obj.row 89 fs,Obj.box 87 z3,Obj.box 25 z1,Obj.box 66 (aq a),Obj.box 94 z6,Obj.box 3 (AV.int h)]))):=by kernel_rfl
abbrev Ob(x:A7):S:=(sp 19 [(0, .ad 72 x.a.bl),(1, .bQ 80 [.ptr 4 0 [] 0, .ptr 6 0 [] 0, .ptr 3 0 [] 0, .ptr 7 0 [] 0]),(7, .int x.a.bl.length),(8, .int x.a.i)] (tw x.n (dE x.L) (bw x.n x.m x.L x.n)++[.box 87 (.ptr 0 0 [] 0), .box 25 (gS x.ds x.rs), .box 66 (aq x.a), .box 94 (.bQ 73 []), .box 3 (.int x.h)]))
def FG(x:A7):Out (Exit×S):= .all (fun j:Int=>0<=j) fun j=> .aC (iT jc x.n x.m x.L x.ds x.h (x.a.bl.drop x.a.i.toNat))
 (.one (.ret,sp 19 [(4, .int j)] (nP x.n x.m x.L++[.box 87 (.ptr 0 0 [] 0), .box 25 (gS x.ds x.rs), .box 66 (aq x.a), .box 94 (.bQ 73 []), .box 3 (.int x.h)])))
 (.one (.exit 0,sp 19 [] (nP x.n x.m x.L++[.box 87 (.ptr 0 0 [] 0), .box 25 (gS x.ds x.rs), .box 66 (aq x.a), .box 94 (.bQ 73 []), .box 3 (.int x.h)])))
theorem lAb(κ:Kp):bk (Ev κ) 12 128 2 (aP 8 Ob (sg jc) FG):=by
 refine aL (fun x=>x.a.bl.length - x.a.i.toNat) ?_
 rintro⟨n,m,L,ds,rs,⟨xs,more,rel,hl,bl,line,i⟩,h⟩ K ⟨hh,hd,hb,h0,h1,hm⟩ ho
 simp only at hh hd hb h0 h1 hm
 rw[show(Ev κ).P=Pr κ from rfl]
 refine Eq.mpr (xAb κ n (dE L) ds rs (bw n m L n) ⟨xs,more,rel,hl,bl,line,i⟩ h _ _ K) ?_
 simp only[aM] at hb
 rw[af,an,aa3,aa2,aa2,aa4]
 refine⟨fun hi=>⟨⟨h0,hi⟩,(ds,toStr (ae (ae (nth bl i.toNat) 1) 0)),rfl,hd,toInt (ae (nth bl i.toNat) 0),rfl,trivial,?_⟩,fun hi=>?_⟩
 ·have hi:i<(bl.length:Int):=hi
  have hk:i.toNat<bl.length:=by omega
  have hx:nth bl i.toNat∈bl:=by rw[aZ _ _ hk];exact List.getElem_mem _
  have hs:iT jc n m L ds h (bl.drop i.toNat)=((jc (toInt (ae (nth bl i.toNat) 0))&&gr n m L h (bD (toStr (ae (ae (nth bl i.toNat) 1) 0)) ds))||iT jc n m L ds h (bl.drop (i.toNat+1))):=by
   rw[ab3 hk,←aZ bl i.toNat hk];rfl
  have next:(jc (toInt (ae (nth bl i.toNat) 0))&&gr n m L h (bD (toStr (ae (ae (nth bl i.toNat) 1) 0)) ds))=false->∃k,k<bl.length - i.toNat/\eY Ob (sg jc) FG (fun x=>x.a.bl.length - x.a.i.toNat) K k (Ob ⟨n,m,L,ds,rs,⟨xs,more,rel,hl,bl,line,i+1⟩,h⟩):=fun e=>by
   rw[e,Bool.false_or] at hs
   refine⟨_,?_,⟨n,m,L,ds,rs,⟨xs,more,rel,hl,bl,line,i+1⟩,h⟩,rfl,⟨hh,hd,by simpa[aM] using hb,by simp only;omega,by simp only;omega,hm⟩,rfl,?_⟩
   ·simp only;omega
   ·simp only[FG,Out.run,show(i+1).toNat=i.toNat+1 by omega,←hs]
    exact ho
  rw[aW (n:=i+1) (by omega) (by omega),af]
  refine⟨fun e=>⟨⟨n,m,L,h,bD (toStr (ae (ae (nth bl i.toNat) 1) 0)) ds⟩,rfl,⟨hh,hm _ hx e⟩,?_⟩,fun e=>?_⟩
  ·rw[af]
   refine⟨fun e2=>?_,fun e2=>?_⟩
   ·have:=ho i h0
    simp only at e2
    simp only[Out.run] at this
    rw[hs,e,e2] at this
    exact this
   ·exact next (by rw[e,ac1];exact e2)
  ·exact next (by rw[e,Bool.false_and])
 ·have:=ho 0 (by omega)
  simp only at hi
  simp only[Out.run] at this
  rw[ab0 (by omega)] at this
  exact this
def XP(s:S):Bool:=match az s.st 6 with| .box _ (.bQ f _)=>Nat.beq f 44|_=>false
noncomputable def SA(κ:Kp):Env:=(Ev κ).ak 128 2 (qH XP (aP 8 NH (sg fH) GK) (aP 8 Ob (sg jc) FG))
theorem eAl(κ:Kp):aD (SA κ):=(eIb κ).ak (mIb κ) (nv (lAa κ) (lAb κ))
theorem Zc(κ:Kp):aj (SA κ):=(mIb κ).ak (kE aI aI)
theorem yAa(κ:Kp)(N:Nat)(ls:List (List Value))(ds rs fs:List AV)(a:cq)(K:AV->List Dn.Obj->Prop):(bf (SA κ) 12 43 [.ptr 0 0 [] 0,gS ds rs,aq a, .bQ 44 []] (tw N ls fs) K)=(
 letI z1:=Pg.toProgram (Env.P (Ev κ))
 ∃(e2:List AV×ByteArray),([AV.ad 61 ds,AV.str a.rel],aJ)=([AV.ad 61 e2.1,AV.str e2.2],aJ)/\gK e2/\ah z1 128 2=ah z1 128 2/\∃(e1:A7),sp 19
 [(0,AV.ad 72 a.bl),(1,AV.bQ 80 [AV.ptr 4 0 [] 0,AV.ptr 6 0 [] 0,AV.ptr 3 0 [] 0,AV.ptr 7 0 [] 0]),(7,AV.int (↑(a.bl.length):Int)),(8,AV.int 0)]
 [Obj.box 122 (AV.agg [AV.ar 1 0 N,AV.ar 2 0 fs.length]),Obj.rows 38 3 ls none,Obj.row 89 fs,Obj.box 87 (AV.ptr 0 0 [] 0),Obj.box 25 (AV.agg [AV.ad 61 ds,
 AV.ad 66 rs]),Obj.box 66 (aq a),Obj.box 94 (AV.bQ 44 []),Obj.box 3 (AV.int (bD e2.2 e2.1))]=sp 19 [(0,AV.ad 72 e1.a.bl),(1,AV.bQ 80 [AV.ptr 4 0 [] 0,
 AV.ptr 6 0 [] 0,AV.ptr 3 0 [] 0,AV.ptr 7 0 [] 0]),(7,AV.int (↑(List.length e1.a.bl):Int)),(8,AV.int e1.a.i)] [Obj.box 122 (AV.agg [AV.ar 1 0 e1.n,AV.ar
 2 0 (List.length (bw e1.n e1.m e1.L e1.n))]),Obj.rows 38 3 (dE e1.L) none,Obj.row 89 (bw e1.n e1.m e1.L e1.n),Obj.box 87 (AV.ptr 0 0 [] 0),Obj.box 25
 (AV.agg [AV.ad 61 e1.ds,AV.ad 66 e1.rs]),Obj.box 66 (aq e1.a),Obj.box 94 (AV.bQ 44 []),Obj.box 3 (AV.int e1.h)]/\(((0:Int)<=e1.h/\e1.h<(↑(e1.n):
 Int))/\e1.ds.length<=9223372036854775807/\List.length e1.a.bl<=9223372036854775807/\(0:Int)<=e1.a.i/\e1.a.i<=(↑(List.length e1.a.bl):Int)/\∀(e0:
 AV),List.Mem e0 e1.a.bl->fH (toInt (ae e0 0))=true->(0:Int)<=bD (toStr (ae (ae e0 1) 0)) e1.ds/\bD (toStr (ae (ae e0 1) 0)) e1.ds<(↑(e1.n):Int))/\
 ∀(e0:Int),(0:Int)<=e0->aC (iT fH e1.n e1.m e1.L e1.ds e1.h (List.drop (Int.toNat e1.a.i) e1.a.bl)) (K (AV.bool (decide (e0>=(0:Int)))) [Obj.box 122
 (AV.agg [AV.ar 1 0 e1.n,AV.ar 2 0 (List.length (bw e1.n e1.m e1.L e1.n))]),Obj.rows 38 3 (dE e1.L) none,Obj.row 89 (bw e1.n e1.m e1.L e1.n)]) (K (AV.bool
 false) [Obj.box 122 (AV.agg [AV.ar 1 0 e1.n,AV.ar 2 0 (List.length (bw e1.n e1.m e1.L e1.n))]),Obj.rows 38 3 (dE e1.L) none,Obj.row 89 (bw e1.n e1.m e1.L
 e1.n)])):=by kernel_rfl
def yK(x:A7):List AV×List Dn.Obj:=([.ptr 0 0 [] 0,gS x.ds x.rs,aq x.a, .bQ 44 []],nP x.n x.m x.L)
def EF(x:A7):Out (AV×List Dn.Obj):= .one (.bool (iT fH x.n x.m x.L x.ds x.h x.a.bl),nP x.n x.m x.L)
theorem cAa(κ:Kp):bz (SA κ) 12 43 (aR yK (zQ fH) EF):=by
 refine bg ?_
 rintro⟨n,m,L,ds,rs,⟨xs,more,rel,hl,bl,line,i⟩,h⟩ K ⟨he,hh,hd,hb,hm⟩ ho
 simp only at he hh hd hb hm
 refine Eq.mpr (yAa κ n (dE L) ds rs (bw n m L n) ⟨xs,more,rel,hl,bl,line,i⟩ K) ?_
 simp only[EF,Out.run] at ho
 refine⟨(ds,rel),rfl,hd,rfl,⟨n,m,L,ds,rs,⟨xs,more,rel,hl,bl,line,0⟩,h⟩,by simp only[he],⟨hh,hd,hb,by simp only;omega,by simp only;omega,hm⟩,fun j hj=>?_⟩
 show aC (iT fH n m L ds h bl) (K (.bool (decide (j>=0))) (nP n m L)) (K (.bool false) (nP n m L))
 rw[af,aa8 (show j>=0 from hj)]
 exact⟨fun e=>by rw[e] at ho;exact ho,fun e=>by rw[e] at ho;exact ho⟩
theorem yAb(κ:Kp)(N:Nat)(ls:List (List Value))(ds rs fs:List AV)(a:cq)(K:AV->List Dn.Obj->Prop):(bf (SA κ) 12 43 [.ptr 0 0 [] 0,gS ds rs,aq a, .bQ 73 []] (tw N ls fs) K)=(
 letI z1:=Pg.toProgram (Env.P (Ev κ))
 ∃(e2:List AV×ByteArray),([AV.ad 61 ds,AV.str a.rel],aJ)=([AV.ad 61 e2.1,AV.str e2.2],aJ)/\gK e2/\ah z1 128 2=ah z1 128 2/\∃(e1:A7),sp 19
 [(0,AV.ad 72 a.bl),(1,AV.bQ 80 [AV.ptr 4 0 [] 0,AV.ptr 6 0 [] 0,AV.ptr 3 0 [] 0,AV.ptr 7 0 [] 0]),(7,AV.int (↑(a.bl.length):Int)),(8,AV.int 0)]
 [Obj.box 122 (AV.agg [AV.ar 1 0 N,AV.ar 2 0 fs.length]),Obj.rows 38 3 ls none,Obj.row 89 fs,Obj.box 87 (AV.ptr 0 0 [] 0),Obj.box 25 (AV.agg [AV.ad 61 ds,
 AV.ad 66 rs]),Obj.box 66 (aq a),Obj.box 94 (AV.bQ 73 []),Obj.box 3 (AV.int (bD e2.2 e2.1))]=sp 19 [(0,AV.ad 72 e1.a.bl),(1,AV.bQ 80 [AV.ptr 4 0 [] 0,
 AV.ptr 6 0 [] 0,AV.ptr 3 0 [] 0,AV.ptr 7 0 [] 0]),(7,AV.int (↑(List.length e1.a.bl):Int)),(8,AV.int e1.a.i)] [Obj.box 122 (AV.agg [AV.ar 1 0 e1.n,AV.ar
 2 0 (List.length (bw e1.n e1.m e1.L e1.n))]),Obj.rows 38 3 (dE e1.L) none,Obj.row 89 (bw e1.n e1.m e1.L e1.n),Obj.box 87 (AV.ptr 0 0 [] 0),Obj.box 25
 (AV.agg [AV.ad 61 e1.ds,AV.ad 66 e1.rs]),Obj.box 66 (aq e1.a),Obj.box 94 (AV.bQ 73 []),Obj.box 3 (AV.int e1.h)]/\(((0:Int)<=e1.h/\e1.h<(↑(e1.n):
 Int))/\e1.ds.length<=9223372036854775807/\List.length e1.a.bl<=9223372036854775807/\(0:Int)<=e1.a.i/\e1.a.i<=(↑(List.length e1.a.bl):Int)/\∀(e0:
 AV),List.Mem e0 e1.a.bl->jc (toInt (ae e0 0))=true->(0:Int)<=bD (toStr (ae (ae e0 1) 0)) e1.ds/\bD (toStr (ae (ae e0 1) 0)) e1.ds<(↑(e1.n):Int))/\
 ∀(e0:Int),(0:Int)<=e0->aC (iT jc e1.n e1.m e1.L e1.ds e1.h (List.drop (Int.toNat e1.a.i) e1.a.bl)) (K (AV.bool (decide (e0>=(0:Int)))) [Obj.box 122
 (AV.agg [AV.ar 1 0 e1.n,AV.ar 2 0 (List.length (bw e1.n e1.m e1.L e1.n))]),Obj.rows 38 3 (dE e1.L) none,Obj.row 89 (bw e1.n e1.m e1.L e1.n)]) (K (AV.bool
 false) [Obj.box 122 (AV.agg [AV.ar 1 0 e1.n,AV.ar 2 0 (List.length (bw e1.n e1.m e1.L e1.n))]),Obj.rows 38 3 (dE e1.L) none,Obj.row 89 (bw e1.n e1.m e1.L
 e1.n)])):=by kernel_rfl
def P5(x:A7):List AV×List Dn.Obj:=([.ptr 0 0 [] 0,gS x.ds x.rs,aq x.a, .bQ 73 []],nP x.n x.m x.L)
def ES(x:A7):Out (AV×List Dn.Obj):= .one (.bool (iT jc x.n x.m x.L x.ds x.h x.a.bl),nP x.n x.m x.L)
theorem cAb(κ:Kp):bz (SA κ) 12 43 (aR P5 (zQ jc) ES):=by
 refine bg ?_
 rintro⟨n,m,L,ds,rs,⟨xs,more,rel,hl,bl,line,i⟩,h⟩ K ⟨he,hh,hd,hb,hm⟩ ho
 simp only at he hh hd hb hm
 refine Eq.mpr (yAb κ n (dE L) ds rs (bw n m L n) ⟨xs,more,rel,hl,bl,line,i⟩ K) ?_
 simp only[ES,Out.run] at ho
 refine⟨(ds,rel),rfl,hd,rfl,⟨n,m,L,ds,rs,⟨xs,more,rel,hl,bl,line,0⟩,h⟩,by simp only[he],⟨hh,hd,hb,by simp only;omega,by simp only;omega,hm⟩,fun j hj=>?_⟩
 show aC (iT jc n m L ds h bl) (K (.bool (decide (j>=0))) (nP n m L)) (K (.bool false) (nP n m L))
 rw[af,aa8 (show j>=0 from hj)]
 exact⟨fun e=>by rw[e] at ho;exact ho,fun e=>by rw[e] at ho;exact ho⟩
def KC(sel:List AV->Bool)(a b:dw):dw:=fun args st K=>bif sel args then a args st K else b args st K
theorem IZ{sel:List AV->Bool}{a b:dw}(ha:a.jk)(hb:b.jk):(KC sel a b).jk:=fun args st K K' hK h=>by
 unfold KC at h⊢
 cases hs:sel args<;>simp only[hs] at h⊢
 ·exact hb _ _ _ _ hK h
 ·exact ha _ _ _ _ hK h
theorem Nu{E:Env}{N f:Nat}{sel:List AV->Bool}{a b:dw}(ha:bz E N f a)(hb:bz E N f b):bz E N f (KC sel a b):=fun args st K h=>by
 unfold KC at h
 cases hs:sel args<;>rw[hs] at h
 ·exact hb _ _ _ h
 ·exact ha _ _ _ h
def YH:List AV->Bool
 |[_,_,_, .bQ f _]=>Nat.beq f 44
 |_=>false
noncomputable def Ey(κ:Kp):Env:=(SA κ).ay 43 (KC YH (aR yK (zQ fH) EF) (aR P5 (zQ jc) ES))
theorem eAg(κ:Kp):aD (Ey κ):=(eAl κ).ay (Zc κ) (Nu (cAa κ) (cAb κ))
theorem ZN(κ:Kp):aj (Ey κ):=(Zc κ).ay (IZ aK aK)
theorem xLy(κ:Kp)(N i:Nat)(ls:List (List Value))(ds rs fs:List AV)(I:Nat->S->Prop)(n:Nat)(K:Exit->S->Prop):(vc (Ey κ) 12 38 none 3 (ah (Pr κ).toProgram 38 2) (sp 38 [(0, .ptr 0 0 [] 0),(3, .ptr 3 0 [] 0),(11, .ad 66 rs),(12, .int rs.length),(13, .int i)] (tw N ls fs++[.box 25 (gS ds rs)])) (bL (Ey κ) 38 2 3 I n K))=(
 letI z1:=nth rs (Int.toNat (↑i:Int))
 letI z2:=IntKind.wrap IntKind.i64 ((↑i:Int)+(1:Int))
 letI z3:=AV.agg [AV.ad 61 ds,AV.ad 66 rs]
 letI z4:=toInt (ae z1 2)
 letI z5:=toStr (ae (ae z1 0) 0)
 letI z6:=AV.agg [AV.ar 1 0 N,AV.ar 2 0 fs.length]
 letI z7:=(↑i:Int)<(↑(rs.length):Int)
 letI z8:=ai (ae (ae z1 0) 1)
 letI z9:=ai (ae z1 1)
 aC (decide z7) (ba (true&&decide z7) (∃(e3:A7),([AV.ptr 0 0 [] 0,AV.agg [AV.ad 61 ds,AV.ad 66 rs],AV.agg [AV.agg [AV.str z5,AV.ad 56 z8],AV.ad 72 z9,
 AV.int z4],AV.bQ 73 []],[Obj.box 122 z6,Obj.rows 38 3 ls none,Obj.row 89 fs])=([AV.ptr 0 0 [] 0,AV.agg [AV.ad 61 e3.ds,AV.ad 66 e3.rs],aq e3.a,AV.bQ
 73 []],[Obj.box 122 (AV.agg [AV.ar 1 0 e3.n,AV.ar 2 0 (List.length (bw e3.n e3.m e3.L e3.n))]),Obj.rows 38 3 (dE e3.L) none,Obj.row 89 (bw e3.n e3.m e3.L
 e3.n)])/\(e3.h=bD e3.a.rel e3.ds/\((0:Int)<=e3.h/\e3.h<(↑(e3.n):Int))/\e3.ds.length<=9223372036854775807/\List.length e3.a.bl<=
 9223372036854775807/\∀(e0:AV),List.Mem e0 e3.a.bl->jc (toInt (ae e0 0))=true->(0:Int)<=bD (toStr (ae (ae e0 1) 0)) e3.ds/\bD (toStr (ae (ae e0 1)
 0)) e3.ds<(↑(e3.n):Int))/\aC (iT jc e3.n e3.m e3.L e3.ds e3.h e3.a.bl) (K Exit.ret (sp 38 [(4,AV.int z4),(5,AV.int 70)] [Obj.box 122 (AV.agg [AV.ar 1 0
 e3.n,AV.ar 2 0 (List.length (bw e3.n e3.m e3.L e3.n))]),Obj.rows 38 3 (dE e3.L) none,Obj.row 89 (bw e3.n e3.m e3.L e3.n)])) (∃(e2:cq),([AV.agg [AV.agg
 [AV.str z5,AV.ad 56 z8],AV.ad 72 z9,AV.int z4]],aJ)=([aq e2],aJ)/\(aO (aa (bn 56 e2.hl e2.bl))<=100000/\e2.bl.length<=100000)/\aC (aQ (aH e2)) (aC
 (iP (aH e2)) (aC (KE (aH e2)) (∃(e1:A7),([AV.ptr 0 0 [] 0,AV.agg [AV.ad 61 ds,AV.ad 66 rs],AV.agg [AV.agg [AV.str z5,AV.ad 56 z8],AV.ad 72 z9,AV.int
 z4],AV.bQ 44 []],[Obj.box 122 (AV.agg [AV.ar 1 0 e3.n,AV.ar 2 0 (List.length (bw e3.n e3.m e3.L e3.n))]),Obj.rows 38 3 (dE e3.L) none,Obj.row 89 (bw e3.n
 e3.m e3.L e3.n)])=([AV.ptr 0 0 [] 0,AV.agg [AV.ad 61 e1.ds,AV.ad 66 e1.rs],aq e1.a,AV.bQ 44 []],[Obj.box 122 (AV.agg [AV.ar 1 0 e1.n,AV.ar 2 0
 (List.length (bw e1.n e1.m e1.L e1.n))]),Obj.rows 38 3 (dE e1.L) none,Obj.row 89 (bw e1.n e1.m e1.L e1.n)])/\(e1.h=bD e1.a.rel e1.ds/\((0:Int)<=e1.h/\
 e1.h<(↑(e1.n):Int))/\e1.ds.length<=9223372036854775807/\List.length e1.a.bl<=9223372036854775807/\∀(e0:AV),List.Mem e0 e1.a.bl->fH (toInt (ae e0
 0))=true->(0:Int)<=bD (toStr (ae (ae e0 1) 0)) e1.ds/\bD (toStr (ae (ae e0 1) 0)) e1.ds<(↑(e1.n):Int))/\aC (iT fH e1.n e1.m e1.L e1.ds e1.h e1.a.bl)
 (K Exit.ret (sp 38 [(4,AV.int z4),(5,AV.int 71)] [Obj.box 122 (AV.agg [AV.ar 1 0 e1.n,AV.ar 2 0 (List.length (bw e1.n e1.m e1.L e1.n))]),Obj.rows 38 3 (dE
 e1.L) none,Obj.row 89 (bw e1.n e1.m e1.L e1.n)])) (∃(e0:Nat),e0<n/\I e0 (sp 38 [(0,AV.ptr 0 0 [] 0),(3,AV.ptr 3 0 [] 0),(11,AV.ad 66 rs),(12,
 AV.int (↑(rs.length):Int)),(13,AV.int z2)] [Obj.box 122 (AV.agg [AV.ar 1 0 e1.n,AV.ar 2 0 (List.length (bw e1.n e1.m e1.L e1.n))]),Obj.rows 38 3 (dE e1.L)
 none,Obj.row 89 (bw e1.n e1.m e1.L e1.n),Obj.box 25 z3]))) (∃(e0:Nat),e0<n/\I e0 (sp 38 [(0,AV.ptr 0 0 [] 0),(3,AV.ptr 3 0 [] 0),(11,AV.ad 66 rs),
 (12,AV.int (↑(rs.length):Int)),(13,AV.int z2)] [Obj.box 122 (AV.agg [AV.ar 1 0 e3.n,AV.ar 2 0 (List.length (bw e3.n e3.m e3.L e3.n))]),Obj.rows 38 3 (dE
 e3.L) none,Obj.row 89 (bw e3.n e3.m e3.L e3.n),Obj.box 25 z3]))) (∃(e0:Nat),e0<n/\I e0 (sp 38 [(0,AV.ptr 0 0 [] 0),(3,AV.ptr 3 0 [] 0),(11,AV.ad
 66 rs),(12,AV.int (↑(rs.length):Int)),(13,AV.int z2)] [Obj.box 122 (AV.agg [AV.ar 1 0 e3.n,AV.ar 2 0 (List.length (bw e3.n e3.m e3.L e3.n))]),Obj.rows
 38 3 (dE e3.L) none,Obj.row 89 (bw e3.n e3.m e3.L e3.n),Obj.box 25 z3]))) (∃(e0:Nat),e0<n/\I e0 (sp 38 [(0,AV.ptr 0 0 [] 0),(3,AV.ptr 3 0 [] 0),
 (11,AV.ad 66 rs),(12,AV.int (↑(rs.length):Int)),(13,AV.int z2)] [Obj.box 122 (AV.agg [AV.ar 1 0 e3.n,AV.ar 2 0 (List.length (bw e3.n e3.m e3.L e3.n))]),
 Obj.rows 38 3 (dE e3.L) none,Obj.row 89 (bw e3.n e3.m e3.L e3.n),Obj.box 25 z3]))))) (K (Exit.exit 0) (sp 38 [] [Obj.box 122 z6,Obj.rows 38 3 ls none,
 Obj.row 89 fs]))):=by kernel_rfl
theorem xLz(κ:Kp)(ls:List (List Value))(ds:List AV)(I:Nat->S->Prop)(n:Nat)(K:Exit->S->Prop):(vc (Ey κ) 12 38 none 2 (ah (Pr κ).toProgram 38 2) (sp 38 [(0, .ptr 0 0 [] 0),(3, .ptr 2 0 [] 0),(11, .ad 66 []),(12, .int 0),(13, .int 0)] (xt 0 ls++[.box 25 (gS ds [])])) (bL (Ey κ) 38 2 2 I n K))=(
 K (Exit.exit 0) (sp 38 [] [Obj.box 122 (AV.agg [AV.ar 1 0 0,AV.nil]),Obj.rows 38 3 ls none])):=by kernel_rfl
def y5(r:AV):Bool:=aQ (aH (dW r))&&iP (aH (dW r))&&KE (aH (dW r))
def uq(ds:List AV)(r:AV):Int:=bD (toStr (ae (ae r 0) 0)) ds
def FP(isf:Int->Bool)(n m:Nat)(L:Gr)(ds:List AV)(r:AV):Bool:=iT isf n m L ds (uq ds r) (ai (ae r 1))
def xm(n m:Nat)(L:Gr)(ds:List AV):List AV->Int×Int
 |[]=>(0,0)
 |r::rs=>bif FP jc n m L ds r then(toInt (ae r 2),70) else bif y5 r&&FP fH n m L ds r then(toInt (ae r 2),71) else xm n m L ds rs
structure BN(n:Nat)(ds:List AV)(r:AV):Prop where
 hd:0<=uq ds r/\uq ds r<n
 at_: ∀l,l∈ai (ae r 1)->dX (toInt (ae l 0))=true->0<=bD (toStr (ae (ae l 1) 0)) ds/\bD (toStr (ae (ae l 1) 0)) ds<n
 le:(ai (ae r 1)).length<=aM
 XZ:df (dW r)
theorem qU{op:Int}(h:fH op=true):dX op=true:=by
 have:op=1:=by simpa[fH] using h
 subst this;rfl
theorem J6{op:Int}(h:jc op=true):dX op=true:=by
 unfold jc at h
 unfold dX
 by_cases e:op=2
 ·subst e;rfl
 ·rw[aa6 e,aa7,aa2] at h
  cases decide (op<3)
  ·rw[aa7,aa2];omega
  ·rfl
structure PG where
 n:Nat
 m:Nat
 L:Gr
 ds:List AV
 rs:List AV
 i:Nat
abbrev O7(x:PG):S:=sp 38 [(0, .ptr 0 0 [] 0),(3, .ptr 3 0 [] 0),(11, .ad 66 x.rs),(12, .int x.rs.length),(13, .int x.i)] (nP x.n x.m x.L++[.box 25 (gS x.ds x.rs)])
def DR(x:PG):Prop:=x.ds.length<=aM/\x.rs.length<=aM/\x.i<=x.rs.length/\∀r,r∈x.rs->BN x.n x.ds r
def CA(x:PG):Out (Exit×S):= .aC (decide ((xm x.n x.m x.L x.ds (x.rs.drop x.i)).2=0))
 (.one (.exit 0,sp 38 [] (nP x.n x.m x.L)))
 (.one (.ret,sp 38 [(4, .int (xm x.n x.m x.L x.ds (x.rs.drop x.i)).1),(5, .int (xm x.n x.m x.L x.ds (x.rs.drop x.i)).2)] (nP x.n x.m x.L)))
theorem lLy(κ:Kp):bk (Ey κ) 12 38 2 (aP 3 O7 DR CA):=by
 refine aL (fun x=>x.rs.length - x.i) ?_
 rintro⟨n,m,L,ds,rs,i⟩ K ⟨hd,hr,hi,hg⟩ ho
 simp only at hd hr hi hg
 rw[show(Ey κ).P=Pr κ from rfl]
 refine Eq.mpr (xLy κ n i (dE L) ds rs (bw n m L n) _ _ K) ?_
 have ho2:=ho
 simp only[CA,Out.run,af,aa2,aa4] at ho2
 simp only[aM] at hr
 rw[af,aa2,aa4,an,ac1,aa2]
 refine⟨fun h=>⟨h,?_⟩,fun h=>?_⟩
 ·have hk:i<rs.length:=by omega
  have hx:nth rs i∈rs:=by rw[aZ _ _ hk];exact List.getElem_mem _
  have hG:=hg _ hx
  have hs:xm n m L ds (rs.drop i)=bif FP jc n m L ds (nth rs i) then(toInt (ae (nth rs i) 2),70) else bif y5 (nth rs i)&&FP fH n m L ds (nth rs i) then(toInt (ae (nth rs i) 2),71) else xm n m L ds (rs.drop (i+1)):=by
   rw[ab3 hk,←aZ rs i hk];rfl
  have next:FP jc n m L ds (nth rs i)=false->(y5 (nth rs i)&&FP fH n m L ds (nth rs i))=false->∃k,k<rs.length - i/\eY O7 DR CA (fun x=>x.rs.length - x.i) K k (O7 ⟨n,m,L,ds,rs,i+1⟩):=fun e1 e2=>by
   rw[e1,e2,aa7,aa7] at hs
   refine⟨_,?_,⟨n,m,L,ds,rs,i+1⟩,rfl,⟨hd,by simpa[aM] using hr,hk,hg⟩,rfl,?_⟩
   ·simp only;omega
   ·simp only[CA,Out.run,←hs];exact ho
  rw[Int.toNat_natCast,aW (n:=(i:Int)+1) (by omega) (by omega)]
  refine⟨⟨n,m,L,ds,rs,dW (nth rs i),uq ds (nth rs i)⟩,rfl,⟨rfl,hG.hd,hd,hG.le,fun l hl h=>hG.at_ l hl (J6 h)⟩,?_⟩
  rw[af]
  refine⟨fun e=>?_,fun e=>?_⟩
  ·have e:FP jc n m L ds (nth rs i)=true:=e
   rw[e,aa9] at hs
   have:=ho2.2 (by rw[hs];exact fun h=>nomatch h)
   rw[hs] at this
   exact this
  ·have e:FP jc n m L ds (nth rs i)=false:=e
   refine⟨dW (nth rs i),rfl,hG.XZ,?_⟩
   rw[af]
   refine⟨fun e1=>?_,fun e1=>next e (by unfold y5;rw[e1];rfl)⟩
   rw[af]
   refine⟨fun e2=>?_,fun e2=>next e (by unfold y5;rw[e1,e2];rfl)⟩
   rw[af]
   refine⟨fun e3=>?_,fun e3=>next e (by unfold y5;rw[e1,e2,e3];rfl)⟩
   have hv:y5 (nth rs i)=true:=by unfold y5;rw[e1,e2,e3];rfl
   refine⟨⟨n,m,L,ds,rs,dW (nth rs i),uq ds (nth rs i)⟩,rfl,⟨rfl,hG.hd,hd,hG.le,fun l hl h=>hG.at_ l hl (qU h)⟩,?_⟩
   rw[af]
   refine⟨fun e4=>?_,fun e4=>next e (by have e4:FP fH n m L ds (nth rs i)=false:=e4;rw[e4,Bool.and_false])⟩
   have e4:FP fH n m L ds (nth rs i)=true:=e4
   rw[e,hv,e4,aa7,Bool.and_true,aa9] at hs
   have:=ho2.2 (by rw[hs];exact fun h=>nomatch h)
   rw[hs] at this
   exact this
 ·rw[ab0 (by omega)] at ho2
  exact ho2.1 rfl
structure SC where
 ls:List (List Value)
 ds:List AV
abbrev VJ(x:SC):S:=sp 38 [(0, .ptr 0 0 [] 0),(3, .ptr 2 0 [] 0),(11, .ad 66 []),(12, .int 0),(13, .int 0)] (xt 0 x.ls++[.box 25 (gS x.ds [])])
def Qf(x:SC):Out (Exit×S):= .one (.exit 0,sp 38 [] (xt 0 x.ls))
theorem lLz(κ:Kp):bk (Ey κ) 12 38 2 (aP 2 VJ (fun _=>True) Qf):=by
 refine aL (fun _=>0) ?_
 rintro⟨ls,ds⟩ K _ ho
 rw[show(Ey κ).P=Pr κ from rfl]
 exact Eq.mpr (xLz κ ls ds _ _ K) ho
noncomputable def Su(κ:Kp):Env:=(Ey κ).ak 38 2 (qH TX (aP 3 O7 DR CA) (aP 2 VJ (fun _=>True) Qf))
theorem eLl(κ:Kp):aD (Su κ):=(eAg κ).ak (ZN κ) (nv (lLy κ) (lLz κ))
theorem Y8(κ:Kp):aj (Su κ):=(ZN κ).ak (kE aI aI)
theorem yLy(κ:Kp)(N:Nat)(ls:List (List Value))(ds rs fs:List AV)(K:AV->List Dn.Obj->Prop):(bf (Su κ) 12 38 [.ptr 0 0 [] 0,gS ds rs] (tw N ls fs) K)=(
 ah (Pg.toProgram (Env.P (Ey κ))) 38 2=ah (Pg.toProgram (Env.P (Ey κ))) 38 2/\∃(a:PG),sp 38 [(0,AV.ptr 0 0 [] 0),(3,AV.ptr 3 0 [] 0),
 (11,AV.ad 66 rs),(12,AV.int (↑(rs.length):Int)),(13,AV.int 0)] [Obj.box 122 (AV.agg [AV.ar 1 0 N,AV.ar 2 0 fs.length]),Obj.rows 38 3 ls none,
 Obj.row 89 fs,Obj.box 25 (AV.agg [AV.ad 61 ds,AV.ad 66 rs])]=sp 38 [(0,AV.ptr 0 0 [] 0),(3,AV.ptr 3 0 [] 0),(11,AV.ad 66 a.rs),(12,AV.int
 (↑(a.rs.length):Int)),(13,AV.int (↑(a.i):Int))] [Obj.box 122 (AV.agg [AV.ar 1 0 a.n,AV.ar 2 0 (List.length (bw a.n a.m a.L a.n))]),Obj.rows 38 3
 (dE a.L) none,Obj.row 89 (bw a.n a.m a.L a.n),Obj.box 25 (AV.agg [AV.ad 61 a.ds,AV.ad 66 a.rs])]/\(a.ds.length<=9223372036854775807/\a.rs.length<=
 9223372036854775807/\a.i<=a.rs.length/\∀(r:AV),List.Mem r a.rs->BN a.n a.ds r)/\aC (decide (Prod.snd (xm a.n a.m a.L a.ds (List.drop a.i a.rs))=
 (0:Int))) (K (AV.bp [AV.int 0,AV.int 0]) [Obj.box 122 (AV.agg [AV.ar 1 0 a.n,AV.ar 2 0 (List.length (bw a.n a.m a.L a.n))]),Obj.rows 38 3 (dE a.L)
 none,Obj.row 89 (bw a.n a.m a.L a.n)]) (K (AV.bp [AV.int (Prod.fst (xm a.n a.m a.L a.ds (List.drop a.i a.rs))),AV.int (Prod.snd (xm a.n a.m a.L a.ds
 (List.drop a.i a.rs)))]) [Obj.box 122 (AV.agg [AV.ar 1 0 a.n,AV.ar 2 0 (List.length (bw a.n a.m a.L a.n))]),Obj.rows 38 3 (dE a.L) none,Obj.row 89
 (bw a.n a.m a.L a.n)])):=by kernel_rfl
theorem yLz(κ:Kp)(ls:List (List Value))(ds:List AV)(K:AV->List Dn.Obj->Prop):(bf (Su κ) 12 38 [.ptr 0 0 [] 0,gS ds []] (xt 0 ls) K)=(
 letI z1:=AV.agg [AV.ar 1 0 0,AV.nil]
 letI z2:=Pg.toProgram (Env.P (Ey κ))
 ah z2 38 2=ah z2 38 2/\∃(e0:SC),sp 38 [(0,AV.ptr 0 0 [] 0),(3,AV.ptr 2 0 [] 0),(11,AV.ad 66 []),(12,AV.int 0),(13,AV.int 0)] [Obj.box 122 z1,
 Obj.rows 38 3 ls none,Obj.box 25 (AV.agg [AV.ad 61 ds,AV.ad 66 []])]=sp 38 [(0,AV.ptr 0 0 [] 0),(3,AV.ptr 2 0 [] 0),(11,AV.ad 66 []),(12,AV.int 0),
 (13,AV.int 0)] [Obj.box 122 z1,Obj.rows 38 3 e0.ls none,Obj.box 25 (AV.agg [AV.ad 61 e0.ds,AV.ad 66 []])]/\True/\K (AV.bp [AV.int 0,AV.int 0]) [Obj.box
 122 z1,Obj.rows 38 3 e0.ls none]):=by kernel_rfl
def Qi(x:PG):List AV×List Dn.Obj:=([.ptr 0 0 [] 0,gS x.ds x.rs],nP x.n x.m x.L)
def GC(x:PG):Prop:=x.ds.length<=aM/\x.rs.length<=aM/\∀r,r∈x.rs->BN x.n x.ds r
def D7(x:PG):Out (AV×List Dn.Obj):= .one (.bp [.int (xm x.n x.m x.L x.ds x.rs).1, .int (xm x.n x.m x.L x.ds x.rs).2],nP x.n x.m x.L)
theorem Cb(n m:Nat)(L:Gr)(ds:List AV): ∀rs:List AV,(xm n m L ds rs).2=0->xm n m L ds rs=(0,0)
 |[],_=>rfl
 | r::rs,h=>by
  rw[xm] at h⊢
  cases e:FP jc n m L ds r with
  |true=>rw[e,aa9] at h;cases h
  | false=>
   rw[e,aa7] at h
   rw[aa7]
   cases e2:y5 r&&FP fH n m L ds r with
   |true=>rw[e2,aa9] at h;cases h
   |false=>
    rw[e2,aa7] at h
    rw[aa7]
    exact Cb n m L ds rs h
theorem cLy(κ:Kp):bz (Su κ) 12 38 (aR Qi GC D7):=by
 refine bg ?_
 rintro⟨n,m,L,ds,rs,i⟩ K ⟨hd,hr,hg⟩ ho
 refine Eq.mpr (yLy κ n (dE L) ds rs (bw n m L n) K) ?_
 refine⟨rfl,⟨n,m,L,ds,rs,0⟩,rfl,⟨hd,hr,Nat.zero_le _,hg⟩,?_⟩
 simp only[D7,Out.run] at ho
 rw[ab2,af]
 refine⟨fun e=>?_,fun _=>ho⟩
 rw[Cb n m L ds rs (of_decide_eq_true e)] at ho
 exact ho
def P8(x:SC):List AV×List Dn.Obj:=([.ptr 0 0 [] 0,gS x.ds []],xt 0 x.ls)
def Mr(x:SC):Out (AV×List Dn.Obj):= .one (.bp [.int 0, .int 0],xt 0 x.ls)
theorem cLz(κ:Kp):bz (Su κ) 12 38 (aR P8 (fun _=>True) Mr):=by
 refine bg ?_
 rintro⟨ls,ds⟩ K _ ho
 refine Eq.mpr (yLz κ ls ds K) ?_
 exact⟨rfl,⟨ls,ds⟩,rfl,trivial,ho⟩
noncomputable def UA(κ:Kp):Env:=(Su κ).ay 38 (EV VP (aR Qi GC D7) (aR P8 (fun _=>True) Mr))
theorem eLy(κ:Kp):aD (UA κ):=(eLl κ).ay (Y8 κ) (An (cLy κ) (cLz κ))
theorem mLy(κ:Kp):aj (UA κ):=(Y8 κ).ay (r5 aK aK)
theorem yCk(κ:Kp)(ds rs:List AV)(a b n:Int)(K:AV->List Dn.Obj->Prop):(bf (UA κ) 12 42 [gS ds rs, .int a, .int b, .int n] [] K)=(
 ∃(e1:sm),([AV.agg [AV.ad 61 ds,AV.ad 66 rs]],aJ)=([AV.agg [AV.ad 61 e1.1,AV.ad 66 e1.2]],aJ)/\(e1.1.length<=9223372036854775807/\e1.2.length<=
 9223372036854775807/\∀(e0:AV),List.Mem e0 e1.2->aO (aa (bn 56 (cq.hl (dW e0)) (cq.bl (dW e0))))<=100000/\List.length (cq.bl (dW e0))<=100000)/\aC
 (Prod.snd (ft e1.1 e1.2)==(0:Int)) (aC (decide ((if b<a then b else a)<(0:Int))) (K (AV.int 2) []) (aC (decide ((if b>a then b else a)>=n)) (K
 (AV.int 2) []) (K (AV.int (Prod.snd (ft e1.1 e1.2))) []))) (K (AV.int (Prod.snd (ft e1.1 e1.2))) [])):=by kernel_rfl
def Ix(a b n:Int):Bool:=(decide (0<=a)&&decide (a<n))&&(decide (0<=b)&&decide (b<n))
def qn(ds rs:List AV)(a b n:Int):Int:=bif decide ((ft ds rs).2=0) then(bif Ix a b n then 0 else 2) else(ft ds rs).2
structure Wk where
 ds:List AV
 rs:List AV
 a:Int
 b:Int
 n:Int
def Rk(x:Wk):List AV×List Dn.Obj:=([gS x.ds x.rs, .int x.a, .int x.b, .int x.n],[])
def Ft(x:Wk):Prop:=eX x.ds x.rs
def ME(x:Wk):Out (AV×List Dn.Obj):= .one (.int (qn x.ds x.rs x.a x.b x.n),[])
theorem cCk(κ:Kp):bz (UA κ) 12 42 (aR Rk Ft ME):=by
 refine bg ?_
 rintro⟨ds,rs,a,b,n⟩ K hs ho
 refine Eq.mpr (yCk κ ds rs a b n K) ?_
 simp only[ME,Out.run,qn] at ho
 refine⟨(ds,rs),rfl,hs,?_⟩
 simp only[Qd,af,aa2,aa4]
 refine⟨fun e=>?_,fun e=>?_⟩
 ·rw[aa8 e,aa9] at ho
  by_cases h1:Ix a b n=true
  ·have h2:=h1
   simp only[Ix,aa3,aa2] at h2
   rw[h1,aa9] at ho
   refine⟨fun h=>?_,fun _=>⟨fun h=>?_,fun _=>by rw[e];exact ho⟩⟩
   ·split at h<;>omega
   ·split at h<;>omega
  ·have h2:=h1
   simp only[Ix,aa3,aa2] at h2
   rw[(by simpa using h1:Ix a b n=false),aa7] at ho
   refine⟨fun _=>ho,fun h3=>⟨fun _=>ho,fun h4=>?_⟩⟩
   exfalso
   apply h2
   split at h3<;>split at h4<;>omega
 ·rw[aa6 e,aa7] at ho
  exact ho
noncomputable def Pk(κ:Kp):Env:=(UA κ).ay 42 (aR Rk Ft ME)
theorem eCk(κ:Kp):aD (Pk κ):=(eLy κ).ay (mLy κ) (cCk κ)
theorem Y3(κ:Kp):aj (Pk κ):=(mLy κ).ay aK
theorem xGi(κ:Kp)(N i:Nat)(ls:List (List Value))(fs gs l:List AV)(es:List (Value×AV))(I:Nat->S->Prop)(n:Nat)(K:Exit->S->Prop):(vc (Pk κ) 12 15 none 0 (ah (Pr κ).toProgram 15 15) (sp 63 [(7, .ptr 0 0 [] 0),(10, .ar 3 0 gs.length),(11, .mp 4),(13, .ad 3 l),(49, .ad 3 l),(50, .int l.length),(51, .int i)] (tw N ls fs++[.row 38 gs, .map 3 4 es])) (bL (Pk κ) 15 15 0 I n K))=(
 letI z1:=AV.agg [AV.ar 1 0 N,AV.ar 2 0 fs.length]
 letI z2:=(↑i:Int)<(↑(l.length):Int)
 aC (decide z2) (ba (true&&decide z2) (∃(e0:Nat),e0<n/\I e0 (sp 63 [(7,AV.ptr 0 0 [] 0),(10,AV.ar 3 0 gs.length),(11,AV.mp 4),(13,AV.ad 3 l),
 (49,AV.ad 3 l),(50,AV.int (↑(l.length):Int)),(51,AV.int (IntKind.wrap IntKind.i64 ((↑i:Int)+(1:Int))))] [Obj.box 122 z1,Obj.rows 38 3 ls none,
 Obj.row 89 fs,Obj.row 38 gs,Dn.Obj.map 3 4 (ff es (Value.int IntKind.i64 (toInt (nth l (Int.toNat (↑i:Int))))) (AV.bool true))]))) (K (Exit.exit 2) (sp 63
 [(7,AV.ptr 0 0 [] 0),(10,AV.ar 3 0 gs.length),(11,AV.mp 4),(13,AV.ad 3 l)] [Obj.box 122 z1,Obj.rows 38 3 ls none,Obj.row 89 fs,Obj.row 38 gs,
 Dn.Obj.map 3 4 es]))):=by kernel_rfl
def lW(gs:List (List Int)):List AV:=gs.map fun g=> .ad 3 (iA g)
theorem NX(a b:List (List Int)):lW (a++b)=lW a++lW b:=by simp[lW]
theorem tV(a:List (List Int)):(lW a).length=a.length:=by simp[lW]
structure Wb where
 n:Nat
 m:Nat
 L:Gr
 gs:List (List Int)
 l:List Int
 done:List Int
 i:Nat
abbrev Rt(x:Wb):S:=sp 63 [(7, .ptr 0 0 [] 0),(10, .ar 3 0 (lW x.gs).length),(11, .mp 4),(13, .ad 3 (iA x.l)),(49, .ad 3 (iA x.l)),(50, .int (iA x.l).length),(51, .int x.i)] (nP x.n x.m x.L++[.row 38 (lW x.gs), .map 3 4 (iF x.done)])
def LK(x:Wb):Prop:=x.i<=x.l.length/\x.l.length<=60
def Hj(x:Wb):Out (Exit×S):= .one (.exit 2,sp 63 [(7, .ptr 0 0 [] 0),(10, .ar 3 0 (lW x.gs).length),(11, .mp 4),(13, .ad 3 (iA x.l))] (nP x.n x.m x.L++[.row 38 (lW x.gs), .map 3 4 (iF (tH x.done (x.l.drop x.i)))]))
theorem RF: ∀(l:List Int) (k:Nat) (h:k<l.length),toInt (nth (iA l) k)=l[k]:=fun l k h=>by
 rw[aZ _ _ (by rw[fv];exact h)]
 simp[iA,toInt]
theorem lGi(κ:Kp):bk (Pk κ) 12 15 15 (aP 0 Rt LK Hj):=by
 refine aL (fun x=>x.l.length - x.i) ?_
 rintro⟨n,m,L,gs,l,done,i⟩ K ⟨hi,hl⟩ ho
 simp only at hi hl
 rw[show(Pk κ).P=Pr κ from rfl]
 refine Eq.mpr (xGi κ n i (dE L) (bw n m L n) (lW gs) (iA l) (iF done) _ _ K) ?_
 simp only[Hj,Out.run] at ho
 rw[af,an,ac1,aa2,aa4,fv]
 refine⟨fun h=>⟨h,?_⟩,fun h=>?_⟩
 ·have hk:i<l.length:=by omega
  rw[Int.toNat_natCast,RF l i hk,aW (n:=(i:Int)+1) (by omega) (by omega),show Value.int IntKind.i64 l[i]=gq l[i] from rfl,qG]
  refine⟨_,?_,⟨n,m,L,gs,l,bif done.contains l[i] then done else done++[l[i]],i+1⟩,?_,⟨hk,hl⟩,rfl,?_⟩
  ·simp only;omega
  ·simp only[Rt,fv];rfl
  ·rw[ab3 hk] at ho
   simp only[Hj,Out.run]
   exact ho
 ·rw[ab0 (by omega)] at ho
  exact ho
noncomputable def Fb(κ:Kp):Env:=(Pk κ).ak 15 15 (aP 0 Rt LK Hj)
theorem eGi(κ:Kp):aD (Fb κ):=(eCk κ).ak (Y3 κ) (lGi κ)
theorem Z1(κ:Kp):aj (Fb κ):=(Y3 κ).ak aI
theorem xGo(κ:Kp)(N:Nat)(a:Int)(ls:List (List Value))(fs:List AV)(gs:List (List Int))(es:List (Value×AV))(I:Nat->S->Prop)(n:Nat)(K:Exit->S->Prop):(vc (Fb κ) 12 15 none 0 (ah (Pr κ).toProgram 15 11) (sp 63 [(7, .ptr 0 0 [] 0),(10, .ar 3 0 (lW gs).length),(11, .mp 4),(12, .int a)] (tw N ls fs++[.row 38 (lW gs), .map 3 4 es])) (bL (Fb κ) 15 11 0 I n K))=(
 letI z1:=Pg.toProgram (Env.P (Pk κ))
 aC (decide (a>=(0:Int))) (∃(e3:Qk),([AV.ptr 0 0 [] 0,AV.int a],[Obj.box 122 (AV.agg [AV.ar 1 0 N,AV.ar 2 0 fs.length]),Obj.rows 38 3 ls none,Obj.row
 89 fs])=([AV.ptr 0 0 [] 0,AV.int e3.a],[Obj.box 122 (AV.agg [AV.ar 1 0 e3.n,AV.ar 2 0 (List.length (bw e3.n e3.m e3.L e3.n))]),Obj.rows 38 3 (dE e3.L)
 none,Obj.row 89 (bw e3.n e3.m e3.L e3.n)])/\(((0:Int)<=e3.a/\e3.a<(↑(e3.n):Int))/\e3.n<=60)/\ah z1 15 15=ah z1 15 15/\∃(e2:Wb),sp 63 [(7,
 AV.ptr 0 0 [] 0),(10,AV.ar 3 0 (List.length (lW gs))),(11,AV.mp 4),(13,AV.ad 3 (iA (fV e3.n e3.m e3.L e3.a))),(49,AV.ad 3 (iA (fV e3.n e3.m e3.L
 e3.a))),(50,AV.int (↑(List.length (iA (fV e3.n e3.m e3.L e3.a))):Int)),(51,AV.int 0)] [Obj.box 122 (AV.agg [AV.ar 1 0 e3.n,AV.ar 2 0 (List.length (bw
 e3.n e3.m e3.L e3.n))]),Obj.rows 38 3 (dE e3.L) none,Obj.row 89 (bw e3.n e3.m e3.L e3.n),Obj.row 38 (lW gs),Dn.Obj.map 3 4 es]=sp 63 [(7,AV.ptr 0 0 []
 0),(10,AV.ar 3 0 (List.length (lW e2.gs))),(11,AV.mp 4),(13,AV.ad 3 (iA e2.l)),(49,AV.ad 3 (iA e2.l)),(50,AV.int (↑(List.length (iA e2.l)):Int)),
 (51,AV.int (↑(e2.i):Int))] [Obj.box 122 (AV.agg [AV.ar 1 0 e2.n,AV.ar 2 0 (List.length (bw e2.n e2.m e2.L e2.n))]),Obj.rows 38 3 (dE e2.L) none,Obj.row 89
 (bw e2.n e2.m e2.L e2.n),Obj.row 38 (lW e2.gs),Dn.Obj.map 3 4 (iF e2.done)]/\(e2.i<=e2.l.length/\e2.l.length<=60)/\ba (decide ((List.length (lW e2.gs)+
 1+1)*25<=70368744177664)) (∃(e1:G6),([AV.ptr 0 0 [] 0,AV.mp 3],[Obj.box 122 (AV.agg [AV.ar 1 0 e2.n,AV.ar 2 0 (List.length (bw e2.n e2.m e2.L
 e2.n))]),Obj.rows 38 3 (dE e2.L) none,Obj.row 89 (bw e2.n e2.m e2.L e2.n),Dn.Obj.map 3 4 (iF (tH e2.done (List.drop e2.i e2.l)))])=([AV.ptr 0 0 [] 0,AV.mp
 3],[Obj.box 122 (AV.agg [AV.ar 1 0 e1.n,AV.ar 2 0 (List.length (bw e1.n e1.m e1.L e1.n))]),Obj.rows 38 3 (dE e1.L) none,Obj.row 89 (bw e1.n e1.m e1.L e1.n),
 Dn.Obj.map 3 4 (iF e1.done)])/\(WG e1.n e1.m e1.L/\e1.n<=60)/\∃(e0:Nat),e0<n/\I e0 (sp 63 [(7,AV.ptr 0 0 [] 0),(10,AV.ar 3 0 (List.length (lW
 e2.gs)+1)),(11,AV.mp 4),(12,AV.int (eG e1.n e1.m e1.L e1.done))] [Obj.box 122 (AV.agg [AV.ar 1 0 e1.n,AV.ar 2 0 (List.length (bw e1.n e1.m e1.L e1.n))]),
 Obj.rows 38 3 (dE e1.L) none,Obj.row 89 (bw e1.n e1.m e1.L e1.n),Obj.row 38 (List.take (List.length (lW e2.gs)) (lW e2.gs)++[AV.ad 3 (iA e2.l)]),Dn.Obj.map
 3 4 (iF e1.done)]))) (K (Exit.exit 0) (sp 63 [(10,AV.ar 0 0 (List.length (lW gs)))] [Obj.row 38 (lW gs)]))):=by kernel_rfl
theorem xGz(κ:Kp)(ls:List (List Value))(es:List (Value×AV))(I:Nat->S->Prop)(n:Nat)(K:Exit->S->Prop):(vc (Fb κ) 12 15 none 0 (ah (Pr κ).toProgram 15 11) (sp 63 [(7, .ptr 0 0 [] 0),(10, .ar 2 0 0),(11, .mp 3),(12, .int (-1))] (xt 0 ls++[.row 38 [], .map 3 4 es])) (bL (Fb κ) 15 11 0 I n K))=(
 K (Exit.exit 0) (sp 63 [(10,AV.ar 0 0 0)] [Obj.row 38 []])):=by kernel_rfl
structure V5 where
 n:Nat
 m:Nat
 L:Gr
 gs:List (List Int)
 done:List Int
abbrev Q3(x:V5):S:=sp 63 [(7, .ptr 0 0 [] 0),(10, .ar 3 0 (lW x.gs).length),(11, .mp 4),(12, .int (eG x.n x.m x.L x.done))] (nP x.n x.m x.L++[.row 38 (lW x.gs), .map 3 4 (iF x.done)])
def JT(x:V5):Prop:=WG x.n x.m x.L/\x.n<=60/\x.gs.length+xz x.n x.done<=x.n
def HA(x:V5):Out (Exit×S):= .one (.exit 0,sp 63 [(10, .ar 0 0 (lW (x.gs++qQ x.n x.m x.L x.done)).length)] [.row 38 (lW (x.gs++qQ x.n x.m x.L x.done))])
theorem x0(n m:Nat)(L:Gr)(a:Int):(fV n m L a).length<=n:=CB n m L a n
theorem lGo(κ:Kp):bk (Fb κ) 12 15 11 (aP 0 Q3 JT HA):=by
 refine aL (fun x=>xz x.n x.done) ?_
 rintro⟨n,m,L,gs,done⟩ K ⟨hG,hn,hl⟩ ho
 simp only at hG hn hl
 rw[show(Fb κ).P=Pr κ from rfl]
 refine Eq.mpr (xGo κ n (eG n m L done) (dE L) (bw n m L n) gs (iF done) _ _ K) ?_
 simp only[HA,Out.run] at ho
 have hg:=qx (n:=n) (m:=m) (L:=L) done
 rw[af,aa2,aa4]
 refine⟨fun h=>?_,fun h=>?_⟩
 ·have h1:=(rP (n:=n) (m:=m) (L:=L) (done:=done) h).1
  have h2:=qB (n:=n) (m:=m) (L:=L) (done:=done) h
  have h3:=x0 n m L (eG n m L done)
  rw[aa6 (by omega),aa7] at hg
  rw[hg] at ho
  refine⟨⟨n,m,L,eG n m L done,0⟩,rfl,⟨h1,hn⟩,rfl,⟨n,m,L,gs,fV n m L (eG n m L done),done,0⟩,rfl,⟨Nat.zero_le _,by simp only;omega⟩,?_⟩
  rw[an,aa2]
  refine⟨by rw[tV];simp only;omega,⟨n,m,L,tH done (fV n m L (eG n m L done)),0,[]⟩,rfl,⟨hG,hn⟩,_,h2,⟨n,m,L,gs++[fV n m L (eG n m L done)],tH done (fV n m L (eG n m L done))⟩,?_,⟨hG,hn,?_⟩,rfl,?_⟩
  ·rw[List.take_length]
   simp only[Q3,NX,ac0]
   rfl
  ·simp only[ac0,List.length_singleton];omega
  ·simp only[HA,Out.run,List.append_assoc,List.singleton_append]
   exact ho
 ·rw[aa8 (show eG n m L done<0 by omega),aa9] at hg
  rw[hg,List.append_nil] at ho
  exact ho
abbrev VH(x:NL):S:=sp 63 [(7, .ptr 0 0 [] 0),(10, .ar 2 0 0),(11, .mp 3),(12, .int (-1))] (xt 0 x.ls++[.row 38 [], .map 3 4 x.es])
def PY(_:NL):Out (Exit×S):= .one (.exit 0,sp 63 [(10, .ar 0 0 0)] [.row 38 []])
theorem lGz(κ:Kp):bk (Fb κ) 12 15 11 (aP 0 VH (fun _=>True) PY):=by
 refine aL (fun _=>0) ?_
 rintro⟨ls,es⟩ K _ ho
 rw[show(Fb κ).P=Pr κ from rfl]
 exact Eq.mpr (xGz κ ls es _ _ K) ho
noncomputable def VS(κ:Kp):Env:=(Fb κ).ak 15 11 (qH Vn (aP 0 Q3 JT HA) (aP 0 VH (fun _=>True) PY))
theorem eGo(κ:Kp):aD (VS κ):=(eGi κ).ak (Z1 κ) (nv (lGo κ) (lGz κ))
theorem ZL(κ:Kp):aj (VS κ):=(Z1 κ).ak (kE aI aI)
theorem iR{ds rs:List AV}(h:(ft ds rs).2=0):qL ds rs:=by
 have h1:=(zR.1 h).1
 simp only[fc,aa3,aa2,List.all_eq_true] at h1
 refine⟨h1.1.1.1,h1.1.1.2,fun r hr=>?_,Vv h⟩
 have h2:=h1.2 r hr
 simp only[lR,aQ,aa3,aa2] at h2
 have h3:=h2.1.1.2
 simpa[tI,di] using h3
theorem ry{ds rs:List AV}(hs:eX ds rs)(h:(ft ds rs).2=0): ∀r,r∈rs->BN ds.length ds r:=by
 intro r hr
 have h1:=Bg h hr
 refine⟨h1.1,h1.2,?_,hs.2.2 r hr⟩
 have:=(iR h).bs r hr
 simp only[aM];omega
def s8(ds rs:List AV):Int×Int:=bif decide ((ft ds rs).2=0) then xm ds.length (jm ds rs) (oN ds rs) ds rs else ft ds rs
def jO(ds rs:List AV):List (List Int):=qQ ds.length (jm ds rs) (oN ds rs) []
theorem yGr(κ:Kp)(ds rs:List AV)(K:AV->List Dn.Obj->Prop):(bf (VS κ) 12 15 [gS ds rs] [] K)=(
 letI z1:=AV.agg [AV.ar 1 0 0,AV.nil]
 letI z2:=Pg.toProgram (Env.P (Fb κ))
 ∃(e4:sm),([AV.agg [AV.ad 61 ds,AV.ad 66 rs]],aJ)=([AV.agg [AV.ad 61 e4.1,AV.ad 66 e4.2]],aJ)/\(e4.1.length<=9223372036854775807/\e4.2.length<=
 9223372036854775807/\∀(e0:AV),List.Mem e0 e4.2->aO (aa (bn 56 (cq.hl (dW e0)) (cq.bl (dW e0))))<=100000/\List.length (cq.bl (dW e0))<=100000)/\aC
 (Prod.snd (ft e4.1 e4.2) != (0:Int)) (K (AV.bp [AV.nil,AV.int (Prod.fst (ft e4.1 e4.2)),AV.int (Prod.snd (ft e4.1 e4.2))]) []) (∃(e3:sm),([AV.agg [AV.ad
 61 ds,AV.ad 66 rs]],aJ)=([AV.agg [AV.ad 61 e3.1,AV.ad 66 e3.2]],aJ)/\qL e3.1 e3.2/\aC (Nat.beq e3.1.length 0) (∃(e2:SC),([AV.ptr 0 0 [] 0,AV.agg
 [AV.ad 61 ds,AV.ad 66 rs]],[Obj.box 122 (AV.agg [AV.ar 1 0 e3.1.length,AV.nil]),Obj.rows 38 3 (dE (oN e3.1 e3.2)) none])=([AV.ptr 0 0 [] 0,AV.agg [AV.ad
 61 e2.ds,AV.ad 66 []]],[Obj.box 122 z1,Obj.rows 38 3 e2.ls none])/\True/\∃(e1:NL),([AV.ptr 0 0 [] 0,AV.mp 2],[Obj.box 122 z1,Obj.rows 38 3 e2.ls
 none,Dn.Obj.map 3 4 []])=([AV.ptr 0 0 [] 0,AV.mp 2],[Obj.box 122 z1,Obj.rows 38 3 e1.ls none,Dn.Obj.map 3 4 e1.es])/\True/\ah z2 15 11=ah z2 15 11/\
 ∃(e0:NL),sp 63 [(7,AV.ptr 0 0 [] 0),(10,AV.ar 2 0 0),(11,AV.mp 3),(12,AV.int (-1))] [Obj.box 122 z1,Obj.rows 38 3 e1.ls none,Obj.row 38 [],
 Dn.Obj.map 3 4 e1.es]=sp 63 [(7,AV.ptr 0 0 [] 0),(10,AV.ar 2 0 0),(11,AV.mp 3),(12,AV.int (-1))] [Obj.box 122 z1,Obj.rows 38 3 e0.ls none,Obj.row 38
 [],Dn.Obj.map 3 4 e0.es]/\True/\K (AV.bp [AV.ar 0 0 0,AV.int 0,AV.int 0]) [Obj.row 38 []]) (∃(e2:PG),([AV.ptr 0 0 [] 0,AV.agg [AV.ad 61 ds,AV.ad 66
 rs]],[Obj.box 122 (AV.agg [AV.ar 1 0 e3.1.length,AV.ar 2 0 (List.length (bw e3.1.length (jm e3.1 e3.2) (oN e3.1 e3.2) e3.1.length))]),Obj.rows 38 3 (dE (oN
 e3.1 e3.2)) none,Obj.row 89 (bw e3.1.length (jm e3.1 e3.2) (oN e3.1 e3.2) e3.1.length)])=([AV.ptr 0 0 [] 0,AV.agg [AV.ad 61 e2.ds,AV.ad 66 e2.rs]],
 [Obj.box 122 (AV.agg [AV.ar 1 0 e2.n,AV.ar 2 0 (List.length (bw e2.n e2.m e2.L e2.n))]),Obj.rows 38 3 (dE e2.L) none,Obj.row 89 (bw e2.n e2.m e2.L e2.n)])/\
 (e2.ds.length<=9223372036854775807/\e2.rs.length<=9223372036854775807/\∀(e0:AV),List.Mem e0 e2.rs->BN e2.n e2.ds e0)/\aC (Prod.snd (xm e2.n e2.m e2.L
 e2.ds e2.rs) != (0:Int)) (K (AV.bp [AV.nil,AV.int (Prod.fst (xm e2.n e2.m e2.L e2.ds e2.rs)),AV.int (Prod.snd (xm e2.n e2.m e2.L e2.ds e2.rs))]) []) (∃(e1
 :G6),([AV.ptr 0 0 [] 0,AV.mp 3],[Obj.box 122 (AV.agg [AV.ar 1 0 e2.n,AV.ar 2 0 (List.length (bw e2.n e2.m e2.L e2.n))]),Obj.rows 38 3 (dE e2.L) none,
 Obj.row 89 (bw e2.n e2.m e2.L e2.n),Dn.Obj.map 3 4 []])=([AV.ptr 0 0 [] 0,AV.mp 3],[Obj.box 122 (AV.agg [AV.ar 1 0 e1.n,AV.ar 2 0 (List.length (bw e1.n
 e1.m e1.L e1.n))]),Obj.rows 38 3 (dE e1.L) none,Obj.row 89 (bw e1.n e1.m e1.L e1.n),Dn.Obj.map 3 4 (iF e1.done)])/\(WG e1.n e1.m e1.L/\e1.n<=60)/\ah z2
 15 11=ah z2 15 11/\∃(e0:V5),sp 63 [(7,AV.ptr 0 0 [] 0),(10,AV.ar 3 0 0),(11,AV.mp 4),(12,AV.int (eG e1.n e1.m e1.L e1.done))] [Obj.box 122 (AV.agg
 [AV.ar 1 0 e1.n,AV.ar 2 0 (List.length (bw e1.n e1.m e1.L e1.n))]),Obj.rows 38 3 (dE e1.L) none,Obj.row 89 (bw e1.n e1.m e1.L e1.n),Obj.row 38 [],
 Dn.Obj.map 3 4 (iF e1.done)]=sp 63 [(7,AV.ptr 0 0 [] 0),(10,AV.ar 3 0 (List.length (lW e0.gs))),(11,AV.mp 4),(12,AV.int (eG e0.n e0.m e0.L e0.done))]
 [Obj.box 122 (AV.agg [AV.ar 1 0 e0.n,AV.ar 2 0 (List.length (bw e0.n e0.m e0.L e0.n))]),Obj.rows 38 3 (dE e0.L) none,Obj.row 89 (bw e0.n e0.m e0.L e0.n),
 Obj.row 38 (lW e0.gs),Dn.Obj.map 3 4 (iF e0.done)]/\(WG e0.n e0.m e0.L/\e0.n<=60/\e0.gs.length+xz e0.n e0.done<=e0.n)/\K (AV.bp [AV.ar 0 0 (List.length
 (lW (e0.gs++qQ e0.n e0.m e0.L e0.done))),AV.int 0,AV.int 0]) [Obj.row 38 (lW (e0.gs++qQ e0.n e0.m e0.L e0.done))])))):=by kernel_rfl
def QF(x:sm):List AV×List Dn.Obj:=([gS x.1 x.2],[])
def D5(x:sm):Prop:=eX x.1 x.2
def PT(x:sm):Out (AV×List Dn.Obj):= .aC (decide ((s8 x.1 x.2).2=0))
 (.one (.bp [.ar 0 0 (lW (jO x.1 x.2)).length, .int 0, .int 0],[.row 38 (lW (jO x.1 x.2))]))
 (.one (.bp [.nil, .int (s8 x.1 x.2).1, .int (s8 x.1 x.2).2],[]))
theorem cGr(κ:Kp):bz (VS κ) 12 15 (aR QF D5 PT):=by
 refine bg ?_
 rintro⟨ds,rs⟩ K hs ho
 refine Eq.mpr (yGr κ ds rs K) ?_
 have ho:aC (decide ((s8 ds rs).2=0)) (K (.bp [.ar 0 0 (lW (jO ds rs)).length, .int 0, .int 0]) [.row 38 (lW (jO ds rs))]) (K (.bp [.nil, .int (s8 ds rs).1, .int (s8 ds rs).2]) []):=ho
 rw[af,aa2,aa4] at ho
 have hs:eX ds rs:=hs
 refine⟨(ds,rs),rfl,hs,?_⟩
 rw[af]
 by_cases hc:(ft ds rs).2=0
 ·refine⟨fun e=>absurd hc (by simpa using e),fun _=>⟨(ds,rs),rfl,iR hc,?_⟩⟩
  have hf:=iR hc
  have hg:=ry hs hc
  rw[show s8 ds rs=xm ds.length (jm ds rs) (oN ds rs) ds rs by unfold s8;rw[aa8 hc];rfl] at ho
  rw[af]
  refine⟨fun e=>?_,fun e=>?_⟩
  ·obtain rfl:ds=[]:=List.eq_nil_of_length_eq_zero (Nat.eq_of_beq_eq_true e)
   obtain rfl:rs=[]:=by
    cases rs with
    |nil=>rfl
    |cons r rs=>have:=(hg r (by simp)).hd;simp only[List.length_nil] at this;omega
   refine⟨⟨dE (oN [] []),[]⟩,rfl,trivial,⟨_,[]⟩,rfl,trivial,rfl,⟨_,_⟩,rfl,trivial,?_⟩
   have h1:=ho.1 rfl
   have h2:jO [] []=[]:=by
    unfold jO
    rw[qx];rfl
   rw[h2] at h1
   exact h1
  ·refine⟨⟨ds.length,jm ds rs,oN ds rs,ds,rs,0⟩,rfl,⟨hs.1,hs.2.1,hg⟩,?_⟩
   rw[af]
   refine⟨fun e2=>ho.2 (by simpa using e2),fun e2=>?_⟩
   have h1:=ho.1 (by simpa using e2)
   exact⟨⟨ds.length,jm ds rs,oN ds rs,[],0,[]⟩,rfl,⟨hf.wg,hf.hd⟩,rfl,⟨ds.length,jm ds rs,oN ds rs,[],[]⟩,rfl,⟨hf.wg,hf.hd,by simp only[List.length_nil,Nat.zero_add];exact D2 _ _⟩,h1⟩
 ·rw[show s8 ds rs=ft ds rs by unfold s8;rw[aa6 hc];rfl] at ho
  exact⟨fun _=>ho.2 hc,fun e=>absurd (by simpa using e) hc⟩
noncomputable def XM(κ:Kp):Env:=(VS κ).ay 15 (aR QF D5 PT)
theorem eGr(κ:Kp):aD (XM κ):=(eGo κ).ay (ZL κ) (cGr κ)
theorem mGr(κ:Kp):aj (XM κ):=(ZL κ).ay aK
structure AQ where
 ds:List AV
 rs:List AV
 a:Int
 b:Int
theorem F6{ds rs:List AV}{a b n:Int}(h:qn ds rs a b n=0):(ft ds rs).2=0/\(0<=a/\a<n)/\0<=b/\b<n:=by
 unfold qn at h
 by_cases hc:(ft ds rs).2=0
 ·rw[aa8 hc,aa9] at h
  cases e:Ix a b n with
  |true=>
   simp only[Ix,aa3,aa2] at e
   exact⟨hc,e⟩
  |false=>rw[e] at h;cases h
 ·rw[aa6 hc,aa7] at h
  exact absurd h hc
noncomputable abbrev WW(κ:Kp):Env:=XM κ
theorem eHg(κ:Kp):aD (WW κ):=eGr κ
theorem mHg(κ:Kp):aj (WW κ):=mGr κ
end Go.Proofs.YthaiinlfnommnaaGreatDoor
namespace Go.Rl
open Go Go.Dn
section
variable {n m m':Nat} {L M:Gr}
theorem B3(n:Nat):(gl n).Pairwise (· < ·):=by
 unfold gl
 rw[List.pairwise_map]
 exact List.pairwise_lt_range.imp fun h=>by omega
theorem u6(a:Int):(fV n m L a).Pairwise (· < ·):=(B3 n).filter _
structure Qq(n m:Nat)(L:Gr)(done:List Int)(gs:List (List Int)):Prop where
 srt: ∀g,g∈gs->g.Pairwise (· < ·)
 lk: ∀c,c∈gs.flatten->(0<=c/\c<n)/\c∉done
 all: ∀c:Int,0<=c->c<n->c∉done->c∈gs.flatten
 sI:gs.flatten.Nodup
theorem Ii{l:List Int}(h:l.Pairwise (· < ·)):l.Nodup:=h.imp fun h=>by omega
theorem OY(hG:WG n m L): ∀(k:Nat) (done:List Int),xz n done<=k->Oe n m L done->Qq n m L done (qQ n m L done):=by
 intro k
 induction k with
 | zero=>
  intro done h hS
  have hd: ∀c:Int,0<=c->c<n->c∈done:=fun c h0 h1=>by
   have h2:=h
   simp only[xz,Nat.le_zero,List.countP_eq_zero] at h2
   simpa using h2 c (iq.2 ⟨h0,h1⟩)
  have hn:eG n m L done<0:=by
   rcases Int.lt_or_le (eG n m L done) 0 with e|e
   ·exact e
   ·have:=qB (n:=n) (m:=m) (L:=L) e;omega
  rw[qx,aa8 hn,aa9]
  exact⟨fun g hg=>(nomatch hg),fun c hc=>(nomatch hc),fun c h0 h1 h2=>absurd (hd c h0 h1) h2,List.nodup_nil⟩
 | succ k ih=>
  intro done h hS
  rw[qx]
  rcases Int.lt_or_le (eG n m L done) 0 with e|e
  ·rw[aa8 e,aa9]
   refine⟨fun g hg=>(nomatch hg),fun c hc=>(nomatch hc),fun c h0 h1 h2=>?_,List.nodup_nil⟩
   have:=NA hG ⟨h0,h1⟩ h2;omega
  ·rw[aa6 (by omega),aa7]
   have hx:=rP (n:=n) (m:=m) (L:=L) e
   have hxd:eG n m L done∉done:=by
    have h2:=hx.2
    simp only[gk,aa3,Bool.not_eq_true',List.contains_eq_mem,aa4] at h2
    exact h2.1
   have hu:=qB (n:=n) (m:=m) (L:=L) e
   have hL:=ih _ (by omega) (J0 hG hS e)
   refine⟨fun g hg=>?_,fun c hc=>?_,fun c h0 h1 h2=>?_,?_⟩
   ·rcases List.mem_cons.1 hg with rfl|hg
    ·exact u6 _
    ·exact hL.srt g hg
   ·rw[List.flatten_cons,List.mem_append] at hc
    rcases hc with hc|hc
    ·have hc':=o7.1 hc
     refine⟨hc'.1,fun hd=>hxd ?_⟩
     exact hS c _ hc'.1.1 hx.1.1 hx.1.2 hd (by rw[L7];exact hc'.2)
    ·have:=hL.lk c hc
     rw[kK,not_or] at this
     exact⟨this.1,this.2.1⟩
   ·rw[List.flatten_cons,List.mem_append]
    by_cases hg:c∈fV n m L (eG n m L done)
    ·exact .inl hg
    ·exact .inr (hL.all c h0 h1 (by rw[kK,not_or];exact⟨h2,hg⟩))
   ·rw[List.flatten_cons,List.nodup_append]
    refine⟨Ii (u6 _),hL.sI,fun a ha b hb=>?_⟩
    rintro rfl
    exact(hL.lk a hb).2 (by rw[kK];exact .inr ha)
theorem Mc:Oe n m L []:=fun _ _ _ _ _ h=>nomatch h
end
end Go.Rl
namespace Go.Proofs.YthaiinlfnommnaaGreatDoor
open Go Go.Dn Go.Rl Go.Proofs
theorem Q4{ds rs:List AV}:(s8 ds rs).2=0↔(ft ds rs).2=0/\(xm ds.length (jm ds rs) (oN ds rs) ds rs).2=0:=by
 unfold s8
 by_cases h:(ft ds rs).2=0
 ·rw[aa8 h,aa9];simp[h]
 ·rw[aa6 h,aa7];simp[h]
theorem Bk{ds rs:List AV}(f:qL ds rs):Qq ds.length (jm ds rs) (oN ds rs) [] (jO ds rs):=OY f.wg _ _ (Nat.le_refl _) Mc
theorem KJ{ds rs:List AV}{a b n:Int}(hc:(ft ds rs).2=0)(ha:0<=a/\a<n)(hb:0<=b/\b<n):qn ds rs a b n=0:=by
 unfold qn
 rw[aa8 hc,aa9,show Ix a b n=true by simp[Ix,ha,hb]];rfl
theorem tc{ds rs:List AV}(h:jV ds rs=true):eX ds rs:=by
 simp only[jV,aa3,aa2] at h
 obtain⟨_,h1,h2,h3⟩:=h
 refine⟨by simp only[aM];omega,by simp only[aM];omega,fun x hx=>?_⟩
 have hc:=xK (rs.map tI) 2000 (by omega) h1 (tI x) (List.mem_map_of_mem hx)
 have e:tI x=aH (dW x):=rfl
 rw[e,fB] at hc
 have hc:n9 (aH (dW x))+(dW x).bl.length<=2000:=by omega
 refine⟨?_,by omega⟩
 rw[lj 56 (dW x).rel (dW x).hl (dW x).bl]
 have:n9 (aH (dW x))<=2000:=by omega
 exact Nat.le_trans this (by omega)
end Go.Proofs.YthaiinlfnommnaaGreatDoor
