import Derived.Test.YtdpmikfheebicaaGreatDoorDqM9
import Derived.Test.YtdpmikfheebicaaGreatDoorDqM1
namespace Go.Proofs.YtdpmikfheebicaaGreatDoor
open Go Go.Dn Go.Rl Go.Proofs
attribute [local irreducible] bg vc
set_option maxRecDepth 20000
theorem Xv(κ:Kp)(N:Nat)(ls:List (List Value))(fs:List AV)(a b:Int)(K:AV->List Dn.Obj->Prop):(bg (PJ κ) 12 47 [.ptr 0 0 [] 0, .int a, .int b] (r9 N ls fs) K)=(
 letI z1:=AV.agg [AV.az 1 0 N,AV.az 2 0 fs.length]
 letI z2:=AV.bool false
 ax (a==b) (K (AV.bool true) [Obj.box 82 z1,Obj.rows 48 3 ls none,Obj.row 68 fs]) (aO (decide ((0:Int)<=a)&&decide (a<(↑(fs.length):Int))) (ax
 (Dn.toBool (cM (List.zip (zl (nth fs (0+a.toNat))) (vC (nth fs (0+a.toNat)))) (Value.int IntKind.i64 b) z2)) (aO (decide ((0:Int)<=b)&&decide (b<
 (↑(fs.length):Int))) (K (AV.bool (Dn.toBool (cM (List.zip (zl (nth fs (0+b.toNat))) (vC (nth fs (0+b.toNat)))) (Value.int IntKind.i64 a) z2))) [Obj.box 82
 z1,Obj.rows 48 3 ls none,Obj.row 68 fs])) (K z2 [Obj.box 82 z1,Obj.rows 48 3 ls none,Obj.row 68 fs])))):=by kernel_rfl
theorem ya: ∀l:List Int,(l.map fu).zip (l.map fun _=>AV.lit (.bool true))=gD l
 |[]=>rfl
 |a::l=>by
  have ih:=ya l
  simp only[ac0,List.zip_cons_cons,gD] at ih⊢
  rw[ih]
theorem zq(n m:Nat)(L:Gr)(k:Nat)(a:Int)(h0:0<=a)(h:a<k):nth (bc n m L k) (0+a.toNat)=Oc (gp n m L a):=by
 rw[Nat.zero_add,a8 _ _ (by rw[jY];omega)]
 simp only[bc,List.getElem_map,List.getElem_range]
 rw[show((a.toNat:Nat):Int)=a by omega]
theorem DY(n m:Nat)(L:Gr)(k:Nat)(a b:Int)(h0:0<=a)(h:a<k):Dn.toBool (cM (List.zip (zl (nth (bc n m L k) (0+a.toNat))) (vC (nth (bc n m L k) (0+a.toNat)))) (Value.int IntKind.i64 b) (AV.lit (Value.bool false)))=(gp n m L a).contains b:=by
 rw[zq n m L k a h0 h]
 simp only[zl,vC]
 rw[ya,kW]
 rfl
structure KT where
 n:Nat
 m:Nat
 L:Gr
 a:Int
 b:Int
abbrev np(n m:Nat)(L:Gr):List Dn.Obj:=r9 n (cH L) (bc n m L n)
def Oq(x:KT):List AV×List Dn.Obj:=([.ptr 0 0 [] 0, .int x.a, .int x.b],np x.n x.m x.L)
def Il(x:KT):Prop:=(0<=x.a/\x.a<x.n)/\0<=x.b/\x.b<x.n
def H6(x:KT):Out (AV×List Dn.Obj):= .one (.bool (eI x.n x.m x.L x.a x.b),np x.n x.m x.L)
theorem cMu(κ:Kp):bz (PJ κ) 12 47 (aZ Oq Il H6):=by
 refine bh ?_
 rintro⟨n,m,L,a,b⟩ K ⟨⟨ha,ha'⟩,hb,hb'⟩ ho
 simp only at ha ha' hb hb'
 refine Eq.mpr (Xv κ n (cH L) (bc n m L n) a b K) ?_
 simp only[H6,Out.run,eI,np,r9,jY] at ho
 rw[DY n m L n a b ha ha',DY n m L n b a hb hb',jY]
 simp only[au,af,aa1,aa0,beq_iff_eq,beq_eq_false_iff_ne]
 refine⟨fun e=>?_,fun e=>⟨⟨ha,ha'⟩,fun h=>⟨⟨hb,hb'⟩,?_⟩,fun h=>?_⟩⟩
 ·rw[aa6 e,Bool.true_or] at ho;exact ho
 ·rw[aa4 e,h,Bool.false_or,ab9] at ho;exact ho
 ·rw[aa4 e,h,Bool.false_or,Bool.false_and] at ho;exact ho
noncomputable def KD(κ:Kp):Env:=(PJ κ).aw 47 (aZ Oq Il H6)
theorem Yn(κ:Kp):aC (KD κ):=(WK κ).aw (TI κ) (cMu κ)
theorem Up(κ:Kp):ai (KD κ):=(TI κ).aw aI
theorem WE(κ:Kp)(N i:Nat)(ls:List (List Value))(fs ws:List AV)(a:Int)(I:Nat->S->Prop)(n:Nat)(K:Exit->S->Prop):(vc (KD κ) 12 39 none 3 (ag (Pr κ).toProgram 39 3) (sp 25 [(0, .ptr 0 0 [] 0),(1, .int a),(5, .az 3 0 ws.length),(11, .int N),(12, .int i)] (r9 N ls fs++[.row 3 ws])) (bI (KD κ) 39 3 3 I n K))=(
 letI z1:=IntKind.wrap IntKind.i64 ((↑i:Int)+(1:Int))
 letI z2:=AV.agg [AV.az 1 0 N,AV.az 2 0 fs.length]
 ax (decide ((↑i:Int)<(↑N:Int))) (∃(e1:KT),([AV.ptr 0 0 [] 0,AV.int a,AV.int (↑i:Int)],[Obj.box 82 z2,Obj.rows 48 3 ls none,Obj.row 68 fs])=
 ([AV.ptr 0 0 [] 0,AV.int e1.a,AV.int e1.b],[Obj.box 82 (AV.agg [AV.az 1 0 e1.n,AV.az 2 0 (List.length (bc e1.n e1.m e1.L e1.n))]),Obj.rows 48 3 (cH e1.L)
 none,Obj.row 68 (bc e1.n e1.m e1.L e1.n)])/\(((0:Int)<=e1.a/\e1.a<(↑(e1.n):Int))/\(0:Int)<=e1.b/\e1.b<(↑(e1.n):Int))/\ax (eI e1.n e1.m e1.L
 e1.a e1.b) (aO (decide ((ws.length+1+1)*9<=70368744177664)) (∃(e0:Nat),e0<n/\I e0 (sp 25 [(0,AV.ptr 0 0 [] 0),(1,AV.int a),(5,AV.az 3 0
 (ws.length+1)),(11,AV.int (↑N:Int)),(12,AV.int z1)] [Obj.box 82 (AV.agg [AV.az 1 0 e1.n,AV.az 2 0 (List.length (bc e1.n e1.m e1.L e1.n))]),Obj.rows 48
 3 (cH e1.L) none,Obj.row 68 (bc e1.n e1.m e1.L e1.n),Obj.row 3 (List.take ws.length ws++[AV.int (↑i:Int)])]))) (∃(e0:Nat),e0<n/\I e0 (sp 25 [(0,
 AV.ptr 0 0 [] 0),(1,AV.int a),(5,AV.az 3 0 ws.length),(11,AV.int (↑N:Int)),(12,AV.int z1)] [Obj.box 82 (AV.agg [AV.az 1 0 e1.n,AV.az 2 0 (List.length
 (bc e1.n e1.m e1.L e1.n))]),Obj.rows 48 3 (cH e1.L) none,Obj.row 68 (bc e1.n e1.m e1.L e1.n),Obj.row 3 ws]))) (K (Exit.exit 0) (sp 25 [(5,AV.az 3 0
 ws.length)] [Obj.box 82 z2,Obj.rows 48 3 ls none,Obj.row 68 fs,Obj.row 3 ws]))):=by kernel_rfl
def tp(n m:Nat)(L:Gr)(a:Int)(i:Nat):List Int:=(eQ i).filter (eI n m L a)
theorem Gb(n m:Nat)(L:Gr)(a:Int)(i:Nat):tp n m L a (i+1)=bif eI n m L a i then tp n m L a i++[(i:Int)] else tp n m L a i:=by
 unfold tp eQ
 rw[List.range_succ,List.map_append,List.filter_append]
 cases h:eI n m L a i<;>simp[h]
theorem Aa(n m:Nat)(L:Gr)(a:Int)(i:Nat):(tp n m L a i).length<=i:=by
 have:=List.length_filter_le (eI n m L a) (eQ i)
 simpa[tp,eQ] using this
structure Ma where
 n:Nat
 m:Nat
 L:Gr
 a:Int
 i:Nat
abbrev LK(x:Ma):S:=sp 25 [(0, .ptr 0 0 [] 0),(1, .int x.a),(5, .az 3 0 (iA (tp x.n x.m x.L x.a x.i)).length),(11, .int x.n),(12, .int x.i)] (np x.n x.m x.L++[.row 3 (iA (tp x.n x.m x.L x.a x.i))])
def GK(x:Ma):Prop:=(0<=x.a/\x.a<x.n)/\x.i<=x.n/\x.n<=60
def MG(x:Ma):Out (Exit×S):= .one (.exit 0,sp 25 [(5, .az 3 0 (iA (dc x.n x.m x.L x.a)).length)] (np x.n x.m x.L++[.row 3 (iA (dc x.n x.m x.L x.a))]))
theorem lGp(κ:Kp):bn (KD κ) 12 39 3 (aQ 3 LK GK MG):=by
 refine aR (fun x=>x.n - x.i) ?_
 rintro⟨n,m,L,a,i⟩ K ⟨ha,hi,hn⟩ ho
 simp only at ha hi hn
 rw[show(KD κ).P=Pr κ from rfl]
 refine Eq.mpr (WE κ n i (cH L) (bc n m L n) (iA (tp n m L a i)) a _ _ K) ?_
 have hl:=Aa n m L a i
 rw[af,aa0,aa2]
 refine⟨fun h=>⟨⟨n,m,L,a,i⟩,rfl,⟨ha,by simp only;omega,h⟩,?_⟩,fun h=>?_⟩
 ·rw[a5 (n:=(i:Int)+1) (by omega) (by omega),af,au,aa0,List.take_length]
  have hs:=Gb n m L a i
  refine⟨fun e=>⟨by rw[gG];omega,_,?_,⟨n,m,L,a,i+1⟩,?_,⟨ha,by simp only;omega,hn⟩,rfl,ho⟩,fun e=>⟨_,?_,⟨n,m,L,a,i+1⟩,?_,⟨ha,by simp only;omega,hn⟩,rfl,ho⟩⟩
  ·simp only;omega
  ·simp only at e
   rw[e,aa7] at hs
   simp only[LK,hs,yi,ab8]
   rfl
  ·simp only;omega
  ·simp only at e
   rw[e,aa5] at hs
   simp only[LK,hs]
   rfl
 ·obtain rfl:n=i:=by omega
  exact ho
noncomputable def O7(κ:Kp):Env:=(KD κ).aj 39 3 (aQ 3 LK GK MG)
theorem eGp(κ:Kp):aC (O7 κ):=(Yn κ).aj (Up κ) (lGp κ)
theorem TR(κ:Kp):ai (O7 κ):=(Up κ).aj aG
theorem Wm(κ:Kp)(N:Nat)(ls:List (List Value))(fs:List AV)(a:Int)(K:AV->List Dn.Obj->Prop):(bg (O7 κ) 12 39 [.ptr 0 0 [] 0, .int a] (r9 N ls fs) K)=(
 letI z1:=Pg.toProgram (Env.P (KD κ))
 ag z1 39 3=ag z1 39 3/\∃(e0:Ma),sp 25 [(0,AV.ptr 0 0 [] 0),(1,AV.int a),(5,AV.az 3 0 0),(11,AV.int (↑N:Int)),(12,AV.int 0)] [Obj.box 82
 (AV.agg [AV.az 1 0 N,AV.az 2 0 fs.length]),Obj.rows 48 3 ls none,Obj.row 68 fs,Obj.row 3 []]=sp 25 [(0,AV.ptr 0 0 [] 0),(1,AV.int e0.a),(5,AV.az 3 0
 (List.length (iA (tp e0.n e0.m e0.L e0.a e0.i)))),(11,AV.int (↑(e0.n):Int)),(12,AV.int (↑(e0.i):Int))] [Obj.box 82 (AV.agg [AV.az 1 0 e0.n,AV.az 2 0
 (List.length (bc e0.n e0.m e0.L e0.n))]),Obj.rows 48 3 (cH e0.L) none,Obj.row 68 (bc e0.n e0.m e0.L e0.n),Obj.row 3 (iA (tp e0.n e0.m e0.L e0.a e0.i))]/\
 (((0:Int)<=e0.a/\e0.a<(↑(e0.n):Int))/\e0.i<=e0.n/\e0.n<=60)/\K (AV.ae 3 (List.take (List.length (iA (dc e0.n e0.m e0.L e0.a))) (List.drop 0 (iA (dc
 e0.n e0.m e0.L e0.a))))) [Obj.box 82 (AV.agg [AV.az 1 0 e0.n,AV.az 2 0 (List.length (bc e0.n e0.m e0.L e0.n))]),Obj.rows 48 3 (cH e0.L) none,Obj.row 68 (bc
 e0.n e0.m e0.L e0.n)]):=by kernel_rfl
def Ot(x:Ma):List AV×List Dn.Obj:=([.ptr 0 0 [] 0, .int x.a],np x.n x.m x.L)
def I7(x:Ma):Prop:=(0<=x.a/\x.a<x.n)/\x.n<=60
def Mz(x:Ma):Out (AV×List Dn.Obj):= .one (.ae 3 (iA (dc x.n x.m x.L x.a)),np x.n x.m x.L)
theorem YC(κ:Kp):bz (O7 κ) 12 39 (aZ Ot I7 Mz):=by
 refine bh ?_
 rintro⟨n,m,L,a,i⟩ K ⟨ha,hn⟩ ho
 refine Eq.mpr (Wm κ n (cH L) (bc n m L n) a K) ?_
 refine⟨rfl,⟨n,m,L,a,0⟩,rfl,⟨ha,Nat.zero_le _,hn⟩,?_⟩
 rw[ab0,List.take_length]
 exact ho
noncomputable def Lg(κ:Kp):Env:=(O7 κ).aw 39 (aZ Ot I7 Mz)
theorem VC(κ:Kp):aC (Lg κ):=(eGp κ).aw (TR κ) (YC κ)
theorem Uq(κ:Kp):ai (Lg κ):=(TR κ).aw aI
theorem xNi(κ:Kp)(N:Nat)(a:Int)(ls:List (List Value))(fs:List AV)(es:List (Value×AV))(ks met:List Value)(vs:List AV)(I:Nat->S->Prop)(n:Nat)(K:Exit->S->Prop):(vc (Lg κ) 12 38 none 4 (ag (Pr κ).toProgram 38 6) (sp 43 [(0, .ptr 0 0 [] 0),(1, .mp 3),(5, .int a),(11, .int N),(12, .int a),(25, .ptr 4 0 [] 0)] (r9 N ls fs++[.map 3 4 es, .fit 3 4 ks vs met])) (bI (Lg κ) 38 6 4 I n K))=(
 letI z1:=AV.agg [AV.az 1 0 N,AV.az 2 0 fs.length]
 (∀(e3:Int) (e2:AV),List.Mem (Value.int IntKind.i64 e3,e2) (List.zip ks vs)->jm met (Value.int IntKind.i64 e3)=false->ax (!Dn.toBool (cM es (Value.int
 IntKind.i64 e3) (AV.bool false))) (∃(e1:KT),([AV.ptr 0 0 [] 0,AV.int a,AV.int e3],[Obj.box 82 z1,Obj.rows 48 3 ls none,Obj.row 68 fs])=([AV.ptr 0 0
 [] 0,AV.int e1.a,AV.int e1.b],[Obj.box 82 (AV.agg [AV.az 1 0 e1.n,AV.az 2 0 (List.length (bc e1.n e1.m e1.L e1.n))]),Obj.rows 48 3 (cH e1.L) none,Obj.row
 68 (bc e1.n e1.m e1.L e1.n)])/\(((0:Int)<=e1.a/\e1.a<(↑(e1.n):Int))/\(0:Int)<=e1.b/\e1.b<(↑(e1.n):Int))/\ax (!eI e1.n e1.m e1.L e1.a e1.b) (K
 (Exit.exit 1) (sp 43 [(0,AV.ptr 0 0 [] 0),(1,AV.mp 3),(11,AV.int (↑N:Int)),(12,AV.int a)] [Obj.box 82 (AV.agg [AV.az 1 0 e1.n,AV.az 2 0 (List.length
 (bc e1.n e1.m e1.L e1.n))]),Obj.rows 48 3 (cH e1.L) none,Obj.row 68 (bc e1.n e1.m e1.L e1.n),Dn.Obj.map 3 4 es])) (∃(e0:Nat),e0<n/\I e0 (sp 43 [(0,
 AV.ptr 0 0 [] 0),(1,AV.mp 3),(5,AV.int a),(11,AV.int (↑N:Int)),(12,AV.int a),(25,AV.ptr 4 0 [] 0)] [Obj.box 82 (AV.agg [AV.az 1 0 e1.n,AV.az 2 0
 (List.length (bc e1.n e1.m e1.L e1.n))]),Obj.rows 48 3 (cH e1.L) none,Obj.row 68 (bc e1.n e1.m e1.L e1.n),Dn.Obj.map 3 4 es,Obj.fit 3 4 ks vs (Value.int
 IntKind.i64 e3::met)]))) (∃(e0:Nat),e0<n/\I e0 (sp 43 [(0,AV.ptr 0 0 [] 0),(1,AV.mp 3),(5,AV.int a),(11,AV.int (↑N:Int)),(12,AV.int a),(25,
 AV.ptr 4 0 [] 0)] [Obj.box 82 z1,Obj.rows 48 3 ls none,Obj.row 68 fs,Dn.Obj.map 3 4 es,Obj.fit 3 4 ks vs (Value.int IntKind.i64 e3::met)])))/\(jC met
 (List.zip ks vs)=true->K (Exit.exit 2) (sp 43 [(5,AV.int a)] [Obj.box 82 z1,Obj.rows 48 3 ls none,Obj.row 68 fs,Dn.Obj.map 3 4 es]))):=by kernel_rfl
theorem Fm(n i:Nat)(h:i<n):(eQ n).drop i=(i:Int)::(eQ n).drop (i+1):=by
 rw[ab1 (by simpa[eQ] using h)]
 congr 1
 simp[eQ]
def vF(n m:Nat)(L:Gr)(done:List Int)(i:Nat):Int:=(((eQ n).drop i).find? (ea n m L done)).getD (-1)
theorem Gp{n:Nat}(m:Nat)(L:Gr)(done:List Int){i:Nat}(h:i<n):vF n m L done i=bif ea n m L done i then(i:Int) else vF n m L done (i+1):=by
 unfold vF
 rw[Fm n i h,List.find?_cons]
 cases ea n m L done i<;>rfl
theorem IL(n m:Nat)(L:Gr)(done:List Int):vF n m L done n= -1:=by
 unfold vF
 rw[aa8 (by simp[eQ])];rfl
structure EH where
 n:Nat
 m:Nat
 L:Gr
 done:List Int
 i:Nat
 met:List Value
def tn(x:EH):Bool:=(gp x.n x.m x.L x.i).all fun b=>x.done.contains b||eI x.n x.m x.L x.i b
abbrev Kn(x:EH):S:=sp 43 [(0, .ptr 0 0 [] 0),(1, .mp 3),(5, .int x.i),(11, .int x.n),(12, .int x.i),(25, .ptr 4 0 [] 0)] (np x.n x.m x.L++[.map 3 4 (gD x.done), .fit 3 4 ((gp x.n x.m x.L x.i).map fu) ((gp x.n x.m x.L x.i).map fun _=> .lit (.bool true)) x.met])
def B4(x:EH):Prop:=WG x.n x.m x.L/\x.i<x.n/\∀b:Int,jm x.met (fu b)=true->b∈gp x.n x.m x.L x.i->(x.done.contains b||eI x.n x.m x.L x.i b)=true
def EV(x:EH):Out (Exit×S):= .ax (tn x)
 (.one (.exit 2,sp 43 [(5, .int x.i)] (np x.n x.m x.L++[.map 3 4 (gD x.done)])))
 (.one (.exit 1,sp 43 [(0, .ptr 0 0 [] 0),(1, .mp 3),(11, .int x.n),(12, .int x.i)] (np x.n x.m x.L++[.map 3 4 (gD x.done)])))
theorem vr(c b:Int)(met:List Value):jm (fu c::met) (fu b)=(decide (c=b)||jm met (fu b)):=by
 simp only[jm,cD,fu]
 by_cases h:c=b
 ·subst h;simp
 ·rw[aa4 h];simp[h]
theorem zQ: ∀{l:List Int} {met:List Value},jC met (gD l)=true->∀b,b∈l->jm met (fu b)=true
 |[],_,_,b,hb=>nomatch hb
 |a::l,met,h,b,hb=>by
  simp only[gD,ac0,jC,aa1] at h
  rcases List.mem_cons.1 hb with rfl|hb
  ·exact h.1
  ·exact zQ (l:=l) h.2 b hb
theorem Ld{x:Int}{v:AV}{l:List Int}(h:(fu x,v)∈gD l):x∈l:=by
 obtain⟨k,h1,h2⟩:=List.mem_map.1 h
 cases h2;exact h1
theorem lNi(κ:Kp):bn (Lg κ) 12 38 6 (aQ 4 Kn B4 EV):=by
 refine aR (fun x=>(gp x.n x.m x.L x.i).countP fun b=>!jm x.met (fu b)) ?_
 rintro⟨n,m,L,done,i,met⟩ K ⟨hG,hi,hm⟩ ho
 simp only at hG hi hm
 rw[show(Lg κ).P=Pr κ from rfl]
 refine Eq.mpr (xNi κ n i (cH L) (bc n m L n) (gD done) ((gp n m L i).map fu) met ((gp n m L i).map fun _=> .lit (.bool true)) _ _ K) ?_
 have hi0:(0:Int)<=i:=by omega
 have ho2:=ho
 simp only[EV,Out.run,af] at ho2
 rw[ya]
 refine⟨fun b v hbv hb=>?_,fun hs=>?_⟩
 ·have hf:b∈gp n m L i:=Ld hbv
  have hr:=Rc.jO hG hi0 ((iO hG hi0).1 hf)
  have hn:(done.contains b||eI n m L i b)=true->∃k,k<(gp n m L i).countP (fun b=>!jm met (fu b))/\fw Kn B4 EV (fun x=>(gp x.n x.m x.L x.i).countP fun b=>!jm x.met (fu b)) K k (Kn ⟨n,m,L,done,i,fu b::met⟩):=fun hok=>by
   refine⟨_,?_,⟨n,m,L,done,i,fu b::met⟩,rfl,⟨hG,hi,fun c hc hcf=>?_⟩,rfl,ho⟩
   ·refine kR (fun c _ hc=>?_) ⟨b,hf,?_,?_⟩
    ·rw[vr] at hc
     cases h:jm met (fu c) with
     |true=>rw[h] at hc;simp at hc
     |false=>rfl
    ·simp only[fu] at hb⊢;rw[hb];rfl
    ·rw[vr];simp
   ·rw[vr] at hc
    by_cases e:b=c
    ·subst e;exact hok
    ·rw[aa4 e,Bool.false_or] at hc
     exact hm c hc hcf
  have hg:Dn.toBool (cM (gD done) (Value.int IntKind.i64 b) (AV.lit (Value.bool false)))=done.contains b:=by rw[kW];rfl
  rw[hg]
  simp only[af]
  refine⟨fun e=>⟨⟨n,m,L,i,b⟩,rfl,⟨⟨hi0,by simp only;omega⟩,hr⟩,fun e2=>?_,fun e2=>?_⟩,fun e=>?_⟩
  ·have h1:tn ⟨n,m,L,done,i,met⟩=false:=by
    rw[←Bool.not_eq_true,tn,List.all_eq_true]
    intro h
    have:=h b hf
    simp only at this e2 e
    rw[ab5] at this
    rcases this with h|h
    ·rw[h] at e;cases e
    ·rw[h] at e2;cases e2
   exact ho2.2 h1
  ·exact hn (by simp only at e2⊢;rw[ab5];right;simpa using e2)
  ·exact hn (by rw[ab5];left;simpa using e)
 ·have h1:tn ⟨n,m,L,done,i,met⟩=true:=by
   rw[tn,List.all_eq_true]
   exact fun b hb=>hm b (zQ hs b hb) hb
  exact ho2.1 h1
noncomputable def Cw(κ:Kp):Env:=(Lg κ).aj 38 6 (aQ 4 Kn B4 EV)
theorem eNi(κ:Kp):aC (Cw κ):=(VC κ).aj (Uq κ) (lNi κ)
theorem Us(κ:Kp):ai (Cw κ):=(Uq κ).aj aG
theorem Y7(κ:Kp)(N i:Nat)(ls:List (List Value))(fs:List AV)(es:List (Value×AV))(I:Nat->S->Prop)(n:Nat)(K:Exit->S->Prop):(vc (Cw κ) 12 38 none 4 (ag (Pr κ).toProgram 38 2) (sp 43 [(0, .ptr 0 0 [] 0),(1, .mp 3),(11, .int N),(12, .int i)] (r9 N ls fs++[.map 3 4 es])) (bI (Cw κ) 38 2 4 I n K))=(
 letI z1:=AV.agg [AV.az 1 0 N,AV.az 2 0 fs.length]
 letI z2:=Pg.toProgram (Env.P (Lg κ))
 ax (decide ((↑i:Int)<(↑N:Int))) (ax (Dn.toBool (cM es (Value.int IntKind.i64 (↑i:Int)) (AV.bool false))) (∃(e0:Nat),e0<n/\I e0 (sp 43 [(0,AV.ptr
 0 0 [] 0),(1,AV.mp 3),(11,AV.int (↑N:Int)),(12,AV.int (IntKind.wrap IntKind.i64 ((↑i:Int)+(1:Int))))] [Obj.box 82 z1,Obj.rows 48 3 ls none,
 Obj.row 68 fs,Dn.Obj.map 3 4 es])) (aO (true&&decide ((↑i:Int)<(↑(fs.length):Int))) (ag z2 38 6=ag z2 38 6/\∃(e1:EH),sp 43 [(0,AV.ptr 0 0 []
 0),(1,AV.mp 3),(5,AV.int (↑i:Int)),(11,AV.int (↑N:Int)),(12,AV.int (↑i:Int)),(25,AV.ptr 4 0 [] 0)] [Obj.box 82 z1,Obj.rows 48 3 ls none,
 Obj.row 68 fs,Dn.Obj.map 3 4 es,Obj.fit 3 4 (zl (nth fs (0+Int.toNat (↑i:Int)))) (vC (nth fs (0+Int.toNat (↑i:Int)))) []]=sp 43 [(0,AV.ptr 0 0 []
 0),(1,AV.mp 3),(5,AV.int (↑(e1.i):Int)),(11,AV.int (↑(e1.n):Int)),(12,AV.int (↑(e1.i):Int)),(25,AV.ptr 4 0 [] 0)] [Obj.box 82 (AV.agg [AV.az 1 0
 e1.n,AV.az 2 0 (List.length (bc e1.n e1.m e1.L e1.n))]),Obj.rows 48 3 (cH e1.L) none,Obj.row 68 (bc e1.n e1.m e1.L e1.n),Dn.Obj.map 3 4 (gD e1.done),
 Obj.fit 3 4 (List.map fu (gp e1.n e1.m e1.L (↑(e1.i):Int))) (List.map (fun(e0:Int)=>AV.bool true) (gp e1.n e1.m e1.L (↑(e1.i):Int))) e1.met]/\(WG e1.n
 e1.m e1.L/\e1.i<e1.n/\∀(e0:Int),jm e1.met (Value.int IntKind.i64 e0)=true->List.Mem e0 (gp e1.n e1.m e1.L (↑(e1.i):Int))->(List.contains e1.done
 e0||eI e1.n e1.m e1.L (↑(e1.i):Int) e0)=true)/\ax (tn e1) (K Exit.ret (sp 43 [(4,AV.int (↑(e1.i):Int))] [Obj.box 82 (AV.agg [AV.az 1 0 e1.n,AV.az 2 0
 (List.length (bc e1.n e1.m e1.L e1.n))]),Obj.rows 48 3 (cH e1.L) none,Obj.row 68 (bc e1.n e1.m e1.L e1.n),Dn.Obj.map 3 4 (gD e1.done)])) (∃(e0:Nat),e0<
 n/\I e0 (sp 43 [(0,AV.ptr 0 0 [] 0),(1,AV.mp 3),(11,AV.int (↑(e1.n):Int)),(12,AV.int (IntKind.wrap IntKind.i64 ((↑(e1.i):Int)+(1:Int))))]
 [Obj.box 82 (AV.agg [AV.az 1 0 e1.n,AV.az 2 0 (List.length (bc e1.n e1.m e1.L e1.n))]),Obj.rows 48 3 (cH e1.L) none,Obj.row 68 (bc e1.n e1.m e1.L e1.n),
 Dn.Obj.map 3 4 (gD e1.done)]))))) (K (Exit.exit 0) (sp 43 [] [Obj.box 82 z1,Obj.rows 48 3 ls none,Obj.row 68 fs,Dn.Obj.map 3 4 es]))):=by kernel_rfl
abbrev J9(x:EH):S:=sp 43 [(0, .ptr 0 0 [] 0),(1, .mp 3),(11, .int x.n),(12, .int x.i)] (np x.n x.m x.L++[.map 3 4 (gD x.done)])
def CR(x:EH):Prop:=WG x.n x.m x.L/\x.i<=x.n/\x.n<=60
def zz(x:EH):Out (Exit×S):= .ax (decide (vF x.n x.m x.L x.done x.i<0))
 (.one (.exit 0,sp 43 [] (np x.n x.m x.L++[.map 3 4 (gD x.done)])))
 (.one (.ret,sp 43 [(4, .int (vF x.n x.m x.L x.done x.i))] (np x.n x.m x.L++[.map 3 4 (gD x.done)])))
theorem ye(n m:Nat)(L:Gr)(done:List Int)(i:Nat)(met:List Value):ea n m L done i=(!done.contains (i:Int)&&tn ⟨n,m,L,done,i,met⟩):=rfl
theorem X5(κ:Kp):bn (Cw κ) 12 38 2 (aQ 4 J9 CR zz):=by
 refine aR (fun x=>x.n - x.i) ?_
 rintro⟨n,m,L,done,i,met⟩ K ⟨hG,hi,hn⟩ ho
 simp only at hG hi hn
 rw[show(Cw κ).P=Pr κ from rfl]
 refine Eq.mpr (Y7 κ n i (cH L) (bc n m L n) (gD done) _ _ K) ?_
 have ho2:=ho
 simp only[zz,Out.run,af] at ho2
 have hg:Dn.toBool (cM (gD done) (Value.int IntKind.i64 i) (AV.lit (Value.bool false)))=done.contains (i:Int):=by rw[kW];rfl
 rw[hg,af,aa0,aa2]
 refine⟨fun h=>?_,fun h=>?_⟩
 ·have hi':i<n:=by omega
  have hs:=Gp m L done hi'
  have next:ea n m L done i=false->∃k,k<n - i/\fw J9 CR zz (fun x=>x.n - x.i) K k (J9 ⟨n,m,L,done,i+1,[]⟩):=fun e=>by
   rw[e,aa5] at hs
   refine⟨_,?_,⟨n,m,L,done,i+1,[]⟩,rfl,⟨hG,hi',hn⟩,rfl,?_⟩
   ·simp only;omega
   ·simp only[zz,Out.run,←hs];exact ho
  rw[af]
  refine⟨fun e=>?_,fun e=>?_⟩
  ·rw[a5 (n:=(i:Int)+1) (by omega) (by omega)]
   exact next (by rw[ye n m L done i [],e];rfl)
  ·rw[au,ab9,aa0,jY,zq n m L n i (by omega) h]
   refine⟨h,rfl,⟨n,m,L,done,i,[]⟩,?_,⟨hG,hi',fun b hb=>(nomatch hb)⟩,?_⟩
   ·simp only[jY]
    rfl
   ·rw[af]
    refine⟨fun e2=>?_,fun e2=>?_⟩
    ·have hf:ea n m L done i=true:=by rw[ye n m L done i [],e,e2];rfl
     rw[hf,aa7] at hs
     have:=ho2.2 (by rw[hs,aa2];omega)
     rw[hs] at this
     exact this
    ·rw[a5 (n:=(i:Int)+1) (by omega) (by omega)]
     exact next (by rw[ye n m L done i [],e2,Bool.and_false])
 ·obtain rfl:i=n:=by omega
  rw[IL] at ho2
  exact ho2.1 rfl
theorem Vd(κ:Kp)(ls:List (List Value))(es:List (Value×AV))(I:Nat->S->Prop)(n:Nat)(K:Exit->S->Prop):(vc (Cw κ) 12 38 none 3 (ag (Pr κ).toProgram 38 2) (sp 43 [(0, .ptr 0 0 [] 0),(1, .mp 2),(11, .int 0),(12, .int 0)] (vz 0 ls++[.map 3 4 es])) (bI (Cw κ) 38 2 3 I n K))=(
 K (Exit.exit 0) (sp 43 [] [Obj.box 82 (AV.agg [AV.az 1 0 0,AV.nil]),Obj.rows 48 3 ls none,Dn.Obj.map 3 4 es])):=by kernel_rfl
structure LS where
 ls:List (List Value)
 es:List (Value×AV)
abbrev QL(x:LS):S:=sp 43 [(0, .ptr 0 0 [] 0),(1, .mp 2),(11, .int 0),(12, .int 0)] (vz 0 x.ls++[.map 3 4 x.es])
def L9(x:LS):Out (Exit×S):= .one (.exit 0,sp 43 [] (vz 0 x.ls++[.map 3 4 x.es]))
theorem Xl(κ:Kp):bn (Cw κ) 12 38 2 (aQ 3 QL (fun _=>True) L9):=by
 refine aR (fun _=>0) ?_
 rintro⟨ls,es⟩ K _ ho
 rw[show(Cw κ).P=Pr κ from rfl]
 exact Eq.mpr (Vd κ ls es _ _ K) ho
def QP(s:S):Bool:=Nat.beq s.st.length 4
noncomputable def Nl(κ:Kp):Env:=(Cw κ).aj 38 2 (pn QP (aQ 4 J9 CR zz) (aQ 3 QL (fun _=>True) L9))
theorem Vj(κ:Kp):aC (Nl κ):=(eNi κ).aj (Us κ) (nw (X5 κ) (Xl κ))
theorem U0(κ:Kp):ai (Nl κ):=(Us κ).aj (jU aG aG)
theorem XK(κ:Kp)(N:Nat)(ls:List (List Value))(fs:List AV)(es:List (Value×AV))(K:AV->List Dn.Obj->Prop):(bg (Nl κ) 12 38 [.ptr 0 0 [] 0, .mp 3] (r9 N ls fs++[.map 3 4 es]) K)=(
 ag (Pg.toProgram (Env.P (Cw κ))) 38 2=ag (Pg.toProgram (Env.P (Cw κ))) 38 2/\∃(a:EH),sp 43 [(0,AV.ptr 0 0 [] 0),(1,AV.mp 3),(11,AV.int
 (↑N:Int)),(12,AV.int 0)] [Obj.box 82 (AV.agg [AV.az 1 0 N,AV.az 2 0 fs.length]),Obj.rows 48 3 ls none,Obj.row 68 fs,Dn.Obj.map 3 4 es]=sp 43 [(0,
 AV.ptr 0 0 [] 0),(1,AV.mp 3),(11,AV.int (↑(a.n):Int)),(12,AV.int (↑(a.i):Int))] [Obj.box 82 (AV.agg [AV.az 1 0 a.n,AV.az 2 0 (List.length (bc
 a.n a.m a.L a.n))]),Obj.rows 48 3 (cH a.L) none,Obj.row 68 (bc a.n a.m a.L a.n),Dn.Obj.map 3 4 (gD a.done)]/\(WG a.n a.m a.L/\a.i<=a.n/\a.n<=60)/\
 ax (decide (vF a.n a.m a.L a.done a.i<(0:Int))) (K (AV.int (-1)) [Obj.box 82 (AV.agg [AV.az 1 0 a.n,AV.az 2 0 (List.length (bc a.n a.m a.L a.n))]),
 Obj.rows 48 3 (cH a.L) none,Obj.row 68 (bc a.n a.m a.L a.n),Dn.Obj.map 3 4 (gD a.done)]) (K (AV.int (vF a.n a.m a.L a.done a.i)) [Obj.box 82 (AV.agg
 [AV.az 1 0 a.n,AV.az 2 0 (List.length (bc a.n a.m a.L a.n))]),Obj.rows 48 3 (cH a.L) none,Obj.row 68 (bc a.n a.m a.L a.n),Dn.Obj.map 3 4 (gD
 a.done)])):=by kernel_rfl
def PL(x:EH):List AV×List Dn.Obj:=([.ptr 0 0 [] 0, .mp 3],np x.n x.m x.L++[.map 3 4 (gD x.done)])
def I8(x:EH):Prop:=WG x.n x.m x.L/\x.n<=60
def Ix(x:EH):Out (AV×List Dn.Obj):= .one (.int (cz x.n x.m x.L x.done),np x.n x.m x.L++[.map 3 4 (gD x.done)])
theorem KX(n m:Nat)(L:Gr)(done:List Int)(h:cz n m L done<0):cz n m L done= -1:=by
 unfold cz at h⊢
 cases e:(eQ n).find? (ea n m L done) with
 |none=>rfl
 |some a=>
  rw[e] at h
  have:=(dK.1 (List.mem_of_find?_eq_some e)).1
  simp only[Option.getD_some] at h;omega
theorem Xo(κ:Kp):bz (Nl κ) 12 38 (aZ PL I8 Ix):=by
 refine bh ?_
 rintro⟨n,m,L,done,i,met⟩ K ⟨hG,hn⟩ ho
 refine Eq.mpr (XK κ n (cH L) (bc n m L n) (gD done) K) ?_
 refine⟨rfl,⟨n,m,L,done,0,[]⟩,rfl,⟨hG,Nat.zero_le _,hn⟩,?_⟩
 simp only[Ix,Out.run] at ho
 rw[show vF n m L done 0=cz n m L done from rfl,af]
 refine⟨fun e=>?_,fun _=>ho⟩
 rw[KX n m L done (of_decide_eq_true e)] at ho
 exact ho
theorem Xm(κ:Kp)(ls:List (List Value))(es:List (Value×AV))(K:AV->List Dn.Obj->Prop):(bg (Nl κ) 12 38 [.ptr 0 0 [] 0, .mp 2] (vz 0 ls++[.map 3 4 es]) K)=(
 letI z1:=AV.agg [AV.az 1 0 0,AV.nil]
 letI z2:=Pg.toProgram (Env.P (Cw κ))
 ag z2 38 2=ag z2 38 2/\∃(e0:LS),sp 43 [(0,AV.ptr 0 0 [] 0),(1,AV.mp 2),(11,AV.int 0),(12,AV.int 0)] [Obj.box 82 z1,Obj.rows 48 3 ls none,
 Dn.Obj.map 3 4 es]=sp 43 [(0,AV.ptr 0 0 [] 0),(1,AV.mp 2),(11,AV.int 0),(12,AV.int 0)] [Obj.box 82 z1,Obj.rows 48 3 e0.ls none,Dn.Obj.map 3 4 e0.es]
 /\True/\K (AV.int (-1)) [Obj.box 82 z1,Obj.rows 48 3 e0.ls none,Dn.Obj.map 3 4 e0.es]):=by kernel_rfl
def Qg(x:LS):List AV×List Dn.Obj:=([.ptr 0 0 [] 0, .mp 2],vz 0 x.ls++[.map 3 4 x.es])
def Md(x:LS):Out (AV×List Dn.Obj):= .one (.int (-1),vz 0 x.ls++[.map 3 4 x.es])
theorem VP(κ:Kp):bz (Nl κ) 12 38 (aZ Qg (fun _=>True) Md):=by
 refine bh ?_
 rintro⟨ls,es⟩ K _ ho
 refine Eq.mpr (Xm κ ls es K) ?_
 exact⟨rfl,⟨ls,es⟩,rfl,trivial,ho⟩
def Pe(st:List Dn.Obj):Bool:=Nat.beq st.length 4
noncomputable def OF(κ:Kp):Env:=(Nl κ).aw 38 (Bz Pe (aZ PL I8 Ix) (aZ Qg (fun _=>True) Md))
theorem Xs(κ:Kp):aC (OF κ):=(Vj κ).aw (U0 κ) (yx (Xo κ) (VP κ))
theorem Ti(κ:Kp):ai (OF κ):=(U0 κ).aw (ru aI aI)
def KA(op:Int):List AV×List Dn.Obj:=([.int op],[])
def I6(op:Int):Out (AV×List Dn.Obj):= .one (.bool (gA op),[])
def Hv(op:Int):Out (AV×List Dn.Obj):= .one (.bool (gq op),[])
def y9(_:Int):Prop:=True
theorem yIa(κ:Kp)(op:Int)(K:AV->List Dn.Obj->Prop):(bg (OF κ) 12 53 [.int op] [] K)=(
 K (AV.bool (op==(1:Int))) []):=by kernel_rfl
theorem ZU(κ:Kp):bz (OF κ) 12 53 (aZ KA y9 I6):=by
 refine bh ?_
 rintro op K _ ho
 refine Eq.mpr (yIa κ op K) ?_
 simp only[I6,Out.run,gA] at ho
 rw[MO];exact ho
noncomputable def QK(κ:Kp):Env:=(OF κ).aw 53 (aZ KA y9 I6)
theorem VB(κ:Kp):aC (QK κ):=(Xs κ).aw (Ti κ) (ZU κ)
theorem Ur(κ:Kp):ai (QK κ):=(Ti κ).aw aI
theorem yIb(κ:Kp)(op:Int)(K:AV->List Dn.Obj->Prop):(bg (QK κ) 12 72 [.int op] [] K)=(
 ax (op==(2:Int)) (K (AV.bool true) []) (K (AV.bool (decide (op>=(7:Int)))) [])):=by kernel_rfl
theorem Wl(κ:Kp):bz (QK κ) 12 72 (aZ KA y9 Hv):=by
 refine bh ?_
 rintro op K _ ho
 refine Eq.mpr (yIb κ op K) ?_
 simp only[Hv,Out.run,gq] at ho
 rw[MO]
 cases h:decide (op=2)<;>rw[h] at ho<;>exact ho
noncomputable def Cx(κ:Kp):Env:=(QK κ).aw 72 (aZ KA y9 Hv)
theorem ZJ(κ:Kp):aC (Cx κ):=(VB κ).aw (Ur κ) (Wl κ)
theorem UT(κ:Kp):ai (Cx κ):=(Ur κ).aw aI
structure DM where
 n:Nat
 m:Nat
 L:Gr
 ds:List AV
 rs:List AV
 a:ba
 h:Int
def jv(isf:Int->Bool)(n m:Nat)(L:Gr)(ds:List AV)(h:Int)(bl:List AV):Bool:=bl.any fun l=>isf (toInt (ad l 0))&&eI n m L h (de (toStr (ad (ad l 1) 0)) ds)
def rl(isf:Int->Bool)(x:DM):Prop:=(0<=x.h/\x.h<x.n)/\x.ds.length<=aP/\x.a.bl.length<=aP/\0<=x.a.i/\x.a.i<=x.a.bl.length/\∀l,l∈x.a.bl->isf (toInt (ad l 0))=true->0<=de (toStr (ad (ad l 1) 0)) x.ds/\de (toStr (ad (ad l 1) 0)) x.ds<x.n
def y1(isf:Int->Bool)(x:DM):Prop:=x.h=de x.a.rel x.ds/\(0<=x.h/\x.h<x.n)/\x.ds.length<=aP/\x.a.bl.length<=aP/\∀l,l∈x.a.bl->isf (toInt (ad l 0))=true->0<=de (toStr (ad (ad l 1) 0)) x.ds/\de (toStr (ad (ad l 1) 0)) x.ds<x.n
theorem Xu(κ:Kp)(N:Nat)(ls:List (List Value))(ds rs fs:List AV)(a:ba)(h:Int)(I:Nat->S->Prop)(n:Nat)(K:Exit->S->Prop):(vc (Cx κ) 12 119 none 8 (ag (Pr κ).toProgram 119 2) (sp 19 [(0, .ae 55 a.bl),(1, .bP 78 [.ptr 4 0 [] 0, .ptr 6 0 [] 0, .ptr 3 0 [] 0, .ptr 7 0 [] 0]),(7, .int a.bl.length),(8, .int a.i)] (r9 N ls fs++[.box 66 (.ptr 0 0 [] 0), .box 25 (gz ds rs), .box 41 (an a), .box 85 (.bP 53 []), .box 3 (.int h)])) (bI (Cx κ) 119 2 8 I n K))=(
 letI z1:=AV.agg [AV.ae 62 ds,AV.ae 41 rs]
 letI z2:=AV.agg [AV.az 1 0 N,AV.az 2 0 fs.length]
 letI z3:=AV.ptr 0 0 [] 0
 letI z4:=IntKind.wrap IntKind.i64 (a.i+(1:Int))
 letI z5:=a.bl.length
 letI z6:=AV.bP 53 []
 ax (decide (a.i<(↑z5:Int))) (aO (decide ((0:Int)<=a.i)&&decide (a.i<(↑z5:Int))) (∃(e3:List AV×ByteArray),([AV.ae 62 ds,AV.str (toStr (ad (ad
 (nth a.bl a.i.toNat) 1) 0))],aB)=([AV.ae 62 e3.1,AV.str e3.2],aB)/\iJ e3/\∃(e2:Int),([AV.int (toInt (ad (nth a.bl a.i.toNat) 0))],aB)=([AV.int
 e2],aB)/\True/\ax (gA e2) (∃(e1:KT),([AV.ptr 0 0 [] 0,AV.int h,AV.int (de e3.2 e3.1)],[Obj.box 82 z2,Obj.rows 48 3 ls none,Obj.row 68 fs])=
 ([AV.ptr 0 0 [] 0,AV.int e1.a,AV.int e1.b],[Obj.box 82 (AV.agg [AV.az 1 0 e1.n,AV.az 2 0 (List.length (bc e1.n e1.m e1.L e1.n))]),Obj.rows 48 3 (cH e1.L)
 none,Obj.row 68 (bc e1.n e1.m e1.L e1.n)])/\(((0:Int)<=e1.a/\e1.a<(↑(e1.n):Int))/\(0:Int)<=e1.b/\e1.b<(↑(e1.n):Int))/\ax (eI e1.n e1.m e1.L
 e1.a e1.b) (K Exit.ret (sp 19 [(4,AV.int a.i)] [Obj.box 82 (AV.agg [AV.az 1 0 e1.n,AV.az 2 0 (List.length (bc e1.n e1.m e1.L e1.n))]),Obj.rows 48 3 (cH e1.L)
 none,Obj.row 68 (bc e1.n e1.m e1.L e1.n),Obj.box 66 z3,Obj.box 25 z1,Obj.box 41 (an a),Obj.box 85 z6,Obj.box 3 (AV.int h)])) (∃(e0:Nat),e0<n/\I e0
 (sp 19 [(0,AV.ae 55 a.bl),(1,AV.bP 78 [AV.ptr 4 0 [] 0,AV.ptr 6 0 [] 0,AV.ptr 3 0 [] 0,AV.ptr 7 0 [] 0]),(7,AV.int (↑z5:Int)),(8,AV.int z4)]
 [Obj.box 82 (AV.agg [AV.az 1 0 e1.n,AV.az 2 0 (List.length (bc e1.n e1.m e1.L e1.n))]),Obj.rows 48 3 (cH e1.L) none,Obj.row 68 (bc e1.n e1.m e1.L e1.n),
 Obj.box 66 z3,Obj.box 25 z1,Obj.box 41 (an a),Obj.box 85 z6,Obj.box 3 (AV.int h)]))) (∃(e0:Nat),e0<n/\I e0 (sp 19 [(0,AV.ae 55 a.bl),(1,AV.bP 78
 [AV.ptr 4 0 [] 0,AV.ptr 6 0 [] 0,AV.ptr 3 0 [] 0,AV.ptr 7 0 [] 0]),(7,AV.int (↑z5:Int)),(8,AV.int z4)] [Obj.box 82 z2,Obj.rows 48 3 ls none,Obj.row
 68 fs,Obj.box 66 z3,Obj.box 25 z1,Obj.box 41 (an a),Obj.box 85 z6,Obj.box 3 (AV.int h)])))) (K (Exit.exit 0) (sp 19 [] [Obj.box 82 z2,Obj.rows 48 3 ls
 none,Obj.row 68 fs,Obj.box 66 z3,Obj.box 25 z1,Obj.box 41 (an a),Obj.box 85 z6,Obj.box 3 (AV.int h)]))):=by kernel_rfl
abbrev LU(x:DM):S:=(sp 19 [(0, .ae 55 x.a.bl),(1, .bP 78 [.ptr 4 0 [] 0, .ptr 6 0 [] 0, .ptr 3 0 [] 0, .ptr 7 0 [] 0]),(7, .int x.a.bl.length),(8, .int x.a.i)] (r9 x.n (cH x.L) (bc x.n x.m x.L x.n)++[.box 66 (.ptr 0 0 [] 0), .box 25 (gz x.ds x.rs), .box 41 (an x.a), .box 85 (.bP 53 []), .box 3 (.int x.h)]))
def Ei(x:DM):Out (Exit×S):= .all (fun j:Int=>0<=j) fun j=> .ax (jv gA x.n x.m x.L x.ds x.h (x.a.bl.drop x.a.i.toNat))
 (.one (.ret,sp 19 [(4, .int j)] (np x.n x.m x.L++[.box 66 (.ptr 0 0 [] 0), .box 25 (gz x.ds x.rs), .box 41 (an x.a), .box 85 (.bP 53 []), .box 3 (.int x.h)])))
 (.one (.exit 0,sp 19 [] (np x.n x.m x.L++[.box 66 (.ptr 0 0 [] 0), .box 25 (gz x.ds x.rs), .box 41 (an x.a), .box 85 (.bP 53 []), .box 3 (.int x.h)])))
theorem Zn(κ:Kp):bn (Cx κ) 12 119 2 (aQ 8 LU (rl gA) Ei):=by
 refine aR (fun x=>x.a.bl.length - x.a.i.toNat) ?_
 rintro⟨n,m,L,ds,rs,⟨xs,more,rel,hl,bl,line,i⟩,h⟩ K ⟨hh,hd,hb,h0,h1,hm⟩ ho
 simp only at hh hd hb h0 h1 hm
 rw[show(Cx κ).P=Pr κ from rfl]
 refine Eq.mpr (Xu κ n (cH L) ds rs (bc n m L n) ⟨xs,more,rel,hl,bl,line,i⟩ h _ _ K) ?_
 simp only[aP] at hb
 rw[af,au,aa1,aa0,aa0,aa2]
 refine⟨fun hi=>⟨⟨h0,hi⟩,(ds,toStr (ad (ad (nth bl i.toNat) 1) 0)),rfl,hd,toInt (ad (nth bl i.toNat) 0),rfl,trivial,?_⟩,fun hi=>?_⟩
 ·have hi:i<(bl.length:Int):=hi
  have hk:i.toNat<bl.length:=by omega
  have hx:nth bl i.toNat∈bl:=by rw[a8 _ _ hk];exact List.getElem_mem _
  have hs:jv gA n m L ds h (bl.drop i.toNat)=((gA (toInt (ad (nth bl i.toNat) 0))&&eI n m L h (de (toStr (ad (ad (nth bl i.toNat) 1) 0)) ds))||jv gA n m L ds h (bl.drop (i.toNat+1))):=by
   rw[ab1 hk,←a8 bl i.toNat hk];rfl
  have next:(gA (toInt (ad (nth bl i.toNat) 0))&&eI n m L h (de (toStr (ad (ad (nth bl i.toNat) 1) 0)) ds))=false->∃k,k<bl.length - i.toNat/\fw LU (rl gA) Ei (fun x=>x.a.bl.length - x.a.i.toNat) K k (LU ⟨n,m,L,ds,rs,⟨xs,more,rel,hl,bl,line,i+1⟩,h⟩):=fun e=>by
   rw[e,Bool.false_or] at hs
   refine⟨_,?_,⟨n,m,L,ds,rs,⟨xs,more,rel,hl,bl,line,i+1⟩,h⟩,rfl,⟨hh,hd,by simpa[aP] using hb,by simp only;omega,by simp only;omega,hm⟩,rfl,?_⟩
   ·simp only;omega
   ·simp only[Ei,Out.run,show(i+1).toNat=i.toNat+1 by omega,←hs]
    exact ho
  rw[a5 (n:=i+1) (by omega) (by omega),af]
  refine⟨fun e=>⟨⟨n,m,L,h,de (toStr (ad (ad (nth bl i.toNat) 1) 0)) ds⟩,rfl,⟨hh,hm _ hx e⟩,?_⟩,fun e=>?_⟩
  ·rw[af]
   refine⟨fun e2=>?_,fun e2=>?_⟩
   ·have:=ho i h0
    simp only at e2
    simp only[Out.run] at this
    rw[hs,e,e2] at this
    exact this
   ·exact next (by rw[e,ab9];exact e2)
  ·exact next (by rw[e,Bool.false_and])
 ·have:=ho 0 (by omega)
  simp only at hi
  simp only[Out.run] at this
  rw[aa8 (by omega)] at this
  exact this
theorem Z1(κ:Kp)(N:Nat)(ls:List (List Value))(ds rs fs:List AV)(a:ba)(h:Int)(I:Nat->S->Prop)(n:Nat)(K:Exit->S->Prop):(vc (Cx κ) 12 119 none 8 (ag (Pr κ).toProgram 119 2) (sp 19 [(0, .ae 55 a.bl),(1, .bP 78 [.ptr 4 0 [] 0, .ptr 6 0 [] 0, .ptr 3 0 [] 0, .ptr 7 0 [] 0]),(7, .int a.bl.length),(8, .int a.i)] (r9 N ls fs++[.box 66 (.ptr 0 0 [] 0), .box 25 (gz ds rs), .box 41 (an a), .box 85 (.bP 72 []), .box 3 (.int h)])) (bI (Cx κ) 119 2 8 I n K))=(
 letI z1:=AV.agg [AV.ae 62 ds,AV.ae 41 rs]
 letI z2:=AV.agg [AV.az 1 0 N,AV.az 2 0 fs.length]
 letI z3:=AV.ptr 0 0 [] 0
 letI z4:=IntKind.wrap IntKind.i64 (a.i+(1:Int))
 letI z5:=a.bl.length
 letI z6:=AV.bP 72 []
 ax (decide (a.i<(↑z5:Int))) (aO (decide ((0:Int)<=a.i)&&decide (a.i<(↑z5:Int))) (∃(e3:List AV×ByteArray),([AV.ae 62 ds,AV.str (toStr (ad (ad
 (nth a.bl a.i.toNat) 1) 0))],aB)=([AV.ae 62 e3.1,AV.str e3.2],aB)/\iJ e3/\∃(e2:Int),([AV.int (toInt (ad (nth a.bl a.i.toNat) 0))],aB)=([AV.int
 e2],aB)/\True/\ax (gq e2) (∃(e1:KT),([AV.ptr 0 0 [] 0,AV.int h,AV.int (de e3.2 e3.1)],[Obj.box 82 z2,Obj.rows 48 3 ls none,Obj.row 68 fs])=
 ([AV.ptr 0 0 [] 0,AV.int e1.a,AV.int e1.b],[Obj.box 82 (AV.agg [AV.az 1 0 e1.n,AV.az 2 0 (List.length (bc e1.n e1.m e1.L e1.n))]),Obj.rows 48 3 (cH e1.L)
 none,Obj.row 68 (bc e1.n e1.m e1.L e1.n)])/\(((0:Int)<=e1.a/\e1.a<(↑(e1.n):Int))/\(0:Int)<=e1.b/\e1.b<(↑(e1.n):Int))/\ax (eI e1.n e1.m e1.L
 e1.a e1.b) (K Exit.ret (sp 19 [(4,AV.int a.i)] [Obj.box 82 (AV.agg [AV.az 1 0 e1.n,AV.az 2 0 (List.length (bc e1.n e1.m e1.L e1.n))]),Obj.rows 48 3 (cH e1.L)
 none,Obj.row 68 (bc e1.n e1.m e1.L e1.n),Obj.box 66 z3,Obj.box 25 z1,Obj.box 41 (an a),Obj.box 85 z6,Obj.box 3 (AV.int h)])) (∃(e0:Nat),e0<n/\I e0
 (sp 19 [(0,AV.ae 55 a.bl),(1,AV.bP 78 [AV.ptr 4 0 [] 0,AV.ptr 6 0 [] 0,AV.ptr 3 0 [] 0,AV.ptr 7 0 [] 0]),(7,AV.int (↑z5:Int)),(8,AV.int z4)]
 [Obj.box 82 (AV.agg [AV.az 1 0 e1.n,AV.az 2 0 (List.length (bc e1.n e1.m e1.L e1.n))]),Obj.rows 48 3 (cH e1.L) none,Obj.row 68 (bc e1.n e1.m e1.L e1.n),
 Obj.box 66 z3,Obj.box 25 z1,Obj.box 41 (an a),Obj.box 85 z6,Obj.box 3 (AV.int h)]))) (∃(e0:Nat),e0<n/\I e0 (sp 19 [(0,AV.ae 55 a.bl),(1,AV.bP 78
 [AV.ptr 4 0 [] 0,AV.ptr 6 0 [] 0,AV.ptr 3 0 [] 0,AV.ptr 7 0 [] 0]),(7,AV.int (↑z5:Int)),(8,AV.int z4)] [Obj.box 82 z2,Obj.rows 48 3 ls none,Obj.row
 68 fs,Obj.box 66 z3,Obj.box 25 z1,Obj.box 41 (an a),Obj.box 85 z6,Obj.box 3 (AV.int h)])))) (K (Exit.exit 0) (sp 19 [] [Obj.box 82 z2,Obj.rows 48 3 ls
 none,Obj.row 68 fs,Obj.box 66 z3,Obj.box 25 z1,Obj.box 41 (an a),Obj.box 85 z6,Obj.box 3 (AV.int h)]))):=by kernel_rfl
abbrev JZ(x:DM):S:=(sp 19 [(0, .ae 55 x.a.bl),(1, .bP 78 [.ptr 4 0 [] 0, .ptr 6 0 [] 0, .ptr 3 0 [] 0, .ptr 7 0 [] 0]),(7, .int x.a.bl.length),(8, .int x.a.i)] (r9 x.n (cH x.L) (bc x.n x.m x.L x.n)++[.box 66 (.ptr 0 0 [] 0), .box 25 (gz x.ds x.rs), .box 41 (an x.a), .box 85 (.bP 72 []), .box 3 (.int x.h)]))
def ES(x:DM):Out (Exit×S):= .all (fun j:Int=>0<=j) fun j=> .ax (jv gq x.n x.m x.L x.ds x.h (x.a.bl.drop x.a.i.toNat))
 (.one (.ret,sp 19 [(4, .int j)] (np x.n x.m x.L++[.box 66 (.ptr 0 0 [] 0), .box 25 (gz x.ds x.rs), .box 41 (an x.a), .box 85 (.bP 72 []), .box 3 (.int x.h)])))
 (.one (.exit 0,sp 19 [] (np x.n x.m x.L++[.box 66 (.ptr 0 0 [] 0), .box 25 (gz x.ds x.rs), .box 41 (an x.a), .box 85 (.bP 72 []), .box 3 (.int x.h)])))
theorem YO(κ:Kp):bn (Cx κ) 12 119 2 (aQ 8 JZ (rl gq) ES):=by
 refine aR (fun x=>x.a.bl.length - x.a.i.toNat) ?_
 rintro⟨n,m,L,ds,rs,⟨xs,more,rel,hl,bl,line,i⟩,h⟩ K ⟨hh,hd,hb,h0,h1,hm⟩ ho
 simp only at hh hd hb h0 h1 hm
 rw[show(Cx κ).P=Pr κ from rfl]
 refine Eq.mpr (Z1 κ n (cH L) ds rs (bc n m L n) ⟨xs,more,rel,hl,bl,line,i⟩ h _ _ K) ?_
 simp only[aP] at hb
 rw[af,au,aa1,aa0,aa0,aa2]
 refine⟨fun hi=>⟨⟨h0,hi⟩,(ds,toStr (ad (ad (nth bl i.toNat) 1) 0)),rfl,hd,toInt (ad (nth bl i.toNat) 0),rfl,trivial,?_⟩,fun hi=>?_⟩
 ·have hi:i<(bl.length:Int):=hi
  have hk:i.toNat<bl.length:=by omega
  have hx:nth bl i.toNat∈bl:=by rw[a8 _ _ hk];exact List.getElem_mem _
  have hs:jv gq n m L ds h (bl.drop i.toNat)=((gq (toInt (ad (nth bl i.toNat) 0))&&eI n m L h (de (toStr (ad (ad (nth bl i.toNat) 1) 0)) ds))||jv gq n m L ds h (bl.drop (i.toNat+1))):=by
   rw[ab1 hk,←a8 bl i.toNat hk];rfl
  have next:(gq (toInt (ad (nth bl i.toNat) 0))&&eI n m L h (de (toStr (ad (ad (nth bl i.toNat) 1) 0)) ds))=false->∃k,k<bl.length - i.toNat/\fw JZ (rl gq) ES (fun x=>x.a.bl.length - x.a.i.toNat) K k (JZ ⟨n,m,L,ds,rs,⟨xs,more,rel,hl,bl,line,i+1⟩,h⟩):=fun e=>by
   rw[e,Bool.false_or] at hs
   refine⟨_,?_,⟨n,m,L,ds,rs,⟨xs,more,rel,hl,bl,line,i+1⟩,h⟩,rfl,⟨hh,hd,by simpa[aP] using hb,by simp only;omega,by simp only;omega,hm⟩,rfl,?_⟩
   ·simp only;omega
   ·simp only[ES,Out.run,show(i+1).toNat=i.toNat+1 by omega,←hs]
    exact ho
  rw[a5 (n:=i+1) (by omega) (by omega),af]
  refine⟨fun e=>⟨⟨n,m,L,h,de (toStr (ad (ad (nth bl i.toNat) 1) 0)) ds⟩,rfl,⟨hh,hm _ hx e⟩,?_⟩,fun e=>?_⟩
  ·rw[af]
   refine⟨fun e2=>?_,fun e2=>?_⟩
   ·have:=ho i h0
    simp only at e2
    simp only[Out.run] at this
    rw[hs,e,e2] at this
    exact this
   ·exact next (by rw[e,ab9];exact e2)
  ·exact next (by rw[e,Bool.false_and])
 ·have:=ho 0 (by omega)
  simp only at hi
  simp only[Out.run] at this
  rw[aa8 (by omega)] at this
  exact this
def Ss(s:S):Bool:=match ar s.st 6 with| .box _ (.bP f _)=>Nat.beq f 53|_=>false
noncomputable def Nq(κ:Kp):Env:=(Cx κ).aj 119 2 (pn Ss (aQ 8 LU (rl gA) Ei) (aQ 8 JZ (rl gq) ES))
theorem Y8(κ:Kp):aC (Nq κ):=(ZJ κ).aj (UT κ) (nw (Zn κ) (YO κ))
theorem UA(κ:Kp):ai (Nq κ):=(UT κ).aj (jU aG aG)
theorem Xa(κ:Kp)(N:Nat)(ls:List (List Value))(ds rs fs:List AV)(a:ba)(K:AV->List Dn.Obj->Prop):(bg (Nq κ) 12 52 [.ptr 0 0 [] 0,gz ds rs,an a, .bP 53 []] (r9 N ls fs) K)=(
 letI z1:=Pg.toProgram (Env.P (Cx κ))
 ∃(e2:List AV×ByteArray),([AV.ae 62 ds,AV.str a.rel],aB)=([AV.ae 62 e2.1,AV.str e2.2],aB)/\iJ e2/\ag z1 119 2=ag z1 119 2/\∃(e1:DM),sp 19
 [(0,AV.ae 55 a.bl),(1,AV.bP 78 [AV.ptr 4 0 [] 0,AV.ptr 6 0 [] 0,AV.ptr 3 0 [] 0,AV.ptr 7 0 [] 0]),(7,AV.int (↑(a.bl.length):Int)),(8,AV.int 0)]
 [Obj.box 82 (AV.agg [AV.az 1 0 N,AV.az 2 0 fs.length]),Obj.rows 48 3 ls none,Obj.row 68 fs,Obj.box 66 (AV.ptr 0 0 [] 0),Obj.box 25 (AV.agg [AV.ae 62 ds,
 AV.ae 41 rs]),Obj.box 41 (an a),Obj.box 85 (AV.bP 53 []),Obj.box 3 (AV.int (de e2.2 e2.1))]=sp 19 [(0,AV.ae 55 e1.a.bl),(1,AV.bP 78 [AV.ptr 4 0 [] 0,
 AV.ptr 6 0 [] 0,AV.ptr 3 0 [] 0,AV.ptr 7 0 [] 0]),(7,AV.int (↑(List.length e1.a.bl):Int)),(8,AV.int e1.a.i)] [Obj.box 82 (AV.agg [AV.az 1 0 e1.n,AV.az
 2 0 (List.length (bc e1.n e1.m e1.L e1.n))]),Obj.rows 48 3 (cH e1.L) none,Obj.row 68 (bc e1.n e1.m e1.L e1.n),Obj.box 66 (AV.ptr 0 0 [] 0),Obj.box 25
 (AV.agg [AV.ae 62 e1.ds,AV.ae 41 e1.rs]),Obj.box 41 (an e1.a),Obj.box 85 (AV.bP 53 []),Obj.box 3 (AV.int e1.h)]/\(((0:Int)<=e1.h/\e1.h<(↑(e1.n):
 Int))/\e1.ds.length<=9223372036854775807/\List.length e1.a.bl<=9223372036854775807/\(0:Int)<=e1.a.i/\e1.a.i<=(↑(List.length e1.a.bl):Int)/\∀(e0:
 AV),List.Mem e0 e1.a.bl->gA (toInt (ad e0 0))=true->(0:Int)<=de (toStr (ad (ad e0 1) 0)) e1.ds/\de (toStr (ad (ad e0 1) 0)) e1.ds<(↑(e1.n):Int))/\
 ∀(e0:Int),(0:Int)<=e0->ax (jv gA e1.n e1.m e1.L e1.ds e1.h (List.drop (Int.toNat e1.a.i) e1.a.bl)) (K (AV.bool (decide (e0>=(0:Int)))) [Obj.box 82
 (AV.agg [AV.az 1 0 e1.n,AV.az 2 0 (List.length (bc e1.n e1.m e1.L e1.n))]),Obj.rows 48 3 (cH e1.L) none,Obj.row 68 (bc e1.n e1.m e1.L e1.n)]) (K (AV.bool
 false) [Obj.box 82 (AV.agg [AV.az 1 0 e1.n,AV.az 2 0 (List.length (bc e1.n e1.m e1.L e1.n))]),Obj.rows 48 3 (cH e1.L) none,Obj.row 68 (bc e1.n e1.m e1.L
 e1.n)])):=by kernel_rfl
def L0(x:DM):List AV×List Dn.Obj:=([.ptr 0 0 [] 0,gz x.ds x.rs,an x.a, .bP 53 []],np x.n x.m x.L)
def Cn(x:DM):Out (AV×List Dn.Obj):= .one (.bool (jv gA x.n x.m x.L x.ds x.h x.a.bl),np x.n x.m x.L)
theorem YK(κ:Kp):bz (Nq κ) 12 52 (aZ L0 (y1 gA) Cn):=by
 refine bh ?_
 rintro⟨n,m,L,ds,rs,⟨xs,more,rel,hl,bl,line,i⟩,h⟩ K ⟨he,hh,hd,hb,hm⟩ ho
 simp only at he hh hd hb hm
 refine Eq.mpr (Xa κ n (cH L) ds rs (bc n m L n) ⟨xs,more,rel,hl,bl,line,i⟩ K) ?_
 simp only[Cn,Out.run] at ho
 refine⟨(ds,rel),rfl,hd,rfl,⟨n,m,L,ds,rs,⟨xs,more,rel,hl,bl,line,0⟩,h⟩,by simp only[he],⟨hh,hd,hb,by simp only;omega,by simp only;omega,hm⟩,fun j hj=>?_⟩
 show ax (jv gA n m L ds h bl) (K (.bool (decide (j>=0))) (np n m L)) (K (.bool false) (np n m L))
 rw[af,aa6 (show j>=0 from hj)]
 exact⟨fun e=>by rw[e] at ho;exact ho,fun e=>by rw[e] at ho;exact ho⟩
theorem WZ(κ:Kp)(N:Nat)(ls:List (List Value))(ds rs fs:List AV)(a:ba)(K:AV->List Dn.Obj->Prop):(bg (Nq κ) 12 52 [.ptr 0 0 [] 0,gz ds rs,an a, .bP 72 []] (r9 N ls fs) K)=(
 letI z1:=Pg.toProgram (Env.P (Cx κ))
 ∃(e2:List AV×ByteArray),([AV.ae 62 ds,AV.str a.rel],aB)=([AV.ae 62 e2.1,AV.str e2.2],aB)/\iJ e2/\ag z1 119 2=ag z1 119 2/\∃(e1:DM),sp 19
 [(0,AV.ae 55 a.bl),(1,AV.bP 78 [AV.ptr 4 0 [] 0,AV.ptr 6 0 [] 0,AV.ptr 3 0 [] 0,AV.ptr 7 0 [] 0]),(7,AV.int (↑(a.bl.length):Int)),(8,AV.int 0)]
 [Obj.box 82 (AV.agg [AV.az 1 0 N,AV.az 2 0 fs.length]),Obj.rows 48 3 ls none,Obj.row 68 fs,Obj.box 66 (AV.ptr 0 0 [] 0),Obj.box 25 (AV.agg [AV.ae 62 ds,
 AV.ae 41 rs]),Obj.box 41 (an a),Obj.box 85 (AV.bP 72 []),Obj.box 3 (AV.int (de e2.2 e2.1))]=sp 19 [(0,AV.ae 55 e1.a.bl),(1,AV.bP 78 [AV.ptr 4 0 [] 0,
 AV.ptr 6 0 [] 0,AV.ptr 3 0 [] 0,AV.ptr 7 0 [] 0]),(7,AV.int (↑(List.length e1.a.bl):Int)),(8,AV.int e1.a.i)] [Obj.box 82 (AV.agg [AV.az 1 0 e1.n,AV.az
 2 0 (List.length (bc e1.n e1.m e1.L e1.n))]),Obj.rows 48 3 (cH e1.L) none,Obj.row 68 (bc e1.n e1.m e1.L e1.n),Obj.box 66 (AV.ptr 0 0 [] 0),Obj.box 25
 (AV.agg [AV.ae 62 e1.ds,AV.ae 41 e1.rs]),Obj.box 41 (an e1.a),Obj.box 85 (AV.bP 72 []),Obj.box 3 (AV.int e1.h)]/\(((0:Int)<=e1.h/\e1.h<(↑(e1.n):
 Int))/\e1.ds.length<=9223372036854775807/\List.length e1.a.bl<=9223372036854775807/\(0:Int)<=e1.a.i/\e1.a.i<=(↑(List.length e1.a.bl):Int)/\∀(e0:
 AV),List.Mem e0 e1.a.bl->gq (toInt (ad e0 0))=true->(0:Int)<=de (toStr (ad (ad e0 1) 0)) e1.ds/\de (toStr (ad (ad e0 1) 0)) e1.ds<(↑(e1.n):Int))/\
 ∀(e0:Int),(0:Int)<=e0->ax (jv gq e1.n e1.m e1.L e1.ds e1.h (List.drop (Int.toNat e1.a.i) e1.a.bl)) (K (AV.bool (decide (e0>=(0:Int)))) [Obj.box 82
 (AV.agg [AV.az 1 0 e1.n,AV.az 2 0 (List.length (bc e1.n e1.m e1.L e1.n))]),Obj.rows 48 3 (cH e1.L) none,Obj.row 68 (bc e1.n e1.m e1.L e1.n)]) (K (AV.bool
 false) [Obj.box 82 (AV.agg [AV.az 1 0 e1.n,AV.az 2 0 (List.length (bc e1.n e1.m e1.L e1.n))]),Obj.rows 48 3 (cH e1.L) none,Obj.row 68 (bc e1.n e1.m e1.L
 e1.n)])):=by kernel_rfl
def MD(x:DM):List AV×List Dn.Obj:=([.ptr 0 0 [] 0,gz x.ds x.rs,an x.a, .bP 72 []],np x.n x.m x.L)
def Cj(x:DM):Out (AV×List Dn.Obj):= .one (.bool (jv gq x.n x.m x.L x.ds x.h x.a.bl),np x.n x.m x.L)
theorem Xz(κ:Kp):bz (Nq κ) 12 52 (aZ MD (y1 gq) Cj):=by
 refine bh ?_
 rintro⟨n,m,L,ds,rs,⟨xs,more,rel,hl,bl,line,i⟩,h⟩ K ⟨he,hh,hd,hb,hm⟩ ho
 simp only at he hh hd hb hm
 refine Eq.mpr (WZ κ n (cH L) ds rs (bc n m L n) ⟨xs,more,rel,hl,bl,line,i⟩ K) ?_
 simp only[Cj,Out.run] at ho
 refine⟨(ds,rel),rfl,hd,rfl,⟨n,m,L,ds,rs,⟨xs,more,rel,hl,bl,line,0⟩,h⟩,by simp only[he],⟨hh,hd,hb,by simp only;omega,by simp only;omega,hm⟩,fun j hj=>?_⟩
 show ax (jv gq n m L ds h bl) (K (.bool (decide (j>=0))) (np n m L)) (K (.bool false) (np n m L))
 rw[af,aa6 (show j>=0 from hj)]
 exact⟨fun e=>by rw[e] at ho;exact ho,fun e=>by rw[e] at ho;exact ho⟩
def CJ(sel:List AV->Bool)(a b:cX):cX:=fun args st K=>bif sel args then a args st K else b args st K
theorem we{sel:List AV->Bool}{a b:cX}(ha:a.jI)(hb:b.jI):(CJ sel a b).jI:=fun args st K K' hK h=>by
 unfold CJ at h⊢
 cases hs:sel args<;>simp only[hs] at h⊢
 ·exact hb _ _ _ _ hK h
 ·exact ha _ _ _ _ hK h
theorem Ey{E:Env}{N f:Nat}{sel:List AV->Bool}{a b:cX}(ha:bz E N f a)(hb:bz E N f b):bz E N f (CJ sel a b):=fun args st K h=>by
 unfold CJ at h
 cases hs:sel args<;>rw[hs] at h
 ·exact hb _ _ _ h
 ·exact ha _ _ _ h
def SF:List AV->Bool
 |[_,_,_, .bP f _]=>Nat.beq f 53
 |_=>false
noncomputable def B5(κ:Kp):Env:=(Nq κ).aw 52 (CJ SF (aZ L0 (y1 gA) Cn) (aZ MD (y1 gq) Cj))
theorem VQ(κ:Kp):aC (B5 κ):=(Y8 κ).aw (UA κ) (Ey (YK κ) (Xz κ))
theorem UC(κ:Kp):ai (B5 κ):=(UA κ).aw (we aI aI)
theorem WD(κ:Kp)(N i:Nat)(ls:List (List Value))(ds rs fs:List AV)(I:Nat->S->Prop)(n:Nat)(K:Exit->S->Prop):(vc (B5 κ) 12 37 none 3 (ag (Pr κ).toProgram 37 2) (sp 38 [(0, .ptr 0 0 [] 0),(3, .ptr 3 0 [] 0),(11, .ae 41 rs),(12, .int rs.length),(13, .int i)] (r9 N ls fs++[.box 25 (gz ds rs)])) (bI (B5 κ) 37 2 3 I n K))=(
 letI z1:=nth rs (Int.toNat (↑i:Int))
 letI z2:=IntKind.wrap IntKind.i64 ((↑i:Int)+(1:Int))
 letI z3:=AV.agg [AV.ae 62 ds,AV.ae 41 rs]
 letI z4:=toInt (ad z1 2)
 letI z5:=toStr (ad (ad z1 0) 0)
 letI z6:=AV.agg [AV.az 1 0 N,AV.az 2 0 fs.length]
 letI z7:=(↑i:Int)<(↑(rs.length):Int)
 letI z8:=ah (ad (ad z1 0) 1)
 letI z9:=ah (ad z1 1)
 ax (decide z7) (aO (true&&decide z7) (∃(e3:DM),([AV.ptr 0 0 [] 0,AV.agg [AV.ae 62 ds,AV.ae 41 rs],AV.agg [AV.agg [AV.str z5,AV.ae 52 z8],AV.ae 55 z9,
 AV.int z4],AV.bP 72 []],[Obj.box 82 z6,Obj.rows 48 3 ls none,Obj.row 68 fs])=([AV.ptr 0 0 [] 0,AV.agg [AV.ae 62 e3.ds,AV.ae 41 e3.rs],an e3.a,AV.bP 72
 []],[Obj.box 82 (AV.agg [AV.az 1 0 e3.n,AV.az 2 0 (List.length (bc e3.n e3.m e3.L e3.n))]),Obj.rows 48 3 (cH e3.L) none,Obj.row 68 (bc e3.n e3.m e3.L
 e3.n)])/\(e3.h=de e3.a.rel e3.ds/\((0:Int)<=e3.h/\e3.h<(↑(e3.n):Int))/\e3.ds.length<=9223372036854775807/\List.length e3.a.bl<=
 9223372036854775807/\∀(e0:AV),List.Mem e0 e3.a.bl->gq (toInt (ad e0 0))=true->(0:Int)<=de (toStr (ad (ad e0 1) 0)) e3.ds/\de (toStr (ad (ad e0 1)
 0)) e3.ds<(↑(e3.n):Int))/\ax (jv gq e3.n e3.m e3.L e3.ds e3.h e3.a.bl) (K Exit.ret (sp 38 [(4,AV.int z4),(5,AV.int 70)] [Obj.box 82 (AV.agg [AV.az 1 0
 e3.n,AV.az 2 0 (List.length (bc e3.n e3.m e3.L e3.n))]),Obj.rows 48 3 (cH e3.L) none,Obj.row 68 (bc e3.n e3.m e3.L e3.n)])) (∃(e2:ba),([AV.agg [AV.agg
 [AV.str z5,AV.ae 52 z8],AV.ae 55 z9,AV.int z4]],aB)=([an e2],aB)/\(aM (aa (aH 52 e2.hl e2.bl))<=100000/\e2.bl.length<=100000)/\ax (aU (aJ e2)) (ax
 (kc (aJ e2)) (ax (Hj (aJ e2)) (∃(e1:DM),([AV.ptr 0 0 [] 0,AV.agg [AV.ae 62 ds,AV.ae 41 rs],AV.agg [AV.agg [AV.str z5,AV.ae 52 z8],AV.ae 55 z9,AV.int
 z4],AV.bP 53 []],[Obj.box 82 (AV.agg [AV.az 1 0 e3.n,AV.az 2 0 (List.length (bc e3.n e3.m e3.L e3.n))]),Obj.rows 48 3 (cH e3.L) none,Obj.row 68 (bc e3.n
 e3.m e3.L e3.n)])=([AV.ptr 0 0 [] 0,AV.agg [AV.ae 62 e1.ds,AV.ae 41 e1.rs],an e1.a,AV.bP 53 []],[Obj.box 82 (AV.agg [AV.az 1 0 e1.n,AV.az 2 0
 (List.length (bc e1.n e1.m e1.L e1.n))]),Obj.rows 48 3 (cH e1.L) none,Obj.row 68 (bc e1.n e1.m e1.L e1.n)])/\(e1.h=de e1.a.rel e1.ds/\((0:Int)<=e1.h/\
 e1.h<(↑(e1.n):Int))/\e1.ds.length<=9223372036854775807/\List.length e1.a.bl<=9223372036854775807/\∀(e0:AV),List.Mem e0 e1.a.bl->gA (toInt (ad e0
 0))=true->(0:Int)<=de (toStr (ad (ad e0 1) 0)) e1.ds/\de (toStr (ad (ad e0 1) 0)) e1.ds<(↑(e1.n):Int))/\ax (jv gA e1.n e1.m e1.L e1.ds e1.h e1.a.bl)
 (K Exit.ret (sp 38 [(4,AV.int z4),(5,AV.int 71)] [Obj.box 82 (AV.agg [AV.az 1 0 e1.n,AV.az 2 0 (List.length (bc e1.n e1.m e1.L e1.n))]),Obj.rows 48 3 (cH
 e1.L) none,Obj.row 68 (bc e1.n e1.m e1.L e1.n)])) (∃(e0:Nat),e0<n/\I e0 (sp 38 [(0,AV.ptr 0 0 [] 0),(3,AV.ptr 3 0 [] 0),(11,AV.ae 41 rs),(12,
 AV.int (↑(rs.length):Int)),(13,AV.int z2)] [Obj.box 82 (AV.agg [AV.az 1 0 e1.n,AV.az 2 0 (List.length (bc e1.n e1.m e1.L e1.n))]),Obj.rows 48 3 (cH e1.L)
 none,Obj.row 68 (bc e1.n e1.m e1.L e1.n),Obj.box 25 z3]))) (∃(e0:Nat),e0<n/\I e0 (sp 38 [(0,AV.ptr 0 0 [] 0),(3,AV.ptr 3 0 [] 0),(11,AV.ae 41 rs),
 (12,AV.int (↑(rs.length):Int)),(13,AV.int z2)] [Obj.box 82 (AV.agg [AV.az 1 0 e3.n,AV.az 2 0 (List.length (bc e3.n e3.m e3.L e3.n))]),Obj.rows 48 3 (cH
 e3.L) none,Obj.row 68 (bc e3.n e3.m e3.L e3.n),Obj.box 25 z3]))) (∃(e0:Nat),e0<n/\I e0 (sp 38 [(0,AV.ptr 0 0 [] 0),(3,AV.ptr 3 0 [] 0),(11,AV.ae
 41 rs),(12,AV.int (↑(rs.length):Int)),(13,AV.int z2)] [Obj.box 82 (AV.agg [AV.az 1 0 e3.n,AV.az 2 0 (List.length (bc e3.n e3.m e3.L e3.n))]),Obj.rows 48
 3 (cH e3.L) none,Obj.row 68 (bc e3.n e3.m e3.L e3.n),Obj.box 25 z3]))) (∃(e0:Nat),e0<n/\I e0 (sp 38 [(0,AV.ptr 0 0 [] 0),(3,AV.ptr 3 0 [] 0),(11,
 AV.ae 41 rs),(12,AV.int (↑(rs.length):Int)),(13,AV.int z2)] [Obj.box 82 (AV.agg [AV.az 1 0 e3.n,AV.az 2 0 (List.length (bc e3.n e3.m e3.L e3.n))]),
 Obj.rows 48 3 (cH e3.L) none,Obj.row 68 (bc e3.n e3.m e3.L e3.n),Obj.box 25 z3]))))) (K (Exit.exit 0) (sp 38 [] [Obj.box 82 z6,Obj.rows 48 3 ls none,Obj.row
 68 fs]))):=by kernel_rfl
theorem ZZ(κ:Kp)(ls:List (List Value))(ds:List AV)(I:Nat->S->Prop)(n:Nat)(K:Exit->S->Prop):(vc (B5 κ) 12 37 none 2 (ag (Pr κ).toProgram 37 2) (sp 38 [(0, .ptr 0 0 [] 0),(3, .ptr 2 0 [] 0),(11, .ae 41 []),(12, .int 0),(13, .int 0)] (vz 0 ls++[.box 25 (gz ds [])])) (bI (B5 κ) 37 2 2 I n K))=(
 K (Exit.exit 0) (sp 38 [] [Obj.box 82 (AV.agg [AV.az 1 0 0,AV.nil]),Obj.rows 48 3 ls none])):=by kernel_rfl
def sa(r:AV):Bool:=aU (aJ (bM r))&&kc (aJ (bM r))&&Hj (aJ (bM r))
def PE(ds:List AV)(r:AV):Int:=de (toStr (ad (ad r 0) 0)) ds
def tG(isf:Int->Bool)(n m:Nat)(L:Gr)(ds:List AV)(r:AV):Bool:=jv isf n m L ds (PE ds r) (ah (ad r 1))
def sv(n m:Nat)(L:Gr)(ds:List AV):List AV->Int×Int
 |[]=>(0,0)
 |r::rs=>bif tG gq n m L ds r then(toInt (ad r 2),70) else bif sa r&&tG gA n m L ds r then(toInt (ad r 2),71) else sv n m L ds rs
structure wK(n:Nat)(ds:List AV)(r:AV):Prop where
 hd:0<=PE ds r/\PE ds r<n
 at_: ∀l,l∈ah (ad r 1)->dm (toInt (ad l 0))=true->0<=de (toStr (ad (ad l 1) 0)) ds/\de (toStr (ad (ad l 1) 0)) ds<n
 le:(ah (ad r 1)).length<=aP
 R0:dr (bM r)
theorem z8{op:Int}(h:gA op=true):dm op=true:=by
 have:op=1:=by simpa[gA] using h
 subst this;rfl
theorem Ar{op:Int}(h:gq op=true):dm op=true:=by
 unfold gq at h
 unfold dm
 by_cases e:op=2
 ·subst e;rfl
 ·rw[aa4 e,aa5,aa0] at h
  cases decide (op<3)
  ·rw[aa5,aa0];omega
  ·rfl
structure L8 where
 n:Nat
 m:Nat
 L:Gr
 ds:List AV
 rs:List AV
 i:Nat
abbrev J1(x:L8):S:=sp 38 [(0, .ptr 0 0 [] 0),(3, .ptr 3 0 [] 0),(11, .ae 41 x.rs),(12, .int x.rs.length),(13, .int x.i)] (np x.n x.m x.L++[.box 25 (gz x.ds x.rs)])
def CN(x:L8):Prop:=x.ds.length<=aP/\x.rs.length<=aP/\x.i<=x.rs.length/\∀r,r∈x.rs->wK x.n x.ds r
def zf(x:L8):Out (Exit×S):= .ax (decide ((sv x.n x.m x.L x.ds (x.rs.drop x.i)).2=0))
 (.one (.exit 0,sp 38 [] (np x.n x.m x.L)))
 (.one (.ret,sp 38 [(4, .int (sv x.n x.m x.L x.ds (x.rs.drop x.i)).1),(5, .int (sv x.n x.m x.L x.ds (x.rs.drop x.i)).2)] (np x.n x.m x.L)))
theorem Zu(κ:Kp):bn (B5 κ) 12 37 2 (aQ 3 J1 CN zf):=by
 refine aR (fun x=>x.rs.length - x.i) ?_
 rintro⟨n,m,L,ds,rs,i⟩ K ⟨hd,hr,hi,hg⟩ ho
 simp only at hd hr hi hg
 rw[show(B5 κ).P=Pr κ from rfl]
 refine Eq.mpr (WD κ n i (cH L) ds rs (bc n m L n) _ _ K) ?_
 have ho2:=ho
 simp only[zf,Out.run,af,aa0,aa2] at ho2
 simp only[aP] at hr
 rw[af,aa0,aa2,au,ab9,aa0]
 refine⟨fun h=>⟨h,?_⟩,fun h=>?_⟩
 ·have hk:i<rs.length:=by omega
  have hx:nth rs i∈rs:=by rw[a8 _ _ hk];exact List.getElem_mem _
  have hG:=hg _ hx
  have hs:sv n m L ds (rs.drop i)=bif tG gq n m L ds (nth rs i) then(toInt (ad (nth rs i) 2),70) else bif sa (nth rs i)&&tG gA n m L ds (nth rs i) then(toInt (ad (nth rs i) 2),71) else sv n m L ds (rs.drop (i+1)):=by
   rw[ab1 hk,←a8 rs i hk];rfl
  have next:tG gq n m L ds (nth rs i)=false->(sa (nth rs i)&&tG gA n m L ds (nth rs i))=false->∃k,k<rs.length - i/\fw J1 CN zf (fun x=>x.rs.length - x.i) K k (J1 ⟨n,m,L,ds,rs,i+1⟩):=fun e1 e2=>by
   rw[e1,e2,aa5,aa5] at hs
   refine⟨_,?_,⟨n,m,L,ds,rs,i+1⟩,rfl,⟨hd,by simpa[aP] using hr,hk,hg⟩,rfl,?_⟩
   ·simp only;omega
   ·simp only[zf,Out.run,←hs];exact ho
  rw[Int.toNat_natCast,a5 (n:=(i:Int)+1) (by omega) (by omega)]
  refine⟨⟨n,m,L,ds,rs,bM (nth rs i),PE ds (nth rs i)⟩,rfl,⟨rfl,hG.hd,hd,hG.le,fun l hl h=>hG.at_ l hl (Ar h)⟩,?_⟩
  rw[af]
  refine⟨fun e=>?_,fun e=>?_⟩
  ·have e:tG gq n m L ds (nth rs i)=true:=e
   rw[e,aa7] at hs
   have:=ho2.2 (by rw[hs];exact fun h=>nomatch h)
   rw[hs] at this
   exact this
  ·have e:tG gq n m L ds (nth rs i)=false:=e
   refine⟨bM (nth rs i),rfl,hG.R0,?_⟩
   rw[af]
   refine⟨fun e1=>?_,fun e1=>next e (by unfold sa;rw[e1];rfl)⟩
   rw[af]
   refine⟨fun e2=>?_,fun e2=>next e (by unfold sa;rw[e1,e2];rfl)⟩
   rw[af]
   refine⟨fun e3=>?_,fun e3=>next e (by unfold sa;rw[e1,e2,e3];rfl)⟩
   have hv:sa (nth rs i)=true:=by unfold sa;rw[e1,e2,e3];rfl
   refine⟨⟨n,m,L,ds,rs,bM (nth rs i),PE ds (nth rs i)⟩,rfl,⟨rfl,hG.hd,hd,hG.le,fun l hl h=>hG.at_ l hl (z8 h)⟩,?_⟩
   rw[af]
   refine⟨fun e4=>?_,fun e4=>next e (by have e4:tG gA n m L ds (nth rs i)=false:=e4;rw[e4,Bool.and_false])⟩
   have e4:tG gA n m L ds (nth rs i)=true:=e4
   rw[e,hv,e4,aa5,Bool.and_true,aa7] at hs
   have:=ho2.2 (by rw[hs];exact fun h=>nomatch h)
   rw[hs] at this
   exact this
 ·rw[aa8 (by omega)] at ho2
  exact ho2.1 rfl
structure Of where
 ls:List (List Value)
 ds:List AV
abbrev Po(x:Of):S:=sp 38 [(0, .ptr 0 0 [] 0),(3, .ptr 2 0 [] 0),(11, .ae 41 []),(12, .int 0),(13, .int 0)] (vz 0 x.ls++[.box 25 (gz x.ds [])])
def Mb(x:Of):Out (Exit×S):= .one (.exit 0,sp 38 [] (vz 0 x.ls))
theorem YE(κ:Kp):bn (B5 κ) 12 37 2 (aQ 2 Po (fun _=>True) Mb):=by
 refine aR (fun _=>0) ?_
 rintro⟨ls,ds⟩ K _ ho
 rw[show(B5 κ).P=Pr κ from rfl]
 exact Eq.mpr (ZZ κ ls ds _ _ K) ho
noncomputable def Ni(κ:Kp):Env:=(B5 κ).aj 37 2 (pn QP (aQ 3 J1 CN zf) (aQ 2 Po (fun _=>True) Mb))
theorem U8(κ:Kp):aC (Ni κ):=(VQ κ).aj (UC κ) (nw (Zu κ) (YE κ))
theorem UL(κ:Kp):ai (Ni κ):=(UC κ).aj (jU aG aG)
theorem yLy(κ:Kp)(N:Nat)(ls:List (List Value))(ds rs fs:List AV)(K:AV->List Dn.Obj->Prop):(bg (Ni κ) 12 37 [.ptr 0 0 [] 0,gz ds rs] (r9 N ls fs) K)=(
 ag (Pg.toProgram (Env.P (B5 κ))) 37 2=ag (Pg.toProgram (Env.P (B5 κ))) 37 2/\∃(a:L8),sp 38 [(0,AV.ptr 0 0 [] 0),(3,AV.ptr 3 0 [] 0),
 (11,AV.ae 41 rs),(12,AV.int (↑(rs.length):Int)),(13,AV.int 0)] [Obj.box 82 (AV.agg [AV.az 1 0 N,AV.az 2 0 fs.length]),Obj.rows 48 3 ls none,
 Obj.row 68 fs,Obj.box 25 (AV.agg [AV.ae 62 ds,AV.ae 41 rs])]=sp 38 [(0,AV.ptr 0 0 [] 0),(3,AV.ptr 3 0 [] 0),(11,AV.ae 41 a.rs),(12,AV.int
 (↑(a.rs.length):Int)),(13,AV.int (↑(a.i):Int))] [Obj.box 82 (AV.agg [AV.az 1 0 a.n,AV.az 2 0 (List.length (bc a.n a.m a.L a.n))]),Obj.rows 48 3
 (cH a.L) none,Obj.row 68 (bc a.n a.m a.L a.n),Obj.box 25 (AV.agg [AV.ae 62 a.ds,AV.ae 41 a.rs])]/\(a.ds.length<=9223372036854775807/\a.rs.length<=
 9223372036854775807/\a.i<=a.rs.length/\∀(r:AV),List.Mem r a.rs->wK a.n a.ds r)/\ax (decide (Prod.snd (sv a.n a.m a.L a.ds (List.drop a.i a.rs))=
 (0:Int))) (K (AV.bp [AV.int 0,AV.int 0]) [Obj.box 82 (AV.agg [AV.az 1 0 a.n,AV.az 2 0 (List.length (bc a.n a.m a.L a.n))]),Obj.rows 48 3 (cH a.L)
 none,Obj.row 68 (bc a.n a.m a.L a.n)]) (K (AV.bp [AV.int (Prod.fst (sv a.n a.m a.L a.ds (List.drop a.i a.rs))),AV.int (Prod.snd (sv a.n a.m a.L a.ds
 (List.drop a.i a.rs)))]) [Obj.box 82 (AV.agg [AV.az 1 0 a.n,AV.az 2 0 (List.length (bc a.n a.m a.L a.n))]),Obj.rows 48 3 (cH a.L) none,Obj.row 68 (bc
 a.n a.m a.L a.n)])):=by kernel_rfl
theorem Vu(κ:Kp)(ls:List (List Value))(ds:List AV)(K:AV->List Dn.Obj->Prop):(bg (Ni κ) 12 37 [.ptr 0 0 [] 0,gz ds []] (vz 0 ls) K)=(
 letI z1:=AV.agg [AV.az 1 0 0,AV.nil]
 letI z2:=Pg.toProgram (Env.P (B5 κ))
 ag z2 37 2=ag z2 37 2/\∃(e0:Of),sp 38 [(0,AV.ptr 0 0 [] 0),(3,AV.ptr 2 0 [] 0),(11,AV.ae 41 []),(12,AV.int 0),(13,AV.int 0)] [Obj.box 82 z1,
 Obj.rows 48 3 ls none,Obj.box 25 (AV.agg [AV.ae 62 ds,AV.ae 41 []])]=sp 38 [(0,AV.ptr 0 0 [] 0),(3,AV.ptr 2 0 [] 0),(11,AV.ae 41 []),(12,AV.int 0),
 (13,AV.int 0)] [Obj.box 82 z1,Obj.rows 48 3 e0.ls none,Obj.box 25 (AV.agg [AV.ae 62 e0.ds,AV.ae 41 []])]/\True/\K (AV.bp [AV.int 0,AV.int 0]) [Obj.box 82
 z1,Obj.rows 48 3 e0.ls none]):=by kernel_rfl
def Ml(x:L8):List AV×List Dn.Obj:=([.ptr 0 0 [] 0,gz x.ds x.rs],np x.n x.m x.L)
def D6(x:L8):Prop:=x.ds.length<=aP/\x.rs.length<=aP/\∀r,r∈x.rs->wK x.n x.ds r
def BZ(x:L8):Out (AV×List Dn.Obj):= .one (.bp [.int (sv x.n x.m x.L x.ds x.rs).1, .int (sv x.n x.m x.L x.ds x.rs).2],np x.n x.m x.L)
theorem AZ(n m:Nat)(L:Gr)(ds:List AV): ∀rs:List AV,(sv n m L ds rs).2=0->sv n m L ds rs=(0,0)
 |[],_=>rfl
 | r::rs,h=>by
  rw[sv] at h⊢
  cases e:tG gq n m L ds r with
  |true=>rw[e,aa7] at h;cases h
  | false=>
   rw[e,aa5] at h
   rw[aa5]
   cases e2:sa r&&tG gA n m L ds r with
   |true=>rw[e2,aa7] at h;cases h
   |false=>
    rw[e2,aa5] at h
    rw[aa5]
    exact AZ n m L ds rs h
theorem cLy(κ:Kp):bz (Ni κ) 12 37 (aZ Ml D6 BZ):=by
 refine bh ?_
 rintro⟨n,m,L,ds,rs,i⟩ K ⟨hd,hr,hg⟩ ho
 refine Eq.mpr (yLy κ n (cH L) ds rs (bc n m L n) K) ?_
 refine⟨rfl,⟨n,m,L,ds,rs,0⟩,rfl,⟨hd,hr,Nat.zero_le _,hg⟩,?_⟩
 simp only[BZ,Out.run] at ho
 rw[ab0,af]
 refine⟨fun e=>?_,fun _=>ho⟩
 rw[AZ n m L ds rs (of_decide_eq_true e)] at ho
 exact ho
def ME(x:Of):List AV×List Dn.Obj:=([.ptr 0 0 [] 0,gz x.ds []],vz 0 x.ls)
def HM(x:Of):Out (AV×List Dn.Obj):= .one (.bp [.int 0, .int 0],vz 0 x.ls)
theorem Zh(κ:Kp):bz (Ni κ) 12 37 (aZ ME (fun _=>True) HM):=by
 refine bh ?_
 rintro⟨ls,ds⟩ K _ ho
 refine Eq.mpr (Vu κ ls ds K) ?_
 exact⟨rfl,⟨ls,ds⟩,rfl,trivial,ho⟩
noncomputable def PU(κ:Kp):Env:=(Ni κ).aw 37 (Bz Qx (aZ Ml D6 BZ) (aZ ME (fun _=>True) HM))
theorem Xc(κ:Kp):aC (PU κ):=(U8 κ).aw (UL κ) (yx (cLy κ) (Zh κ))
theorem T6(κ:Kp):ai (PU κ):=(UL κ).aw (ru aI aI)
theorem ZQ(κ:Kp)(ds rs:List AV)(a b n:Int)(K:AV->List Dn.Obj->Prop):(bg (PU κ) 12 46 [gz ds rs, .int a, .int b, .int n] [] K)=(
 ∃(e1:ga),([AV.agg [AV.ae 62 ds,AV.ae 41 rs]],aB)=([AV.agg [AV.ae 62 e1.1,AV.ae 41 e1.2]],aB)/\(e1.1.length<=9223372036854775807/\e1.2.length<=
 9223372036854775807/\∀(e0:AV),List.Mem e0 e1.2->aM (aa (aH 52 (ba.hl (bM e0)) (ba.bl (bM e0))))<=100000/\List.length (ba.bl (bM e0))<=100000)/\ax
 (Prod.snd (gg e1.1 e1.2)==(0:Int)) (ax (decide ((if b<a then b else a)<(0:Int))) (K (AV.int 2) []) (ax (decide ((if b>a then b else a)>=n)) (K
 (AV.int 2) []) (K (AV.int (Prod.snd (gg e1.1 e1.2))) []))) (K (AV.int (Prod.snd (gg e1.1 e1.2))) [])):=by kernel_rfl
def EG(a b n:Int):Bool:=(decide (0<=a)&&decide (a<n))&&(decide (0<=b)&&decide (b<n))
def yQ(ds rs:List AV)(a b n:Int):Int:=bif decide ((gg ds rs).2=0) then(bif EG a b n then 0 else 2) else(gg ds rs).2
structure Oz where
 ds:List AV
 rs:List AV
 a:Int
 b:Int
 n:Int
def OR(x:Oz):List AV×List Dn.Obj:=([gz x.ds x.rs, .int x.a, .int x.b, .int x.n],[])
def IE(x:Oz):Prop:=ig x.ds x.rs
def I4(x:Oz):Out (AV×List Dn.Obj):= .one (.int (yQ x.ds x.rs x.a x.b x.n),[])
theorem W5(κ:Kp):bz (PU κ) 12 46 (aZ OR IE I4):=by
 refine bh ?_
 rintro⟨ds,rs,a,b,n⟩ K hs ho
 refine Eq.mpr (ZQ κ ds rs a b n K) ?_
 simp only[I4,Out.run,yQ] at ho
 refine⟨(ds,rs),rfl,hs,?_⟩
 simp only[MO,af,aa0,aa2]
 refine⟨fun e=>?_,fun e=>?_⟩
 ·rw[aa6 e,aa7] at ho
  by_cases h1:EG a b n=true
  ·have h2:=h1
   simp only[EG,aa1,aa0] at h2
   rw[h1,aa7] at ho
   refine⟨fun h=>?_,fun _=>⟨fun h=>?_,fun _=>by rw[e];exact ho⟩⟩
   ·split at h<;>omega
   ·split at h<;>omega
  ·have h2:=h1
   simp only[EG,aa1,aa0] at h2
   rw[(by simpa using h1:EG a b n=false),aa5] at ho
   refine⟨fun _=>ho,fun h3=>⟨fun _=>ho,fun h4=>?_⟩⟩
   exfalso
   apply h2
   split at h3<;>split at h4<;>omega
 ·rw[aa4 e,aa5] at ho
  exact ho
noncomputable def KF(κ:Kp):Env:=(PU κ).aw 46 (aZ OR IE I4)
theorem WQ(κ:Kp):aC (KF κ):=(Xc κ).aw (T6 κ) (W5 κ)
theorem Tx(κ:Kp):ai (KF κ):=(T6 κ).aw aI
theorem xGi(κ:Kp)(N i:Nat)(ls:List (List Value))(fs gs l:List AV)(es:List (Value×AV))(I:Nat->S->Prop)(n:Nat)(K:Exit->S->Prop):(vc (KF κ) 12 15 none 0 (ag (Pr κ).toProgram 15 15) (sp 63 [(7, .ptr 0 0 [] 0),(10, .az 3 0 gs.length),(11, .mp 4),(13, .ae 3 l),(49, .ae 3 l),(50, .int l.length),(51, .int i)] (r9 N ls fs++[.row 48 gs, .map 3 4 es])) (bI (KF κ) 15 15 0 I n K))=(
 letI z1:=AV.agg [AV.az 1 0 N,AV.az 2 0 fs.length]
 letI z2:=(↑i:Int)<(↑(l.length):Int)
 ax (decide z2) (aO (true&&decide z2) (∃(e0:Nat),e0<n/\I e0 (sp 63 [(7,AV.ptr 0 0 [] 0),(10,AV.az 3 0 gs.length),(11,AV.mp 4),(13,AV.ae 3 l),
 (49,AV.ae 3 l),(50,AV.int (↑(l.length):Int)),(51,AV.int (IntKind.wrap IntKind.i64 ((↑i:Int)+(1:Int))))] [Obj.box 82 z1,Obj.rows 48 3 ls none,
 Obj.row 68 fs,Obj.row 48 gs,Dn.Obj.map 3 4 (eh es (Value.int IntKind.i64 (toInt (nth l (Int.toNat (↑i:Int))))) (AV.bool true))]))) (K (Exit.exit 2) (sp 63
 [(7,AV.ptr 0 0 [] 0),(10,AV.az 3 0 gs.length),(11,AV.mp 4),(13,AV.ae 3 l)] [Obj.box 82 z1,Obj.rows 48 3 ls none,Obj.row 68 fs,Obj.row 48 gs,
 Dn.Obj.map 3 4 es]))):=by kernel_rfl
def bU(gs:List (List Int)):List AV:=gs.map fun g=> .ae 3 (iA g)
theorem Kh(a b:List (List Int)):bU (a++b)=bU a++bU b:=by simp[bU]
theorem iK(a:List (List Int)):(bU a).length=a.length:=by simp[bU]
structure QT where
 n:Nat
 m:Nat
 L:Gr
 gs:List (List Int)
 l:List Int
 done:List Int
 i:Nat
abbrev Nz(x:QT):S:=sp 63 [(7, .ptr 0 0 [] 0),(10, .az 3 0 (bU x.gs).length),(11, .mp 4),(13, .ae 3 (iA x.l)),(49, .ae 3 (iA x.l)),(50, .int (iA x.l).length),(51, .int x.i)] (np x.n x.m x.L++[.row 48 (bU x.gs), .map 3 4 (gD x.done)])
def H5(x:QT):Prop:=x.i<=x.l.length/\x.l.length<=60
def Em(x:QT):Out (Exit×S):= .one (.exit 2,sp 63 [(7, .ptr 0 0 [] 0),(10, .az 3 0 (bU x.gs).length),(11, .mp 4),(13, .ae 3 (iA x.l))] (np x.n x.m x.L++[.row 48 (bU x.gs), .map 3 4 (gD (pI x.done (x.l.drop x.i)))]))
theorem CT: ∀(l:List Int) (k:Nat) (h:k<l.length),toInt (nth (iA l) k)=l[k]:=fun l k h=>by
 rw[a8 _ _ (by rw[gG];exact h)]
 simp[iA,toInt]
theorem lGi(κ:Kp):bn (KF κ) 12 15 15 (aQ 0 Nz H5 Em):=by
 refine aR (fun x=>x.l.length - x.i) ?_
 rintro⟨n,m,L,gs,l,done,i⟩ K ⟨hi,hl⟩ ho
 simp only at hi hl
 rw[show(KF κ).P=Pr κ from rfl]
 refine Eq.mpr (xGi κ n i (cH L) (bc n m L n) (bU gs) (iA l) (gD done) _ _ K) ?_
 simp only[Em,Out.run] at ho
 rw[af,au,ab9,aa0,aa2,gG]
 refine⟨fun h=>⟨h,?_⟩,fun h=>?_⟩
 ·have hk:i<l.length:=by omega
  rw[Int.toNat_natCast,CT l i hk,a5 (n:=(i:Int)+1) (by omega) (by omega),show Value.int IntKind.i64 l[i]=fu l[i] from rfl,po]
  refine⟨_,?_,⟨n,m,L,gs,l,bif done.contains l[i] then done else done++[l[i]],i+1⟩,?_,⟨hk,hl⟩,rfl,?_⟩
  ·simp only;omega
  ·simp only[Nz,gG];rfl
  ·rw[ab1 hk] at ho
   simp only[Em,Out.run]
   exact ho
 ·rw[aa8 (by omega)] at ho
  exact ho
noncomputable def Cp(κ:Kp):Env:=(KF κ).aj 15 15 (aQ 0 Nz H5 Em)
theorem YJ(κ:Kp):aC (Cp κ):=(WQ κ).aj (Tx κ) (lGi κ)
theorem Ux(κ:Kp):ai (Cp κ):=(Tx κ).aj aG
theorem VA(κ:Kp)(N:Nat)(a:Int)(ls:List (List Value))(fs:List AV)(gs:List (List Int))(es:List (Value×AV))(I:Nat->S->Prop)(n:Nat)(K:Exit->S->Prop):(vc (Cp κ) 12 15 none 0 (ag (Pr κ).toProgram 15 11) (sp 63 [(7, .ptr 0 0 [] 0),(10, .az 3 0 (bU gs).length),(11, .mp 4),(12, .int a)] (r9 N ls fs++[.row 48 (bU gs), .map 3 4 es])) (bI (Cp κ) 15 11 0 I n K))=(
 letI z1:=Pg.toProgram (Env.P (KF κ))
 ax (decide (a>=(0:Int))) (∃(e3:Ma),([AV.ptr 0 0 [] 0,AV.int a],[Obj.box 82 (AV.agg [AV.az 1 0 N,AV.az 2 0 fs.length]),Obj.rows 48 3 ls none,Obj.row
 68 fs])=([AV.ptr 0 0 [] 0,AV.int e3.a],[Obj.box 82 (AV.agg [AV.az 1 0 e3.n,AV.az 2 0 (List.length (bc e3.n e3.m e3.L e3.n))]),Obj.rows 48 3 (cH e3.L)
 none,Obj.row 68 (bc e3.n e3.m e3.L e3.n)])/\(((0:Int)<=e3.a/\e3.a<(↑(e3.n):Int))/\e3.n<=60)/\ag z1 15 15=ag z1 15 15/\∃(e2:QT),sp 63 [(7,
 AV.ptr 0 0 [] 0),(10,AV.az 3 0 (List.length (bU gs))),(11,AV.mp 4),(13,AV.ae 3 (iA (dc e3.n e3.m e3.L e3.a))),(49,AV.ae 3 (iA (dc e3.n e3.m e3.L
 e3.a))),(50,AV.int (↑(List.length (iA (dc e3.n e3.m e3.L e3.a))):Int)),(51,AV.int 0)] [Obj.box 82 (AV.agg [AV.az 1 0 e3.n,AV.az 2 0 (List.length (bc e3.n
 e3.m e3.L e3.n))]),Obj.rows 48 3 (cH e3.L) none,Obj.row 68 (bc e3.n e3.m e3.L e3.n),Obj.row 48 (bU gs),Dn.Obj.map 3 4 es]=sp 63 [(7,AV.ptr 0 0 [] 0),
 (10,AV.az 3 0 (List.length (bU e2.gs))),(11,AV.mp 4),(13,AV.ae 3 (iA e2.l)),(49,AV.ae 3 (iA e2.l)),(50,AV.int (↑(List.length (iA e2.l)):Int)),(51,
 AV.int (↑(e2.i):Int))] [Obj.box 82 (AV.agg [AV.az 1 0 e2.n,AV.az 2 0 (List.length (bc e2.n e2.m e2.L e2.n))]),Obj.rows 48 3 (cH e2.L) none,Obj.row 68 (bc
 e2.n e2.m e2.L e2.n),Obj.row 48 (bU e2.gs),Dn.Obj.map 3 4 (gD e2.done)]/\(e2.i<=e2.l.length/\e2.l.length<=60)/\aO (decide ((List.length (bU e2.gs)+1+
 1)*25<=70368744177664)) (∃(e1:EH),([AV.ptr 0 0 [] 0,AV.mp 3],[Obj.box 82 (AV.agg [AV.az 1 0 e2.n,AV.az 2 0 (List.length (bc e2.n e2.m e2.L e2.n))]),
 Obj.rows 48 3 (cH e2.L) none,Obj.row 68 (bc e2.n e2.m e2.L e2.n),Dn.Obj.map 3 4 (gD (pI e2.done (List.drop e2.i e2.l)))])=([AV.ptr 0 0 [] 0,AV.mp 3],
 [Obj.box 82 (AV.agg [AV.az 1 0 e1.n,AV.az 2 0 (List.length (bc e1.n e1.m e1.L e1.n))]),Obj.rows 48 3 (cH e1.L) none,Obj.row 68 (bc e1.n e1.m e1.L e1.n),
 Dn.Obj.map 3 4 (gD e1.done)])/\(WG e1.n e1.m e1.L/\e1.n<=60)/\∃(e0:Nat),e0<n/\I e0 (sp 63 [(7,AV.ptr 0 0 [] 0),(10,AV.az 3 0 (List.length (bU
 e2.gs)+1)),(11,AV.mp 4),(12,AV.int (cz e1.n e1.m e1.L e1.done))] [Obj.box 82 (AV.agg [AV.az 1 0 e1.n,AV.az 2 0 (List.length (bc e1.n e1.m e1.L e1.n))]),
 Obj.rows 48 3 (cH e1.L) none,Obj.row 68 (bc e1.n e1.m e1.L e1.n),Obj.row 48 (List.take (List.length (bU e2.gs)) (bU e2.gs)++[AV.ae 3 (iA e2.l)]),Dn.Obj.map
 3 4 (gD e1.done)]))) (K (Exit.exit 0) (sp 63 [(10,AV.az 0 0 (List.length (bU gs)))] [Obj.row 48 (bU gs)]))):=by kernel_rfl
theorem X7(κ:Kp)(ls:List (List Value))(es:List (Value×AV))(I:Nat->S->Prop)(n:Nat)(K:Exit->S->Prop):(vc (Cp κ) 12 15 none 0 (ag (Pr κ).toProgram 15 11) (sp 63 [(7, .ptr 0 0 [] 0),(10, .az 2 0 0),(11, .mp 3),(12, .int (-1))] (vz 0 ls++[.row 48 [], .map 3 4 es])) (bI (Cp κ) 15 11 0 I n K))=(
 K (Exit.exit 0) (sp 63 [(10,AV.az 0 0 0)] [Obj.row 48 []])):=by kernel_rfl
structure Q8 where
 n:Nat
 m:Nat
 L:Gr
 gs:List (List Int)
 done:List Int
abbrev NK(x:Q8):S:=sp 63 [(7, .ptr 0 0 [] 0),(10, .az 3 0 (bU x.gs).length),(11, .mp 4),(12, .int (cz x.n x.m x.L x.done))] (np x.n x.m x.L++[.row 48 (bU x.gs), .map 3 4 (gD x.done)])
def IY(x:Q8):Prop:=WG x.n x.m x.L/\x.n<=60/\x.gs.length+sn x.n x.done<=x.n
def D0(x:Q8):Out (Exit×S):= .one (.exit 0,sp 63 [(10, .az 0 0 (bU (x.gs++jt x.n x.m x.L x.done)).length)] [.row 48 (bU (x.gs++jt x.n x.m x.L x.done))])
theorem v9(n m:Nat)(L:Gr)(a:Int):(dc n m L a).length<=n:=Aa n m L a n
theorem lGo(κ:Kp):bn (Cp κ) 12 15 11 (aQ 0 NK IY D0):=by
 refine aR (fun x=>sn x.n x.done) ?_
 rintro⟨n,m,L,gs,done⟩ K ⟨hG,hn,hl⟩ ho
 simp only at hG hn hl
 rw[show(Cp κ).P=Pr κ from rfl]
 refine Eq.mpr (VA κ n (cz n m L done) (cH L) (bc n m L n) gs (gD done) _ _ K) ?_
 simp only[D0,Out.run] at ho
 have hg:=lz (n:=n) (m:=m) (L:=L) done
 rw[af,aa0,aa2]
 refine⟨fun h=>?_,fun h=>?_⟩
 ·have h1:=(kL (n:=n) (m:=m) (L:=L) (done:=done) h).1
  have h2:=n9 (n:=n) (m:=m) (L:=L) (done:=done) h
  have h3:=v9 n m L (cz n m L done)
  rw[aa4 (by omega),aa5] at hg
  rw[hg] at ho
  refine⟨⟨n,m,L,cz n m L done,0⟩,rfl,⟨h1,hn⟩,rfl,⟨n,m,L,gs,dc n m L (cz n m L done),done,0⟩,rfl,⟨Nat.zero_le _,by simp only;omega⟩,?_⟩
  rw[au,aa0]
  refine⟨by rw[iK];simp only;omega,⟨n,m,L,pI done (dc n m L (cz n m L done)),0,[]⟩,rfl,⟨hG,hn⟩,_,h2,⟨n,m,L,gs++[dc n m L (cz n m L done)],pI done (dc n m L (cz n m L done))⟩,?_,⟨hG,hn,?_⟩,rfl,?_⟩
  ·rw[List.take_length]
   simp only[NK,Kh,ab8]
   rfl
  ·simp only[ab8,List.length_singleton];omega
  ·simp only[D0,Out.run,List.append_assoc,List.singleton_append]
   exact ho
 ·rw[aa6 (show cz n m L done<0 by omega),aa7] at hg
  rw[hg,List.append_nil] at ho
  exact ho
abbrev Qi(x:LS):S:=sp 63 [(7, .ptr 0 0 [] 0),(10, .az 2 0 0),(11, .mp 3),(12, .int (-1))] (vz 0 x.ls++[.row 48 [], .map 3 4 x.es])
def LX(_:LS):Out (Exit×S):= .one (.exit 0,sp 63 [(10, .az 0 0 0)] [.row 48 []])
theorem Zb(κ:Kp):bn (Cp κ) 12 15 11 (aQ 0 Qi (fun _=>True) LX):=by
 refine aR (fun _=>0) ?_
 rintro⟨ls,es⟩ K _ ho
 rw[show(Cp κ).P=Pr κ from rfl]
 exact Eq.mpr (X7 κ ls es _ _ K) ho
noncomputable def NS(κ:Kp):Env:=(Cp κ).aj 15 11 (pn ON (aQ 0 NK IY D0) (aQ 0 Qi (fun _=>True) LX))
theorem UQ(κ:Kp):aC (NS κ):=(YJ κ).aj (Ux κ) (nw (lGo κ) (Zb κ))
theorem Q9(κ:Kp):ai (NS κ):=(Ux κ).aj (jU aG aG)
theorem fA{ds rs:List AV}(h:(gg ds rs).2=0):mm ds rs:=by
 have h1:=(sQ.1 h).1
 simp only[eH,aa1,aa0,List.all_eq_true] at h1
 refine⟨h1.1.1.1,h1.1.1.2,fun r hr=>?_,Pt h⟩
 have h2:=h1.2 r hr
 simp only[nF,aU,aa1,aa0] at h2
 have h3:=h2.1.1.2
 simpa[sf,cC] using h3
theorem AD{ds rs:List AV}(hs:ig ds rs)(h:(gg ds rs).2=0): ∀r,r∈rs->wK ds.length ds r:=by
 intro r hr
 have h1:=zU h hr
 refine⟨h1.1,h1.2,?_,hs.2.2 r hr⟩
 have:=(fA h).bs r hr
 simp only[aP];omega
def cr(ds rs:List AV):Int×Int:=bif decide ((gg ds rs).2=0) then sv ds.length (gE ds rs) (kg ds rs) ds rs else gg ds rs
def dA(ds rs:List AV):List (List Int):=jt ds.length (gE ds rs) (kg ds rs) []
theorem Z3(κ:Kp)(ds rs:List AV)(K:AV->List Dn.Obj->Prop):(bg (NS κ) 12 15 [gz ds rs] [] K)=(
 letI z1:=AV.agg [AV.az 1 0 0,AV.nil]
 letI z2:=Pg.toProgram (Env.P (Cp κ))
 ∃(e4:ga),([AV.agg [AV.ae 62 ds,AV.ae 41 rs]],aB)=([AV.agg [AV.ae 62 e4.1,AV.ae 41 e4.2]],aB)/\(e4.1.length<=9223372036854775807/\e4.2.length<=
 9223372036854775807/\∀(e0:AV),List.Mem e0 e4.2->aM (aa (aH 52 (ba.hl (bM e0)) (ba.bl (bM e0))))<=100000/\List.length (ba.bl (bM e0))<=100000)/\ax
 (Prod.snd (gg e4.1 e4.2) != (0:Int)) (K (AV.bp [AV.nil,AV.int (Prod.fst (gg e4.1 e4.2)),AV.int (Prod.snd (gg e4.1 e4.2))]) []) (∃(e3:ga),([AV.agg [AV.ae
 62 ds,AV.ae 41 rs]],aB)=([AV.agg [AV.ae 62 e3.1,AV.ae 41 e3.2]],aB)/\mm e3.1 e3.2/\ax (Nat.beq e3.1.length 0) (∃(e2:Of),([AV.ptr 0 0 [] 0,AV.agg
 [AV.ae 62 ds,AV.ae 41 rs]],[Obj.box 82 (AV.agg [AV.az 1 0 e3.1.length,AV.nil]),Obj.rows 48 3 (cH (kg e3.1 e3.2)) none])=([AV.ptr 0 0 [] 0,AV.agg [AV.ae
 62 e2.ds,AV.ae 41 []]],[Obj.box 82 z1,Obj.rows 48 3 e2.ls none])/\True/\∃(e1:LS),([AV.ptr 0 0 [] 0,AV.mp 2],[Obj.box 82 z1,Obj.rows 48 3 e2.ls none,
 Dn.Obj.map 3 4 []])=([AV.ptr 0 0 [] 0,AV.mp 2],[Obj.box 82 z1,Obj.rows 48 3 e1.ls none,Dn.Obj.map 3 4 e1.es])/\True/\ag z2 15 11=ag z2 15 11/\∃(e0:
 LS),sp 63 [(7,AV.ptr 0 0 [] 0),(10,AV.az 2 0 0),(11,AV.mp 3),(12,AV.int (-1))] [Obj.box 82 z1,Obj.rows 48 3 e1.ls none,Obj.row 48 [],Dn.Obj.map 3 4
 e1.es]=sp 63 [(7,AV.ptr 0 0 [] 0),(10,AV.az 2 0 0),(11,AV.mp 3),(12,AV.int (-1))] [Obj.box 82 z1,Obj.rows 48 3 e0.ls none,Obj.row 48 [],Dn.Obj.map 3
 4 e0.es]/\True/\K (AV.bp [AV.az 0 0 0,AV.int 0,AV.int 0]) [Obj.row 48 []]) (∃(e2:L8),([AV.ptr 0 0 [] 0,AV.agg [AV.ae 62 ds,AV.ae 41 rs]],[Obj.box 82
 (AV.agg [AV.az 1 0 e3.1.length,AV.az 2 0 (List.length (bc e3.1.length (gE e3.1 e3.2) (kg e3.1 e3.2) e3.1.length))]),Obj.rows 48 3 (cH (kg e3.1 e3.2)) none,
 Obj.row 68 (bc e3.1.length (gE e3.1 e3.2) (kg e3.1 e3.2) e3.1.length)])=([AV.ptr 0 0 [] 0,AV.agg [AV.ae 62 e2.ds,AV.ae 41 e2.rs]],[Obj.box 82 (AV.agg
 [AV.az 1 0 e2.n,AV.az 2 0 (List.length (bc e2.n e2.m e2.L e2.n))]),Obj.rows 48 3 (cH e2.L) none,Obj.row 68 (bc e2.n e2.m e2.L e2.n)])/\(e2.ds.length<=
 9223372036854775807/\e2.rs.length<=9223372036854775807/\∀(e0:AV),List.Mem e0 e2.rs->wK e2.n e2.ds e0)/\ax (Prod.snd (sv e2.n e2.m e2.L e2.ds e2.rs) !=
 (0:Int)) (K (AV.bp [AV.nil,AV.int (Prod.fst (sv e2.n e2.m e2.L e2.ds e2.rs)),AV.int (Prod.snd (sv e2.n e2.m e2.L e2.ds e2.rs))]) []) (∃(e1:EH),([AV.ptr
 0 0 [] 0,AV.mp 3],[Obj.box 82 (AV.agg [AV.az 1 0 e2.n,AV.az 2 0 (List.length (bc e2.n e2.m e2.L e2.n))]),Obj.rows 48 3 (cH e2.L) none,Obj.row 68 (bc e2.n
 e2.m e2.L e2.n),Dn.Obj.map 3 4 []])=([AV.ptr 0 0 [] 0,AV.mp 3],[Obj.box 82 (AV.agg [AV.az 1 0 e1.n,AV.az 2 0 (List.length (bc e1.n e1.m e1.L e1.n))]),
 Obj.rows 48 3 (cH e1.L) none,Obj.row 68 (bc e1.n e1.m e1.L e1.n),Dn.Obj.map 3 4 (gD e1.done)])/\(WG e1.n e1.m e1.L/\e1.n<=60)/\ag z2 15 11=ag z2 15 11/\
 ∃(e0:Q8),sp 63 [(7,AV.ptr 0 0 [] 0),(10,AV.az 3 0 0),(11,AV.mp 4),(12,AV.int (cz e1.n e1.m e1.L e1.done))] [Obj.box 82 (AV.agg [AV.az 1 0 e1.n,AV.az
 2 0 (List.length (bc e1.n e1.m e1.L e1.n))]),Obj.rows 48 3 (cH e1.L) none,Obj.row 68 (bc e1.n e1.m e1.L e1.n),Obj.row 48 [],Dn.Obj.map 3 4 (gD e1.done)]=
 sp 63 [(7,AV.ptr 0 0 [] 0),(10,AV.az 3 0 (List.length (bU e0.gs))),(11,AV.mp 4),(12,AV.int (cz e0.n e0.m e0.L e0.done))] [Obj.box 82 (AV.agg [AV.az 1 0
 e0.n,AV.az 2 0 (List.length (bc e0.n e0.m e0.L e0.n))]),Obj.rows 48 3 (cH e0.L) none,Obj.row 68 (bc e0.n e0.m e0.L e0.n),Obj.row 48 (bU e0.gs),Dn.Obj.map 3
 4 (gD e0.done)]/\(WG e0.n e0.m e0.L/\e0.n<=60/\e0.gs.length+sn e0.n e0.done<=e0.n)/\K (AV.bp [AV.az 0 0 (List.length (bU (e0.gs++jt e0.n e0.m e0.L
 e0.done))),AV.int 0,AV.int 0]) [Obj.row 48 (bU (e0.gs++jt e0.n e0.m e0.L e0.done))])))):=by kernel_rfl
def Fj(x:ga):List AV×List Dn.Obj:=([gz x.1 x.2],[])
def GL(x:ga):Prop:=ig x.1 x.2
def EF(x:ga):Out (AV×List Dn.Obj):= .ax (decide ((cr x.1 x.2).2=0))
 (.one (.bp [.az 0 0 (bU (dA x.1 x.2)).length, .int 0, .int 0],[.row 48 (bU (dA x.1 x.2))]))
 (.one (.bp [.nil, .int (cr x.1 x.2).1, .int (cr x.1 x.2).2],[]))
theorem Sc(κ:Kp):bz (NS κ) 12 15 (aZ Fj GL EF):=by
 refine bh ?_
 rintro⟨ds,rs⟩ K hs ho
 refine Eq.mpr (Z3 κ ds rs K) ?_
 have ho:ax (decide ((cr ds rs).2=0)) (K (.bp [.az 0 0 (bU (dA ds rs)).length, .int 0, .int 0]) [.row 48 (bU (dA ds rs))]) (K (.bp [.nil, .int (cr ds rs).1, .int (cr ds rs).2]) []):=ho
 rw[af,aa0,aa2] at ho
 have hs:ig ds rs:=hs
 refine⟨(ds,rs),rfl,hs,?_⟩
 rw[af]
 by_cases hc:(gg ds rs).2=0
 ·refine⟨fun e=>absurd hc (by simpa using e),fun _=>⟨(ds,rs),rfl,fA hc,?_⟩⟩
  have hf:=fA hc
  have hg:=AD hs hc
  rw[show cr ds rs=sv ds.length (gE ds rs) (kg ds rs) ds rs by unfold cr;rw[aa6 hc];rfl] at ho
  rw[af]
  refine⟨fun e=>?_,fun e=>?_⟩
  ·obtain rfl:ds=[]:=List.eq_nil_of_length_eq_zero (Nat.eq_of_beq_eq_true e)
   obtain rfl:rs=[]:=by
    cases rs with
    |nil=>rfl
    |cons r rs=>have:=(hg r (by simp)).hd;simp only[List.length_nil] at this;omega
   refine⟨⟨cH (kg [] []),[]⟩,rfl,trivial,⟨_,[]⟩,rfl,trivial,rfl,⟨_,_⟩,rfl,trivial,?_⟩
   have h1:=ho.1 rfl
   have h2:dA [] []=[]:=by
    unfold dA
    rw[lz];rfl
   rw[h2] at h1
   exact h1
  ·refine⟨⟨ds.length,gE ds rs,kg ds rs,ds,rs,0⟩,rfl,⟨hs.1,hs.2.1,hg⟩,?_⟩
   rw[af]
   refine⟨fun e2=>ho.2 (by simpa using e2),fun e2=>?_⟩
   have h1:=ho.1 (by simpa using e2)
   exact⟨⟨ds.length,gE ds rs,kg ds rs,[],0,[]⟩,rfl,⟨hf.wg,hf.hd⟩,rfl,⟨ds.length,gE ds rs,kg ds rs,[],[]⟩,rfl,⟨hf.wg,hf.hd,by simp only[List.length_nil,Nat.zero_add];exact yt _ _⟩,h1⟩
 ·rw[show cr ds rs=gg ds rs by unfold cr;rw[aa4 hc];rfl] at ho
  exact⟨fun _=>ho.2 hc,fun e=>absurd (by simpa using e) hc⟩
noncomputable def O6(κ:Kp):Env:=(NS κ).aw 15 (aZ Fj GL EF)
theorem Zq(κ:Kp):aC (O6 κ):=(UQ κ).aw (Q9 κ) (Sc κ)
theorem Uz(κ:Kp):ai (O6 κ):=(Q9 κ).aw aI
theorem Z9(κ:Kp)(ds rs:List AV)(a b:Int)(K:AV->List Dn.Obj->Prop):(bg (O6 κ) 12 18 [gz ds rs, .int a, .int b] [] K)=(
 ∃(e2:Oz),([AV.agg [AV.ae 62 ds,AV.ae 41 rs],AV.int a,AV.int b,AV.int (↑(ds.length):Int)],aB)=([AV.agg [AV.ae 62 e2.ds,AV.ae 41 e2.rs],AV.int
 e2.a,AV.int e2.b,AV.int e2.n],aB)/\(e2.ds.length<=9223372036854775807/\e2.rs.length<=9223372036854775807/\∀(e0:AV),List.Mem e0 e2.rs->aM (aa (aH 52
 (ba.hl (bM e0)) (ba.bl (bM e0))))<=100000/\List.length (ba.bl (bM e0))<=100000)/\ax (yQ e2.ds e2.rs e2.a e2.b e2.n != (0:Int)) (K (AV.bp [AV.bool false,
 AV.int (yQ e2.ds e2.rs e2.a e2.b e2.n)]) []) (∃(e1:ga),([AV.agg [AV.ae 62 ds,AV.ae 41 rs]],aB)=([AV.agg [AV.ae 62 e1.1,AV.ae 41 e1.2]],aB)/\mm e1.1
 e1.2/\ax (Nat.beq e1.1.length 0) (∃(e0:KT),([AV.ptr 0 0 [] 0,AV.int a,AV.int b],[Obj.box 82 (AV.agg [AV.az 1 0 e1.1.length,AV.nil]),Obj.rows 48 3 (cH
 (kg e1.1 e1.2)) none])=([AV.ptr 0 0 [] 0,AV.int e0.a,AV.int e0.b],[Obj.box 82 (AV.agg [AV.az 1 0 e0.n,AV.az 2 0 (List.length (bc e0.n e0.m e0.L e0.n))]),
 Obj.rows 48 3 (cH e0.L) none,Obj.row 68 (bc e0.n e0.m e0.L e0.n)])/\(((0:Int)<=e0.a/\e0.a<(↑(e0.n):Int))/\(0:Int)<=e0.b/\e0.b<(↑(e0.n):Int))
 /\K (AV.bp [AV.bool (eI e0.n e0.m e0.L e0.a e0.b),AV.int 0]) []) (∃(e0:KT),([AV.ptr 0 0 [] 0,AV.int a,AV.int b],[Obj.box 82 (AV.agg [AV.az 1 0
 e1.1.length,AV.az 2 0 (List.length (bc e1.1.length (gE e1.1 e1.2) (kg e1.1 e1.2) e1.1.length))]),Obj.rows 48 3 (cH (kg e1.1 e1.2)) none,Obj.row 68 (bc
 e1.1.length (gE e1.1 e1.2) (kg e1.1 e1.2) e1.1.length)])=([AV.ptr 0 0 [] 0,AV.int e0.a,AV.int e0.b],[Obj.box 82 (AV.agg [AV.az 1 0 e0.n,AV.az 2 0
 (List.length (bc e0.n e0.m e0.L e0.n))]),Obj.rows 48 3 (cH e0.L) none,Obj.row 68 (bc e0.n e0.m e0.L e0.n)])/\(((0:Int)<=e0.a/\e0.a<(↑(e0.n):Int))/\
 (0:Int)<=e0.b/\e0.b<(↑(e0.n):Int))/\K (AV.bp [AV.bool (eI e0.n e0.m e0.L e0.a e0.b),AV.int 0]) []))):=by kernel_rfl
structure AQ where
 ds:List AV
 rs:List AV
 a:Int
 b:Int
def QA(ds rs:List AV)(a b:Int):Bool:=eI ds.length (gE ds rs) (kg ds rs) a b
def Ky(x:AQ):List AV×List Dn.Obj:=([gz x.ds x.rs, .int x.a, .int x.b],[])
def xZ(x:AQ):Prop:=ig x.ds x.rs
def qC(ds rs:List AV)(a b:Int):Int:=yQ ds rs a b ds.length
def JV(ds rs:List AV)(a b:Int):Bool:=decide (yQ ds rs a b ds.length=0)&&QA ds rs a b
def GY(x:AQ):Out (AV×List Dn.Obj):= .one (.bp [.bool (JV x.ds x.rs x.a x.b), .int (qC x.ds x.rs x.a x.b)],[])
theorem EL{ds rs:List AV}{a b n:Int}(h:yQ ds rs a b n=0):(gg ds rs).2=0/\(0<=a/\a<n)/\0<=b/\b<n:=by
 unfold yQ at h
 by_cases hc:(gg ds rs).2=0
 ·rw[aa6 hc,aa7] at h
  cases e:EG a b n with
  |true=>
   simp only[EG,aa1,aa0] at e
   exact⟨hc,e⟩
  |false=>rw[e] at h;cases h
 ·rw[aa4 hc,aa5] at h
  exact absurd h hc
theorem cMt(κ:Kp):bz (O6 κ) 12 18 (aZ Ky xZ GY):=by
 refine bh ?_
 rintro⟨ds,rs,a,b⟩ K hs ho
 refine Eq.mpr (Z9 κ ds rs a b K) ?_
 simp only[GY,Out.run,JV,qC] at ho
 refine⟨⟨ds,rs,a,b,ds.length⟩,rfl,hs,?_⟩
 rw[af]
 refine⟨fun e=>?_,fun e=>?_⟩
 ·have e:yQ ds rs a b ds.length≠0:=by simpa using e
  rw[aa4 e,Bool.false_and] at ho
  exact ho
 ·have e:yQ ds rs a b ds.length=0:=by simpa using e
  obtain⟨hc,ha,hb⟩:=EL e
  rw[e] at ho
  have hf:=fA hc
  refine⟨(ds,rs),rfl,hf,?_⟩
  rw[af]
  refine⟨fun e2=>?_,fun _=>⟨⟨ds.length,gE ds rs,kg ds rs,a,b⟩,rfl,⟨ha,hb⟩,ho⟩⟩
  have:=Nat.eq_of_beq_eq_true e2
  simp only at this;omega
noncomputable def OH(κ:Kp):Env:=(O6 κ).aw 18 (aZ Ky xZ GY)
theorem V0(κ:Kp):aC (OH κ):=(Zq κ).aw (Uz κ) (cMt κ)
theorem Uv(κ:Kp):ai (OH κ):=(Uz κ).aw aI
theorem Wq(κ:Kp)(ds rs:List AV)(a b:Int)(K:AV->List Dn.Obj->Prop):(bg (OH κ) 12 19 [gz ds rs, .int a, .int b] [] K)=(
 ∃(e1:Oz),([AV.agg [AV.ae 62 ds,AV.ae 41 rs],AV.int a,AV.int b,AV.int (↑(ds.length):Int)],aB)=([AV.agg [AV.ae 62 e1.ds,AV.ae 41 e1.rs],AV.int
 e1.a,AV.int e1.b,AV.int e1.n],aB)/\(e1.ds.length<=9223372036854775807/\e1.rs.length<=9223372036854775807/\∀(e0:AV),List.Mem e0 e1.rs->aM (aa (aH 52
 (ba.hl (bM e0)) (ba.bl (bM e0))))<=100000/\List.length (ba.bl (bM e0))<=100000)/\ax (yQ e1.ds e1.rs e1.a e1.b e1.n != (0:Int)) (K (AV.bp [AV.bool false,
 AV.int (yQ e1.ds e1.rs e1.a e1.b e1.n)]) []) (∃(e0:ga),([AV.agg [AV.ae 62 ds,AV.ae 41 rs]],aB)=([AV.agg [AV.ae 62 e0.1,AV.ae 41 e0.2]],aB)/\mm e0.1
 e0.2/\ax (Nat.beq e0.1.length 0) (aO (decide ((0:Int)<=a)&&decide (a<(↑(e0.1.length):Int))) (aO (decide (List.length (List.map AV.lit (List.take
 (List.length (bB (cH (kg e0.1 e0.2)) a.toNat)) (bB (cH (kg e0.1 e0.2)) a.toNat)))<=9223372036854775807)) (K (AV.bp [AV.bool (N9 b (List.map AV.lit (List.take
 (List.length (bB (cH (kg e0.1 e0.2)) a.toNat)) (bB (cH (kg e0.1 e0.2)) a.toNat)))),AV.int 0]) []))) (aO (decide ((0:Int)<=a)&&decide (a<(↑(e0.1.length)
 :Int))) (aO (decide (List.length (List.map AV.lit (List.take (List.length (bB (cH (kg e0.1 e0.2)) a.toNat)) (bB (cH (kg e0.1 e0.2)) a.toNat)))<=
 9223372036854775807)) (K (AV.bp [AV.bool (N9 b (List.map AV.lit (List.take (List.length (bB (cH (kg e0.1 e0.2)) a.toNat)) (bB (cH (kg e0.1 e0.2)) a.toNat)))),
 AV.int 0]) []))))):=by kernel_rfl
def Tj(ds rs:List AV)(a b:Int):Bool:=(Gr.at (kg ds rs) a).contains b
def Ok(ds rs:List AV)(a b:Int):Bool:=decide (yQ ds rs a b ds.length=0)&&Tj ds rs a b
def IV(x:AQ):Out (AV×List Dn.Obj):= .one (.bp [.bool (Ok x.ds x.rs x.a x.b), .int (qC x.ds x.rs x.a x.b)],[])
theorem Vw(κ:Kp):bz (OH κ) 12 19 (aZ Ky xZ IV):=by
 refine bh ?_
 rintro⟨ds,rs,a,b⟩ K hs ho
 refine Eq.mpr (Wq κ ds rs a b K) ?_
 simp only[IV,Out.run,Ok,qC] at ho
 refine⟨⟨ds,rs,a,b,ds.length⟩,rfl,hs,?_⟩
 rw[af]
 refine⟨fun e=>?_,fun e=>?_⟩
 ·have e:yQ ds rs a b ds.length≠0:=by simpa using e
  rw[aa4 e,Bool.false_and] at ho
  exact ho
 ·have e:yQ ds rs a b ds.length=0:=by simpa using e
  obtain⟨hc,ha,hb⟩:=EL e
  rw[e] at ho
  have hf:=fA hc
  refine⟨(ds,rs),rfl,hf,?_⟩
  rw[af]
  refine⟨fun e2=>?_,fun _=>?_⟩
  ·have:=Nat.eq_of_beq_eq_true e2
   simp only at this;omega
  ·have h1:=hf.wg.le a
   have h2:=hf.le
   have h3:gE ds rs<=(ds.length+1)*gE ds rs:=Nat.le_mul_of_pos_left _ (Nat.succ_pos _)
   rw[yF,Ic,gG,au,au,aa1,aa0,aa0,aa0]
   exact⟨ha,(by show(Gr.at (kg ds rs) a).length<=_;omega),ho⟩
noncomputable def OC(κ:Kp):Env:=(OH κ).aw 19 (aZ Ky xZ IV)
theorem ZB(κ:Kp):aC (OC κ):=(V0 κ).aw (Uv κ) (Vw κ)
theorem U3(κ:Kp):ai (OC κ):=(Uv κ).aw aI
end Go.Proofs.YtdpmikfheebicaaGreatDoor
namespace Go.Rl
open Go Go.Dn
section
variable {n m m':Nat} {L M:Gr}
def Sub(L M:Gr):Prop:=∀a b:Int,0<=a->b∈L.at a->b∈M.at a
theorem Sub.rc(h:Sub L M)(hG:WG n m L){a b:Int}(h0:0<=a)(k:Rc L a b):Rc M a b:=
 k.mono (fun a b h1 h2=>⟨h a b h1 h2,(hG.jO a h1 b h2).1⟩) h0
theorem Sub.Nf(h:Sub L M)(hG:WG n m L)(hH:WG n m' M){a b:Int}(ha:0<=a)(hb:0<=b)(k:eI n m L a b=true):eI n m' M a b=true:=by
 rw[l3 hG ha hb] at k
 rw[l3 hH ha hb]
 exact k.imp id fun k=>⟨h.rc hG ha k.1,h.rc hG hb k.2⟩
theorem Ay(h:Sub L M)(k:Sub M L)(hG:WG n m L)(hH:WG n m' M){a b:Int}(ha:0<=a)(hb:0<=b):eI n m L a b=eI n m' M a b:=
 Bool.eq_iff_iff.2 ⟨h.Nf hG hH ha hb,k.Nf hH hG ha hb⟩
theorem F5(h:Sub L M)(k:Sub M L)(hG:WG n m L)(hH:WG n m' M)(done:List Int){a:Int}(ha:0<=a):ea n m L done a=ea n m' M done a:=by
 have key: ∀{n m m':Nat} {L M:Gr},Sub L M->Sub M L->WG n m L->WG n m' M->ea n m L done a=true->ea n m' M done a=true:=fun{n m m' L M} h k hG hH=>by
  simp only[ea,aa1,List.all_eq_true]
  rintro⟨h1,h2⟩
  refine⟨h1,fun b hb=>?_⟩
  have hr:=(iO hH ha).1 hb
  have:=h2 b ((iO hG ha).2 (k.rc hH ha hr))
  rwa [Ay h k hG hH ha (hr.jO hH ha).1] at this
 exact Bool.eq_iff_iff.2 ⟨key h k hG hH,key k h hH hG⟩
theorem wZ{p q:Int->Bool}: ∀{l:List Int},(∀x,x∈l->p x=q x)->l.find? p=l.find? q
 |[],_=>rfl
 |a::l,h=>by rw[List.find?_cons,List.find?_cons,h a (by simp),wZ fun x hx=>h x (by simp[hx])]
theorem HW(h:Sub L M)(k:Sub M L)(hG:WG n m L)(hH:WG n m' M)(done:List Int):cz n m L done=cz n m' M done:=by
 unfold cz
 rw[wZ fun x hx=>F5 h k hG hH done (dK.1 hx).1]
theorem Iq(h:Sub L M)(k:Sub M L)(hG:WG n m L)(hH:WG n m' M){a:Int}(ha:0<=a):dc n m L a=dc n m' M a:=
 List.filter_congr fun x hx=>Ay h k hG hH ha (dK.1 hx).1
theorem vR(h:Sub L M)(k:Sub M L)(hG:WG n m L)(hH:WG n m' M): ∀(f:Nat) (done:List Int),ql n m L f done=ql n m' M f done
 |0,_=>rfl
 |f+1,done=>by
  rw[ql,ql,HW h k hG hH]
  cases e:decide (cz n m' M done<0) with
  |true=>rfl
  |false=>rw[aa5,aa5,Iq h k hG hH (by simpa using e),vR h k hG hH f]
theorem BM(h:Sub L M)(k:Sub M L)(hG:WG n m L)(hH:WG n m' M)(done:List Int):jt n m L done=jt n m' M done:=vR h k hG hH _ _
theorem rU(n:Nat):(eQ n).Pairwise (· < ·):=by
 unfold eQ
 rw[List.pairwise_map]
 exact List.pairwise_lt_range.imp fun h=>by omega
theorem tH(a:Int):(dc n m L a).Pairwise (· < ·):=(rU n).filter _
structure Mp(n m:Nat)(L:Gr)(done:List Int)(gs:List (List Int)):Prop where
 Q5: ∀g,g∈gs->g.Pairwise (· < ·)
 jO: ∀c,c∈gs.flatten->(0<=c/\c<n)/\c∉done
 all: ∀c:Int,0<=c->c<n->c∉done->c∈gs.flatten
 pg:gs.flatten.Nodup
theorem wa{l:List Int}(h:l.Pairwise (· < ·)):l.Nodup:=h.imp fun h=>by omega
theorem Ep(hG:WG n m L): ∀(k:Nat) (done:List Int),sn n done<=k->JH n m L done->Mp n m L done (jt n m L done):=by
 intro k
 induction k with
 | zero=>
  intro done h hS
  have hd: ∀c:Int,0<=c->c<n->c∈done:=fun c h0 h1=>by
   have h2:=h
   simp only[sn,Nat.le_zero,List.countP_eq_zero] at h2
   simpa using h2 c (dK.2 ⟨h0,h1⟩)
  have hn:cz n m L done<0:=by
   rcases Int.lt_or_le (cz n m L done) 0 with e|e
   ·exact e
   ·have:=n9 (n:=n) (m:=m) (L:=L) e;omega
  rw[lz,aa6 hn,aa7]
  exact⟨fun g hg=>(nomatch hg),fun c hc=>(nomatch hc),fun c h0 h1 h2=>absurd (hd c h0 h1) h2,List.nodup_nil⟩
 | succ k ih=>
  intro done h hS
  rw[lz]
  rcases Int.lt_or_le (cz n m L done) 0 with e|e
  ·rw[aa6 e,aa7]
   refine⟨fun g hg=>(nomatch hg),fun c hc=>(nomatch hc),fun c h0 h1 h2=>?_,List.nodup_nil⟩
   have:=EE hG ⟨h0,h1⟩ h2;omega
  ·rw[aa4 (by omega),aa5]
   have hx:=kL (n:=n) (m:=m) (L:=L) e
   have hxd:cz n m L done∉done:=by
    have h2:=hx.2
    simp only[ea,aa1,Bool.not_eq_true',List.contains_eq_mem,aa2] at h2
    exact h2.1
   have hu:=n9 (n:=n) (m:=m) (L:=L) e
   have hL:=ih _ (by omega) (zP hG hS e)
   refine⟨fun g hg=>?_,fun c hc=>?_,fun c h0 h1 h2=>?_,?_⟩
   ·rcases List.mem_cons.1 hg with rfl|hg
    ·exact tH _
    ·exact hL.Q5 g hg
   ·rw[List.flatten_cons,List.mem_append] at hc
    rcases hc with hc|hc
    ·have hc':=pP.1 hc
     refine⟨hc'.1,fun hd=>hxd ?_⟩
     exact hS c _ hc'.1.1 hx.1.1 hx.1.2 hd (by rw[ue];exact hc'.2)
    ·have:=hL.jO c hc
     rw[iY,not_or] at this
     exact⟨this.1,this.2.1⟩
   ·rw[List.flatten_cons,List.mem_append]
    by_cases hg:c∈dc n m L (cz n m L done)
    ·exact .inl hg
    ·exact .inr (hL.all c h0 h1 (by rw[iY,not_or];exact⟨h2,hg⟩))
   ·rw[List.flatten_cons,List.nodup_append]
    refine⟨wa (tH _),hL.pg,fun a ha b hb=>?_⟩
    rintro rfl
    exact(hL.jO a hb).2 (by rw[iY];exact .inr ha)
def su:List (List Int)->Int->Int->Int
 |[],_,_=> -1
 |g::gs,a,i=>bif g.contains a then i else su gs a (i+1)
theorem ID(a:Int): ∀(gs:List (List Int)) (i:Int),a∈gs.flatten->i<=su gs a i
 |[],_,h=>nomatch h
 | g::gs,i,h=>by
  rw[su]
  cases e:g.contains a with
  |true=>rw[aa7];exact Int.le_refl _
  |false=>
   rw[aa5]
   rw[List.flatten_cons,List.mem_append] at h
   have:=ID a gs (i+1) (h.resolve_left (by simpa using e))
   omega
theorem OV(hG:WG n m L): ∀(k:Nat) (done:List Int),sn n done<=k->JH n m L done->∀(a b i:Int),(0<=a/\a<n)->(0<=b/\b<n)->a∉done->b∉done->
  (eI n m L a b=true↔su (jt n m L done) a i=su (jt n m L done) b i)/\(Rc L a b->su (jt n m L done) b i<=su (jt n m L done) a i):=by
 intro k
 induction k with
 |zero=>
  intro done h hS a b i ha hb had hbd
  exfalso
  simp only[sn,Nat.le_zero,List.countP_eq_zero] at h
  exact had (by simpa using h a (dK.2 ha))
 | succ k ih=>
  intro done h hS a b i ha hb had hbd
  have e:=EE hG ha had
  rw[lz,aa4 (by omega),aa5]
  have hx:=kL (n:=n) (m:=m) (L:=L) e
  have hu:=n9 (n:=n) (m:=m) (L:=L) e
  have hS':=zP hG hS e
  have hI:=ih _ (by omega) hS'
  have hL:=Ep hG _ _ (Nat.le_refl _) hS'
  have hin: ∀c:Int,(0<=c/\c<n)->(c∈dc n m L (cz n m L done)↔eI n m L (cz n m L done) c=true):=fun c hc=>by rw[pP];exact and_iff_right hc
  have hout: ∀c:Int,(0<=c/\c<n)->c∉done->c∉dc n m L (cz n m L done)->c∉pI done (dc n m L (cz n m L done)):=fun c hc h1 h2=>by rw[iY,not_or];exact⟨h1,h2⟩
  have hge: ∀c:Int,(0<=c/\c<n)->c∉done->c∉dc n m L (cz n m L done)->i+1<=su (jt n m L (pI done (dc n m L (cz n m L done)))) c (i+1):=fun c hc h1 h2=>ID c _ _ (hL.all c hc.1 hc.2 (hout c hc h1 h2))
  rw[su,su]
  by_cases h1:a∈dc n m L (cz n m L done)
  ·have m1:=(hin a ha).1 h1
   rw[show(dc n m L (cz n m L done)).contains a=true by simpa using h1,aa7]
   by_cases h2:b∈dc n m L (cz n m L done)
   ·have m2:=(hin b hb).1 h2
    rw[show(dc n m L (cz n m L done)).contains b=true by simpa using h2,aa7]
    refine⟨⟨fun _=>rfl,fun _=>?_⟩,fun _=>Int.le_refl _⟩
    exact nV hG ha.1 hx.1.1 hb.1 (by rw[ue];exact m1) m2
   ·rw[show(dc n m L (cz n m L done)).contains b=false by simpa using h2,aa5]
    have h3:=hge b hb hbd h2
    refine⟨⟨fun hm=>absurd ((hin b hb).2 (nV hG hx.1.1 ha.1 hb.1 m1 hm)) h2,fun hm=>by omega⟩,fun hr=>?_⟩
    exfalso
    have hf:=hx.2
    simp only[ea,aa1,List.all_eq_true] at hf
    have hr2:Rc L (cz n m L done) b:=by
     rcases(l3 hG hx.1.1 ha.1).1 m1 with hq|⟨hq,_⟩
     ·rw[hq];exact hr
     ·exact hq.trans hr
    have:=hf.2 b ((iO hG hx.1.1).2 hr2)
    rw[ab5] at this
    rcases this with h4|h4
    ·exact hbd (by simpa using h4)
    ·exact h2 ((hin b hb).2 h4)
  ·rw[show(dc n m L (cz n m L done)).contains a=false by simpa using h1,aa5]
   have h3:=hge a ha had h1
   by_cases h2:b∈dc n m L (cz n m L done)
   ·have m2:=(hin b hb).1 h2
    rw[show(dc n m L (cz n m L done)).contains b=true by simpa using h2,aa7]
    refine⟨⟨fun hm=>absurd ((hin a ha).2 (nV hG hx.1.1 hb.1 ha.1 m2 (by rw[ue];exact hm))) h1,fun hm=>by omega⟩,fun _=>by omega⟩
   ·rw[show(dc n m L (cz n m L done)).contains b=false by simpa using h2,aa5]
    exact hI a b (i+1) ha hb (hout a ha had h1) (hout b hb hbd h2)
theorem zo:JH n m L []:=fun _ _ _ _ _ h=>nomatch h
end
end Go.Rl
namespace Go.Proofs.YtdpmikfheebicaaGreatDoor
open Go Go.Dn Go.Rl Go.Proofs
theorem yo{ds rs rs':List AV}(h: ∀r,r∈rs->r∈rs')(hf:mm ds rs)(hf':mm ds rs'):Sub (kg ds rs) (kg ds rs'):=by
 intro a b h0 hb
 have h1:=(xX (E:=sF ds rs) hf.ed h0).1 hb
 refine(xX (E:=sF ds rs') hf'.ed h0).2 ?_
 obtain⟨r,h2,h3⟩:=yv.1 h1
 exact yv.2 ⟨r,h r h2,h3⟩
theorem KO{ds rs rs':List AV}(h: ∀r,r∈rs->r∈rs')(hl:rs.length<=rs'.length)(hc:(gg ds rs').2=0):(gg ds rs).2=0:=by
 obtain⟨h1,h2,h3,h4⟩:=sQ.1 hc
 refine sQ.2 ⟨?_,h2,fun r hr=>h3 r (h r hr),fun r hr=>h4 r (h r hr)⟩
 simp only[eH,aa1,aa0,List.all_eq_true] at h1⊢
 exact⟨⟨⟨h1.1.1.1,by omega⟩,h1.1.2⟩,fun r hr=>h1.2 r (h r hr)⟩
theorem sm{n m:Nat}{L:Gr}{ds:List AV}: ∀{rs:List AV},(sv n m L ds rs).2=0↔ ∀r,r∈rs->tG gq n m L ds r=false/\(sa r&&tG gA n m L ds r)=false
 |[]=>by simp[sv]
 | r::rs=>by
  rw[sv]
  cases e:tG gq n m L ds r with
  |true=>
   rw[aa7]
   exact⟨fun h=>by simp at h,fun h=>by have:=(h r (by simp)).1;rw[e] at this;cases this⟩
  | false=>
   rw[aa5]
   cases e2:sa r&&tG gA n m L ds r with
   |true=>
    rw[aa7]
    exact⟨fun h=>by simp at h,fun h=>by have:=(h r (by simp)).2;rw[e2] at this;cases this⟩
   |false=>
    rw[aa5,sm]
    refine⟨fun h x hx=>?_,fun h x hx=>h x (by simp[hx])⟩
    rcases List.mem_cons.1 hx with rfl|hx
    ·exact⟨e,e2⟩
    ·exact h x hx
theorem Ks{isf:Int->Bool}(hi: ∀op,isf op=true->dm op=true){n m m':Nat}{L M:Gr}(h:Sub L M)(hG:WG n m L)(hH:WG n m' M){ds:List AV}{r:AV}(hr:wK n ds r)(ha:tG isf n m L ds r=true):tG isf n m' M ds r=true:=by
 unfold tG jv at ha⊢
 rw[List.any_eq_true] at ha⊢
 obtain⟨l,h1,h2⟩:=ha
 rw[aa1] at h2
 refine⟨l,h1,?_⟩
 rw[aa1]
 exact⟨h2.1,h.Nf hG hH hr.hd.1 (hr.at_ l h1 (hi _ h2.1)).1 h2.2⟩
theorem xa{ds rs rs':List AV}(h: ∀r,r∈rs->r∈rs')(hl:rs.length<=rs'.length)(hs:ig ds rs'):ig ds rs:=
 ⟨hs.1,Nat.le_trans hl hs.2.1,fun r hr=>hs.2.2 r (h r hr)⟩
theorem oM{ds rs:List AV}:(cr ds rs).2=0↔(gg ds rs).2=0/\(sv ds.length (gE ds rs) (kg ds rs) ds rs).2=0:=by
 unfold cr
 by_cases h:(gg ds rs).2=0
 ·rw[aa6 h,aa7];simp[h]
 ·rw[aa4 h,aa5];simp[h]
theorem BN{ds rs rs':List AV}(h: ∀r,r∈rs->r∈rs')(hl:rs.length<=rs'.length)(hs:ig ds rs')(hg:(cr ds rs').2=0):(cr ds rs).2=0:=by
 obtain⟨h1,h2⟩:=oM.1 hg
 have c1:=KO h hl h1
 have f1:=fA c1
 have f2:=fA h1
 have hsub:=yo h f1 f2
 refine oM.2 ⟨c1,sm.2 fun r hr=>?_⟩
 have h3:=sm.1 h2 r (h r hr)
 have hG:=AD hs h1 r (h r hr)
 have key: ∀{isf:Int->Bool},(∀op,isf op=true->dm op=true)->tG isf ds.length (gE ds rs') (kg ds rs') ds r=false->tG isf ds.length (gE ds rs) (kg ds rs) ds r=false:=fun{isf} hi h=>by
  rw[Bool.eq_false_iff] at h⊢
  exact fun k=>h (Ks hi hsub f1.wg f2.wg hG k)
 refine⟨key (fun _=>Ar) h3.1,?_⟩
 cases e:sa r with
 |false=>rfl
 |true=>
  rw[e,ab9] at h3
  rw[ab9]
  exact key (fun _=>z8) h3.2
theorem I2{ds rs rs':List AV}(h: ∀r,r∈rs↔r∈rs')(f1:mm ds rs)(f2:mm ds rs'):dA ds rs=dA ds rs':=
 BM (yo (fun r hr=>(h r).1 hr) f1 f2) (yo (fun r hr=>(h r).2 hr) f2 f1) f1.wg f2.wg []
theorem AK{ds rs:List AV}(f:mm ds rs):Mp ds.length (gE ds rs) (kg ds rs) [] (dA ds rs):=Ep f.wg _ _ (Nat.le_refl _) zo
theorem LW{ds rs:List AV}(f:mm ds rs):(dA ds rs).length=0↔ds.length=0:=by
 have hL:=AK f
 constructor
 ·intro h
  have h1:dA ds rs=[]:=List.eq_nil_of_length_eq_zero h
  rw[h1] at hL
  rcases Nat.eq_zero_or_pos ds.length with e|e
  ·exact e
  ·have:=hL.all 0 (by omega) (by omega) (by simp)
   cases this
 ·intro h
  unfold dA
  rw[lz]
  have:cz ds.length (gE ds rs) (kg ds rs) []<0:=by
   rcases Int.lt_or_le (cz ds.length (gE ds rs) (kg ds rs) []) 0 with e|e
   ·exact e
   ·have:=(kL (n:=ds.length) (m:=gE ds rs) (L:=kg ds rs) e).1;omega
  rw[aa6 this];rfl
theorem Qm{ds rs:List AV}{a b n:Int}(hc:(gg ds rs).2=0)(ha:0<=a/\a<n)(hb:0<=b/\b<n):yQ ds rs a b n=0:=by
 unfold yQ
 rw[aa6 hc,aa7,show EG a b n=true by simp[EG,ha,hb]];rfl
theorem nf{ds rs:List AV}(h:fW ds rs=true):ig ds rs:=by
 simp only[fW,aa1,aa0] at h
 obtain⟨_,h1,h2,h3⟩:=h
 refine⟨by simp only[aP];omega,by simp only[aP];omega,fun x hx=>?_⟩
 have hc:=wc (rs.map sf) 2000 (by omega) h1 (sf x) (List.mem_map_of_mem hx)
 have e:sf x=aJ (bM x):=rfl
 rw[e,hJ] at hc
 have hc:rE (aJ (bM x))+(bM x).bl.length<=2000:=by omega
 refine⟨?_,by omega⟩
 rw[uf 52 (bM x).rel (bM x).hl (bM x).bl]
 have:rE (aJ (bM x))<=2000:=by omega
 exact Nat.le_trans this (by omega)
theorem vo{ds rs:List AV}(h1:ds.length<=aP)(h2: ∀d,d∈ds->(ah (ad d 1)).length<=aP){p q:Prop}(hp:p)(hq:fW ds rs=true->q):
  aO (decide (ds.length<=aP)&&ds.all fun d=>decide ((ah (ad d 1)).length<=aP)) (ax ((bif fW ds rs then(1:Int) else 0)==0) p q):=by
 refine au.2 ⟨?_,?_⟩
 ·rw[aa1,aa0,List.all_eq_true]
  exact⟨h1,fun d hd=>aa6 (h2 d hd)⟩
 ·cases hs:fW ds rs with
  |false=>exact hp
  |true=>exact hq hs
theorem A4{ds rs:List AV}(h:fW ds rs=true):rs.length<=300:=by
 simp only[fW,aa1,aa0] at h
 exact h.2.2.2
theorem sL(n m:Nat)(L:Gr): ∀(f:Nat) (done:List Int),(ql n m L f done).length<=f/\∀g,g∈ql n m L f done->g.length<=n
 |0,_=>⟨Nat.le_refl _,fun g hg=>(nomatch hg)⟩
 | f+1,done=>by
  rw[ql]
  cases decide (cz n m L done<0) with
  |true=>exact⟨Nat.zero_le _,fun g hg=>(nomatch hg)⟩
  |false=>
   have ih:=sL n m L f (pI done (dc n m L (cz n m L done)))
   rw[aa5]
   refine⟨Nat.succ_le_succ ih.1,fun g hg=>?_⟩
   rcases List.mem_cons.1 hg with rfl|hg
   ·exact v9 _ _ _ _
   ·exact ih.2 g hg
end Go.Proofs.YtdpmikfheebicaaGreatDoor
namespace Go.Proofs.YtdpmikfheebicaaGreatDoor
open Go Go.Dn Go.Rl Go.Proofs
attribute [local irreducible] bg vc
set_option maxRecDepth 20000
theorem RD(κ:Kp)(K:AV->List Dn.Obj->Prop):(bg (OC κ) 12 35 [] [] K)=(
 K (AV.ae 62 [AV.agg [AV.str {data:= #[OfNat.ofNat 101]},AV.ae 9 [AV.str {data:= #[OfNat.ofNat 97]}],AV.ae 3 [AV.int 1],AV.bool false,AV.bool false,AV.int 0],AV.agg [AV.str {data:= #[OfNat.ofNat 112]},AV.ae 9 [AV.str {data:= #[OfNat.ofNat 97]}],AV.ae 3 [AV.int 1],AV.bool false,AV.bool false,AV.int 0]]) []):=by kernel_rfl
def Qo:ByteArray:=⟨#[101]⟩
def NH:ByteArray:=⟨#[97]⟩
def Qk:ByteArray:=⟨#[112]⟩
def Mv(s:ByteArray):AV:= .agg [.lit (.string s), .ae 9 [.lit (.string NH)], .ae 3 [.int 1], .bool false, .bool false, .int 0]
def Nn:List AV->Option (Bool×AV)
 |[]=>some (true, .ae 62 [Mv Qo,Mv Qk])
 |_=>none
theorem SD(κ:Kp):sq (OC κ) 12 35 Nn:=by
 intro args x hh
 unfold Nn at hh
 split at hh
 ·simp only[aa3,aa9,true_and] at hh
  subst hh
  exact⟨rfl,Eq.mpr (RD κ _) rfl⟩
 ·cases hh
def Env.nR(E:Env)(q:FuncId->Bool):Env:={E with quiet:=q}
theorem Ue{E:Env}(hE:aC E)(q:FuncId->Bool):aC (Env.nR E q):=⟨hE.prog,hE.gY,hE.call,hE.jO,hE.loop⟩
theorem Mq{E:Env}(hM:ai E)(q:FuncId->Bool):ai (Env.nR E q):=⟨hM.call,hM.loop,hM.jO⟩
noncomputable def K4(κ:Kp):Env:=Env.nR ((OC κ).eE 35 Nn) (fun f=>kh f (35::17::BK))
theorem YX(κ:Kp):aC (K4 κ):=Ue ((ZB κ).eE (U3 κ) (SD κ)) _
theorem U7(κ:Kp):ai (K4 κ):=Mq ((U3 κ).eE) _
theorem VF(κ:Kp)(l m:List AV)(i:Nat)(I:Nat->S->Prop)(n:Nat)(K:Exit->S->Prop):(vc (K4 κ) 12 17 none 0 (ag (Pr κ).toProgram 17 4) (sp 29 [(0, .ae 48 l),(1, .ae 48 m),(5, .int i)] []) (bI (K4 κ) 17 4 0 I n K))=(
 letI z1:=Int.toNat (↑i:Int)
 letI z2:=(↑i:Int)<(↑(l.length):Int)
 ax (decide z2) (aO (true&&decide z2) (aO (true&&decide ((↑i:Int)<(↑(m.length):Int))) (aO (decide (List.length (ah (nth l z1))<=9223372036854775807))
 (ax (!ml (ah (nth l z1)) (ah (nth m z1))) (K Exit.ret (sp 29 [(4,AV.bool false)] [])) (∃(e0:Nat),e0<n/\I e0 (sp 29 [(0,AV.ae 48 l),(1,AV.ae 48 m),
 (5,AV.int (IntKind.wrap IntKind.i64 ((↑i:Int)+(1:Int))))] [])))))) (K (Exit.exit 0) (sp 29 [] []))):=by kernel_rfl
def ir(l m:List AV):Bool:=decide (l.map (fun x=>(ah x).map toInt)=m.map fun x=>(ah x).map toInt)
def fY(l:List AV):Bool:=decide (l.length<=aP)&&l.all fun x=>decide ((ah x).length<=aP)
structure Q6 where
 l:List AV
 m:List AV
 i:Nat
abbrev OB(x:Q6):S:=sp 29 [(0, .ae 48 x.l),(1, .ae 48 x.m),(5, .int x.i)] []
def HG(x:Q6):Prop:=x.l.length=x.m.length/\fY x.l=true/\x.i<=x.l.length
def Dt(x:Q6):Out (Exit×S):= .ax (ir (x.l.drop x.i) (x.m.drop x.i)) (.one (.exit 0,sp 29 [] [])) (.one (.ret,sp 29 [(4, .bool false)] []))
theorem Z0(κ:Kp):bn (K4 κ) 12 17 4 (aQ 0 OB HG Dt):=by
 refine aR (fun x=>x.l.length - x.i) ?_
 rintro⟨l,m,i⟩ K ⟨h1,h2,h3⟩ ho
 simp only at h1 h2 h3
 rw[show(K4 κ).P=Pr κ from rfl]
 refine Eq.mpr (VF κ l m i _ _ K) ?_
 have h2':=h2
 rw[fY,aa1,List.all_eq_true] at h2'
 have hm:=of_decide_eq_true h2'.1
 simp only[aP] at hm
 simp only[Dt,Out.run,af] at ho
 simp only[af,au,aa0,aa2,ab9,Int.toNat_natCast]
 refine⟨fun hi=>⟨hi,by omega,?_,?_⟩,fun hi=>?_⟩
 ·have hx:nth l i∈l:=by rw[a8 _ _ (show i<l.length by omega)];exact List.getElem_mem _
  exact of_decide_eq_true (h2'.2 _ hx)
 ·rw[ab1 (show i<l.length by omega),←a8 l i (by omega),ab1 (show i<m.length by omega),←a8 m i (by omega)] at ho
  refine⟨fun e=>ho.2 ?_,fun e=>?_⟩
  ·have e:ml (ah (nth l i)) (ah (nth m i))=false:=by simpa using e
   simp only[ml,aa2] at e
   simp only[ir,ac0,List.cons.injEq,aa2,not_and]
   exact fun h=>absurd h e
  ·have e:ml (ah (nth l i)) (ah (nth m i))=true:=by simpa using e
   simp only[ml,aa0] at e
   rw[a5 (n:=(i:Int)+1) (by omega) (by omega)]
   refine⟨_,?_,⟨l,m,i+1⟩,rfl,⟨h1,h2,by simp only;omega⟩,rfl,?_⟩
   ·simp only;omega
   ·simp only[Dt,Out.run,af]
    simpa[ir,e] using ho
 ·rw[aa8 (by omega),aa8 (by omega)] at ho
  exact ho.1 rfl
noncomputable def P5(κ:Kp):Env:=(K4 κ).aj 17 4 (aQ 0 OB HG Dt)
theorem Wv(κ:Kp):aC (P5 κ):=(YX κ).aj (U7 κ) (Z0 κ)
theorem Uy(κ:Kp):ai (P5 κ):=(U7 κ).aj aG
theorem Zz(κ:Kp)(l m:List AV)(K:AV->List Dn.Obj->Prop):(bg (P5 κ) 12 17 [.ae 48 l, .ae 48 m] [] K)=(
 letI z1:=Pg.toProgram (Env.P (K4 κ))
 ax ((↑(l.length):Int) != (↑(m.length):Int)) (K (AV.bool false) []) (ag z1 17 4=ag z1 17 4/\∃(e0:Q6),sp 29 [(0,AV.ae 48 l),(1,AV.ae 48 m),(5,
 AV.int 0)] []=sp 29 [(0,AV.ae 48 e0.l),(1,AV.ae 48 e0.m),(5,AV.int (↑(e0.i):Int))] []/\(e0.l.length=e0.m.length/\fY e0.l=true/\e0.i<=
 e0.l.length)/\ax (ir (List.drop e0.i e0.l) (List.drop e0.i e0.m)) (K (AV.bool true) []) (K (AV.bool false) []))):=by kernel_rfl
def Rr:List AV->Option (Bool×AV)
 |[.ae 48 l, .ae 48 m]=>some (fY l, .bool (ir l m))
 |_=>none
theorem Wr(κ:Kp):cy (P5 κ) 12 17 Rr:=by
 intro args x hh
 unfold Rr at hh
 split at hh
 ·rename_i l m
  simp only[aa3,aa9] at hh
  obtain⟨h1,rfl⟩:=hh
  refine⟨_,rfl,rfl,?_⟩
  refine Eq.mpr (Zz κ l m _) ?_
  simp only[af,bne_iff_ne,bne_eq_false_iff_eq]
  refine⟨fun e=>?_,fun e=>⟨trivial,⟨l,m,0⟩,rfl,⟨by simp only;omega,h1,Nat.zero_le _⟩,?_⟩⟩
  ·have:ir l m=false:=by
    unfold ir
    rw[aa4]
    intro h
    have:=congrArg List.length h
    simp at this;omega
   rw[this]
  ·simp only[ab0]
   exact⟨fun e=>by rw[e],fun e=>by rw[e]⟩
 ·cases hh
noncomputable def Q2(κ:Kp):Env:=(P5 κ).aF 17 Rr
theorem Tz(κ:Kp):aC (Q2 κ):=(Wv κ).aF (Uy κ) (Wr κ)
theorem TJ(κ:Kp):ai (Q2 κ):=(Uy κ).aF
def MN:List AV->Bool
 |[.agg [_, .ae _ [.agg [_, .ae _ [_],_]]]]=>true
 |_=>false
def Dw(x:ga):Prop:=ig x.1 x.2/\(cr x.1 x.2).2=0
def He(x:ga):Out (AV×List Dn.Obj):= .one (.bp [.az 0 0 (bU (dA x.1 x.2)).length, .int 0, .int 0],[.row 48 (bU (dA x.1 x.2))])
def Ez(x:ga):Prop:=ig x.1 x.2/\(cr x.1 x.2).2≠0
def HN(x:ga):Out (AV×List Dn.Obj):= .one (.bp [.nil, .int (cr x.1 x.2).1, .int (cr x.1 x.2).2],[])
noncomputable def RK(κ:Kp):Env:=(NS κ).aw 15 (CJ MN (aZ Fj Dw He) (aZ Fj Ez HN))
theorem cGu(κ:Kp):bz (NS κ) 12 15 (CJ MN (aZ Fj Dw He) (aZ Fj Ez HN)):=by
 refine Ey ?_ ?_
 ·rintro args st K ⟨x,h1,h2,h3⟩
  refine Sc κ args st K ⟨x,h1,h2.1,?_⟩
  simp only[EF,Out.run,af,aa0,aa2]
  exact⟨fun _=>h3,fun e=>absurd h2.2 e⟩
 ·rintro args st K ⟨x,h1,h2,h3⟩
  refine Sc κ args st K ⟨x,h1,h2.1,?_⟩
  simp only[EF,Out.run,af,aa0,aa2]
  exact⟨fun e=>absurd e h2.2,fun _=>h3⟩
theorem WH(κ:Kp):aC (RK κ):=(UQ κ).aw (Q9 κ) (cGu κ)
theorem mGu(κ:Kp):ai (RK κ):=(Q9 κ).aw (we aI aI)
def LM(E F:Env):Env:={E with call:=F.call}
theorem Mj{E F:Env}(hE:aC E)(hF:aC F)(hP:E.P=F.P):aC (LM E F):=
 ⟨hE.prog,hE.gY,fun f args st K h=>(show dj E.P f args st K by rw[hP];exact hF.call f args st K h),hE.jO,hE.loop⟩
theorem Eb{E F:Env}(hE:ai E)(hF:ai F):ai (LM E F):=⟨hF.call,hE.loop,hE.jO⟩
noncomputable def Qy(κ:Kp):Env:=LM (Q2 κ) (RK κ)
theorem VK(κ:Kp):aC (Qy κ):=Mj (Tz κ) (WH κ) rfl
theorem TW(κ:Kp):ai (Qy κ):=Eb (TJ κ) (mGu κ)
theorem Vi(κ:Kp)(K:AV->List Dn.Obj->Prop):(bg (Qy κ) 12 14 [] [] K)=(
 ∃(e2:ga),([AV.agg [AV.ae 62 [AV.agg [AV.str Qo,AV.ae 9 [AV.str NH],AV.ae 3 [AV.int 1],AV.bool false,AV.bool false,AV.int 0],AV.agg [AV.str Qk,AV.ae 9 [AV.str NH],AV.ae 3 [AV.int 1],AV.bool false,AV.bool false,AV.int 0]],AV.ae 41 [AV.agg [AV.agg [AV.str {data:= #[OfNat.ofNat 112]},AV.ae 52 [AV.agg [AV.int 1,AV.str {data:= #[OfNat.ofNat 120]},AV.int 0,AV.ae 52 []]]],AV.ae 55 [AV.agg [AV.int 1,AV.agg [AV.str {data:= #[OfNat.ofNat 101]},AV.ae 52 [AV.agg [AV.int 1,AV.str {data:= #[OfNat.ofNat 120]},AV.int 0,AV.ae 52 []]]],AV.agg [AV.int 0,AV.str {data:= #[]},AV.int 0,AV.nil],AV.agg [AV.int 0,AV.str {data:= #[]},AV.int 0,AV.nil]]],AV.int 0]]]],aB)=([AV.agg [AV.ae 62 e2.1,AV.ae 41 e2.2]],aB)/\((e2.1.length<=9223372036854775807/\e2.2.length<=9223372036854775807/\∀(e0:AV),List.Mem e0 e2.2->aM (aa (aH 52 (ba.hl (bM e0)) (ba.bl (bM e0))))<=100000/\List.length (ba.bl (bM e0))<=100000)/\Prod.snd (cr e2.1 e2.2)=(0:Int))/\∃(e1:ga),([AV.agg [AV.ae 62 [AV.agg [AV.str Qo,AV.ae 9 [AV.str NH],AV.ae 3 [AV.int 1],AV.bool false,AV.bool false,AV.int 0],AV.agg [AV.str Qk,AV.ae 9 [AV.str NH],AV.ae 3 [AV.int 1],AV.bool false,AV.bool false,AV.int 0]],AV.ae 41 [AV.agg [AV.agg [AV.str {data:= #[OfNat.ofNat 112]},AV.ae 52 [AV.agg [AV.int 1,AV.str {data:= #[OfNat.ofNat 120]},AV.int 0,AV.ae 52 []]]],AV.ae 55 [AV.agg [AV.int 1,AV.agg [AV.str {data:= #[OfNat.ofNat 101]},AV.ae 52 [AV.agg [AV.int 1,AV.str {data:= #[OfNat.ofNat 120]},AV.int 0,AV.ae 52 []]]],AV.agg [AV.int 0,AV.str {data:= #[]},AV.int 0,AV.nil],AV.agg [AV.int 0,AV.str {data:= #[]},AV.int 0,AV.nil]],AV.agg [AV.int 2,AV.agg [AV.str {data:= #[OfNat.ofNat 112]},AV.ae 52 [AV.agg [AV.int 1,AV.str {data:= #[OfNat.ofNat 120]},AV.int 0,AV.ae 52 []]]],AV.agg [AV.int 0,AV.str {data:= #[]},AV.int 0,AV.nil],AV.agg [AV.int 0,AV.str {data:= #[]},AV.int 0,AV.nil]]],AV.int 7]]]],aB)=([AV.agg [AV.ae 62 e1.1,AV.ae 41 e1.2]],aB)/\((e1.1.length<=9223372036854775807/\e1.2.length<=9223372036854775807/\∀(e0:AV),List.Mem e0 e1.2->aM (aa (aH 52 (ba.hl (bM e0)) (ba.bl (bM e0))))<=100000/\List.length (ba.bl (bM e0))<=100000)/\(Prod.snd (cr e1.1 e1.2)=(0:Int)->False))/\aO (fY (List.take (List.length (bU (dA e2.1 e2.2))) (List.drop 0 (bU (dA e2.1 e2.2))))) (ax (ir (List.take (List.length (bU (dA e2.1 e2.2))) (List.drop 0 (bU (dA e2.1 e2.2)))) [AV.ae 3 [AV.int 0],AV.ae 3 [AV.int 1]]) (ax (Prod.snd (cr e1.1 e1.2)==(70:Int)) (K (AV.bool (Prod.fst (cr e1.1 e1.2)==(7:Int))) []) (K (AV.bool false) [])) (K (AV.bool false) []))):=by kernel_rfl
def KH:ByteArray:=ByteArray.mk #[101]
def Yv:ByteArray:=ByteArray.mk #[97]
abbrev N3:AV:= .agg [.int 0, .lit (.string s0), .int 0, .nil]
abbrev Rh(r s:ByteArray):AV:= .agg [.lit (.string r), .ae 52 [Oi s]]
def sr:List AV:=[Mv Qo,Mv Qk]
def JX:ba:=⟨[],[],Hy,[Oi sx],[.agg [.int 1,Rh KH sx,N3,N3]],0,0⟩
def KM:ba:=⟨[],[],Hy,[Oi sx],[.agg [.int 1,Rh KH sx,N3,N3], .agg [.int 2,Rh Hy sx,N3,N3]],7,0⟩
def qZ:Rl:=⟨⟨Hy,[tv sx]⟩,[⟨1,⟨KH,[tv sx]⟩,t0,t0⟩]⟩
def rA:Rl:=⟨⟨Hy,[tv sx]⟩,[⟨1,⟨KH,[tv sx]⟩,t0,t0⟩,⟨2,⟨Hy,[tv sx]⟩,t0,t0⟩]⟩
theorem Me(s:ByteArray):cG (Oi s)=tv s:=by rw[mC];rfl
theorem PQ:cG N3=t0:=by rw[cE];rfl
theorem HR:aJ JX=qZ:=by
 simp only[aJ,JX,qZ,aa,cC,ac0,List.map_nil,Me,cm,Ca,ad,nth,PQ,ah,toInt,toStr]
theorem GF:aJ KM=rA:=by
 simp only[aJ,KM,rA,aa,cC,ac0,List.map_nil,Me,cm,Ca,ad,nth,PQ,ah,toInt,toStr]
theorem Cz:isName KH=true:=pT _ (by decide+kernel) (by decide+kernel) (by decide+kernel)
theorem M8:isName Yv=true:=pT _ (by decide+kernel) (by decide+kernel) (by decide+kernel)
theorem AS:aU qZ=true:=by
 have e3:fU ⟨1,⟨KH,[tv sx]⟩,t0,t0⟩=true:=by simp[fU,ni KH sx Cz tZ,Bu]
 simp[aU,qZ,ni Hy sx xy tZ,e3,A6]
theorem Aq:aU rA=true:=by
 have e3:fU ⟨1,⟨KH,[tv sx]⟩,t0,t0⟩=true:=by simp[fU,ni KH sx Cz tZ,Bu]
 have e4:fU ⟨2,⟨Hy,[tv sx]⟩,t0,t0⟩=true:=by simp[fU,ni Hy sx xy tZ,Bu]
 simp[aU,rA,ni Hy sx xy tZ,e3,e4,A6]
theorem Jp(s:ByteArray)(h:isName s=true):yI (Mv s)=true:=by
 have h1:isName NH=true:=M8
 have:yU [.lit (.string NH)] [.int 1]=true:=by
  simp only[yU,toStr,h1];rfl
 unfold yI zN
 simp only[Mv,ad,nth,toStr,ah,h,this]
 rfl
theorem Lk{x:ba}(h:aU (aJ x)=true):eH sr [an x]=true:=by
 have e1:yI (Mv Qo)=true:=Jp _ Cz
 have e2:yI (Mv Qk)=true:=Jp _ xy
 have e3:nF (an x)=true:=h
 simp only[eH,sr,List.all_cons,List.all_nil,e1,e2,e3];rfl
theorem L6{x:ba}{r:Rl}(hr:aJ x=r)(h:aU r=true)(h2:kc r=true)(h3:an (bM (an x))=an x)(h4:aJ (bM (an x))=aJ x)(h5:(oZ (cg sr) r).1=0):(gg sr [an x]).2=0:=by
 have hR:=Lk (x:=x) (by rw[hr];exact h)
 refine sQ.2 ⟨hR,by decide+kernel,fun y hy=>?_,fun y hy=>?_⟩
 ·obtain rfl:=List.mem_singleton.1 hy
  unfold jw rr
  rw[h3,hR,aa7]
  simp only[h4,hr]
  exact h5
 ·obtain rfl:=List.mem_singleton.1 hy
  unfold kC Hk
  rw[h4,hr,h,h2];rfl
theorem JK:(oZ (cg sr) qZ).1=0:=by
 have:c6 qZ=[sx]:=by unfold c6;rw[AS,aa7];decide+kernel
 unfold oZ
 rw[this]
 decide+kernel
theorem Hs:(oZ (cg sr) rA).1=0:=by
 have:c6 rA=[sx]:=by unfold c6;rw[Aq,aa7];decide+kernel
 unfold oZ
 rw[this]
 decide+kernel
theorem Np:(gg sr [an JX]).2=0:=L6 HR AS (by decide+kernel) rfl rfl JK
theorem NQ:(gg sr [an KM]).2=0:=L6 GF Aq (by decide+kernel) rfl rfl Hs
theorem Py:(cr sr [an JX]).2=0:=by
 refine oM.2 ⟨Np,sm.2 fun r hr=>?_⟩
 obtain rfl:=List.mem_singleton.1 hr
 have:tG gA sr.length (gE sr [an JX]) (kg sr [an JX]) sr (an JX)=false:=by decide+kernel
 exact⟨by decide+kernel,by rw[this,Bool.and_false]⟩
theorem MK:cr sr [an KM]=(7,70):=by
 unfold cr
 rw[aa6 NQ,aa7,sv,show tG gq sr.length (gE sr [an KM]) (kg sr [an KM]) sr (an KM)=true by decide+kernel]
 rfl
theorem Nd:dA sr [an JX]=[[0],[1]]:=by decide+kernel
theorem Jc{x:ba}{r:Rl}(hr:aJ x=r)(h4:aJ (bM (an x))=aJ x)(h5:(bM (an x)).hl=x.hl/\(bM (an x)).bl=x.bl)(hc:rE r<=100000)(hl:x.bl.length<=100000):ig sr [an x]:=by
 refine⟨by decide,by simp[aP],fun y hy=>?_⟩
 obtain rfl:=List.mem_singleton.1 hy
 refine⟨?_,by rw[h5.2];exact hl⟩
 rw[h5.1,h5.2]
 have:=uf 52 x.rel x.hl x.bl
 rw[show(⟨⟨x.rel,aa x.hl⟩,cC x.bl⟩:Rl)=aJ x from rfl,hr] at this
 rw[this];exact hc
theorem LP:ig sr [an JX]:=Jc HR rfl ⟨rfl,rfl⟩ (by decide) (by decide)
theorem K7:ig sr [an KM]:=Jc GF rfl ⟨rfl,rfl⟩ (by decide) (by decide)
def Sq:List AV->Option (Bool×AV)
 |[]=>some (true, .bool true)
 |_=>none
theorem V6(κ:Kp):cy (Qy κ) 12 14 Sq:=by
 intro args x hh
 unfold Sq at hh
 split at hh
 ·simp only[aa3,aa9,true_and] at hh
  subst hh
  refine⟨_,rfl,rfl,?_⟩
  refine Eq.mpr (Vi κ _) ?_
  refine⟨(sr,[an JX]),rfl,⟨LP,Py⟩,(sr,[an KM]),rfl,⟨K7,fun h=>by simp only[MK] at h;cases h⟩,?_⟩
  simp only[Nd,MK]
  rfl
 ·cases hh
noncomputable def PG(κ:Kp):Env:=LM ((Qy κ).aF 14 Sq) (Q2 κ)
theorem R7(κ:Kp):aC (PG κ):=Mj ((VK κ).aF (TW κ) (V6 κ)) (Tz κ) rfl
theorem Sj(κ:Kp):ai (PG κ):=Eb ((TW κ).aF) (TJ κ)
theorem Di{ds rs:List AV}(h:ds.length<=60):fY (bU (dA ds rs))=true:=by
 have h1:=sL ds.length (gE ds rs) (kg ds rs) (sn ds.length []+1) []
 have h2:=yt ds.length []
 rw[fY,aa1,aa0,List.all_eq_true,iK]
 refine⟨Nat.le_trans h1.1 (by simp only[aP];omega),fun x hx=>?_⟩
 obtain⟨g,hg,rfl⟩:=List.mem_map.1 hx
 have:=h1.2 g hg
 rw[aa0]
 show(iA g).length<=aP
 rw[gG];simp only[aP];omega
theorem CA(l:List AV):ir l l=true:=aa6 rfl
end Go.Proofs.YtdpmikfheebicaaGreatDoor
