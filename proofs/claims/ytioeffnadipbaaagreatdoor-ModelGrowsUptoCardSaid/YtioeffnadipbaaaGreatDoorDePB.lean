import Derived.Test.YtioeffnadipbaaaGreatDoorDePA
namespace Go.Proofs.YtioeffnadipbaaaGreatDoor
open Go Go.Dn Go.Rl Go.Proofs
attribute [local irreducible] a0 vc
set_option maxRecDepth 20000
theorem A2{i j:Nat}(h:i+j<=9223372036854775807):IntKind.wrap .i64 (Int.fdiv (IntKind.wrap .u64 (IntKind.wrap .i64 (i+j))) 2)=((i+j) / 2:Nat):=by
 grind [IntKind.wrap,IntKind.bits,az]
structure yj(P:Nat->Prop)(lo hi i j:Nat):Prop where
 le:lo<=i/\i<=j/\j<=hi
 h1:lo<i->P (i - 1)
 h2:j<hi-> ¬ P j
theorem yj.yes{P lo a i j}(h:yj P lo a i j)(c:i<j)(b:P ((i+j) / 2)):yj P lo a ((i+j) / 2+1) j:=⟨by have:=h.le;omega,fun _=>b,h.h2⟩
theorem yj.no{P lo a i j}(h:yj P lo a i j)(c:i<j)(b: ¬ P ((i+j) / 2)):yj P lo a i ((i+j) / 2):=⟨by have:=h.le;omega,h.h1,fun _=>b⟩
theorem yj.start{P lo a}(h:lo<=a):yj P lo a lo a:=⟨by omega,by simp,by simp⟩
theorem xMa κ L(a i j:Nat) I n K:(vc (jZ κ).E 12 167 none 1 (ad (Pr κ).toProgram 167 3) (sp 220 [(0, .ak 0 0 L.length),(1, .int a),(4,oa),(10, .int i),(11, .int j)] [jM L]) (bj (jZ κ).E 167 3 1 I n K))=(
 letI b:=IntKind.wrap IntKind.i64
 letI c:=AV.int
 letI d:=Int.fdiv (IntKind.wrap IntKind.u64 (b ((↑i:Int)+(↑j:Int)))) (2:Int)
 letI e:=b d
 letI f:=af (nth (rws L) (0+Int.toNat e))
 aq (decide ((↑i:Int)<(↑j:Int))) (aV (decide ((0:Int)<=b d)&&decide (b d<(↑(L.length):Int))) (aV
 (true&&decide ((↑a:Int)<(↑(L.length):Int))) (aV (decide (List.length f<=9223372036854775807)) (aq (decide (bz f (af (nth (rws L) (0+Int.toNat (↑a:
 Int))))<(0:Int))) (∃(e0:Nat),e0<n/\I e0 (sp 220 [(0,AV.ak 0 0 L.length),(1,c (↑a:Int)),(4,AV.bm 54 []),(10,c (IntKind.wrap
 IntKind.i64 (b d+(1:Int)))),(11,c (↑j:Int))] [Obj.row 70 (rws L)])) (∃(e0:Nat),e0<n/\I e0 (sp 220 [(0,AV.ak 0 0
 L.length),(1,c (↑a:Int)),(4,AV.bm 54 []),(10,c (↑i:Int)),(11,c e)] [Obj.row 70 (rws L)])))))) (K (Exit.exit 0) (sp 220 [(0,AV.ak 0
 0 L.length),(1,c (↑a:Int)),(10,c (↑i:Int))] [Obj.row 70 (rws L)]))):=by kernel_rfl
structure AMa where
 L:RL
 a:Nat
 b:Nat
 i:Nat
 j:Nat
abbrev PMa L a:=fun h=>bz (rat L h) (rat L a)<0
abbrev ae2(x:AMa):=sp 220 [(0, .ak 0 0 x.L.length),(1, .int x.a),(4,oa),(10, .int x.i),(11, .int x.j)] [jM x.L]
def Yx(x:AMa):=yj (PMa x.L x.a) (x.a+1) x.b x.i x.j/\x.b<=x.L.length/\x.L.length<=100000000/\fq x.L
def ZW(x:AMa):Out (Exit×S):= .all (fun i=>yj (PMa x.L x.a) (x.a+1) x.b i i) fun i=> .one (.exit 0,sp 220 [(0, .ak 0 0 x.L.length),(1, .int x.a),(10, .int i)] [jM x.L])
theorem lMa κ:aU (jZ κ).E 12 167 3 (aG 1 ae2 Yx ZW):=by
 refine aC (fun x=>x.j - x.i) ?_;rintro⟨L,a,b,i,j⟩ K ⟨d,g,l,f⟩ k;simp only at d g l f;rw[show(jZ κ).E.P=Pr κ from rfl];refine Eq.mpr (xMa κ L a i j _ _ K) ?_;have m:=d.le;rw[ae,ar4,ar6];refine⟨fun h=>?_,fun h=>?_⟩
 ·rw[A2 (by omega),az (n:=(((i+j) / 2:Nat):Int)+1) (by omega) (by omega),fS,fS,show 0+(((i+j) / 2:Nat):Int).toNat=(i+j) / 2 by omega,show 0+((a:Nat):Int).toNat=a by omega]
  have c:i<j:=by omega
  refine ai.2 ⟨by simp;omega,ai.2 ⟨by simp;omega,ai.2 ⟨as0 (kE f _),ae.2 ⟨fun e=>?_,fun e=>?_⟩⟩⟩⟩
  ·refine⟨_,?_,⟨L,a,b,(i+j) / 2+1,j⟩,rfl,⟨d.yes c (by simpa using e),g,l,f⟩,rfl,k⟩
   simp only;omega
  ·refine⟨_,?_,⟨L,a,b,i,(i+j) / 2⟩,rfl,⟨d.no c (by simpa using e),g,l,f⟩,rfl,k⟩
   simp only;omega
 ·obtain rfl:i=j:=by omega
  exact k i d
theorem xMb κ L(i k:Nat) I n K:(vc (jZ κ).E 12 167 none 1 (ad (Pr κ).toProgram 167 9) (sp 220 [(0, .ak 0 0 L.length),(10, .int i),(13, .int k)] [jM L]) (bj (jZ κ).E 167 9 1 I n K))=(
 letI a:=IntKind.wrap IntKind.i64
 letI d:=true&&decide ((↑k:Int)<(↑(L.length):Int))
 letI b:=(↑k:Int)+(1:Int)
 letI e:=decide ((0:Int)<=a b)&&decide (a b<(↑(L.length):Int))
 letI c:=a b
 aq (decide ((↑k:Int)<a ((↑i:Int) - (1:Int)))) (aV e (aV d (aV d (aV e (∃(e0:Nat),e0<n/\I e0 (sp 220 [(0,AV.ak 0 0
 L.length),(10,AV.int (↑i:Int)),(13,AV.int c)] [Obj.row 70 (bH (bH (rws L) (0+Int.toNat (↑k:Int)) (AV.ah 72 (af (nth (rws L) (0+Int.toNat c))))) (0
 +Int.toNat c) (AV.ah 72 (af (nth (rws L) (0+Int.toNat (↑k:Int))))))])))))) (K (Exit.exit 2) (sp 220 [] [Obj.row 70 (rws L)]))):=by kernel_rfl
structure AMb where
 L0:RL
 L:RL
 a:Nat
 b:Nat
 i:Nat
 k:Nat
abbrev WR(x:AMb):=sp 220 [(0, .ak 0 0 x.L.length),(10, .int x.i),(13, .int x.k)] [jM x.L]
def Yy(x:AMb):=Fw x.a x.b x.k x.L0 x.L/\(x.a<=x.k/\x.k+1<=x.i/\x.i<=x.b)/\x.b<=x.L0.length/\x.L0.length<=100000000
def ZX(x:AMb):Out (Exit×S):= .all (fun M=>Fw x.a x.b (x.i - 1) x.L0 M) fun M=> .one (.exit 2,sp 220 [] [jM M])
theorem lMb κ:aU (jZ κ).E 12 167 9 (aG 1 WR Yy ZX):=by
 refine aC (fun x=>x.i - x.k) ?_;rintro⟨l,L,a,b,i,k⟩ K ⟨c,m,d,g⟩ f;simp only at c m d g;rw[show(jZ κ).E.P=Pr κ from rfl];refine Eq.mpr (xMb κ L i k _ _ K) ?_;have o:=c.sw.len;rw[az (n:=(i:Int) - 1) (by omega) (by omega),az (n:=(k:Int)+1) (by omega) (by omega),show(k:Int)+1=(k+1:Nat) by omega,show 0+((k+1:Nat):Int).toNat=k+1 by omega,show 0+(k:Int).toNat=k by omega,vl,ae,ar4,ar6];refine⟨fun h=>?_,fun h=>?_⟩
 ·have j:(decide (0<=((k+1:Nat):Int))&&decide (((k+1:Nat):Int)<L.length))=true:=by simp;omega
  have e:(true&&decide ((k:Int)<L.length))=true:=by simp;omega
  refine ai.2 ⟨j,ai.2 ⟨e,ai.2 ⟨e,ai.2 ⟨j,_,?_,⟨l,swp L k (k+1),a,b,i,k+1⟩,?_,⟨c.step (by omega) d,by simp only;omega,d,g⟩,rfl,f⟩⟩⟩⟩
  ·simp only;omega
  ·simp only[WR,nz]
 ·obtain rfl:k=i - 1:=by omega
  exact f L c
theorem xMc κ L(m i j:Nat) I n K:(vc (jZ κ).E 12 167 none 1 (ad (Pr κ).toProgram 167 15) (sp 220 [(0, .ak 0 0 L.length),(2, .int m),(4,oa),(14, .int i),(15, .int j)] [jM L]) (bj (jZ κ).E 167 15 1 I n K))=(
 letI a:=IntKind.wrap IntKind.i64
 letI b:=AV.int
 letI c:=Int.fdiv (IntKind.wrap IntKind.u64 (a ((↑i:Int)+(↑j:Int)))) (2:Int)
 letI d:=af (nth (rws L) (0+Int.toNat (↑m:Int)))
 letI e:=a c
 aq (decide ((↑i:Int)<(↑j:Int))) (aV (true&&decide ((↑m:Int)<(↑(L.length):Int))) (aV (decide ((0:Int)<=a c)&&decide
 (a c<(↑(L.length):Int))) (aV (decide (List.length d<=9223372036854775807)) (aq (!decide (bz d (af (nth (rws L) (0+Int.toNat
 e)))<(0:Int))) (∃(e0:Nat),e0<n/\I e0 (sp 220 [(0,AV.ak 0 0 L.length),(2,b (↑m:Int)),(4,AV.bm 54 []),(14,b (IntKind.wrap
 IntKind.i64 (a c+(1:Int)))),(15,b (↑j:Int))] [Obj.row 70 (rws L)])) (∃(e0:Nat),e0<n/\I e0 (sp 220 [(0,AV.ak 0 0
 L.length),(2,b (↑m:Int)),(4,AV.bm 54 []),(14,b (↑i:Int)),(15,b e)] [Obj.row 70 (rws L)])))))) (K (Exit.exit 4) (sp 220 [(0,AV.ak 0
 0 L.length),(2,b (↑m:Int)),(14,b (↑i:Int))] [Obj.row 70 (rws L)]))):=by kernel_rfl
structure AMc where
 L:RL
 a:Nat
 m:Nat
 i:Nat
 j:Nat
abbrev PMc L m:=fun h=>0<=bz (rat L m) (rat L h)
abbrev ae3(x:AMc):=sp 220 [(0, .ak 0 0 x.L.length),(2, .int x.m),(4,oa),(14, .int x.i),(15, .int x.j)] [jM x.L]
def Yz(x:AMc):=yj (PMc x.L x.m) x.a x.m x.i x.j/\x.m<x.L.length/\x.L.length<=100000000/\fq x.L
def ZY(x:AMc):Out (Exit×S):= .all (fun i=>yj (PMc x.L x.m) x.a x.m i i) fun i=> .one (.exit 4,sp 220 [(0, .ak 0 0 x.L.length),(2, .int x.m),(14, .int i)] [jM x.L])
theorem lMc κ:aU (jZ κ).E 12 167 15 (aG 1 ae3 Yz ZY):=by
 refine aC (fun x=>x.j - x.i) ?_;rintro⟨L,a,m,i,j⟩ K ⟨c,f,k,d⟩ g;simp only at c f k d;rw[show(jZ κ).E.P=Pr κ from rfl];refine Eq.mpr (xMc κ L m i j _ _ K) ?_;have l:=c.le;rw[ae,ar4,ar6];refine⟨fun h=>?_,fun h=>?_⟩
 ·rw[A2 (by omega),az (n:=(((i+j) / 2:Nat):Int)+1) (by omega) (by omega),fS,fS,show 0+(((i+j) / 2:Nat):Int).toNat=(i+j) / 2 by omega,show 0+((m:Nat):Int).toNat=m by omega]
  have b:i<j:=by omega
  refine ai.2 ⟨by simp;omega,ai.2 ⟨by simp;omega,ai.2 ⟨as0 (kE d _),ae.2 ⟨fun e=>?_,fun e=>?_⟩⟩⟩⟩
  ·refine⟨_,?_,⟨L,a,m,(i+j) / 2+1,j⟩,rfl,⟨c.yes b (by simpa using e),f,k,d⟩,rfl,g⟩
   simp only;omega
  ·refine⟨_,?_,⟨L,a,m,i,(i+j) / 2⟩,rfl,⟨c.no b (by simpa using e),f,k,d⟩,rfl,g⟩
   simp only;omega
 ·obtain rfl:i=j:=by omega
  exact g i c
theorem xMq κ L(i k:Nat) I n K:(vc (jZ κ).E 12 167 none 1 (ad (Pr κ).toProgram 167 21) (sp 220 [(0, .ak 0 0 L.length),(14, .int i),(17, .int k)] [jM L]) (bj (jZ κ).E 167 21 1 I n K))=(
 letI a:=IntKind.wrap IntKind.i64
 letI d:=true&&decide ((↑k:Int)<(↑(L.length):Int))
 letI b:=(↑k:Int) - (1:Int)
 letI e:=decide ((0:Int)<=a b)&&decide (a b<(↑(L.length):Int))
 letI c:=a b
 aq (decide ((↑k:Int)>(↑i:Int))) (aV e (aV d (aV d (aV e (∃(e0:Nat),e0<n/\I e0 (sp 220 [(0,AV.ak 0 0 L.length),(14,AV.int (↑i:Int)),(17,
 AV.int c)] [Obj.row 70 (bH (bH (rws L) (0+Int.toNat (↑k:Int)) (AV.ah 72 (af (nth (rws L) (0+Int.toNat c))))) (0+Int.toNat c) (AV.ah 72 (af (nth (rws
 L) (0+Int.toNat (↑k:Int))))))])))))) (K (Exit.exit 6) (sp 220 [] [Obj.row 70 (rws L)]))):=by kernel_rfl
structure AMq where
 L0:RL
 L:RL
 a:Nat
 m:Nat
 i:Nat
 k:Nat
abbrev PI(x:AMq):=sp 220 [(0, .ak 0 0 x.L.length),(14, .int x.i),(17, .int x.k)] [jM x.L]
def YA(x:AMq):=Bw x.a x.m x.k x.L0 x.L/\(x.a<=x.i/\x.i<=x.k/\x.k<=x.m)/\x.m<x.L0.length/\x.L0.length<=100000000
def Z0(x:AMq):Out (Exit×S):= .all (fun M=>Bw x.a x.m x.i x.L0 M) fun M=> .one (.exit 6,sp 220 [] [jM M])
theorem lMq κ:aU (jZ κ).E 12 167 21 (aG 1 PI YA Z0):=by
 refine aC (fun x=>x.k) ?_;rintro⟨j,L,a,m,i,k⟩ K ⟨b,l,c,f⟩ e;simp only at b l c f;refine Eq.mpr (xMq κ L i k _ _ K) ?_;have o:=b.sw.len;rw[ae,ar4,ar6];refine⟨fun h=>?_,fun h=>?_⟩
 ·rw[az (n:=(k:Int) - 1) (by omega) (by omega),show(k:Int) - 1=(k - 1:Nat) by omega,show 0+((k - 1:Nat):Int).toNat=k - 1 by omega,show 0+(k:Int).toNat=k by omega,vl]
  have g:(decide (0<=((k - 1:Nat):Int))&&decide (((k - 1:Nat):Int)<L.length))=true:=by simp;omega
  have d:(true&&decide ((k:Int)<L.length))=true:=by simp;omega
  refine ai.2 ⟨g,ai.2 ⟨d,ai.2 ⟨d,ai.2 ⟨g,_,?_,⟨j,swp L k (k - 1),a,m,i,k - 1⟩,?_,⟨b.step (by omega) c,by simp only;omega,c,f⟩,rfl,e⟩⟩⟩⟩
  ·simp only;omega
  ·simp only[PI,nz]
 ·obtain rfl:k=i:=by omega
  exact e L b
theorem xMe κ L(a m b jD w i j p:Nat) I n K:(vc (jZ κ).E 12 167 none 1 (ad (Pr κ).toProgram 167 33) (sp 220 [(0, .ak 0 0 L.length),(1, .int a),(2, .int m),(3, .int b),(4,oa),(18, .int jD),(19, .int w),(20, .int i),(21, .int j),(22, .int p)] [jM L]) (bj (jZ κ).E 167 33 1 I n K))=(
 letI c:=IntKind.wrap IntKind.i64
 letI d:=AV.int
 letI e:=Int.fdiv (IntKind.wrap IntKind.u64 (c ((↑i:Int)+(↑j:Int)))) (2:Int)
 letI f:=(↑p:Int) - c e
 letI g:=af (nth (rws L) (0+Int.toNat (c f)))
 letI h:=c e
 aq (decide ((↑i:Int)<(↑j:Int))) (aV (decide ((0:Int)<=c f)&&decide (c f<(↑(L.length):Int))) (aV
 (decide ((0:Int)<=c e)&&decide (c e<(↑(L.length):Int))) (aV (decide (List.length g<=
 9223372036854775807)) (aq (!decide (bz g (af (nth (rws L) (0+Int.toNat h)))<(0:Int))) (∃(e0:Nat),e0<n/\I e0 (sp 220 [(0,AV.ak 0 0 L.length),(1,
 d (↑a:Int)),(2,d (↑m:Int)),(3,d (↑b:Int)),(4,AV.bm 54 []),(18,d (↑jD:Int)),(19,d (↑w:Int)),(20,d
 (c (c e+(1:Int)))),(21,d (↑j:Int)),(22,d (↑p:Int))] [Obj.row 70 (rws L)])) (∃(e0:Nat),
 e0<n/\I e0 (sp 220 [(0,AV.ak 0 0 L.length),(1,d (↑a:Int)),(2,d (↑m:Int)),(3,d (↑b:Int)),(4,AV.bm 54 []),(18,d (↑jD:
 Int)),(19,d (↑w:Int)),(20,d (↑i:Int)),(21,d h),(22,d (↑p:Int))] [Obj.row 70 (rws L)])))))) (K (Exit.exit 8) (sp 220 [(0,
 AV.ak 0 0 L.length),(1,d (↑a:Int)),(2,d (↑m:Int)),(3,d (↑b:Int)),(4,AV.bm 54 []),(18,d (↑jD:Int)),(19,d (↑w:
 Int)),(20,d (↑i:Int))] [Obj.row 70 (rws L)]))):=by kernel_rfl
structure XH where
 L:RL
 a:Nat
 m:Nat
 b:Nat
 jD:Nat
 w:Nat
 lo:Nat
 hi:Nat
 i:Nat
 j:Nat
 p:Nat
abbrev Ys L p:=fun c=>0<=bz (rat L (p - c)) (rat L c)
abbrev PH(x:XH):=sp 220 [(0, .ak 0 0 x.L.length),(1, .int x.a),(2, .int x.m),(3, .int x.b),(4,oa),(18, .int x.jD),(19, .int x.w),(20, .int x.i),(21, .int x.j),(22, .int x.p)] [jM x.L]
def Vo(x:XH):=yj (Ys x.L x.p) x.lo x.hi x.i x.j/\(x.hi<=x.p+1/\x.p<x.lo+x.L.length/\x.hi<=x.L.length)/\x.L.length<=100000000/\fq x.L
def ZZ(x:XH):Out (Exit×S):= .all (fun i=>yj (Ys x.L x.p) x.lo x.hi i i) fun i=> .one (.exit 8,sp 220 [(0, .ak 0 0 x.L.length),(1, .int x.a),(2, .int x.m),(3, .int x.b),(4,oa),(18, .int x.jD),(19, .int x.w),(20, .int i)] [jM x.L])
theorem lMe κ:aU (jZ κ).E 12 167 33 (aG 1 PH Vo ZZ):=by
 refine aC (fun x=>x.j - x.i) ?_;rintro⟨L,a,m,b,c,w,lo,q,i,j,p⟩ K ⟨f,k,l,g⟩ o;simp only at f k l g;rw[show(jZ κ).E.P=Pr κ from rfl];refine Eq.mpr (xMe κ L a m b c w i j p _ _ K) ?_;have r:=f.le;rw[ae,ar4,ar6];refine⟨fun h=>?_,fun h=>?_⟩
 ·rw[A2 (by omega),az (n:=(((i+j) / 2:Nat):Int)+1) (by omega) (by omega),az (n:=(p:Int) - ((i+j) / 2:Nat)) (by omega) (by omega),fS,fS,show 0+(((i+j) / 2:Nat):Int).toNat=(i+j) / 2 by omega,show 0+((p:Int) - ((i+j) / 2:Nat)).toNat=p - (i+j) / 2 by omega]
  have d:i<j:=by omega
  refine ai.2 ⟨by simp;omega,ai.2 ⟨by simp;omega,ai.2 ⟨as0 (kE g _),ae.2 ⟨fun e=>?_,fun e=>?_⟩⟩⟩⟩
  ·refine⟨_,?_,⟨L,a,m,b,c,w,lo,q,(i+j) / 2+1,j,p⟩,rfl,⟨f.yes d (by simpa using e),k,l,g⟩,rfl,o⟩
   simp only;omega
  ·refine⟨_,?_,⟨L,a,m,b,c,w,lo,q,i,(i+j) / 2,p⟩,rfl,⟨f.no d (by simpa using e),k,l,g⟩,rfl,o⟩
   simp only;omega
 ·obtain rfl:i=j:=by omega
  exact o i f
noncomputable def UO κ:=(jZ κ).loop (lMa _)
theorem Ru κ:Pr κ=(jZ κ).E.P:=rfl
noncomputable def UP κ:=(UO _).AR _ (rfl.trans (Ru κ)) (lMb _)
noncomputable def UQ κ:=(UP _).AR _ (rfl.trans (Ru κ)) (lMc _)
noncomputable def Jr κ:=(UQ _).AR _ (rfl.trans (Ru κ)) (lMq _)
noncomputable def BMa(κ:Kp):EB:=(Jr κ).AR (jZ κ) ((show(Jr κ).E.P=Pr κ from rfl).trans (Ru κ)) (lMe κ)
structure iU where
 L:RL
 a:Nat
 m:Nat
 b:Nat
def eX(x:iU):=([.ak 0 0 x.L.length, .int x.a, .int x.m, .int x.b,oa],[jM x.L])
structure fr(x:iU):Prop where
 lt:x.a<x.m/\x.m<x.b/\x.b<=x.L.length
 l:x.L.length<=100000000
 s:fq x.L
 u:Up x.L x.a x.m
 v:Up x.L x.m x.b
def Ok(x:iU):Out (AV×List Dn.Obj):= .all (Sr x.a x.b x.L) fun M=> .one (.aH [],[jM M])
def Pq n:=aO eX (fun x=>fr x/\x.b - x.a=n) Ok
noncomputable def L6 κ r:=(BMa κ).E.aw 167 fun a st K=>∃m,m<r/\Pq m a st K
theorem aq6(κ:Kp)(r:Nat)(L:RL)(a m b:Nat) K:(a0 (L6 κ r) 12 167 [.ak 0 0 L.length, .int a, .int m, .int b,oa] [jM L] K)=(
 letI c:=IntKind.wrap IntKind.i64
 letI d:=AV.int
 letI e:=Obj.row
 letI f:=AV.aH
 letI g:=AV.ak
 letI h:=AV.bm
 letI S:=Int.fdiv (IntKind.wrap IntKind.u64 (c ((↑a:Int)+(↑b:Int)))) (2:Int)
 letI T:=c S+(↑m:Int)
 letI R:=Pg.toProgram (Env.P (EB.E (Jr κ)))
 letI V:=c (c T - (1:Int))
 letI U:=c S
 letI W:=Pg.toProgram (Env.P (EB.E (jZ κ)))
 letI X:=Pg.toProgram (Env.P (EB.E (UO κ)))
 letI Y:=Pg.toProgram (Env.P (EB.E (UP κ)))
 letI Z:=Pg.toProgram (Env.P (EB.E (UQ κ)))
 letI C:=c T
 aq (c ((↑m:Int) - (↑a:Int))==(1:Int)) (ad W 167 3=ad W 167 3/\∃(e3:AMa),sp 220 [(0,g 0 0 L.length),(1,d (↑a:Int)),(4,h 54 []),(10,d (↑m:Int)),(11,d (↑b:Int))] [e 70 (rws L)]=ae2 e3/\Yx e3/\∀(e2:Nat),yj (PMa e3.L e3.a) (e3.a+1) e3.b e2 e2->ad X 167 9=ad X 167 9/\∃(e1:AMb),sp 220 [(0,g 0 0 e3.L.length),(10,d (↑e2:Int)),(13,d (↑(e3.a):Int))] [e 70 (rws e3.L)]=WR e1/\Yy e1/\∀(e0:RL),Fw e1.a e1.b (e1.i - 1) e1.L0 e0->K (f []) [e 70 (rws e0)]) (aq (c ((↑b:Int) - (↑m:Int))==(1:Int)) (ad Y 167 15=ad Y 167 15/\∃(e3:AMc),sp 220 [(0,g 0 0 L.length),(2,d (↑m:Int)),(4,h 54 []),(14,d (↑a:Int)),(15,d (↑m:Int))] [e 70 (rws L)]=ae3 e3/\Yz e3/\∀(e2:Nat),yj (PMc e3.L e3.m) e3.a e3.m e2 e2->ad Z 167 21=ad Z 167 21/\∃(e1:AMq),sp 220 [(0,g 0 0 e3.L.length),(14,d (↑e2:Int)),(17,d (↑(e3.m):Int))] [e 70 (rws e3.L)]=PI e1/\YA e1/\∀(e0:RL),Bw e1.a e1.m e1.i e1.L0 e0->K (f []) [e 70 (rws e0)]) (aq (decide ((↑m:Int)>c S)) (ad R 167 33=ad R 167 33/\∃(e9:XH),letI i:=[e 70 (rws e9.L)];letI s:=K (f []) i;sp 220 [(0,g 0 0 L.length),(1,d (↑a:Int)),(2,d (↑m:Int)),(3,d (↑b:Int)),(4,h 54 []),(18,d U),(19,d C),(20,d (c (c T - (↑b:Int)))),(21,d U),(22,d V)] [e 70 (rws L)]=PH e9/\Vo e9/\∀(e8:Nat),letI t:=(↑(e9.w):Int) - (↑e8:Int);letI D:=c t;letI j:=[g 0 0 e9.L.length,d (↑(e9.jD):Int),d D,d (↑(e9.b):Int),h 54 []];letI k:=decide ((↑(e9.jD):Int)<c t);letI l:=decide (c t<(↑(e9.b):Int));letI E:=[g 0 0 e9.L.length,d (↑(e9.a):Int),d (↑e8:Int),d (↑(e9.jD):Int),h 54 []];letI F:=decide ((↑e8:Int)<(↑(e9.jD):Int));letI G:=decide ((↑(e9.a):Int)<(↑e8:Int));letI H:=aq G (aq F (∃(e5:Nat),e5<r/\∃(e4:iU),(E,i)=eX e4/\(fr e4/\e4.b - e4.a=e5)/\∀(e3:RL),letI y:=[e 70 (rws e3)];Sr e4.a e4.b e4.L e3->aq k (aq l (∃(e2:Nat),e2<r/\∃(e1:iU),(j,y)=eX e1/\(fr e1/\e1.b - e1.a=e2)/\∀(e0:RL),Sr e1.a e1.b e1.L e0->K (f []) [e 70 (rws e0)]) (K (f []) y)) (K (f []) y)) (aq k (aq l (∃(e2:Nat),e2<r/\∃(e1:iU),(j,i)=eX e1/\(fr e1/\e1.b - e1.a=e2)/\∀(e0:RL),Sr e1.a e1.b e1.L e0->K (f []) [e 70 (rws e0)]) s) s)) (aq k (aq l (∃(e2:Nat),e2<r/\∃(e1:iU),(j,i)=eX e1/\(fr e1/\e1.b - e1.a=e2)/\∀(e0:RL),Sr e1.a e1.b e1.L e0->K (f []) [e 70 (rws e0)]) s) s);yj (Ys e9.L e9.p) e9.lo e9.hi e8 e8->aq (decide ((↑e8:Int)<(↑(e9.m):Int))) (aq (decide ((↑(e9.m):Int)<c t)) (∃(e7:LC),([g 0 0 e9.L.length,d (↑e8:Int),d (↑(e9.m):Int),d D,h 54 []],i)=PK e7/\BP e7/\∀(e6:RL),letI u:=[e 70 (rws e6)];letI I:=aq k (aq l (∃(e2:Nat),e2<r/\∃(e1:iU),(j,u)=eX e1/\(fr e1/\e1.b - e1.a=e2)/\∀(e0:RL),Sr e1.a e1.b e1.L e0->K (f []) [e 70 (rws e0)]) (K (f []) u)) (K (f []) u);Lq e7.a e7.b e7.n e7.L e6->aq G (aq F (∃(e5:Nat),e5<r/\∃(e4:iU),(E,u)=eX e4/\(fr e4/\e4.b - e4.a=e5)/\∀(e3:RL),letI z:=[e 70 (rws e3)];Sr e4.a e4.b e4.L e3->aq k (aq l (∃(e2:Nat),e2<r/\∃(e1:iU),(j,z)=eX e1/\(fr e1/\e1.b - e1.a=e2)/\∀(e0:RL),Sr e1.a e1.b e1.L e0->K (f []) [e 70 (rws e0)]) (K (f []) z)) (K (f []) z)) I) I) H) H) (ad R 167 33=ad R 167 33/\∃(e9:XH),letI n:=[e 70 (rws e9.L)];letI v:=K (f []) n;sp 220 [(0,g 0 0 L.length),(1,d (↑a:Int)),(2,d (↑m:Int)),(3,d (↑b:Int)),(4,h 54 []),(18,d U),(19,d C),(20,d (↑a:Int)),(21,d (↑m:Int)),(22,d V)] [e 70 (rws L)]=PH e9/\Vo e9/\∀(e8:Nat),letI w:=(↑(e9.w):Int) - (↑e8:Int);letI J:=c w;letI o:=[g 0 0 e9.L.length,d (↑(e9.jD):Int),d J,d (↑(e9.b):Int),h 54 []];letI p:=decide ((↑(e9.jD):Int)<c w);letI q:=decide (c w<(↑(e9.b):Int));letI M:=[g 0 0 e9.L.length,d (↑(e9.a):Int),d (↑e8:Int),d (↑(e9.jD):Int),h 54 []];letI N:=decide ((↑e8:Int)<(↑(e9.jD):Int));letI O:=decide ((↑(e9.a):Int)<(↑e8:Int));letI P:=aq O (aq N (∃(e5:Nat),e5<r/\∃(e4:iU),(M,n)=eX e4/\(fr e4/\e4.b - e4.a=e5)/\∀(e3:RL),letI A:=[e 70 (rws e3)];Sr e4.a e4.b e4.L e3->aq p (aq q (∃(e2:Nat),e2<r/\∃(e1:iU),(o,A)=eX e1/\(fr e1/\e1.b - e1.a=e2)/\∀(e0:RL),Sr e1.a e1.b e1.L e0->K (f []) [e 70 (rws e0)]) (K (f []) A)) (K (f []) A)) (aq p (aq q (∃(e2:Nat),e2<r/\∃(e1:iU),(o,n)=eX e1/\(fr e1/\e1.b - e1.a=e2)/\∀(e0:RL),Sr e1.a e1.b e1.L e0->K (f []) [e 70 (rws e0)]) v) v)) (aq p (aq q (∃(e2:Nat),e2<r/\∃(e1:iU),(o,n)=eX e1/\(fr e1/\e1.b - e1.a=e2)/\∀(e0:RL),Sr e1.a e1.b e1.L e0->K (f []) [e 70 (rws e0)]) v) v);yj (Ys e9.L e9.p) e9.lo e9.hi e8 e8->aq (decide ((↑e8:Int)<(↑(e9.m):Int))) (aq (decide ((↑(e9.m):Int)<c w)) (∃(e7:LC),([g 0 0 e9.L.length,d (↑e8:Int),d (↑(e9.m):Int),d J,h 54 []],n)=PK e7/\BP e7/\∀(e6:RL),letI x:=[e 70 (rws e6)];letI Q:=aq p (aq q (∃(e2:Nat),e2<r/\∃(e1:iU),(o,x)=eX e1/\(fr e1/\e1.b - e1.a=e2)/\∀(e0:RL),Sr e1.a e1.b e1.L e0->K (f []) [e 70 (rws e0)]) (K (f []) x)) (K (f []) x);Lq e7.a e7.b e7.n e7.L e6->aq O (aq N (∃(e5:Nat),e5<r/\∃(e4:iU),(M,x)=eX e4/\(fr e4/\e4.b - e4.a=e5)/\∀(e3:RL),letI B:=[e 70 (rws e3)];Sr e4.a e4.b e4.L e3->aq p (aq q (∃(e2:Nat),e2<r/\∃(e1:iU),(o,B)=eX e1/\(fr e1/\e1.b - e1.a=e2)/\∀(e0:RL),Sr e1.a e1.b e1.L e0->K (f []) [e 70 (rws e0)]) (K (f []) B)) (K (f []) B)) Q) Q) P) P)))):=by kernel_rfl
theorem al2 κ r(d: ∀a st K,(∃m,m<r/\Pq m a st K)->b7 (Pr κ) 167 a st K):aE (L6 κ r)/\aj (L6 κ r)/\(L6 κ r).P=Pr κ:=
 ⟨(BMa _).ok.fK d,(BMa _).mono.aw fun _ _ _ _ c ⟨m,e,b⟩=>⟨m,e,aI _ _ _ _ c b⟩,rfl⟩
theorem ah5 κ r:bc (L6 κ r) 12 167 (Pq r):=by
 refine aR ?_;rintro⟨L,a,m,b⟩ K ⟨⟨⟨P,h2,x⟩,t,z,F,E⟩,h8⟩ B;simp only at P h2 x t z F E h8
 replace B: ∀M,Sr a b L M->K (.aH []) [jM M]:=B
 refine Eq.mpr (aq6 κ r L a m b K) ?_;have A:=A2 (i:=a) (j:=b) (by omega);rw[az (n:=(m:Int) - a) (by omega) (by omega),az (n:=(b:Int) - m) (by omega) (by omega),A];obtain⟨c,hm⟩: ∃c,c=(a+b) / 2:=⟨_,rfl⟩
 rw[←hm];rw[az (n:=(c:Int)+m) (by omega) (by omega),az (n:=(c:Int)+m - b) (by omega) (by omega),az (n:=(c:Int)+m - 1) (by omega) (by omega)];rw[ae,beq_iff_eq,beq_eq_false_iff_ne];refine⟨fun e=>?_,fun e=>?_⟩
 ·obtain rfl:m=a+1:=by omega
  refine⟨rfl,⟨L,a,b,a+1,b⟩,rfl,⟨yj.start (show a+1<=b by omega),x,t,z⟩,fun i f=>⟨rfl,⟨L,L,a,b,i,a⟩,rfl,⟨.start a b L,?_,x,t⟩,fun M d=>B M ⟨d.sw,?_⟩⟩⟩
  ·obtain⟨v,_,p⟩:a+1<=i/\i<=i/\i<=b:=f.le
   exact⟨Nat.le_refl _,v,p⟩
  ·obtain⟨v,_,p⟩:a+1<=i/\i<=i/\i<=b:=f.le
   refine Fw.done (L:=L) (M:=M) (i:=i) d ⟨v,p⟩ E (fun q=>?_) (fun q=>?_)
   ·have:bz (rat L (i - 1)) (rat L a)<0:=f.h1 q
    omega
   ·have: ¬ bz (rat L i) (rat L a)<0:=f.h2 q
    rw[bQ.swap (rat L i)];omega
 ·rw [ae,beq_iff_eq,beq_eq_false_iff_ne]
  refine⟨fun e2=>?_,fun e2=>?_⟩
  ·obtain rfl:b=m+1:=by omega
   refine⟨rfl,⟨L,a,m,a,m⟩,rfl,⟨.start (Nat.le_of_lt P),x,t,z⟩,fun i f=>⟨rfl,⟨L,L,a,m,i,m⟩,rfl,⟨.start a m L,?_,x,t⟩,fun M d=>B M ⟨d.sw,?_⟩⟩⟩
   ·obtain⟨v,_,p⟩:a<=i/\i<=i/\i<=m:=f.le
    exact⟨v,p,Nat.le_refl _⟩
   ·obtain⟨v,_,p⟩:a<=i/\i<=i/\i<=m:=f.le
    refine Bw.done (L:=L) (M:=M) (i:=i) d ⟨v,p⟩ F (fun q=>?_) (fun q=>?_)
    ·have:0<=bz (rat L m) (rat L (i - 1)):=f.h1 q
     rw[bQ.swap (rat L m)];omega
    ·have: ¬ 0<=bz (rat L m) (rat L i):=f.h2 q
     omega
  ·have s: ∀lo f y,(lo=c+m - b/\f=c/\c<=m\/lo=a/\f=m/\m<=c)->yj (Ys L (c+m - 1)) lo f y y->y<=c/\c+m - y<=b/\Cut a m b y (c+m - y) L:=fun lo f y q1 l=>by
    have W:=l.le;refine⟨by omega,by omega,⟨fun C D=>?_,fun C D=>?_⟩⟩
    ·have:0<=bz (rat L (c+m - 1 - (y - 1))) (rat L (y - 1)):=l.h1 (by omega)
     rw[show c+m - 1 - (y - 1)=c+m - y by omega,bQ.swap (rat L (y - 1))] at this;omega
    ·have: ¬ 0<=bz (rat L (c+m - 1 - y)) (rat L y):=l.h2 (by omega)
     rw[show c+m - 1 - y=c+m - y - 1 by omega] at this;omega
   have u: ∀y e M,(a<=y/\y<=m/\m<=e/\e<=b)->y+(e - m)=c->Cut a m b y e L->Lq y m e L M->(Up M a y/\Up M y c/\Up M c e/\Up M e b)/\∀N,Sw a c M N->∀k,a<=k->k<c->∀j,c<=j->j<b->bz (rat N k) (rat M j)<=0:=fun y e M C D k3 d=>
    ⟨(C8 C D F E k3 d .refl).2,fun N h=>(C8 C D F E k3 d h).1⟩
   rcases Nat.lt_or_ge c m with q|q
   case' inl=>
    rw[ae,ar4,ar6];refine⟨fun _=>⟨rfl,⟨L,a,m,b,c,c+m,c+m - b,c,c+m - b,c,c+m - 1⟩,?_,⟨yj.start (show c+m - b<=c by omega),by simp only;omega,t,z⟩,fun y l=>?_⟩,fun g=>absurd (show(m:Int)>c by omega) g⟩
    ·simp only[PH,show((c+m - b:Nat):Int)=c+m - b by omega,show((c+m - 1:Nat):Int)=c+m - 1 by omega,show((c+m:Nat):Int)=c+m by omega]
    have o:a<=y/\y<=m:=by have:c+m - b<=y/\y<=y/\y<=c:=l.le;omega
    obtain⟨c1,H,Q⟩:=s _ _ y (.inl ⟨rfl,rfl,by omega⟩) l
   case' inr=>
    rw[ae,ar4,ar6];refine⟨fun g=>absurd g (show ¬ (m:Int)>c by omega),fun _=>⟨rfl,⟨L,a,m,b,c,c+m,a,m,a,m,c+m - 1⟩,?_,⟨.start (Nat.le_of_lt P),by simp only;omega,t,z⟩,fun y l=>?_⟩⟩
    ·simp only[PH,show((c+m - 1:Nat):Int)=c+m - 1 by omega,show((c+m:Nat):Int)=c+m by omega]
    have o:a<=y/\y<=m:=by have:a<=y/\y<=y/\y<=m:=l.le;omega
    obtain⟨c1,H,Q⟩:=s _ _ y (.inr ⟨rfl,rfl,by omega⟩) l
   all_goals
    simp only;rw[az (n:=((c+m:Nat):Int) - y) (by omega) (by omega),show((c+m:Nat):Int) - y=(c+m - y:Nat) by omega];clear l s;obtain⟨e,he⟩: ∃e,e=c+m - y:=⟨_,rfl⟩
    rw[←he] at H Q⊢;have T:c<=e:=by omega
    have J:c<=b:=by omega
    have V:a<=c:=by omega
    have u:=fun M=>u y e M ⟨o.1,o.2,by omega,H⟩ (by omega) Q
    refine ae.2 ⟨fun I=>ae.2 ⟨fun X=>⟨⟨L,y,m,e⟩,rfl,⟨by simpa using I,by simpa using X,by simp only;omega,by simp only[aW];omega⟩,fun M d=>?_⟩,fun X=>?_⟩,fun I=>?_⟩;simp only at d
    rotate_left
    have d:Lq y m e L L:= .none (.inr (by simp at I X;omega))
    rotate_left
    have d:Lq y m e L L:= .none (.inl (by simp at I;omega))
    rotate_left
    all_goals
     obtain⟨⟨u1,u2,u3,u4⟩,hx⟩:=u _ d;have W:=d.sw.len;have hs:=fo z d.sw.perm;have R:Sw a b L _:=d.sw.mono o.1 H x;refine ae.2 ⟨fun U=>ae.2 ⟨fun g4=>⟨c - a,by omega,⟨_,a,y,c⟩,Prod.ext (by simp only[eX,W]) rfl,⟨⟨⟨by simpa using U,by simpa using g4,by simp only;omega⟩,by simp only;omega,hs,u1,u2⟩,rfl⟩,fun N h=>?_⟩,fun g4=>?_⟩,fun U=>?_⟩;simp only at h
     rotate_left
     have h:Sr a c _ _:=⟨.refl,by simp at g4;rw[show c=y by omega];exact u1⟩
     rotate_left
     have h:Sr a c _ _:=⟨.refl,by simp at U;rw[show a=y by omega];exact u2⟩
     rotate_left
     all_goals
      have hx:=hx _ h.sw;have Z:=h.sw.len;have Y:=fo hs h.sw.perm;have v3:=h.sw.upr u3 (Nat.le_refl _);have v4:=h.sw.upr u4 T;have sw2:=R.trans (h.sw.mono (Nat.le_refl _) J (by omega));refine ae.2 ⟨fun g5=>ae.2 ⟨fun g6=>⟨b - c,by omega,⟨_,c,e,b⟩,Prod.ext (by simp only[eX,Z,W]) rfl,⟨⟨⟨by simpa using g5,by simpa using g6,by simp only;omega⟩,by simp only;omega,Y,v3,v4⟩,rfl⟩,fun O w=>?_⟩,fun g6=>?_⟩,fun g5=>?_⟩;simp only at w
      rotate_left
      have w:Sr c b _ _:=⟨.refl,by simp at g6;rw[show b=e by omega];exact v3⟩
      rotate_left
      have w:Sr c b _ _:=⟨.refl,by simp at g5;rw[show c=e by omega];exact v4⟩
      rotate_left
      all_goals exact B _ ⟨sw2.trans (w.sw.mono V (Nat.le_refl _) (by omega)),SO hx h.sw h.up w.sw w.up⟩
theorem an7 κ: ∀a st K,aO eX fr Ok a st K->b7 (Pr κ) 167 a st K:=by
 rintro a st K ⟨x,c,d,b⟩;exact aE.pj _ _ (al2 _) (ah5 _) _ _ _ K ⟨x,c,⟨d,rfl⟩,b⟩
noncomputable def EE κ:=(jZ κ).Xy aI (an7 _)
def Blk L d N:=∀k,Up L (k*d) (min (k*d+d) N)
def Vp L d q:=∀k,k<q->Up L (k*d) (k*d+d)
theorem Vs{L d q N}(b:Vp L d q)(f:Up L (q*d) N)(a:q*d<=N)(e:N<q*d+d):Blk L d N:=by
 intro k;rcases Nat.lt_trichotomy k q with h|rfl|h
 ·exact(b k h).cut (by grind)
 ·grind
 ·intro i j g l c
  have:=Nat.mul_le_mul_right d h
  grind
theorem Eo{L M d q N}(c:Vp L d q)(h:Sw (q*d) N L M)(f:Up M (q*d) (q*d+d)):Vp M d (q+1):=fun k e=>by
 rcases Nat.lt_or_ge k q with a|a
 ·have b:=Nat.mul_le_mul_right d a
  rw[Nat.succ_mul] at b;exact h.upl (c k a) b
 grind
theorem Jm{L M d q N}(c:Vp L d q)(h:Sw (q*d) N L M)(g:Up M (q*d) N)(e:q*d<=N)(f:N<q*d+d):Blk M d N:=
 Vs (fun k a=>by
  have b:=Nat.mul_le_mul_right d a;rw[Nat.succ_mul] at b;exact h.upl (c k a) b) g e f
theorem xTa κ L(N a b:Nat) I n K:(vc (EE κ).E 12 128 none 1 (ad (Pr κ).toProgram 128 2) (sp 63 [(0, .ak 0 0 L.length),(1, .int N),(2,oa),(6, .int 20),(7, .int a),(8, .int b)] [jM L]) (bj (EE κ).E 128 2 1 I n K))=(
 letI c:=AV.int
 aq (decide ((↑b:Int)<=(↑N:Int))) (∃(a_1:XG),([AV.ak 0 0 L.length,c (↑a:Int),c (↑b:Int),AV.bm 54 []],[Obj.row 70 (rws L)])=WN
 a_1/\GF a_1/\∀(y:RL),(Sw a_1.a a_1.b a_1.L y/\∀(i j:Nat),a_1.a<=i->i<j->j<a_1.b->bz (rat y i) (rat y j)<=(0:Int))->∃(m:Nat),m
 <n/\I m (sp 63 [(0,AV.ak 0 0 L.length),(1,c (↑N:Int)),(2,AV.bm 54 []),(6,c 20),(7,c (↑b:Int)),(8,c (IntKind.wrap
 IntKind.i64 ((↑b:Int)+(20:Int))))] [Obj.row 70 (rws y)])) (K (Exit.exit 0) (sp 63 [(0,AV.ak 0 0 L.length),(1,c (↑N:Int)),(2,AV.bm 54 []),
 (6,c 20),(7,c (↑a:Int))] [Obj.row 70 (rws L)]))):=by kernel_rfl
structure ATa where
 L0:RL
 L:RL
 q:Nat
abbrev WZ(x:ATa):=sp 63 [(0, .ak 0 0 x.L.length),(1, .int x.L0.length),(2,oa),(6, .int 20),(7, .int (x.q*20:Nat)),(8, .int (x.q*20+20:Nat))] [jM x.L]
def YD(x:ATa):=Sw 0 x.L0.length x.L0 x.L/\Vp x.L 20 x.q/\x.q*20<=x.L0.length/\x.L0.length<=100000000/\fq x.L0
def aa3(x:ATa):Out (Exit×S):= .all (fun r:Nat×RL=>Sw 0 x.L0.length x.L0 r.2/\Vp r.2 20 r.1/\r.1*20<=x.L0.length/\x.L0.length<r.1*20+20) fun r=> .one (.exit 0,sp 63 [(0, .ak 0 0 r.2.length),(1, .int x.L0.length),(2,oa),(6, .int 20),(7, .int (r.1*20:Nat))] [jM r.2])
theorem lTa κ:aU (EE κ).E 12 128 2 (aG 1 WZ YD aa3):=by
 refine aC (fun x=>x.L0.length - x.q*20) ?_;rintro⟨e,L,q⟩ K ⟨a,b,i,g,c⟩ f;simp only at a b i g c;rw[show(EE κ).E.P=Pr κ from rfl];refine Eq.mpr (xTa κ L e.length (q*20) (q*20+20) _ _ K) ?_;have l:=a.len;rw[ae,ar4,ar6];refine⟨fun h=>⟨⟨L,q*20,q*20+20⟩,rfl,⟨by simp only;omega,by simp only;omega,by simp only;omega,fo c a.perm⟩,fun M k=>?_⟩,fun h=>?_⟩
 ·obtain⟨d,j⟩:Sw (q*20) (q*20+20) L M/\Up M (q*20) (q*20+20):=k
  rw[az (n:=((q*20+20:Nat):Int)+20) (by omega) (by omega)];refine⟨_,?_,⟨e,M,q+1⟩,?_,⟨a.trans (d.mono (by omega) (by omega) (by omega)),Eo b d j,by simp only;omega,g,c⟩,rfl,f⟩
  ·simp only;omega
  ·simp only[WZ]
   rw[d.len,show(q+1)*20=q*20+20 by omega];rfl
 ·exact f (q,L) ⟨a,b,i,by simp only;omega⟩
noncomputable def U5 κ:=(EE κ).loop (lTa _)
theorem xTb κ L(N bs a b:Nat) I n K:(vc (U5 κ).E 12 128 none 1 (ad (Pr κ).toProgram 128 9) (sp 63 [(0, .ak 0 0 L.length),(1, .int N),(2,oa),(6, .int bs),(7, .int a),(8, .int b)] [jM L]) (bj (U5 κ).E 128 9 1 I n K))=(
 letI c:=IntKind.wrap IntKind.i64
 letI d:=AV.int
 aq (decide ((↑b:Int)<=(↑N:Int))) (∃(e2:iU),([AV.ak 0 0 L.length,d (↑a:Int),d (c ((↑a:Int)+(↑bs:Int))),
 d (↑b:Int),AV.bm 54 []],[Obj.row 70 (rws L)])=eX e2/\fr e2/\∀(e1:RL),Sr e2.a e2.b e2.L e1->∃(e0:Nat),e0<n/\I e0 (sp 63 [(0,AV.ak 0 0
 L.length),(1,d (↑N:Int)),(2,AV.bm 54 []),(6,d (↑bs:Int)),(7,d (↑b:Int)),(8,d (c ((↑b:Int)+
 c ((2:Int)*(↑bs:Int)))))] [Obj.row 70 (rws e1)])) (K (Exit.exit 4) (sp 63 [(0,AV.ak 0 0 L.length),(1,d (↑N:Int)),(2,
 AV.bm 54 []),(6,d (↑bs:Int)),(7,d (↑a:Int))] [Obj.row 70 (rws L)]))):=by kernel_rfl
structure ATb where
 L0:RL
 L:RL
 bs:Nat
 q:Nat
abbrev SH(x:ATb):=sp 63 [(0, .ak 0 0 x.L.length),(1, .int x.L0.length),(2,oa),(6, .int x.bs),(7, .int (x.q*(2*x.bs):Nat)),(8, .int (x.q*(2*x.bs)+2*x.bs:Nat))] [jM x.L]
structure Mc(x:ATb):Prop where
 sw:Sw 0 x.L0.length x.L0 x.L
 w:Vp x.L (2*x.bs) x.q
 le:x.q*(2*x.bs)<=x.L0.length
 b:0<x.bs/\x.bs<x.L0.length
 l:x.L0.length<=100000000
 s:fq x.L0
 r: ∀k,2*x.q<=k->Up x.L (k*x.bs) (min (k*x.bs+x.bs) x.L0.length)
def aa4(x:ATb):Out (Exit×S):= .all (fun r:Nat×RL=>Mc ⟨x.L0,r.2,x.bs,r.1⟩/\x.L0.length<r.1*(2*x.bs)+2*x.bs) fun r=> .one (.exit 4,sp 63 [(0, .ak 0 0 r.2.length),(1, .int x.L0.length),(2,oa),(6, .int x.bs),(7, .int (r.1*(2*x.bs):Nat))] [jM r.2])
theorem o7 q a:2*q*a=q*(2*a):=by grind
theorem lTb κ:aU (U5 κ).E 12 128 9 (aG 1 SH Mc aa4):=by
 refine aC (fun x=>x.L0.length - x.q*(2*x.bs)) ?_;rintro⟨f,L,a,q⟩ K l t;obtain⟨b,m,o,i,j,d,c⟩:=l;have l:Mc ⟨f,L,a,q⟩:=⟨b,m,o,i,j,d,c⟩
 simp only at b m o i j d c;rw[show(U5 κ).E.P=Pr κ from rfl];refine Eq.mpr (xTb κ L f.length a (q*(2*a)) (q*(2*a)+2*a) _ _ K) ?_;have y:=b.len;have p:=c (2*q) (Nat.le_refl _);have r:=c (2*q+1) (by omega);have s:(q+1)*(2*a)=q*(2*a)+2*a:=Nat.succ_mul _ _;have g: ∀k,2*(q+1)<=k->q*(2*a)+2*a<=k*a:=fun k g=>by
  have:=Nat.mul_le_mul_right a g
  rw[o7,s] at this;exact this
 rw[Nat.succ_mul,o7] at r;rw[o7] at p;rw[ae,ar4,ar6];refine⟨fun h=>?_,fun h=>?_⟩
 ·rw[az (n:=((q*(2*a):Nat):Int)+a) (by omega) (by omega),az (n:=2*(a:Int)) (by omega) (by omega),az (n:=((q*(2*a)+2*a:Nat):Int)+2*a) (by omega) (by omega),show((q*(2*a):Nat):Int)+a=(q*(2*a)+a:Nat) by omega]
  refine⟨⟨L,q*(2*a),q*(2*a)+a,q*(2*a)+2*a⟩,rfl,⟨⟨by simp only;omega,by simp only;omega,by simp only;omega⟩,by simp only;omega,fo d b.perm,p.cut (by simp only;omega),r.cut (by simp only;omega)⟩,fun M v=>?_⟩;obtain⟨e,w⟩:Sr (q*(2*a)) (q*(2*a)+2*a) L M:=v;refine⟨_,?_,⟨f,M,a,q+1⟩,?_,⟨b.trans (e.mono (by omega) (by omega) (by omega)),Eo m e w,by simp only;omega,i,j,d,fun k u=>e.upr (c k (by simp only at u;omega)) (g k u)⟩,rfl,t⟩
  ·simp only;omega
  ·simp only[SH]
   rw[e.len,s];rfl
 ·exact t (q,L) ⟨l,by simp only;omega⟩
noncomputable def U6 κ:=(U5 κ).loop (lTb _)
theorem ap9 κ L(N bs:Nat) I n K:(vc (U6 κ).E 12 128 none 1 (ad (Pr κ).toProgram 128 7) (sp 63 [(0, .ak 0 0 L.length),(1, .int N),(2,oa),(6, .int bs)] [jM L]) (bj (U6 κ).E 128 7 1 I n K))=(
 letI a:=IntKind.wrap IntKind.i64
 letI b:=AV.int
 letI c:=Obj.row
 letI e:=Pg.toProgram (Env.P (EB.E (U5 κ)))
 aq (decide ((↑bs:Int)<(↑N:Int))) (ad e 128 9=ad e 128 9/\∃(e4:ATb),letI h:=Value.int IntKind.i64 (a ((↑(e4.bs):Int)*(2:Int)));letI d:=e4.L0.length;sp 63 [(0,AV.ak 0 0 L.length),(1,b (↑N:Int)),(2,AV.bm 54 []),(6,b (↑bs:Int)),(7,b 0),(8,b (a ((2:Int)*(↑bs:Int))))] [c 70 (rws L)]=SH e4/\Mc e4/\∀(e3:Nat×RL),letI f:=[(0,AV.ak 0 0 e3.2.length),(1,b (↑d:Int)),(2,AV.bm 54 []),(6,AV.lit h)];letI g:=(↑(e3.1*(2*e4.bs)):Int)+(↑(e4.bs):Int);Mc {L0:=e4.L0,L:=e3.2,bs:=e4.bs,q:=e3.1}/\e4.L0.length<e3.1*(2*e4.bs)+2*e4.bs->aq (decide (a g<(↑d:Int))) (∃(e2:iU),([AV.ak 0 0 e3.2.length,b (↑(e3.1*(2*e4.bs)):Int),AV.lit (Value.int IntKind.i64 (a g)),b (↑d:Int),AV.bm 54 []],[c 70 (rws e3.2)])=eX e2/\fr e2/\∀(e1:RL),Sr e2.a e2.b e2.L e1->∃(e0:Nat),e0<n/\I e0 (sp 63 f [c 70 (rws e1)])) (∃(e0:Nat),e0<n/\I e0 (sp 63 f [c 70 (rws e3.2)]))) (K (Exit.exit 2) (sp 63 [] [c 70 (rws L)]))):=by kernel_rfl
structure Qg where
 L0:RL
 L:RL
 bs:Nat
abbrev D6(x:Qg):=sp 63 [(0, .ak 0 0 x.L.length),(1, .int x.L0.length),(2,oa),(6, .int x.bs)] [jM x.L]
def Md(x:Qg):=Sw 0 x.L0.length x.L0 x.L/\Blk x.L x.bs x.L0.length/\(0<x.bs/\x.bs<=200000000)/\x.L0.length<=100000000/\fq x.L0
def Wg(x:Qg):Out (Exit×S):= .all (fun M=>Sw 0 x.L0.length x.L0 M/\Up M 0 x.L0.length) fun M=> .one (.exit 2,sp 63 [] [jM M])
theorem an0 κ:aU (U6 κ).E 12 128 7 (aG 1 D6 Md Wg):=by
 refine aC (fun x=>x.L0.length - x.bs) ?_;rintro⟨b,L,a⟩ K ⟨i,j,z,m,g⟩ l;simp only at i j z m g;rw[show(U6 κ).E.P=Pr κ from rfl];refine Eq.mpr (ap9 κ L b.length a _ _ K) ?_;have D:=i.len;rw[ae,ar4,ar6];refine⟨fun h=>?_,fun h=>?_⟩
 ·rw [az (n:=2*(a:Int)) (by omega) (by omega)]
  refine⟨rfl,⟨b,L,a,0⟩,?_,⟨i,fun k y=>absurd y (Nat.not_lt_zero k),by simp only;omega,by simp only;omega,m,g,fun k _=>j k⟩,fun r w=>?_⟩
  ·simp only[SH]
   rw[show 0*(2*a)+2*a=2*a by omega,show 0*(2*a)=0 by omega];rfl
  ·obtain⟨q,M⟩:=r
   obtain⟨⟨f,t,u,A,B,v,m7⟩,m8⟩:=w;simp only at f t u A B v m7 m8;have F:=f.len;have o:=m7 (2*q) (Nat.le_refl _);have s:=m7 (2*q+1) (by omega);rw[Nat.succ_mul,o7] at s;rw[o7] at o;simp only;rw[az (n:=(a:Int)*2) (by omega) (by omega),az (n:=((q*(2*a):Nat):Int)+a) (by omega) (by omega),show((q*(2*a):Nat):Int)+a=(q*(2*a)+a:Nat) by omega];have d: ∀X:RL,Sw (q*(2*a)) b.length M X->Up X (q*(2*a)) b.length->Md ⟨b,X,2*a⟩:=fun X c p=>
    ⟨f.trans (c.mono (by omega) (Nat.le_refl _) (by omega)),Jm t c p u m8,by simp only;omega,m,g⟩
   rw[ae,ar4,ar6];refine⟨fun e=>?_,fun e=>?_⟩
   ·refine⟨⟨M,q*(2*a),q*(2*a)+a,b.length⟩,rfl,⟨⟨by simp only;omega,by simp only;omega,by simp only;omega⟩,by simp only;omega,fo g f.perm,o.cut (by simp only;omega),s.cut (by simp only;omega)⟩,fun X C=>?_⟩
    obtain⟨c,p⟩:Sr (q*(2*a)) b.length M X:=C;refine⟨_,?_,⟨b,X,2*a⟩,?_,d X c p,rfl,l⟩
    ·simp only;omega
    ·simp only[D6]
     rw[c.len,show((2*a:Nat):Int)=(a:Int)*2 by omega]
   ·refine⟨_,?_,⟨b,M,2*a⟩,?_,d M .refl (o.cut (by omega)),rfl,l⟩
    ·simp only;omega
    ·simp only[D6]
     rw[show((2*a:Nat):Int)=(a:Int)*2 by omega]
 ·exact l L ⟨i,by
   have:=j 0
   rw[Nat.zero_mul] at this;exact this.cut (show b.length<=min (0+a) b.length by omega)⟩
noncomputable def BTc κ:=(U6 κ).loop (an0 _)
theorem aq7 κ L K:(a0 (BTc κ).E 12 128 [.ak 0 0 L.length, .int L.length,oa] [jM L] K)=(
 letI a:=AV.int
 letI b:=Obj.row
 letI c:=Pg.toProgram (Env.P (EB.E (EE κ)))
 letI d:=Pg.toProgram (Env.P (EB.E (U6 κ)))
 ad c 128 2=ad c 128 2/\∃(e7:ATa),sp 63 [(0,AV.ak 0 0 L.length),(1,a (↑(L.length):Int)),(2,AV.bm 54 []),(6,a 20),(7,a 0),(8,
 a 20)] [b 70 (rws L)]=WZ e7/\YD e7/\∀(e6:Nat×RL),Sw 0 e7.L0.length e7.L0 e6.2/\(∀(e2:Nat),e2<e6.1->∀(e1 e0:Nat),e2*20<=e1->
 e1<e0->e0<e2*20+20->bz (rat e6.2 e1) (rat e6.2 e0)<=(0:Int))/\e6.1*20<=e7.L0.length/\e7.L0.length<e6.1*20+20->∃(e5:XG),([AV.ak 0 0
 e6.2.length,a (↑(e6.1*20):Int),a (↑(e7.L0.length):Int),AV.bm 54 []],[b 70 (rws e6.2)])=WN e5/\GF e5/\∀(e4:RL),(Sw e5.a e5.b
 e5.L e4/\∀(e1 e0:Nat),e5.a<=e1->e1<e0->e0<e5.b->bz (rat e4 e1) (rat e4 e0)<=(0:Int))->ad d 128 7=ad d 128 7/\∃(e3:Qg),sp 63 [(0,AV.ak
 0 0 e6.2.length),(1,a (↑(e7.L0.length):Int)),(2,AV.bm 54 []),(6,a 20)] [b 70 (rws e4)]=D6 e3/\Md e3/\∀(e2:RL),(Sw 0 e3.L0.length
 e3.L0 e2/\∀(e1 e0:Nat),0<=e1->e1<e0->e0<e3.L0.length->bz (rat e2 e1) (rat e2 e0)<=(0:Int))->K (AV.aH []) [b 70 (rws e2)]):=by kernel_rfl
def Ub L:=([.ak 0 0 L.length, .int L.length,oa],[jM L])
def pI L:=L.length<=100000000/\fq L
def F7(L:RL):Out (AV×List Dn.Obj):= .all (fun M=>M.Perm L/\Up M 0 L.length) fun M=> .one (.aH [],[jM M])
theorem ah6 κ:bc (BTc κ).E 12 128 (aO Ub pI F7):=by
 refine aR ?_;rintro L K ⟨f,c⟩ m;refine Eq.mpr (aq7 κ L K) ?_;refine⟨rfl,⟨L,L,0⟩,rfl,⟨.refl,fun k i=>absurd i (Nat.not_lt_zero k),by simp only;omega,f,c⟩,fun r n=>?_⟩;obtain⟨q,M⟩:=r;obtain⟨a,g,b,e⟩:=n;simp only at a g b e;have o:=a.len;refine⟨⟨M,q*20,L.length⟩,rfl,⟨b,by simp only;omega,by simp only;omega,fo c a.perm⟩,fun X l=>?_⟩;obtain⟨d,j⟩:Sw (q*20) L.length M X/\Up X (q*20) L.length:=l;refine⟨rfl,⟨L,X,20⟩,?_,⟨a.trans (d.mono (by omega) (Nat.le_refl _) (by omega)),Jm g d j b e,by simp only;omega,f,c⟩,fun Y h=>m Y ⟨h.1.perm,h.2⟩⟩;simp only[D6];rw[d.len];rfl
noncomputable def BTs κ:=(BTc κ).call (ah6 _)
theorem aq8 κ L K:(a0 (BTs κ).E 12 79 [.ak 0 0 L.length,oa] [jM L] K)=(
 ∃(a:RL),([AV.ak 0 0 L.length,AV.int (↑(L.length):Int),AV.bm 54 []],[Obj.row 70 (rws L)])=Ub a/\pI a/\∀(y:RL),(List.Perm y a/\∀(i j:
 Nat),0<=i->i<j->j<a.length->bz (rat y i) (rat y j)<=(0:Int))->K (AV.aH []) [Obj.row 70 (rws y)]):=by kernel_rfl
def D7 L:=([.ak 0 0 L.length,oa],[jM L])
theorem ah7 κ:bc (BTs κ).E 12 79 (aO D7 pI F7):=by
 refine aR ?_;rintro L K b a;exact Eq.mpr (aq8 _ L K) ⟨L,rfl,b,a⟩
theorem an8 κ: ∀a st K,aO D7 pI F7 a st K->b7 (Pr κ) 79 a st K:=fun a st K h=>gP (BTs _).ok (BTs _).mono (ah7 _ _ _ K h)
def cU(xs:List AV):RL:=xs.map af
theorem lO xs:(cU xs).length=xs.length:=by simp[cU]
theorem rS: ∀xs i,rat (cU xs) i=af (nth xs i)
 |[],i=>by rfl
 |x::xs,0=>rfl
 |x::xs,i+1=>by
  have:=rS xs i
  grind [rat,cU,nth]
theorem jL: ∀L,cU (rws L)=L
 |[]=>rfl
 |r::L=>by
  have:=jL L
  simp only[cU,at3] at this⊢;rw[this];rfl
theorem yCr κ l K:(a0 (P7 κ).E 12 39 [.ah 72 l] [] K)=(
 (NG l=true->K (AV.ah 72 []) [])/\aV (decide ((0+l.length+1)*33<=70368744177664)) (K (AV.ah 72 (List.take (0+l.length) (List.drop 0 ([]++l)))) [])):=by kernel_rfl
def PD(l:List AV):List AV×List Dn.Obj:=([.ah 72 l],[])
def ZE(l:List AV):Out (AV×List Dn.Obj):= .one (.ah 72 l,[])
theorem cCr κ:bc (P7 κ).E 12 39 (aO PD (fun l=>l.length<=100000000) ZE):=by
 refine aR ?_;rintro l K h a;refine Eq.mpr (yCr _ l K) ⟨fun e=>?_,ai.2 ⟨by grind,?_⟩⟩
 ·cases l with
  |nil=>exact a
  |cons=>cases e
 ·rw[List.nil_append,as4,Nat.zero_add,List.take_length]
  exact a
noncomputable def UA κ:=(((P7 κ).call (cCr _)).ZA [39]).calm [39]
def cG:RL->Bool
 |[]=>true
 |[_]=>true
 |a::b::l=>decide (bz a b<0)&&cG (b::l)
theorem xRi κ xs(i:Nat) I n K:(vc (UA κ).E 12 37 none 0 (ad (Pr κ).toProgram 37 2) (sp 21 [(0, .ah 70 xs),(3, .int i)] []) (bj (UA κ).E 37 2 0 I n K))=(
 letI a:=IntKind.wrap IntKind.i64
 letI b:=(↑i:Int) - (1:Int)
 letI c:=af (nth xs (Int.toNat (a b)))
 letI d:=(↑i:Int)<(↑(xs.length):Int)
 aq (decide d) (aV (decide ((0:Int)<=a b)&&decide (a b<(↑(xs.length):Int))) (aV (true&&decide d) (aV
 (decide (List.length c<=9223372036854775807)) (aq (decide (bz c (af (nth xs (Int.toNat (↑i:Int))))>=(0:Int))) (K Exit.ret (sp 21 [(2,AV.bool false)]
 [])) (∃(e0:Nat),e0<n/\I e0 (sp 21 [(0,AV.ah 70 xs),(3,AV.int (a ((↑i:Int)+(1:Int))))] [])))))) (K (Exit.exit 0) (sp 21 []
 []))):=by kernel_rfl
theorem KP{L i}(b:1<=i)(a:i<L.length):cG (L.drop (i - 1))=(decide (bz (rat L (i - 1)) (rat L i)<0)&&cG (L.drop i)):=by
 grind [List.drop_eq_getElem_cons,cG,yK]
theorem Ow{L:RL}{i}(h:L.length<=i):cG (L.drop (i - 1))=true:=by
 rcases Nat.lt_or_ge _ _ with a|a
 ·rw[as5 a,as2 (by omega)];rfl
 ·rw[as2 a];rfl
def eM(xs:List _):=decide (xs.length<=100000000)&&xs.all fun x=>decide ((af x).length<=100000000)
theorem lC{xs}(h:eM xs=true) i:(af (nth xs i)).length<=100000000:=by
 simp[eM] at h;rcases Nat.lt_or_ge i xs.length with a|a
 ·grind [aM]
 ·rw[fj _ _ a];exact Nat.zero_le _
theorem iZ{xs}(h:eM xs=true):xs.length<=100000000:=by
 grind [eM]
structure ARi where
 xs:List AV
 i:Nat
abbrev af3(x:ARi):=sp 21 [(0, .ah 70 x.xs),(3, .int x.i)] []
def Oj(x:ARi):Out (Exit×S):= .aq (cG ((cU x.xs).drop (x.i - 1))) (.one (.exit 0,sp 21 [] [])) (.one (.ret,sp 21 [(2, .bool false)] []))
theorem lRi κ:aU (UA κ).E 12 37 2 (aG 0 af3 (fun x=>1<=x.i/\eM x.xs=true) Oj):=by
 refine aC (fun x=>x.xs.length - x.i) ?_;rintro⟨xs,i⟩ K ⟨c,b⟩ a;simp only at c b;rw[show(UA κ).E.P=Pr κ from rfl];refine Eq.mpr (xRi κ xs i _ _ K) ?_;have d:=iZ b;simp only[Oj,Out.run,ae] at a;rw[ae,ar4,ar6];refine⟨fun h=>?_,fun h=>?_⟩
 ·rw[az (n:=(i:Int) - 1) (by omega) (by omega),az (n:=(i:Int)+1) (by omega) (by omega),show((i:Int) - 1).toNat=i - 1 by omega,Int.toNat_natCast,←rS,←rS]
  rw[KP c (by rw[lO];omega)] at a;have f:=lC b (i - 1);refine ai.2 ⟨by simp;omega,ai.2 ⟨by simp;omega,ai.2 ⟨by rw[rS,ar4];omega,ae.2 ⟨fun e=>a.2 ?_,fun e=>?_⟩⟩⟩⟩
  ·grind
  ·have e:bz (rat (cU xs) (i - 1)) (rat (cU xs) i)<0:=by simpa using e
   rw[as0 e,at2] at a;refine⟨_,?_,⟨xs,i+1⟩,rfl,⟨by simp only;omega,b⟩,rfl,?_⟩
   ·simp only;omega
   ·simp only[Oj,Out.run,ae,Nat.add_sub_cancel]
    exact a
 ·exact a.1 (Ow (by rw[lO];omega))
noncomputable def BRi κ:=(UA κ).loop (lRi _)
theorem yRi κ xs K:(a0 (BRi κ).E 12 37 [.ah 70 xs] [] K)=(
 letI a:=Pg.toProgram (Env.P (EB.E (UA κ)))
 ad a 37 2=ad a 37 2/\∃(e0:ARi),sp 21 [(0,AV.ah 70 xs),(3,AV.int 1)] []=af3 e0/\(1<=e0.i/\eM e0.xs=true)/\aq (cG (List.drop (e0.i - 1) (cU
 e0.xs))) (K (AV.bool true) []) (K (AV.bool false) [])):=by kernel_rfl
def gRi:List AV->Option (Bool×AV)
 |[.ah 70 xs]=>some (eM xs, .bool (cG (cU xs)))
 |_=>none
theorem pRi κ:cd (BRi κ).E 12 37 gRi:=by
 intro b x a;unfold gRi at a;split at a
 ·rename_i xs
  simp only[ar7,as3] at a;obtain⟨c,rfl⟩:=a;refine⟨_,rfl,rfl,Eq.mpr (yRi κ xs _) ⟨rfl,⟨xs,1⟩,rfl,by grind,?_⟩⟩
  simp_all[ae]
 ·cases a
noncomputable def Xk κ:=EB.Fx ((BRi κ).pure (pRi _)) [37]
theorem xRc κ xs L(i:Nat) I n K:(vc (Xk κ).E 12 55 none 0 (ad (Pr κ).toProgram 55 3) (sp 19 [(3, .ak 0 0 L.length),(6, .ah 70 xs),(7, .int xs.length),(8, .int i)] [.row 70 (rws L)]) (bj (Xk κ).E 55 3 0 I n K))=(
 letI a:=(↑i:Int)<(↑(xs.length):Int)
 aq (decide a) (aV (true&&decide a) (∃(e1:List AV),([AV.ah 72 (af (nth xs (Int.toNat (↑i:Int))))],[])=PD e1/\e1.length<=100000000/\aV (decide
 ((L.length+1+1)*25<=70368744177664)) (∃(e0:Nat),e0<n/\I e0 (sp 19 [(3,AV.ak 0 0 (L.length+1)),(6,AV.ah 70 xs),(7,AV.int (↑(xs.length):
 Int)),(8,AV.int (IntKind.wrap IntKind.i64 ((↑i:Int)+(1:Int))))] [Obj.row 70 (List.take L.length (rws L)++[AV.ah 72 e1])])))) (K (Exit.exit 0) (sp 19
 [(3,AV.ak 0 0 L.length)] [Obj.row 70 (rws L)]))):=by kernel_rfl
abbrev ARc:=List AV×Nat
abbrev WV(x:ARc):=sp 19 [(3, .ak 0 0 ((cU x.1).take x.2).length),(6, .ah 70 x.1),(7, .int x.1.length),(8, .int x.2)] [.row 70 (rws ((cU x.1).take x.2))]
def IV(x:ARc):=x.2<=x.1.length/\eM x.1=true
def Wf(x:ARc):Out (Exit×S):= .one (.exit 0,sp 19 [(3, .ak 0 0 (cU x.1).length)] [.row 70 (rws (cU x.1))])
theorem Ei xs i(h:i<xs.length):(cU xs).take (i+1)=(cU xs).take i++[af (nth xs i)]:=by
 rw[List.take_add_one,as8 (by grind [lO]),←yK _,rS];rfl
theorem vf L r:rws L++[.ah 72 r]=rws (L++[r]):=by simp
theorem lRc κ:aU (Xk κ).E 12 55 3 (aG 0 WV IV Wf):=by
 refine aC (fun x=>x.1.length - x.2) ?_;rintro⟨xs,i⟩ K ⟨d,a⟩ c;simp only at d a;refine Eq.mpr (xRc κ xs ((cU xs).take i) i _ _ K) ?_;have f:=iZ a;rw[ae,ar4,ar6];refine⟨fun h=>?_,fun h=>?_⟩
 ·have b:i<xs.length:=by omega
  rw[az (n:=(i:Int)+1) (by omega) (by omega),Int.toNat_natCast];have e:((cU xs).take i).length<=100000000:=by grind
  refine ai.2 ⟨by simp;omega,af (nth xs i),rfl,lC a i,ai.2 ⟨by rw[ar4];omega,_,?_,(xs,i+1),?_,⟨b,a⟩,rfl,c⟩⟩
  ·simp only;omega
  ·simp only[WV]
   rw[Ei xs i b,←dX,List.take_length,vf,as9,dX];rfl
 ·have b:(cU xs).take i=cU xs:=List.take_of_length_le (by rw[lO];omega)
  rw[b];exact c
noncomputable def BRk κ:=(Xk κ).loop (lRc _)
theorem yRc κ xs K:(a0 (BRk κ).E 12 55 [.ah 70 xs] [] K)=(
 letI a:=Pg.toProgram (Env.P (EB.E (Xk κ)))
 ad a 55 3=ad a 55 3/\∃(e0:ARc),sp 19 [(3,AV.ak 0 0 0),(6,AV.ah 70 xs),(7,AV.int (↑(xs.length):Int)),(8,AV.int 0)] [Obj.row 70 []]=WV e0/\IV
 e0/\K (AV.ah 70 (List.take (List.length (cU e0.1)) (List.drop 0 (rws (cU e0.1))))) []):=by kernel_rfl
def WH(xs:List AV):List AV×List Dn.Obj:=([.ah 70 xs],[])
def ZF(xs:List AV):Out (AV×List Dn.Obj):= .one (.ah 70 (rws (cU xs)),[])
theorem cCx κ:bc (BRk κ).E 12 55 (aO WH (fun xs=>eM xs=true) ZF):=by
 refine aR ?_;rintro xs K h a;refine Eq.mpr (yRc _ _ K) ⟨rfl,(xs,0),rfl,⟨Nat.zero_le _,h⟩,?_⟩;rw[as4,←dX,List.take_length];exact a
noncomputable def UB κ:=((BRk κ).call (cCx _)).calm [55]
theorem ap6 κ xs cs vs ds L w(i k:Nat) t I n K:(vc (UB κ).E 12 123 none 0 (ad (Pr κ).toProgram 123 7) (sp 61 [(1, .ah 3 cs),(2, .ah 72 vs),(7, .int w),(8, .ak 0 0 L.length),(10, .ah 72 t),(18, .ah 70 xs),(19, .int xs.length),(20, .int i),(26, .ah 3 ds),(27, .int ds.length),(28, .int k)] [.row 70 (rws L)]) (bj (UB κ).E 123 7 0 I n K))=(
 letI a:=AV.int
 letI b:=AV.ah
 letI d:=K (Exit.exit 1) (sp 61 [(1,b 3 cs),(2,b 72 vs),(7,a w),(8,AV.ak 0 0 L.length),(18,b 70 xs),(19,a (↑(xs.length):
  Int)),(20,a (↑i:Int))] [Obj.row 70 (rws L)])
 letI c:=Int.toNat (↑k:Int)
 letI e:=nth t (Int.toNat (toInt (nth ds c)))
 letI f:=(↑k:Int)<(↑(ds.length):Int)
 aq (decide f) (aV (true&&decide f) (aq (decide (toInt (nth ds c)<(0:Int))) d (aq (decide (toInt (nth ds c)>=(↑(t.length):Int))) d (aV (decide ((0
 :Int)<=toInt (nth ds c))&&decide (toInt (nth ds c)<(↑(t.length):Int))) (aV (true&&decide ((↑k:Int)<(↑(vs.length):Int))) (aq (oc (AV.agg
 [AV.bool (Dn.toBool (ag e 0)),a (toInt (ag e 1)),AV.str (toStr (ag e 2))]) (AV.agg [AV.bool (Dn.toBool (ag (nth vs c) 0)),a (toInt (ag (nth vs
 c) 1)),AV.str (toStr (ag (nth vs c) 2))]) != (0:Int)) d (∃(e0:Nat),e0<n/\I e0 (sp 61 [(1,b 3 cs),(2,b 72 vs),(7,a w),(8,AV.ak 0
 0 L.length),(10,b 72 t),(18,b 70 xs),(19,a (↑(xs.length):Int)),(20,a (↑i:Int)),(26,b 3 ds),(27,a (↑(ds.length):
 Int)),(28,a (IntKind.wrap IntKind.i64 ((↑k:Int)+(1:Int))))] [Obj.row 70 (rws L)])))))))) (K (Exit.exit 2) (sp 61 [(1,b 3 cs),(2,b 72
 vs),(7,a w),(8,AV.ak 0 0 L.length),(10,b 72 t),(18,b 70 xs),(19,a (↑(xs.length):Int)),(20,a (↑i:Int))] [Obj.row 70 (rws
 L)]))):=by kernel_rfl
def yw(t:List AV):List AV->List AV->Bool
 |c::a,v::b=>(decide (0<=toInt c)&&decide (toInt c<t.length)&&decide (oc (nth t (toInt c).toNat) v=0))&&yw t a b
 |_,_=>true
theorem zd: ∀t b a,yw t (b.take (min b.length a.length)) a=yw t b a
 |t,[],a=>rfl
 |t,c::b,[]=>by rfl
 |t,c::b,v::a=>by
  have:=zd t b a
  grind [yw]
def sV(L:RL)(b a:List AV):RL:=L.filter fun t=>yw t b a
structure Qe where
 xs:List AV
 cs:List AV
 vs:List AV
 ds:List AV
 L:RL
 w:Nat
 i:Nat
 t:List AV
 k:Nat
abbrev T7(x:Qe):=sp 61 [(1, .ah 3 x.cs),(2, .ah 72 x.vs),(7, .int x.w),(8, .ak 0 0 x.L.length),(10, .ah 72 x.t),(18, .ah 70 x.xs),(19, .int x.xs.length),(20, .int x.i),(26, .ah 3 x.ds),(27, .int x.ds.length),(28, .int x.k)] [.row 70 (rws x.L)]
def IS(x:Qe):=x.k<=x.ds.length/\x.ds.length<=x.vs.length/\x.vs.length<=100000000
def F6(x:Qe):Out (Exit×S):= .aq (yw x.t (x.ds.drop x.k) (x.vs.drop x.k))
 (.one (.exit 2,sp 61 [(1, .ah 3 x.cs),(2, .ah 72 x.vs),(7, .int x.w),(8, .ak 0 0 x.L.length),(10, .ah 72 x.t),(18, .ah 70 x.xs),(19, .int x.xs.length),(20, .int x.i)] [.row 70 (rws x.L)]))
 (.one (.exit 1,sp 61 [(1, .ah 3 x.cs),(2, .ah 72 x.vs),(7, .int x.w),(8, .ak 0 0 x.L.length),(18, .ah 70 x.xs),(19, .int x.xs.length),(20, .int x.i)] [.row 70 (rws x.L)]))
theorem am7 κ:aU (UB κ).E 12 123 7 (aG 0 T7 IS F6):=by
 refine aC (fun x=>x.ds.length - x.k) ?_;rintro⟨xs,l,f,ds,L,w,i,t,k⟩ K ⟨p,m,o⟩ c;simp only at p m o;rw[show(UB κ).E.P=Pr κ from rfl];refine Eq.mpr (ap6 κ xs l f ds L w i k t _ _ K) ?_;simp only[F6,Out.run,ae] at c;rw[ae,ar4,ar6];refine⟨fun h=>?_,fun h=>?_⟩
 ·have j:k<ds.length:=by omega
  rw[as5 j,←aM _ _ j,as5 (show k<f.length by omega),←aM f k (by omega),yw] at c;rw[Int.toNat_natCast];refine ai.2 ⟨by simp;omega,ae.2 ⟨fun e=>c.2 ?_,fun e=>ae.2 ⟨fun d=>c.2 ?_,fun d=>?_⟩⟩⟩
  ·have e:toInt (nth ds k)<0:=by simpa using e
   rw[ar8 (by omega),Bool.false_and,Bool.false_and,Bool.false_and]
  ·grind
  ·have e:0<=toInt (nth ds k):=by simpa using e
   have d:toInt (nth ds k)<t.length:=by simpa using d
   rw[as0 e,as0 d,at2,at2] at c;refine ai.2 ⟨by rw[as0 e,as0 d];rfl,ai.2 ⟨by simp;omega,?_⟩⟩;have ev: ∀a b:AV,oc (.agg [.bool (Dn.toBool (ag a 0)), .int (toInt (ag a 1)), .lit (.string (toStr (ag a 2)))]) (.agg [.bool (Dn.toBool (ag b 0)), .int (toInt (ag b 1)), .lit (.string (toStr (ag b 2)))])=oc a b:=fun _ _=>rfl
   rw[ev,ae,bne_iff_ne,bne_eq_false_iff_eq];refine⟨fun g=>c.2 ?_,fun g=>?_⟩
   ·rw[ar8 g];rfl
   ·rw[as0 g,at2] at c
    rw[az (n:=(k:Int)+1) (by omega) (by omega)];refine⟨_,?_,⟨xs,l,f,ds,L,w,i,t,k+1⟩,rfl,⟨j,m,o⟩,rfl,?_⟩
    ·simp only;omega
    ·simp only[F6,Out.run,ae]
     exact c
 ·rw[as2 (by omega)] at c
  exact c.1 rfl
noncomputable def UU κ:=(UB κ).loop (am7 _)
theorem xMt κ xs cs vs L(w:Nat)(i:Nat) I n K:(vc (UU κ).E 12 123 none 0 (ad (Pr κ).toProgram 123 4) (sp 61 [(1, .ah 3 cs),(2, .ah 72 vs),(7, .int w),(8, .ak 0 0 L.length),(18, .ah 70 xs),(19, .int xs.length),(20, .int i)] [.row 70 (rws L)]) (bj (UU κ).E 123 4 0 I n K))=(
 letI a:=AV.int
 letI b:=Obj.row
 letI c:=AV.ah
 letI d:=List.drop 0 (List.take (Int.toNat (↑w:Int)) cs)
 letI e:=(↑i:Int)<(↑(xs.length):Int)
 letI f:=Pg.toProgram (Env.P (EB.E (UB κ)))
 aq (decide e) (aV (true&&decide e) (aV (true&&decide ((↑w:Int)<=(↑(cs.length):Int))) (ad f 123 7=ad f 123 7/\∃(e2:Qe),letI g:=IntKind.wrap IntKind.i64 ((↑(e2.i):Int)+(1:Int));sp 61 [(1,c 3 cs),(2,c 72 vs),(7,a (↑w:Int)),(8,AV.ak 0 0 L.length),(10,c 72 (af (nth xs (Int.toNat (↑i:Int))))),(18,c 70 xs),(19,a (↑(xs.length):Int)),(20,a (↑i:Int)),(26,c 3 d),(27,a (↑(List.length d):Int)),(28,a 0)] [b 70 (rws L)]=T7 e2/\IS e2/\aq (yw e2.t (List.drop e2.k e2.ds) (List.drop e2.k e2.vs)) (∃(e1:List AV),([c 72 e2.t],[])=PD e1/\e1.length<=100000000/\aV (decide ((e2.L.length+1+1)*25<=70368744177664)) (∃(e0:Nat),e0<n/\I e0 (sp 61 [(1,c 3 e2.cs),(2,c 72 e2.vs),(7,a (↑(e2.w):Int)),(8,AV.ak 0 0 (e2.L.length+1)),(18,c 70 e2.xs),(19,a (↑(e2.xs.length):Int)),(20,a g)] [b 70 (List.take e2.L.length (rws e2.L)++[c 72 e1])]))) (∃(e0:Nat),e0<n/\I e0 (sp 61 [(1,c 3 e2.cs),(2,c 72 e2.vs),(7,a (↑(e2.w):Int)),(8,AV.ak 0 0 e2.L.length),(18,c 70 e2.xs),(19,a (↑(e2.xs.length):Int)),(20,a g)] [b 70 (rws e2.L)]))))) (K (Exit.exit 0) (sp 61 [(8,AV.ak 0 0 L.length)] [b 70 (rws L)]))):=by kernel_rfl
structure Ln where
 xs:List AV
 cs:List AV
 vs:List AV
 i:Nat
def Ln.L(x:Ln):RL:=sV ((cU x.xs).take x.i) x.cs x.vs
def Ln.w(x:Ln):=min x.cs.length x.vs.length
abbrev I8(x:Ln):=sp 61 [(1, .ah 3 x.cs),(2, .ah 72 x.vs),(7, .int x.w),(8, .ak 0 0 x.L.length),(18, .ah 70 x.xs),(19, .int x.xs.length),(20, .int x.i)] [.row 70 (rws x.L)]
def IQ(x:Ln):=x.i<=x.xs.length/\eM x.xs=true/\x.cs.length<=100000000/\x.vs.length<=100000000
def Wd(x:Ln):Out (Exit×S):= .one (.exit 0,sp 61 [(8, .ak 0 0 (sV (cU x.xs) x.cs x.vs).length)] [.row 70 (rws (sV (cU x.xs) x.cs x.vs))])
theorem lMt κ:aU (UU κ).E 12 123 4 (aG 0 I8 IQ Wd):=by
 refine aC (fun x=>x.xs.length - x.i) ?_;rintro⟨xs,a,b,i⟩ K ⟨l,c,g,f⟩ k;simp only at l c g f;rw[show(UU κ).E.P=Pr κ from rfl];refine Eq.mpr (xMt κ xs a b (sV ((cU xs).take i) a b) (min a.length b.length) i _ _ K) ?_;have o:=iZ c;rw[ae,ar4,ar6];refine⟨fun h=>?_,fun h=>?_⟩
 ·have j:i<xs.length:=by omega
  have d:sV ((cU xs).take (i+1)) a b=sV ((cU xs).take i) a b++(bif yw (af (nth xs i)) a b then[af (nth xs i)] else[]):=by
   rw[Ei xs i j,sV,List.filter_append,←sV];cases e:yw (af (nth xs i)) a b<;>simp[e]
  have m:(sV ((cU xs).take i) a b).length<=100000000:=by
   refine Nat.le_trans (List.length_filter_le _ _) ?_;rw[List.length_take,lO];omega
  refine ai.2 ⟨by simp;omega,ai.2 ⟨by simp;omega,?_⟩⟩;rw[Int.toNat_natCast,Int.toNat_natCast,as4];refine⟨rfl,⟨xs,a,b,a.take (min a.length b.length),sV ((cU xs).take i) a b,min a.length b.length,i,af (nth xs i),0⟩,rfl,⟨Nat.zero_le _,by simp only[List.length_take];omega,f⟩,?_⟩;simp only[as4,zd];rw[az (n:=(i:Int)+1) (by omega) (by omega)];refine ae.2 ⟨fun e=>?_,fun e=>?_⟩
  ·rw[e,as1] at d
   refine⟨af (nth xs i),rfl,lC c i,ai.2 ⟨by rw[ar4];omega,_,?_,⟨xs,a,b,i+1⟩,?_,⟨j,c,g,f⟩,rfl,k⟩⟩
   ·simp only;omega
   ·simp only[I8,Ln.L,Ln.w]
    rw[d,←dX,List.take_length,vf,dX,as9];rfl
  ·rw[e,ar9,List.append_nil] at d
   refine⟨_,?_,⟨xs,a,b,i+1⟩,?_,⟨j,c,g,f⟩,rfl,k⟩
   ·simp only;omega
   ·simp only[I8,Ln.L,Ln.w]
    rw[d];rfl
 ·rw[List.take_of_length_le (by rw[lO];omega)]
  exact k
noncomputable def BMt κ:=(UU κ).loop (lMt _)
theorem aq4 κ xs cs vs K:(a0 (BMt κ).E 12 123 [.ah 70 xs, .ah 3 cs, .ah 72 vs] [] K)=(
 letI a:=Pg.toProgram (Env.P (EB.E (UU κ)))
 ad a 123 4=ad a 123 4/\∃(e0:Ln),letI b:=sV (cU e0.xs) e0.cs e0.vs;sp 61 [(1,AV.ah 3 cs),(2,AV.ah 72 vs),(7,AV.int (if(↑(vs.length):Int)<(↑(cs.length):Int) then(↑(vs.length):Int) else(↑(cs.length):Int))),(8,AV.ak 0 0 0),(18,AV.ah 70 xs),(19,AV.int (↑(xs.length):Int)),(20,AV.int 0)] [Obj.row 70 []]=I8 e0/\IQ e0/\K (AV.ah 70 (List.take (List.length b) (List.drop 0 (rws b)))) []):=by kernel_rfl
structure AMx where
 xs:List AV
 cs:List AV
 vs:List AV
def ao7(x:AMx):List AV×List Dn.Obj:=([.ah 70 x.xs, .ah 3 x.cs, .ah 72 x.vs],[])
def Wq(x:AMx):=eM x.xs=true/\x.cs.length<=100000000/\x.vs.length<=100000000
def Z1(x:AMx):Out (AV×List Dn.Obj):= .one (.ah 70 (rws (sV (cU x.xs) x.cs x.vs)),[])
theorem cMx κ:bc (BMt κ).E 12 123 (aO ao7 Wq Z1):=by
 refine aR ?_;rintro⟨xs,a,b⟩ K ⟨d,e,f⟩ g;refine Eq.mpr (aq4 κ xs a b K) ?_;have c:(if(b.length:Int)<a.length then(b.length:Int) else a.length)=min a.length b.length:=by grind
 rw[c];refine⟨rfl,⟨xs,a,_,0⟩,rfl,⟨Nat.zero_le _,d,e,f⟩,?_⟩;rw[as4,←dX,List.take_length];exact g
noncomputable def UW κ:=((BMt κ).call (cMx _)).calm [123]
end Go.Proofs.YtioeffnadipbaaaGreatDoor
