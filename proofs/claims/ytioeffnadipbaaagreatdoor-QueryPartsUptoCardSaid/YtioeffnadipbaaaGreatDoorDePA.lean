import Derived.Test.YtioeffnadipbaaaGreatDoorDeP9
namespace Go.Proofs.YtioeffnadipbaaaGreatDoor
open Go Go.Dn Go.Rl Go.Proofs
attribute [local irreducible] a8 vc
set_option maxRecDepth 20000
theorem A5{i j:Nat}(h:i+j<=9223372036854775807):IntKind.wrap .i64 (Int.fdiv (IntKind.wrap .u64 (IntKind.wrap .i64 (i+j))) 2)=((i+j) / 2:Nat):=by
 grind [IntKind.wrap,IntKind.bits,ay]
structure ym(P:Nat->Prop)(lo hi i j:Nat):Prop where
 le:lo<=i/\i<=j/\j<=hi
 h1:lo<i->P (i - 1)
 h2:j<hi-> ¬ P j
theorem ym.yes{P lo a i j}(h:ym P lo a i j)(c:i<j)(b:P ((i+j) / 2)):ym P lo a ((i+j) / 2+1) j:=⟨by have:=h.le;omega,fun _=>b,h.h2⟩
theorem ym.no{P lo a i j}(h:ym P lo a i j)(c:i<j)(b: ¬ P ((i+j) / 2)):ym P lo a i ((i+j) / 2):=⟨by have:=h.le;omega,h.h1,fun _=>b⟩
theorem ym.start{P lo a}(h:lo<=a):ym P lo a lo a:=⟨by omega,by simp,by simp⟩
theorem xMa κ L(a i j:Nat) I n K:(vc (j4 κ).E 12 167 none 1 (ah (Pr κ).toProgram 167 3) (sp 220 [(0, .ax 0 0 L.length),(1, .int a),(4,oE),(10, .int i),(11, .int j)] [jR L]) (bh (j4 κ).E 167 3 1 I n K))=(
 letI b:=IntKind.wrap IntKind.i64
 letI c:=AV.int
 letI d:=Int.fdiv (IntKind.wrap IntKind.u64 (b ((↑i:Int)+(↑j:Int)))) (2:Int)
 letI e:=b d
 letI f:=aa (nth (rws L) (0+Int.toNat e))
 an (decide ((↑i:Int)<(↑j:Int))) (aG (decide ((0:Int)<=b d)&&decide (b d<(↑(L.length):Int))) (aG
 (true&&decide ((↑a:Int)<(↑(L.length):Int))) (aG (decide (List.length f<=9223372036854775807)) (an (decide (bC f (aa (nth (rws L) (0+Int.toNat (↑a:
 Int))))<(0:Int))) (∃(e0:Nat),e0<n/\I e0 (sp 220 [(0,AV.ax 0 0 L.length),(1,c (↑a:Int)),(4,AV.bp 54 []),(10,c (IntKind.wrap
 IntKind.i64 (b d+(1:Int)))),(11,c (↑j:Int))] [Obj.row 70 (rws L)])) (∃(e0:Nat),e0<n/\I e0 (sp 220 [(0,AV.ax 0 0
 L.length),(1,c (↑a:Int)),(4,AV.bp 54 []),(10,c (↑i:Int)),(11,c e)] [Obj.row 70 (rws L)])))))) (K (Exit.exit 0) (sp 220 [(0,AV.ax 0
 0 L.length),(1,c (↑a:Int)),(10,c (↑i:Int))] [Obj.row 70 (rws L)]))):=by kernel_rfl
structure ZB where
 L:RL
 a:Nat
 b:Nat
 i:Nat
 j:Nat
abbrev PMa L a:=fun h=>bC (rat L h) (rat L a)<0
abbrev Y2(x:ZB):=sp 220 [(0, .ax 0 0 x.L.length),(1, .int x.a),(4,oE),(10, .int x.i),(11, .int x.j)] [jR x.L]
def Wv(x:ZB):=ym (PMa x.L x.a) (x.a+1) x.b x.i x.j/\x.b<=x.L.length/\x.L.length<=100000000/\fz x.L
def XX(x:ZB):Out (Exit×S):= .all (fun i=>ym (PMa x.L x.a) (x.a+1) x.b i i) fun i=> .one (.exit 0,sp 220 [(0, .ax 0 0 x.L.length),(1, .int x.a),(10, .int i)] [jR x.L])
theorem lMa κ:aP (j4 κ).E 12 167 3 (aI 1 Y2 Wv XX):=by
 refine aD (fun x=>x.j - x.i) ?_;rintro⟨L,a,b,i,j⟩ K ⟨d,g,l,f⟩ k;simp only at d g l f;rw[show(j4 κ).E.P=Pr κ from rfl];refine Eq.mpr (xMa κ L a i j _ _ K) ?_;have m:=d.le;rw[ag,an2,an4];refine⟨fun h=>?_,fun h=>?_⟩
 ·rw[A5 (by omega),ay (n:=(((i+j) / 2:Nat):Int)+1) (by omega) (by omega),gl,gl,show 0+(((i+j) / 2:Nat):Int).toNat=(i+j) / 2 by omega,show 0+((a:Nat):Int).toNat=a by omega]
  have c:i<j:=by omega
  refine ai.2 ⟨by simp;omega,ai.2 ⟨by simp;omega,ai.2 ⟨an8 (kM f _),ag.2 ⟨fun e=>?_,fun e=>?_⟩⟩⟩⟩
  ·refine⟨_,?_,⟨L,a,b,(i+j) / 2+1,j⟩,rfl,⟨d.yes c (by simpa using e),g,l,f⟩,rfl,k⟩
   simp only;omega
  ·refine⟨_,?_,⟨L,a,b,i,(i+j) / 2⟩,rfl,⟨d.no c (by simpa using e),g,l,f⟩,rfl,k⟩
   simp only;omega
 ·obtain rfl:i=j:=by omega
  exact k i d
theorem xMb κ L(i k:Nat) I n K:(vc (j4 κ).E 12 167 none 1 (ah (Pr κ).toProgram 167 9) (sp 220 [(0, .ax 0 0 L.length),(10, .int i),(13, .int k)] [jR L]) (bh (j4 κ).E 167 9 1 I n K))=(
 letI a:=IntKind.wrap IntKind.i64
 letI d:=true&&decide ((↑k:Int)<(↑(L.length):Int))
 letI b:=(↑k:Int)+(1:Int)
 letI e:=decide ((0:Int)<=a b)&&decide (a b<(↑(L.length):Int))
 letI c:=a b
 an (decide ((↑k:Int)<a ((↑i:Int) - (1:Int)))) (aG e (aG d (aG d (aG e (∃(e0:Nat),e0<n/\I e0 (sp 220 [(0,AV.ax 0 0
 L.length),(10,AV.int (↑i:Int)),(13,AV.int c)] [Obj.row 70 (bQ (bQ (rws L) (0+Int.toNat (↑k:Int)) (AV.ad 72 (aa (nth (rws L) (0+Int.toNat c))))) (0
 +Int.toNat c) (AV.ad 72 (aa (nth (rws L) (0+Int.toNat (↑k:Int))))))])))))) (K (Exit.exit 2) (sp 220 [] [Obj.row 70 (rws L)]))):=by kernel_rfl
structure ZC where
 L0:RL
 L:RL
 a:Nat
 b:Nat
 i:Nat
 k:Nat
abbrev UU(x:ZC):=sp 220 [(0, .ax 0 0 x.L.length),(10, .int x.i),(13, .int x.k)] [jR x.L]
def Ww(x:ZC):=Fw x.a x.b x.k x.L0 x.L/\(x.a<=x.k/\x.k+1<=x.i/\x.i<=x.b)/\x.b<=x.L0.length/\x.L0.length<=100000000
def XY(x:ZC):Out (Exit×S):= .all (fun M=>Fw x.a x.b (x.i - 1) x.L0 M) fun M=> .one (.exit 2,sp 220 [] [jR M])
theorem lMb κ:aP (j4 κ).E 12 167 9 (aI 1 UU Ww XY):=by
 refine aD (fun x=>x.i - x.k) ?_;rintro⟨l,L,a,b,i,k⟩ K ⟨c,m,d,g⟩ f;simp only at c m d g;rw[show(j4 κ).E.P=Pr κ from rfl];refine Eq.mpr (xMb κ L i k _ _ K) ?_;have o:=c.sw.len;rw[ay (n:=(i:Int) - 1) (by omega) (by omega),ay (n:=(k:Int)+1) (by omega) (by omega),show(k:Int)+1=(k+1:Nat) by omega,show 0+((k+1:Nat):Int).toNat=k+1 by omega,show 0+(k:Int).toNat=k by omega,vG,ag,an2,an4];refine⟨fun h=>?_,fun h=>?_⟩
 ·have j:(decide (0<=((k+1:Nat):Int))&&decide (((k+1:Nat):Int)<L.length))=true:=by simp;omega
  have e:(true&&decide ((k:Int)<L.length))=true:=by simp;omega
  refine ai.2 ⟨j,ai.2 ⟨e,ai.2 ⟨e,ai.2 ⟨j,_,?_,⟨l,swp L k (k+1),a,b,i,k+1⟩,?_,⟨c.step (by omega) d,by simp only;omega,d,g⟩,rfl,f⟩⟩⟩⟩
  ·simp only;omega
  ·simp only[UU,nS]
 ·obtain rfl:k=i - 1:=by omega
  exact f L c
theorem xMc κ L(m i j:Nat) I n K:(vc (j4 κ).E 12 167 none 1 (ah (Pr κ).toProgram 167 15) (sp 220 [(0, .ax 0 0 L.length),(2, .int m),(4,oE),(14, .int i),(15, .int j)] [jR L]) (bh (j4 κ).E 167 15 1 I n K))=(
 letI a:=IntKind.wrap IntKind.i64
 letI b:=AV.int
 letI c:=Int.fdiv (IntKind.wrap IntKind.u64 (a ((↑i:Int)+(↑j:Int)))) (2:Int)
 letI d:=aa (nth (rws L) (0+Int.toNat (↑m:Int)))
 letI e:=a c
 an (decide ((↑i:Int)<(↑j:Int))) (aG (true&&decide ((↑m:Int)<(↑(L.length):Int))) (aG (decide ((0:Int)<=a c)&&decide
 (a c<(↑(L.length):Int))) (aG (decide (List.length d<=9223372036854775807)) (an (!decide (bC d (aa (nth (rws L) (0+Int.toNat
 e)))<(0:Int))) (∃(e0:Nat),e0<n/\I e0 (sp 220 [(0,AV.ax 0 0 L.length),(2,b (↑m:Int)),(4,AV.bp 54 []),(14,b (IntKind.wrap
 IntKind.i64 (a c+(1:Int)))),(15,b (↑j:Int))] [Obj.row 70 (rws L)])) (∃(e0:Nat),e0<n/\I e0 (sp 220 [(0,AV.ax 0 0
 L.length),(2,b (↑m:Int)),(4,AV.bp 54 []),(14,b (↑i:Int)),(15,b e)] [Obj.row 70 (rws L)])))))) (K (Exit.exit 4) (sp 220 [(0,AV.ax 0
 0 L.length),(2,b (↑m:Int)),(14,b (↑i:Int))] [Obj.row 70 (rws L)]))):=by kernel_rfl
structure ZD where
 L:RL
 a:Nat
 m:Nat
 i:Nat
 j:Nat
abbrev PMc L m:=fun h=>0<=bC (rat L m) (rat L h)
abbrev Y3(x:ZD):=sp 220 [(0, .ax 0 0 x.L.length),(2, .int x.m),(4,oE),(14, .int x.i),(15, .int x.j)] [jR x.L]
def Wx(x:ZD):=ym (PMc x.L x.m) x.a x.m x.i x.j/\x.m<x.L.length/\x.L.length<=100000000/\fz x.L
def XZ(x:ZD):Out (Exit×S):= .all (fun i=>ym (PMc x.L x.m) x.a x.m i i) fun i=> .one (.exit 4,sp 220 [(0, .ax 0 0 x.L.length),(2, .int x.m),(14, .int i)] [jR x.L])
theorem lMc κ:aP (j4 κ).E 12 167 15 (aI 1 Y3 Wx XZ):=by
 refine aD (fun x=>x.j - x.i) ?_;rintro⟨L,a,m,i,j⟩ K ⟨c,f,k,d⟩ g;simp only at c f k d;rw[show(j4 κ).E.P=Pr κ from rfl];refine Eq.mpr (xMc κ L m i j _ _ K) ?_;have l:=c.le;rw[ag,an2,an4];refine⟨fun h=>?_,fun h=>?_⟩
 ·rw[A5 (by omega),ay (n:=(((i+j) / 2:Nat):Int)+1) (by omega) (by omega),gl,gl,show 0+(((i+j) / 2:Nat):Int).toNat=(i+j) / 2 by omega,show 0+((m:Nat):Int).toNat=m by omega]
  have b:i<j:=by omega
  refine ai.2 ⟨by simp;omega,ai.2 ⟨by simp;omega,ai.2 ⟨an8 (kM d _),ag.2 ⟨fun e=>?_,fun e=>?_⟩⟩⟩⟩
  ·refine⟨_,?_,⟨L,a,m,(i+j) / 2+1,j⟩,rfl,⟨c.yes b (by simpa using e),f,k,d⟩,rfl,g⟩
   simp only;omega
  ·refine⟨_,?_,⟨L,a,m,i,(i+j) / 2⟩,rfl,⟨c.no b (by simpa using e),f,k,d⟩,rfl,g⟩
   simp only;omega
 ·obtain rfl:i=j:=by omega
  exact g i c
theorem xMq κ L(i k:Nat) I n K:(vc (j4 κ).E 12 167 none 1 (ah (Pr κ).toProgram 167 21) (sp 220 [(0, .ax 0 0 L.length),(14, .int i),(17, .int k)] [jR L]) (bh (j4 κ).E 167 21 1 I n K))=(
 letI a:=IntKind.wrap IntKind.i64
 letI d:=true&&decide ((↑k:Int)<(↑(L.length):Int))
 letI b:=(↑k:Int) - (1:Int)
 letI e:=decide ((0:Int)<=a b)&&decide (a b<(↑(L.length):Int))
 letI c:=a b
 an (decide ((↑k:Int)>(↑i:Int))) (aG e (aG d (aG d (aG e (∃(e0:Nat),e0<n/\I e0 (sp 220 [(0,AV.ax 0 0 L.length),(14,AV.int (↑i:Int)),(17,
 AV.int c)] [Obj.row 70 (bQ (bQ (rws L) (0+Int.toNat (↑k:Int)) (AV.ad 72 (aa (nth (rws L) (0+Int.toNat c))))) (0+Int.toNat c) (AV.ad 72 (aa (nth (rws
 L) (0+Int.toNat (↑k:Int))))))])))))) (K (Exit.exit 6) (sp 220 [] [Obj.row 70 (rws L)]))):=by kernel_rfl
structure ZF where
 L0:RL
 L:RL
 a:Nat
 m:Nat
 i:Nat
 k:Nat
abbrev Om(x:ZF):=sp 220 [(0, .ax 0 0 x.L.length),(14, .int x.i),(17, .int x.k)] [jR x.L]
def Wy(x:ZF):=Bw x.a x.m x.k x.L0 x.L/\(x.a<=x.i/\x.i<=x.k/\x.k<=x.m)/\x.m<x.L0.length/\x.L0.length<=100000000
def X3(x:ZF):Out (Exit×S):= .all (fun M=>Bw x.a x.m x.i x.L0 M) fun M=> .one (.exit 6,sp 220 [] [jR M])
theorem lMq κ:aP (j4 κ).E 12 167 21 (aI 1 Om Wy X3):=by
 refine aD (fun x=>x.k) ?_;rintro⟨j,L,a,m,i,k⟩ K ⟨b,l,c,f⟩ e;simp only at b l c f;refine Eq.mpr (xMq κ L i k _ _ K) ?_;have o:=b.sw.len;rw[ag,an2,an4];refine⟨fun h=>?_,fun h=>?_⟩
 ·rw[ay (n:=(k:Int) - 1) (by omega) (by omega),show(k:Int) - 1=(k - 1:Nat) by omega,show 0+((k - 1:Nat):Int).toNat=k - 1 by omega,show 0+(k:Int).toNat=k by omega,vG]
  have g:(decide (0<=((k - 1:Nat):Int))&&decide (((k - 1:Nat):Int)<L.length))=true:=by simp;omega
  have d:(true&&decide ((k:Int)<L.length))=true:=by simp;omega
  refine ai.2 ⟨g,ai.2 ⟨d,ai.2 ⟨d,ai.2 ⟨g,_,?_,⟨j,swp L k (k - 1),a,m,i,k - 1⟩,?_,⟨b.step (by omega) c,by simp only;omega,c,f⟩,rfl,e⟩⟩⟩⟩
  ·simp only;omega
  ·simp only[Om,nS]
 ·obtain rfl:k=i:=by omega
  exact e L b
theorem xMe κ L(a m b jI w i j p:Nat) I n K:(vc (j4 κ).E 12 167 none 1 (ah (Pr κ).toProgram 167 33) (sp 220 [(0, .ax 0 0 L.length),(1, .int a),(2, .int m),(3, .int b),(4,oE),(18, .int jI),(19, .int w),(20, .int i),(21, .int j),(22, .int p)] [jR L]) (bh (j4 κ).E 167 33 1 I n K))=(
 letI c:=IntKind.wrap IntKind.i64
 letI d:=AV.int
 letI e:=Int.fdiv (IntKind.wrap IntKind.u64 (c ((↑i:Int)+(↑j:Int)))) (2:Int)
 letI f:=(↑p:Int) - c e
 letI g:=aa (nth (rws L) (0+Int.toNat (c f)))
 letI h:=c e
 an (decide ((↑i:Int)<(↑j:Int))) (aG (decide ((0:Int)<=c f)&&decide (c f<(↑(L.length):Int))) (aG
 (decide ((0:Int)<=c e)&&decide (c e<(↑(L.length):Int))) (aG (decide (List.length g<=
 9223372036854775807)) (an (!decide (bC g (aa (nth (rws L) (0+Int.toNat h)))<(0:Int))) (∃(e0:Nat),e0<n/\I e0 (sp 220 [(0,AV.ax 0 0 L.length),(1,
 d (↑a:Int)),(2,d (↑m:Int)),(3,d (↑b:Int)),(4,AV.bp 54 []),(18,d (↑jI:Int)),(19,d (↑w:Int)),(20,d
 (c (c e+(1:Int)))),(21,d (↑j:Int)),(22,d (↑p:Int))] [Obj.row 70 (rws L)])) (∃(e0:Nat),
 e0<n/\I e0 (sp 220 [(0,AV.ax 0 0 L.length),(1,d (↑a:Int)),(2,d (↑m:Int)),(3,d (↑b:Int)),(4,AV.bp 54 []),(18,d (↑jI:
 Int)),(19,d (↑w:Int)),(20,d (↑i:Int)),(21,d h),(22,d (↑p:Int))] [Obj.row 70 (rws L)])))))) (K (Exit.exit 8) (sp 220 [(0,
 AV.ax 0 0 L.length),(1,d (↑a:Int)),(2,d (↑m:Int)),(3,d (↑b:Int)),(4,AV.bp 54 []),(18,d (↑jI:Int)),(19,d (↑w:
 Int)),(20,d (↑i:Int))] [Obj.row 70 (rws L)]))):=by kernel_rfl
structure VM where
 L:RL
 a:Nat
 m:Nat
 b:Nat
 jI:Nat
 w:Nat
 lo:Nat
 hi:Nat
 i:Nat
 j:Nat
 p:Nat
abbrev Wq L p:=fun c=>0<=bC (rat L (p - c)) (rat L c)
abbrev Ol(x:VM):=sp 220 [(0, .ax 0 0 x.L.length),(1, .int x.a),(2, .int x.m),(3, .int x.b),(4,oE),(18, .int x.jI),(19, .int x.w),(20, .int x.i),(21, .int x.j),(22, .int x.p)] [jR x.L]
def Tv(x:VM):=ym (Wq x.L x.p) x.lo x.hi x.i x.j/\(x.hi<=x.p+1/\x.p<x.lo+x.L.length/\x.hi<=x.L.length)/\x.L.length<=100000000/\fz x.L
def X2(x:VM):Out (Exit×S):= .all (fun i=>ym (Wq x.L x.p) x.lo x.hi i i) fun i=> .one (.exit 8,sp 220 [(0, .ax 0 0 x.L.length),(1, .int x.a),(2, .int x.m),(3, .int x.b),(4,oE),(18, .int x.jI),(19, .int x.w),(20, .int i)] [jR x.L])
theorem lMe κ:aP (j4 κ).E 12 167 33 (aI 1 Ol Tv X2):=by
 refine aD (fun x=>x.j - x.i) ?_;rintro⟨L,a,m,b,c,w,lo,q,i,j,p⟩ K ⟨f,k,l,g⟩ o;simp only at f k l g;rw[show(j4 κ).E.P=Pr κ from rfl];refine Eq.mpr (xMe κ L a m b c w i j p _ _ K) ?_;have r:=f.le;rw[ag,an2,an4];refine⟨fun h=>?_,fun h=>?_⟩
 ·rw[A5 (by omega),ay (n:=(((i+j) / 2:Nat):Int)+1) (by omega) (by omega),ay (n:=(p:Int) - ((i+j) / 2:Nat)) (by omega) (by omega),gl,gl,show 0+(((i+j) / 2:Nat):Int).toNat=(i+j) / 2 by omega,show 0+((p:Int) - ((i+j) / 2:Nat)).toNat=p - (i+j) / 2 by omega]
  have d:i<j:=by omega
  refine ai.2 ⟨by simp;omega,ai.2 ⟨by simp;omega,ai.2 ⟨an8 (kM g _),ag.2 ⟨fun e=>?_,fun e=>?_⟩⟩⟩⟩
  ·refine⟨_,?_,⟨L,a,m,b,c,w,lo,q,(i+j) / 2+1,j,p⟩,rfl,⟨f.yes d (by simpa using e),k,l,g⟩,rfl,o⟩
   simp only;omega
  ·refine⟨_,?_,⟨L,a,m,b,c,w,lo,q,i,(i+j) / 2,p⟩,rfl,⟨f.no d (by simpa using e),k,l,g⟩,rfl,o⟩
   simp only;omega
 ·obtain rfl:i=j:=by omega
  exact o i f
noncomputable def S1 κ:=(j4 κ).loop (lMa _)
theorem Qa κ:Pr κ=(j4 κ).E.P:=rfl
noncomputable def S2 κ:=(S1 _).AY _ (rfl.trans (Qa κ)) (lMb _)
noncomputable def S3 κ:=(S2 _).AY _ (rfl.trans (Qa κ)) (lMc _)
noncomputable def ID κ:=(S3 _).AY _ (rfl.trans (Qa κ)) (lMq _)
noncomputable def BMa(κ:Kp):EB:=(ID κ).AY (j4 κ) ((show(ID κ).E.P=Pr κ from rfl).trans (Qa κ)) (lMe κ)
structure iY where
 L:RL
 a:Nat
 m:Nat
 b:Nat
def eW(x:iY):=([.ax 0 0 x.L.length, .int x.a, .int x.m, .int x.b,oE],[jR x.L])
structure fC(x:iY):Prop where
 lt:x.a<x.m/\x.m<x.b/\x.b<=x.L.length
 l:x.L.length<=100000000
 s:fz x.L
 u:Up x.L x.a x.m
 v:Up x.L x.m x.b
def Nf(x:iY):Out (AV×List Dn.Obj):= .all (Sr x.a x.b x.L) fun M=> .one (.aK [],[jR M])
def N5 n:=aX eW (fun x=>fC x/\x.b - x.a=n) Nf
noncomputable def Lc κ r:=(BMa κ).E.aB 167 fun a st K=>∃m,m<r/\N5 m a st K
theorem am4(κ:Kp)(r:Nat)(L:RL)(a m b:Nat) K:(a8 (Lc κ r) 12 167 [.ax 0 0 L.length, .int a, .int m, .int b,oE] [jR L] K)=(
 letI c:=IntKind.wrap IntKind.i64
 letI d:=AV.int
 letI e:=Obj.row
 letI f:=AV.aK
 letI g:=AV.ax
 letI h:=AV.bp
 letI S:=Int.fdiv (IntKind.wrap IntKind.u64 (c ((↑a:Int)+(↑b:Int)))) (2:Int)
 letI T:=c S+(↑m:Int)
 letI R:=Pg.toProgram (Env.P (EB.E (ID κ)))
 letI V:=c (c T - (1:Int))
 letI U:=c S
 letI W:=Pg.toProgram (Env.P (EB.E (j4 κ)))
 letI X:=Pg.toProgram (Env.P (EB.E (S1 κ)))
 letI Y:=Pg.toProgram (Env.P (EB.E (S2 κ)))
 letI Z:=Pg.toProgram (Env.P (EB.E (S3 κ)))
 letI C:=c T
 an (c ((↑m:Int) - (↑a:Int))==(1:Int)) (ah W 167 3=ah W 167 3/\∃(e3:ZB),sp 220 [(0,g 0 0 L.length),(1,d (↑a:Int)),(4,h 54 []),(10,d (↑m:Int)),(11,d (↑b:Int))] [e 70 (rws L)]=Y2 e3/\Wv e3/\∀(e2:Nat),ym (PMa e3.L e3.a) (e3.a+1) e3.b e2 e2->ah X 167 9=ah X 167 9/\∃(e1:ZC),sp 220 [(0,g 0 0 e3.L.length),(10,d (↑e2:Int)),(13,d (↑(e3.a):Int))] [e 70 (rws e3.L)]=UU e1/\Ww e1/\∀(e0:RL),Fw e1.a e1.b (e1.i - 1) e1.L0 e0->K (f []) [e 70 (rws e0)]) (an (c ((↑b:Int) - (↑m:Int))==(1:Int)) (ah Y 167 15=ah Y 167 15/\∃(e3:ZD),sp 220 [(0,g 0 0 L.length),(2,d (↑m:Int)),(4,h 54 []),(14,d (↑a:Int)),(15,d (↑m:Int))] [e 70 (rws L)]=Y3 e3/\Wx e3/\∀(e2:Nat),ym (PMc e3.L e3.m) e3.a e3.m e2 e2->ah Z 167 21=ah Z 167 21/\∃(e1:ZF),sp 220 [(0,g 0 0 e3.L.length),(14,d (↑e2:Int)),(17,d (↑(e3.m):Int))] [e 70 (rws e3.L)]=Om e1/\Wy e1/\∀(e0:RL),Bw e1.a e1.m e1.i e1.L0 e0->K (f []) [e 70 (rws e0)]) (an (decide ((↑m:Int)>c S)) (ah R 167 33=ah R 167 33/\∃(e9:VM),letI i:=[e 70 (rws e9.L)];letI s:=K (f []) i;sp 220 [(0,g 0 0 L.length),(1,d (↑a:Int)),(2,d (↑m:Int)),(3,d (↑b:Int)),(4,h 54 []),(18,d U),(19,d C),(20,d (c (c T - (↑b:Int)))),(21,d U),(22,d V)] [e 70 (rws L)]=Ol e9/\Tv e9/\∀(e8:Nat),letI t:=(↑(e9.w):Int) - (↑e8:Int);letI D:=c t;letI j:=[g 0 0 e9.L.length,d (↑(e9.jI):Int),d D,d (↑(e9.b):Int),h 54 []];letI k:=decide ((↑(e9.jI):Int)<c t);letI l:=decide (c t<(↑(e9.b):Int));letI E:=[g 0 0 e9.L.length,d (↑(e9.a):Int),d (↑e8:Int),d (↑(e9.jI):Int),h 54 []];letI F:=decide ((↑e8:Int)<(↑(e9.jI):Int));letI G:=decide ((↑(e9.a):Int)<(↑e8:Int));letI H:=an G (an F (∃(e5:Nat),e5<r/\∃(e4:iY),(E,i)=eW e4/\(fC e4/\e4.b - e4.a=e5)/\∀(e3:RL),letI y:=[e 70 (rws e3)];Sr e4.a e4.b e4.L e3->an k (an l (∃(e2:Nat),e2<r/\∃(e1:iY),(j,y)=eW e1/\(fC e1/\e1.b - e1.a=e2)/\∀(e0:RL),Sr e1.a e1.b e1.L e0->K (f []) [e 70 (rws e0)]) (K (f []) y)) (K (f []) y)) (an k (an l (∃(e2:Nat),e2<r/\∃(e1:iY),(j,i)=eW e1/\(fC e1/\e1.b - e1.a=e2)/\∀(e0:RL),Sr e1.a e1.b e1.L e0->K (f []) [e 70 (rws e0)]) s) s)) (an k (an l (∃(e2:Nat),e2<r/\∃(e1:iY),(j,i)=eW e1/\(fC e1/\e1.b - e1.a=e2)/\∀(e0:RL),Sr e1.a e1.b e1.L e0->K (f []) [e 70 (rws e0)]) s) s);ym (Wq e9.L e9.p) e9.lo e9.hi e8 e8->an (decide ((↑e8:Int)<(↑(e9.m):Int))) (an (decide ((↑(e9.m):Int)<c t)) (∃(e7:KJ),([g 0 0 e9.L.length,d (↑e8:Int),d (↑(e9.m):Int),d D,h 54 []],i)=On e7/\BQ e7/\∀(e6:RL),letI u:=[e 70 (rws e6)];letI I:=an k (an l (∃(e2:Nat),e2<r/\∃(e1:iY),(j,u)=eW e1/\(fC e1/\e1.b - e1.a=e2)/\∀(e0:RL),Sr e1.a e1.b e1.L e0->K (f []) [e 70 (rws e0)]) (K (f []) u)) (K (f []) u);KF e7.a e7.b e7.n e7.L e6->an G (an F (∃(e5:Nat),e5<r/\∃(e4:iY),(E,u)=eW e4/\(fC e4/\e4.b - e4.a=e5)/\∀(e3:RL),letI z:=[e 70 (rws e3)];Sr e4.a e4.b e4.L e3->an k (an l (∃(e2:Nat),e2<r/\∃(e1:iY),(j,z)=eW e1/\(fC e1/\e1.b - e1.a=e2)/\∀(e0:RL),Sr e1.a e1.b e1.L e0->K (f []) [e 70 (rws e0)]) (K (f []) z)) (K (f []) z)) I) I) H) H) (ah R 167 33=ah R 167 33/\∃(e9:VM),letI n:=[e 70 (rws e9.L)];letI v:=K (f []) n;sp 220 [(0,g 0 0 L.length),(1,d (↑a:Int)),(2,d (↑m:Int)),(3,d (↑b:Int)),(4,h 54 []),(18,d U),(19,d C),(20,d (↑a:Int)),(21,d (↑m:Int)),(22,d V)] [e 70 (rws L)]=Ol e9/\Tv e9/\∀(e8:Nat),letI w:=(↑(e9.w):Int) - (↑e8:Int);letI J:=c w;letI o:=[g 0 0 e9.L.length,d (↑(e9.jI):Int),d J,d (↑(e9.b):Int),h 54 []];letI p:=decide ((↑(e9.jI):Int)<c w);letI q:=decide (c w<(↑(e9.b):Int));letI M:=[g 0 0 e9.L.length,d (↑(e9.a):Int),d (↑e8:Int),d (↑(e9.jI):Int),h 54 []];letI N:=decide ((↑e8:Int)<(↑(e9.jI):Int));letI O:=decide ((↑(e9.a):Int)<(↑e8:Int));letI P:=an O (an N (∃(e5:Nat),e5<r/\∃(e4:iY),(M,n)=eW e4/\(fC e4/\e4.b - e4.a=e5)/\∀(e3:RL),letI A:=[e 70 (rws e3)];Sr e4.a e4.b e4.L e3->an p (an q (∃(e2:Nat),e2<r/\∃(e1:iY),(o,A)=eW e1/\(fC e1/\e1.b - e1.a=e2)/\∀(e0:RL),Sr e1.a e1.b e1.L e0->K (f []) [e 70 (rws e0)]) (K (f []) A)) (K (f []) A)) (an p (an q (∃(e2:Nat),e2<r/\∃(e1:iY),(o,n)=eW e1/\(fC e1/\e1.b - e1.a=e2)/\∀(e0:RL),Sr e1.a e1.b e1.L e0->K (f []) [e 70 (rws e0)]) v) v)) (an p (an q (∃(e2:Nat),e2<r/\∃(e1:iY),(o,n)=eW e1/\(fC e1/\e1.b - e1.a=e2)/\∀(e0:RL),Sr e1.a e1.b e1.L e0->K (f []) [e 70 (rws e0)]) v) v);ym (Wq e9.L e9.p) e9.lo e9.hi e8 e8->an (decide ((↑e8:Int)<(↑(e9.m):Int))) (an (decide ((↑(e9.m):Int)<c w)) (∃(e7:KJ),([g 0 0 e9.L.length,d (↑e8:Int),d (↑(e9.m):Int),d J,h 54 []],n)=On e7/\BQ e7/\∀(e6:RL),letI x:=[e 70 (rws e6)];letI Q:=an p (an q (∃(e2:Nat),e2<r/\∃(e1:iY),(o,x)=eW e1/\(fC e1/\e1.b - e1.a=e2)/\∀(e0:RL),Sr e1.a e1.b e1.L e0->K (f []) [e 70 (rws e0)]) (K (f []) x)) (K (f []) x);KF e7.a e7.b e7.n e7.L e6->an O (an N (∃(e5:Nat),e5<r/\∃(e4:iY),(M,x)=eW e4/\(fC e4/\e4.b - e4.a=e5)/\∀(e3:RL),letI B:=[e 70 (rws e3)];Sr e4.a e4.b e4.L e3->an p (an q (∃(e2:Nat),e2<r/\∃(e1:iY),(o,B)=eW e1/\(fC e1/\e1.b - e1.a=e2)/\∀(e0:RL),Sr e1.a e1.b e1.L e0->K (f []) [e 70 (rws e0)]) (K (f []) B)) (K (f []) B)) Q) Q) P) P)))):=by kernel_rfl
theorem ae7 κ r(d: ∀a st K,(∃m,m<r/\N5 m a st K)->bt (Pr κ) 167 a st K):aF (Lc κ r)/\aj (Lc κ r)/\(Lc κ r).P=Pr κ:=
 ⟨(BMa _).ok.eX d,(BMa _).mono.aB fun _ _ _ _ c ⟨m,e,b⟩=>⟨m,e,aZ _ _ _ _ c b⟩,rfl⟩
theorem ab0 κ r:bq (Lc κ r) 12 167 (N5 r):=by
 refine a7 ?_;rintro⟨L,a,m,b⟩ K ⟨⟨⟨P,h2,x⟩,t,z,F,E⟩,h8⟩ B;simp only at P h2 x t z F E h8
 replace B: ∀M,Sr a b L M->K (.aK []) [jR M]:=B
 refine Eq.mpr (am4 κ r L a m b K) ?_;have A:=A5 (i:=a) (j:=b) (by omega);rw[ay (n:=(m:Int) - a) (by omega) (by omega),ay (n:=(b:Int) - m) (by omega) (by omega),A];obtain⟨c,hm⟩: ∃c,c=(a+b) / 2:=⟨_,rfl⟩
 rw[←hm];rw[ay (n:=(c:Int)+m) (by omega) (by omega),ay (n:=(c:Int)+m - b) (by omega) (by omega),ay (n:=(c:Int)+m - 1) (by omega) (by omega)];rw[ag,beq_iff_eq,beq_eq_false_iff_ne];refine⟨fun e=>?_,fun e=>?_⟩
 ·obtain rfl:m=a+1:=by omega
  refine⟨rfl,⟨L,a,b,a+1,b⟩,rfl,⟨ym.start (show a+1<=b by omega),x,t,z⟩,fun i f=>⟨rfl,⟨L,L,a,b,i,a⟩,rfl,⟨.start a b L,?_,x,t⟩,fun M d=>B M ⟨d.sw,?_⟩⟩⟩
  ·obtain⟨v,_,p⟩:a+1<=i/\i<=i/\i<=b:=f.le
   exact⟨Nat.le_refl _,v,p⟩
  ·obtain⟨v,_,p⟩:a+1<=i/\i<=i/\i<=b:=f.le
   refine Fw.done (L:=L) (M:=M) (i:=i) d ⟨v,p⟩ E (fun q=>?_) (fun q=>?_)
   ·have:bC (rat L (i - 1)) (rat L a)<0:=f.h1 q
    omega
   ·have: ¬ bC (rat L i) (rat L a)<0:=f.h2 q
    rw[cf.swap (rat L i)];omega
 ·rw [ag,beq_iff_eq,beq_eq_false_iff_ne]
  refine⟨fun e2=>?_,fun e2=>?_⟩
  ·obtain rfl:b=m+1:=by omega
   refine⟨rfl,⟨L,a,m,a,m⟩,rfl,⟨.start (Nat.le_of_lt P),x,t,z⟩,fun i f=>⟨rfl,⟨L,L,a,m,i,m⟩,rfl,⟨.start a m L,?_,x,t⟩,fun M d=>B M ⟨d.sw,?_⟩⟩⟩
   ·obtain⟨v,_,p⟩:a<=i/\i<=i/\i<=m:=f.le
    exact⟨v,p,Nat.le_refl _⟩
   ·obtain⟨v,_,p⟩:a<=i/\i<=i/\i<=m:=f.le
    refine Bw.done (L:=L) (M:=M) (i:=i) d ⟨v,p⟩ F (fun q=>?_) (fun q=>?_)
    ·have:0<=bC (rat L m) (rat L (i - 1)):=f.h1 q
     rw[cf.swap (rat L m)];omega
    ·have: ¬ 0<=bC (rat L m) (rat L i):=f.h2 q
     omega
  ·have s: ∀lo f y,(lo=c+m - b/\f=c/\c<=m\/lo=a/\f=m/\m<=c)->ym (Wq L (c+m - 1)) lo f y y->y<=c/\c+m - y<=b/\Cut a m b y (c+m - y) L:=fun lo f y q1 l=>by
    have W:=l.le;refine⟨by omega,by omega,⟨fun C D=>?_,fun C D=>?_⟩⟩
    ·have:0<=bC (rat L (c+m - 1 - (y - 1))) (rat L (y - 1)):=l.h1 (by omega)
     rw[show c+m - 1 - (y - 1)=c+m - y by omega,cf.swap (rat L (y - 1))] at this;omega
    ·have: ¬ 0<=bC (rat L (c+m - 1 - y)) (rat L y):=l.h2 (by omega)
     rw[show c+m - 1 - y=c+m - y - 1 by omega] at this;omega
   have u: ∀y e M,(a<=y/\y<=m/\m<=e/\e<=b)->y+(e - m)=c->Cut a m b y e L->KF y m e L M->(Up M a y/\Up M y c/\Up M c e/\Up M e b)/\∀N,Sw a c M N->∀k,a<=k->k<c->∀j,c<=j->j<b->bC (rat N k) (rat M j)<=0:=fun y e M C D k3 d=>
    ⟨(CT C D F E k3 d .refl).2,fun N h=>(CT C D F E k3 d h).1⟩
   rcases Nat.lt_or_ge c m with q|q
   case' inl=>
    rw[ag,an2,an4];refine⟨fun _=>⟨rfl,⟨L,a,m,b,c,c+m,c+m - b,c,c+m - b,c,c+m - 1⟩,?_,⟨ym.start (show c+m - b<=c by omega),by simp only;omega,t,z⟩,fun y l=>?_⟩,fun g=>absurd (show(m:Int)>c by omega) g⟩
    ·simp only[Ol,show((c+m - b:Nat):Int)=c+m - b by omega,show((c+m - 1:Nat):Int)=c+m - 1 by omega,show((c+m:Nat):Int)=c+m by omega]
    have o:a<=y/\y<=m:=by have:c+m - b<=y/\y<=y/\y<=c:=l.le;omega
    obtain⟨c1,H,Q⟩:=s _ _ y (.inl ⟨rfl,rfl,by omega⟩) l
   case' inr=>
    rw[ag,an2,an4];refine⟨fun g=>absurd g (show ¬ (m:Int)>c by omega),fun _=>⟨rfl,⟨L,a,m,b,c,c+m,a,m,a,m,c+m - 1⟩,?_,⟨.start (Nat.le_of_lt P),by simp only;omega,t,z⟩,fun y l=>?_⟩⟩
    ·simp only[Ol,show((c+m - 1:Nat):Int)=c+m - 1 by omega,show((c+m:Nat):Int)=c+m by omega]
    have o:a<=y/\y<=m:=by have:a<=y/\y<=y/\y<=m:=l.le;omega
    obtain⟨c1,H,Q⟩:=s _ _ y (.inr ⟨rfl,rfl,by omega⟩) l
   all_goals
    simp only;rw[ay (n:=((c+m:Nat):Int) - y) (by omega) (by omega),show((c+m:Nat):Int) - y=(c+m - y:Nat) by omega];clear l s;obtain⟨e,he⟩: ∃e,e=c+m - y:=⟨_,rfl⟩
    rw[←he] at H Q⊢;have T:c<=e:=by omega
    have J:c<=b:=by omega
    have V:a<=c:=by omega
    have u:=fun M=>u y e M ⟨o.1,o.2,by omega,H⟩ (by omega) Q
    refine ag.2 ⟨fun I=>ag.2 ⟨fun X=>⟨⟨L,y,m,e⟩,rfl,⟨by simpa using I,by simpa using X,by simp only;omega,by simp only[aU];omega⟩,fun M d=>?_⟩,fun X=>?_⟩,fun I=>?_⟩;simp only at d
    rotate_left
    have d:KF y m e L L:= .none (.inr (by simp at I X;omega))
    rotate_left
    have d:KF y m e L L:= .none (.inl (by simp at I;omega))
    rotate_left
    all_goals
     obtain⟨⟨u1,u2,u3,u4⟩,hx⟩:=u _ d;have W:=d.sw.len;have hs:=fu z d.sw.perm;have R:Sw a b L _:=d.sw.mono o.1 H x;refine ag.2 ⟨fun U=>ag.2 ⟨fun g4=>⟨c - a,by omega,⟨_,a,y,c⟩,Prod.ext (by simp only[eW,W]) rfl,⟨⟨⟨by simpa using U,by simpa using g4,by simp only;omega⟩,by simp only;omega,hs,u1,u2⟩,rfl⟩,fun N h=>?_⟩,fun g4=>?_⟩,fun U=>?_⟩;simp only at h
     rotate_left
     have h:Sr a c _ _:=⟨.refl,by simp at g4;rw[show c=y by omega];exact u1⟩
     rotate_left
     have h:Sr a c _ _:=⟨.refl,by simp at U;rw[show a=y by omega];exact u2⟩
     rotate_left
     all_goals
      have hx:=hx _ h.sw;have Z:=h.sw.len;have Y:=fu hs h.sw.perm;have v3:=h.sw.upr u3 (Nat.le_refl _);have v4:=h.sw.upr u4 T;have sw2:=R.trans (h.sw.mono (Nat.le_refl _) J (by omega));refine ag.2 ⟨fun g5=>ag.2 ⟨fun g6=>⟨b - c,by omega,⟨_,c,e,b⟩,Prod.ext (by simp only[eW,Z,W]) rfl,⟨⟨⟨by simpa using g5,by simpa using g6,by simp only;omega⟩,by simp only;omega,Y,v3,v4⟩,rfl⟩,fun O w=>?_⟩,fun g6=>?_⟩,fun g5=>?_⟩;simp only at w
      rotate_left
      have w:Sr c b _ _:=⟨.refl,by simp at g6;rw[show b=e by omega];exact v3⟩
      rotate_left
      have w:Sr c b _ _:=⟨.refl,by simp at g5;rw[show c=e by omega];exact v4⟩
      rotate_left
      all_goals exact B _ ⟨sw2.trans (w.sw.mono V (Nat.le_refl _) (by omega)),Rr hx h.sw h.up w.sw w.up⟩
theorem ai6 κ: ∀a st K,aX eW fC Nf a st K->bt (Pr κ) 167 a st K:=by
 rintro a st K ⟨x,c,d,b⟩;exact aF.nf _ _ (ae7 _) (ab0 _) _ _ _ K ⟨x,c,⟨d,rfl⟩,b⟩
noncomputable def Ei κ:=(j4 κ).Ee aZ (ai6 _)
def Blk L d N:=∀k,Up L (k*d) (min (k*d+d) N)
def Tw L d q:=∀k,k<q->Up L (k*d) (k*d+d)
theorem TB{L d q N}(b:Tw L d q)(f:Up L (q*d) N)(a:q*d<=N)(e:N<q*d+d):Blk L d N:=by
 intro k;rcases Nat.lt_trichotomy k q with h|rfl|h
 ·exact(b k h).cut (by grind)
 ·grind
 ·intro i j g l c
  have:=Nat.mul_le_mul_right d h
  grind
theorem D6{L M d q N}(c:Tw L d q)(h:Sw (q*d) N L M)(f:Up M (q*d) (q*d+d)):Tw M d (q+1):=fun k e=>by
 rcases Nat.lt_or_ge k q with a|a
 ·have b:=Nat.mul_le_mul_right d a
  rw[Nat.succ_mul] at b;exact h.upl (c k a) b
 grind
theorem Ix{L M d q N}(c:Tw L d q)(h:Sw (q*d) N L M)(g:Up M (q*d) N)(e:q*d<=N)(f:N<q*d+d):Blk M d N:=
 TB (fun k a=>by
  have b:=Nat.mul_le_mul_right d a;rw[Nat.succ_mul] at b;exact h.upl (c k a) b) g e f
theorem xTa κ L(N a b:Nat) I n K:(vc (Ei κ).E 12 128 none 1 (ah (Pr κ).toProgram 128 2) (sp 63 [(0, .ax 0 0 L.length),(1, .int N),(2,oE),(6, .int 20),(7, .int a),(8, .int b)] [jR L]) (bh (Ei κ).E 128 2 1 I n K))=(
 letI c:=AV.int
 an (decide ((↑b:Int)<=(↑N:Int))) (∃(a_1:VK),([AV.ax 0 0 L.length,c (↑a:Int),c (↑b:Int),AV.bp 54 []],[Obj.row 70 (rws L)])=UR
 a_1/\F3 a_1/\∀(y:RL),(Sw a_1.a a_1.b a_1.L y/\∀(i j:Nat),a_1.a<=i->i<j->j<a_1.b->bC (rat y i) (rat y j)<=(0:Int))->∃(m:Nat),m
 <n/\I m (sp 63 [(0,AV.ax 0 0 L.length),(1,c (↑N:Int)),(2,AV.bp 54 []),(6,c 20),(7,c (↑b:Int)),(8,c (IntKind.wrap
 IntKind.i64 ((↑b:Int)+(20:Int))))] [Obj.row 70 (rws y)])) (K (Exit.exit 0) (sp 63 [(0,AV.ax 0 0 L.length),(1,c (↑N:Int)),(2,AV.bp 54 []),
 (6,c 20),(7,c (↑a:Int))] [Obj.row 70 (rws L)]))):=by kernel_rfl
structure ZJ where
 L0:RL
 L:RL
 q:Nat
abbrev U1(x:ZJ):=sp 63 [(0, .ax 0 0 x.L.length),(1, .int x.L0.length),(2,oE),(6, .int 20),(7, .int (x.q*20:Nat)),(8, .int (x.q*20+20:Nat))] [jR x.L]
def WB(x:ZJ):=Sw 0 x.L0.length x.L0 x.L/\Tw x.L 20 x.q/\x.q*20<=x.L0.length/\x.L0.length<=100000000/\fz x.L0
def Yd(x:ZJ):Out (Exit×S):= .all (fun r:Nat×RL=>Sw 0 x.L0.length x.L0 r.2/\Tw r.2 20 r.1/\r.1*20<=x.L0.length/\x.L0.length<r.1*20+20) fun r=> .one (.exit 0,sp 63 [(0, .ax 0 0 r.2.length),(1, .int x.L0.length),(2,oE),(6, .int 20),(7, .int (r.1*20:Nat))] [jR r.2])
theorem lTa κ:aP (Ei κ).E 12 128 2 (aI 1 U1 WB Yd):=by
 refine aD (fun x=>x.L0.length - x.q*20) ?_;rintro⟨e,L,q⟩ K ⟨a,b,i,g,c⟩ f;simp only at a b i g c;rw[show(Ei κ).E.P=Pr κ from rfl];refine Eq.mpr (xTa κ L e.length (q*20) (q*20+20) _ _ K) ?_;have l:=a.len;rw[ag,an2,an4];refine⟨fun h=>⟨⟨L,q*20,q*20+20⟩,rfl,⟨by simp only;omega,by simp only;omega,by simp only;omega,fu c a.perm⟩,fun M k=>?_⟩,fun h=>?_⟩
 ·obtain⟨d,j⟩:Sw (q*20) (q*20+20) L M/\Up M (q*20) (q*20+20):=k
  rw[ay (n:=((q*20+20:Nat):Int)+20) (by omega) (by omega)];refine⟨_,?_,⟨e,M,q+1⟩,?_,⟨a.trans (d.mono (by omega) (by omega) (by omega)),D6 b d j,by simp only;omega,g,c⟩,rfl,f⟩
  ·simp only;omega
  ·simp only[U1]
   rw[d.len,show(q+1)*20=q*20+20 by omega];rfl
 ·exact f (q,L) ⟨a,b,i,by simp only;omega⟩
noncomputable def Th κ:=(Ei κ).loop (lTa _)
theorem xTb κ L(N bs a b:Nat) I n K:(vc (Th κ).E 12 128 none 1 (ah (Pr κ).toProgram 128 9) (sp 63 [(0, .ax 0 0 L.length),(1, .int N),(2,oE),(6, .int bs),(7, .int a),(8, .int b)] [jR L]) (bh (Th κ).E 128 9 1 I n K))=(
 letI c:=IntKind.wrap IntKind.i64
 letI d:=AV.int
 an (decide ((↑b:Int)<=(↑N:Int))) (∃(e2:iY),([AV.ax 0 0 L.length,d (↑a:Int),d (c ((↑a:Int)+(↑bs:Int))),
 d (↑b:Int),AV.bp 54 []],[Obj.row 70 (rws L)])=eW e2/\fC e2/\∀(e1:RL),Sr e2.a e2.b e2.L e1->∃(e0:Nat),e0<n/\I e0 (sp 63 [(0,AV.ax 0 0
 L.length),(1,d (↑N:Int)),(2,AV.bp 54 []),(6,d (↑bs:Int)),(7,d (↑b:Int)),(8,d (c ((↑b:Int)+
 c ((2:Int)*(↑bs:Int)))))] [Obj.row 70 (rws e1)])) (K (Exit.exit 4) (sp 63 [(0,AV.ax 0 0 L.length),(1,d (↑N:Int)),(2,
 AV.bp 54 []),(6,d (↑bs:Int)),(7,d (↑a:Int))] [Obj.row 70 (rws L)]))):=by kernel_rfl
structure ZK where
 L0:RL
 L:RL
 bs:Nat
 q:Nat
abbrev Rd(x:ZK):=sp 63 [(0, .ax 0 0 x.L.length),(1, .int x.L0.length),(2,oE),(6, .int x.bs),(7, .int (x.q*(2*x.bs):Nat)),(8, .int (x.q*(2*x.bs)+2*x.bs:Nat))] [jR x.L]
structure Lj(x:ZK):Prop where
 sw:Sw 0 x.L0.length x.L0 x.L
 w:Tw x.L (2*x.bs) x.q
 le:x.q*(2*x.bs)<=x.L0.length
 b:0<x.bs/\x.bs<x.L0.length
 l:x.L0.length<=100000000
 s:fz x.L0
 r: ∀k,2*x.q<=k->Up x.L (k*x.bs) (min (k*x.bs+x.bs) x.L0.length)
def Ye(x:ZK):Out (Exit×S):= .all (fun r:Nat×RL=>Lj ⟨x.L0,r.2,x.bs,r.1⟩/\x.L0.length<r.1*(2*x.bs)+2*x.bs) fun r=> .one (.exit 4,sp 63 [(0, .ax 0 0 r.2.length),(1, .int x.L0.length),(2,oE),(6, .int x.bs),(7, .int (r.1*(2*x.bs):Nat))] [jR r.2])
theorem pB q a:2*q*a=q*(2*a):=by grind
theorem lTb κ:aP (Th κ).E 12 128 9 (aI 1 Rd Lj Ye):=by
 refine aD (fun x=>x.L0.length - x.q*(2*x.bs)) ?_;rintro⟨f,L,a,q⟩ K l t;obtain⟨b,m,o,i,j,d,c⟩:=l;have l:Lj ⟨f,L,a,q⟩:=⟨b,m,o,i,j,d,c⟩
 simp only at b m o i j d c;rw[show(Th κ).E.P=Pr κ from rfl];refine Eq.mpr (xTb κ L f.length a (q*(2*a)) (q*(2*a)+2*a) _ _ K) ?_;have y:=b.len;have p:=c (2*q) (Nat.le_refl _);have r:=c (2*q+1) (by omega);have s:(q+1)*(2*a)=q*(2*a)+2*a:=Nat.succ_mul _ _;have g: ∀k,2*(q+1)<=k->q*(2*a)+2*a<=k*a:=fun k g=>by
  have:=Nat.mul_le_mul_right a g
  rw[pB,s] at this;exact this
 rw[Nat.succ_mul,pB] at r;rw[pB] at p;rw[ag,an2,an4];refine⟨fun h=>?_,fun h=>?_⟩
 ·rw[ay (n:=((q*(2*a):Nat):Int)+a) (by omega) (by omega),ay (n:=2*(a:Int)) (by omega) (by omega),ay (n:=((q*(2*a)+2*a:Nat):Int)+2*a) (by omega) (by omega),show((q*(2*a):Nat):Int)+a=(q*(2*a)+a:Nat) by omega]
  refine⟨⟨L,q*(2*a),q*(2*a)+a,q*(2*a)+2*a⟩,rfl,⟨⟨by simp only;omega,by simp only;omega,by simp only;omega⟩,by simp only;omega,fu d b.perm,p.cut (by simp only;omega),r.cut (by simp only;omega)⟩,fun M v=>?_⟩;obtain⟨e,w⟩:Sr (q*(2*a)) (q*(2*a)+2*a) L M:=v;refine⟨_,?_,⟨f,M,a,q+1⟩,?_,⟨b.trans (e.mono (by omega) (by omega) (by omega)),D6 m e w,by simp only;omega,i,j,d,fun k u=>e.upr (c k (by simp only at u;omega)) (g k u)⟩,rfl,t⟩
  ·simp only;omega
  ·simp only[Rd]
   rw[e.len,s];rfl
 ·exact t (q,L) ⟨l,by simp only;omega⟩
noncomputable def Ti κ:=(Th κ).loop (lTb _)
theorem ak6 κ L(N bs:Nat) I n K:(vc (Ti κ).E 12 128 none 1 (ah (Pr κ).toProgram 128 7) (sp 63 [(0, .ax 0 0 L.length),(1, .int N),(2,oE),(6, .int bs)] [jR L]) (bh (Ti κ).E 128 7 1 I n K))=(
 letI a:=IntKind.wrap IntKind.i64
 letI b:=AV.int
 letI c:=Obj.row
 letI e:=Pg.toProgram (Env.P (EB.E (Th κ)))
 an (decide ((↑bs:Int)<(↑N:Int))) (ah e 128 9=ah e 128 9/\∃(e4:ZK),letI h:=Value.int IntKind.i64 (a ((↑(e4.bs):Int)*(2:Int)));letI d:=e4.L0.length;sp 63 [(0,AV.ax 0 0 L.length),(1,b (↑N:Int)),(2,AV.bp 54 []),(6,b (↑bs:Int)),(7,b 0),(8,b (a ((2:Int)*(↑bs:Int))))] [c 70 (rws L)]=Rd e4/\Lj e4/\∀(e3:Nat×RL),letI f:=[(0,AV.ax 0 0 e3.2.length),(1,b (↑d:Int)),(2,AV.bp 54 []),(6,AV.lit h)];letI g:=(↑(e3.1*(2*e4.bs)):Int)+(↑(e4.bs):Int);Lj {L0:=e4.L0,L:=e3.2,bs:=e4.bs,q:=e3.1}/\e4.L0.length<e3.1*(2*e4.bs)+2*e4.bs->an (decide (a g<(↑d:Int))) (∃(e2:iY),([AV.ax 0 0 e3.2.length,b (↑(e3.1*(2*e4.bs)):Int),AV.lit (Value.int IntKind.i64 (a g)),b (↑d:Int),AV.bp 54 []],[c 70 (rws e3.2)])=eW e2/\fC e2/\∀(e1:RL),Sr e2.a e2.b e2.L e1->∃(e0:Nat),e0<n/\I e0 (sp 63 f [c 70 (rws e1)])) (∃(e0:Nat),e0<n/\I e0 (sp 63 f [c 70 (rws e3.2)]))) (K (Exit.exit 2) (sp 63 [] [c 70 (rws L)]))):=by kernel_rfl
structure O2 where
 L0:RL
 L:RL
 bs:Nat
abbrev DP(x:O2):=sp 63 [(0, .ax 0 0 x.L.length),(1, .int x.L0.length),(2,oE),(6, .int x.bs)] [jR x.L]
def Lk(x:O2):=Sw 0 x.L0.length x.L0 x.L/\Blk x.L x.bs x.L0.length/\(0<x.bs/\x.bs<=200000000)/\x.L0.length<=100000000/\fz x.L0
def Uq(x:O2):Out (Exit×S):= .all (fun M=>Sw 0 x.L0.length x.L0 M/\Up M 0 x.L0.length) fun M=> .one (.exit 2,sp 63 [] [jR M])
theorem ag8 κ:aP (Ti κ).E 12 128 7 (aI 1 DP Lk Uq):=by
 refine aD (fun x=>x.L0.length - x.bs) ?_;rintro⟨b,L,a⟩ K ⟨i,j,z,m,g⟩ l;simp only at i j z m g;rw[show(Ti κ).E.P=Pr κ from rfl];refine Eq.mpr (ak6 κ L b.length a _ _ K) ?_;have D:=i.len;rw[ag,an2,an4];refine⟨fun h=>?_,fun h=>?_⟩
 ·rw [ay (n:=2*(a:Int)) (by omega) (by omega)]
  refine⟨rfl,⟨b,L,a,0⟩,?_,⟨i,fun k y=>absurd y (Nat.not_lt_zero k),by simp only;omega,by simp only;omega,m,g,fun k _=>j k⟩,fun r w=>?_⟩
  ·simp only[Rd]
   rw[show 0*(2*a)+2*a=2*a by omega,show 0*(2*a)=0 by omega];rfl
  ·obtain⟨q,M⟩:=r
   obtain⟨⟨f,t,u,A,B,v,m7⟩,m8⟩:=w;simp only at f t u A B v m7 m8;have F:=f.len;have o:=m7 (2*q) (Nat.le_refl _);have s:=m7 (2*q+1) (by omega);rw[Nat.succ_mul,pB] at s;rw[pB] at o;simp only;rw[ay (n:=(a:Int)*2) (by omega) (by omega),ay (n:=((q*(2*a):Nat):Int)+a) (by omega) (by omega),show((q*(2*a):Nat):Int)+a=(q*(2*a)+a:Nat) by omega];have d: ∀X:RL,Sw (q*(2*a)) b.length M X->Up X (q*(2*a)) b.length->Lk ⟨b,X,2*a⟩:=fun X c p=>
    ⟨f.trans (c.mono (by omega) (Nat.le_refl _) (by omega)),Ix t c p u m8,by simp only;omega,m,g⟩
   rw[ag,an2,an4];refine⟨fun e=>?_,fun e=>?_⟩
   ·refine⟨⟨M,q*(2*a),q*(2*a)+a,b.length⟩,rfl,⟨⟨by simp only;omega,by simp only;omega,by simp only;omega⟩,by simp only;omega,fu g f.perm,o.cut (by simp only;omega),s.cut (by simp only;omega)⟩,fun X C=>?_⟩
    obtain⟨c,p⟩:Sr (q*(2*a)) b.length M X:=C;refine⟨_,?_,⟨b,X,2*a⟩,?_,d X c p,rfl,l⟩
    ·simp only;omega
    ·simp only[DP]
     rw[c.len,show((2*a:Nat):Int)=(a:Int)*2 by omega]
   ·refine⟨_,?_,⟨b,M,2*a⟩,?_,d M .refl (o.cut (by omega)),rfl,l⟩
    ·simp only;omega
    ·simp only[DP]
     rw[show((2*a:Nat):Int)=(a:Int)*2 by omega]
 ·exact l L ⟨i,by
   have:=j 0
   rw[Nat.zero_mul] at this;exact this.cut (show b.length<=min (0+a) b.length by omega)⟩
noncomputable def BTc κ:=(Ti κ).loop (ag8 _)
theorem am6 κ L K:(a8 (BTc κ).E 12 128 [.ax 0 0 L.length, .int L.length,oE] [jR L] K)=(
 letI a:=AV.int
 letI b:=Obj.row
 letI c:=Pg.toProgram (Env.P (EB.E (Ei κ)))
 letI d:=Pg.toProgram (Env.P (EB.E (Ti κ)))
 ah c 128 2=ah c 128 2/\∃(e7:ZJ),sp 63 [(0,AV.ax 0 0 L.length),(1,a (↑(L.length):Int)),(2,AV.bp 54 []),(6,a 20),(7,a 0),(8,
 a 20)] [b 70 (rws L)]=U1 e7/\WB e7/\∀(e6:Nat×RL),Sw 0 e7.L0.length e7.L0 e6.2/\(∀(e2:Nat),e2<e6.1->∀(e1 e0:Nat),e2*20<=e1->
 e1<e0->e0<e2*20+20->bC (rat e6.2 e1) (rat e6.2 e0)<=(0:Int))/\e6.1*20<=e7.L0.length/\e7.L0.length<e6.1*20+20->∃(e5:VK),([AV.ax 0 0
 e6.2.length,a (↑(e6.1*20):Int),a (↑(e7.L0.length):Int),AV.bp 54 []],[b 70 (rws e6.2)])=UR e5/\F3 e5/\∀(e4:RL),(Sw e5.a e5.b
 e5.L e4/\∀(e1 e0:Nat),e5.a<=e1->e1<e0->e0<e5.b->bC (rat e4 e1) (rat e4 e0)<=(0:Int))->ah d 128 7=ah d 128 7/\∃(e3:O2),sp 63 [(0,AV.ax
 0 0 e6.2.length),(1,a (↑(e7.L0.length):Int)),(2,AV.bp 54 []),(6,a 20)] [b 70 (rws e4)]=DP e3/\Lk e3/\∀(e2:RL),(Sw 0 e3.L0.length
 e3.L0 e2/\∀(e1 e0:Nat),0<=e1->e1<e0->e0<e3.L0.length->bC (rat e2 e1) (rat e2 e0)<=(0:Int))->K (AV.aK []) [b 70 (rws e2)]):=by kernel_rfl
def Sv L:=([.ax 0 0 L.length, .int L.length,oE],[jR L])
def qa L:=L.length<=100000000/\fz L
def FC(L:RL):Out (AV×List Dn.Obj):= .all (fun M=>M.Perm L/\Up M 0 L.length) fun M=> .one (.aK [],[jR M])
theorem ab2 κ:bq (BTc κ).E 12 128 (aX Sv qa FC):=by
 refine a7 ?_;rintro L K ⟨f,c⟩ m;refine Eq.mpr (am6 κ L K) ?_;refine⟨rfl,⟨L,L,0⟩,rfl,⟨.refl,fun k i=>absurd i (Nat.not_lt_zero k),by simp only;omega,f,c⟩,fun r n=>?_⟩;obtain⟨q,M⟩:=r;obtain⟨a,g,b,e⟩:=n;simp only at a g b e;have o:=a.len;refine⟨⟨M,q*20,L.length⟩,rfl,⟨b,by simp only;omega,by simp only;omega,fu c a.perm⟩,fun X l=>?_⟩;obtain⟨d,j⟩:Sw (q*20) L.length M X/\Up X (q*20) L.length:=l;refine⟨rfl,⟨L,X,20⟩,?_,⟨a.trans (d.mono (by omega) (Nat.le_refl _) (by omega)),Ix g d j b e,by simp only;omega,f,c⟩,fun Y h=>m Y ⟨h.1.perm,h.2⟩⟩;simp only[DP];rw[d.len];rfl
noncomputable def ZM κ:=(BTc κ).call (ab2 _)
theorem am7 κ L K:(a8 (ZM κ).E 12 79 [.ax 0 0 L.length,oE] [jR L] K)=(
 ∃(a:RL),([AV.ax 0 0 L.length,AV.int (↑(L.length):Int),AV.bp 54 []],[Obj.row 70 (rws L)])=Sv a/\qa a/\∀(y:RL),(List.Perm y a/\∀(i j:
 Nat),0<=i->i<j->j<a.length->bC (rat y i) (rat y j)<=(0:Int))->K (AV.aK []) [Obj.row 70 (rws y)]):=by kernel_rfl
def DQ L:=([.ax 0 0 L.length,oE],[jR L])
theorem ab3 κ:bq (ZM κ).E 12 79 (aX DQ qa FC):=by
 refine a7 ?_;rintro L K b a;exact Eq.mpr (am7 _ L K) ⟨L,rfl,b,a⟩
theorem ai7 κ: ∀a st K,aX DQ qa FC a st K->bt (Pr κ) 79 a st K:=fun a st K h=>cZ (ZM _).ok (ZM _).mono (ab3 _ _ _ K h)
def dS(xs:List AV):RL:=xs.map aa
theorem kB xs:(dS xs).length=xs.length:=by simp[dS]
theorem sD: ∀xs i,rat (dS xs) i=aa (nth xs i)
 |[],i=>by rfl
 |x::xs,0=>rfl
 |x::xs,i+1=>by
  have:=sD xs i
  grind [rat,dS,nth]
theorem lY: ∀L,dS (rws L)=L
 |[]=>rfl
 |r::L=>by
  have:=lY L
  simp only[dS,ao9] at this⊢;rw[this];rfl
theorem yCr κ l K:(a8 (OU κ).E 12 39 [.ad 72 l] [] K)=(
 (My l=true->K (AV.ad 72 []) [])/\aG (decide ((0+l.length+1)*33<=70368744177664)) (K (AV.ad 72 (List.take (0+l.length) (List.drop 0 ([]++l)))) [])):=by kernel_rfl
def Q5(l:List AV):List AV×List Dn.Obj:=([.ad 72 l],[])
def XG(l:List AV):Out (AV×List Dn.Obj):= .one (.ad 72 l,[])
theorem cCr κ:bq (OU κ).E 12 39 (aX Q5 (fun l=>l.length<=100000000) XG):=by
 refine a7 ?_;rintro l K h a;refine Eq.mpr (yCr _ l K) ⟨fun e=>?_,ai.2 ⟨by grind,?_⟩⟩
 ·cases l with
  |nil=>exact a
  |cons=>cases e
 ·rw[List.nil_append,ao2,Nat.zero_add,List.take_length]
  exact a
noncomputable def SM κ:=(((OU κ).call (cCr _)).CV [39]).calm [39]
def dr:RL->Bool
 |[]=>true
 |[_]=>true
 |a::b::l=>decide (bC a b<0)&&dr (b::l)
theorem xRi κ xs(i:Nat) I n K:(vc (SM κ).E 12 37 none 0 (ah (Pr κ).toProgram 37 2) (sp 21 [(0, .ad 70 xs),(3, .int i)] []) (bh (SM κ).E 37 2 0 I n K))=(
 letI a:=IntKind.wrap IntKind.i64
 letI b:=(↑i:Int) - (1:Int)
 letI c:=aa (nth xs (Int.toNat (a b)))
 letI d:=(↑i:Int)<(↑(xs.length):Int)
 an (decide d) (aG (decide ((0:Int)<=a b)&&decide (a b<(↑(xs.length):Int))) (aG (true&&decide d) (aG
 (decide (List.length c<=9223372036854775807)) (an (decide (bC c (aa (nth xs (Int.toNat (↑i:Int))))>=(0:Int))) (K Exit.ret (sp 21 [(2,AV.bool false)]
 [])) (∃(e0:Nat),e0<n/\I e0 (sp 21 [(0,AV.ad 70 xs),(3,AV.int (a ((↑i:Int)+(1:Int))))] [])))))) (K (Exit.exit 0) (sp 21 []
 []))):=by kernel_rfl
theorem J2{L i}(b:1<=i)(a:i<L.length):dr (L.drop (i - 1))=(decide (bC (rat L (i - 1)) (rat L i)<0)&&dr (L.drop i)):=by
 grind [List.drop_eq_getElem_cons,dr,yO]
theorem Nq{L:RL}{i}(h:L.length<=i):dr (L.drop (i - 1))=true:=by
 rcases Nat.lt_or_ge _ _ with a|a
 ·rw[ao3 a,ao0 (by omega)];rfl
 ·rw[ao0 a];rfl
def eE(xs:List _):=decide (xs.length<=100000000)&&xs.all fun x=>decide ((aa x).length<=100000000)
theorem nu{xs}(h:eE xs=true) i:(aa (nth xs i)).length<=100000000:=by
 simp[eE] at h;rcases Nat.lt_or_ge i xs.length with a|a
 ·grind [aJ]
 ·rw[iF _ _ a];exact Nat.zero_le _
theorem jW{xs}(h:eE xs=true):xs.length<=100000000:=by
 grind [eE]
structure ARi where
 xs:List AV
 i:Nat
abbrev Y8(x:ARi):=sp 21 [(0, .ad 70 x.xs),(3, .int x.i)] []
def Nc(x:ARi):Out (Exit×S):= .an (dr ((dS x.xs).drop (x.i - 1))) (.one (.exit 0,sp 21 [] [])) (.one (.ret,sp 21 [(2, .bool false)] []))
theorem lRi κ:aP (SM κ).E 12 37 2 (aI 0 Y8 (fun x=>1<=x.i/\eE x.xs=true) Nc):=by
 refine aD (fun x=>x.xs.length - x.i) ?_;rintro⟨xs,i⟩ K ⟨c,b⟩ a;simp only at c b;rw[show(SM κ).E.P=Pr κ from rfl];refine Eq.mpr (xRi κ xs i _ _ K) ?_;have d:=jW b;simp only[Nc,Out.run,ag] at a;rw[ag,an2,an4];refine⟨fun h=>?_,fun h=>?_⟩
 ·rw[ay (n:=(i:Int) - 1) (by omega) (by omega),ay (n:=(i:Int)+1) (by omega) (by omega),show((i:Int) - 1).toNat=i - 1 by omega,Int.toNat_natCast,←sD,←sD]
  rw[J2 c (by rw[kB];omega)] at a;have f:=nu b (i - 1);refine ai.2 ⟨by simp;omega,ai.2 ⟨by simp;omega,ai.2 ⟨by rw[sD,an2];omega,ag.2 ⟨fun e=>a.2 ?_,fun e=>?_⟩⟩⟩⟩
  ·grind
  ·have e:bC (rat (dS xs) (i - 1)) (rat (dS xs) i)<0:=by simpa using e
   rw[an8 e,ao7] at a;refine⟨_,?_,⟨xs,i+1⟩,rfl,⟨by simp only;omega,b⟩,rfl,?_⟩
   ·simp only;omega
   ·simp only[Nc,Out.run,ag,Nat.add_sub_cancel]
    exact a
 ·exact a.1 (Nq (by rw[kB];omega))
noncomputable def BRi κ:=(SM κ).loop (lRi _)
theorem yRi κ xs K:(a8 (BRi κ).E 12 37 [.ad 70 xs] [] K)=(
 letI a:=Pg.toProgram (Env.P (EB.E (SM κ)))
 ah a 37 2=ah a 37 2/\∃(e0:ARi),sp 21 [(0,AV.ad 70 xs),(3,AV.int 1)] []=Y8 e0/\(1<=e0.i/\eE e0.xs=true)/\an (dr (List.drop (e0.i - 1) (dS
 e0.xs))) (K (AV.bool true) []) (K (AV.bool false) [])):=by kernel_rfl
def gRi:List AV->Option (Bool×AV)
 |[.ad 70 xs]=>some (eE xs, .bool (dr (dS xs)))
 |_=>none
theorem pRi κ:cg (BRi κ).E 12 37 gRi:=by
 intro b x a;unfold gRi at a;split at a
 ·rename_i xs
  simp only[an5,ao1] at a;obtain⟨c,rfl⟩:=a;refine⟨_,rfl,rfl,Eq.mpr (yRi κ xs _) ⟨rfl,⟨xs,1⟩,rfl,by grind,?_⟩⟩
  simp_all[ag]
 ·cases a
noncomputable def Vq κ:=EB.L2 ((BRi κ).pure (pRi _)) [37]
theorem xRc κ xs L(i:Nat) I n K:(vc (Vq κ).E 12 55 none 0 (ah (Pr κ).toProgram 55 3) (sp 19 [(3, .ax 0 0 L.length),(6, .ad 70 xs),(7, .int xs.length),(8, .int i)] [.row 70 (rws L)]) (bh (Vq κ).E 55 3 0 I n K))=(
 letI a:=(↑i:Int)<(↑(xs.length):Int)
 an (decide a) (aG (true&&decide a) (∃(e1:List AV),([AV.ad 72 (aa (nth xs (Int.toNat (↑i:Int))))],[])=Q5 e1/\e1.length<=100000000/\aG (decide
 ((L.length+1+1)*25<=70368744177664)) (∃(e0:Nat),e0<n/\I e0 (sp 19 [(3,AV.ax 0 0 (L.length+1)),(6,AV.ad 70 xs),(7,AV.int (↑(xs.length):
 Int)),(8,AV.int (IntKind.wrap IntKind.i64 ((↑i:Int)+(1:Int))))] [Obj.row 70 (List.take L.length (rws L)++[AV.ad 72 e1])])))) (K (Exit.exit 0) (sp 19
 [(3,AV.ax 0 0 L.length)] [Obj.row 70 (rws L)]))):=by kernel_rfl
abbrev ZG:=List AV×Nat
abbrev UZ(x:ZG):=sp 19 [(3, .ax 0 0 ((dS x.1).take x.2).length),(6, .ad 70 x.1),(7, .int x.1.length),(8, .int x.2)] [.row 70 (rws ((dS x.1).take x.2))]
def HT(x:ZG):=x.2<=x.1.length/\eE x.1=true
def Un(x:ZG):Out (Exit×S):= .one (.exit 0,sp 19 [(3, .ax 0 0 (dS x.1).length)] [.row 70 (rws (dS x.1))])
theorem D0 xs i(h:i<xs.length):(dS xs).take (i+1)=(dS xs).take i++[aa (nth xs i)]:=by
 rw[List.take_add_one,ao5 (by grind [kB]),←yO _,sD];rfl
theorem vB L r:rws L++[.ad 72 r]=rws (L++[r]):=by simp
theorem lRc κ:aP (Vq κ).E 12 55 3 (aI 0 UZ HT Un):=by
 refine aD (fun x=>x.1.length - x.2) ?_;rintro⟨xs,i⟩ K ⟨d,a⟩ c;simp only at d a;refine Eq.mpr (xRc κ xs ((dS xs).take i) i _ _ K) ?_;have f:=jW a;rw[ag,an2,an4];refine⟨fun h=>?_,fun h=>?_⟩
 ·have b:i<xs.length:=by omega
  rw[ay (n:=(i:Int)+1) (by omega) (by omega),Int.toNat_natCast];have e:((dS xs).take i).length<=100000000:=by grind
  refine ai.2 ⟨by simp;omega,aa (nth xs i),rfl,nu a i,ai.2 ⟨by rw[an2];omega,_,?_,(xs,i+1),?_,⟨b,a⟩,rfl,c⟩⟩
  ·simp only;omega
  ·simp only[UZ]
   rw[D0 xs i b,←fq,List.take_length,vB,ao6,fq];rfl
 ·have b:(dS xs).take i=dS xs:=List.take_of_length_le (by rw[kB];omega)
  rw[b];exact c
noncomputable def BRk κ:=(Vq κ).loop (lRc _)
theorem yRc κ xs K:(a8 (BRk κ).E 12 55 [.ad 70 xs] [] K)=(
 letI a:=Pg.toProgram (Env.P (EB.E (Vq κ)))
 ah a 55 3=ah a 55 3/\∃(e0:ZG),sp 19 [(3,AV.ax 0 0 0),(6,AV.ad 70 xs),(7,AV.int (↑(xs.length):Int)),(8,AV.int 0)] [Obj.row 70 []]=UZ e0/\HT
 e0/\K (AV.ad 70 (List.take (List.length (dS e0.1)) (List.drop 0 (rws (dS e0.1))))) []):=by kernel_rfl
def UN(xs:List AV):List AV×List Dn.Obj:=([.ad 70 xs],[])
def XH(xs:List AV):Out (AV×List Dn.Obj):= .one (.ad 70 (rws (dS xs)),[])
theorem cCx κ:bq (BRk κ).E 12 55 (aX UN (fun xs=>eE xs=true) XH):=by
 refine a7 ?_;rintro xs K h a;refine Eq.mpr (yRc _ _ K) ⟨rfl,(xs,0),rfl,⟨Nat.zero_le _,h⟩,?_⟩;rw[ao2,←fq,List.take_length];exact a
noncomputable def SN κ:=((BRk κ).call (cCx _)).calm [55]
theorem ak3 κ xs cs vs ds L w(i k:Nat) t I n K:(vc (SN κ).E 12 123 none 0 (ah (Pr κ).toProgram 123 7) (sp 61 [(1, .ad 3 cs),(2, .ad 72 vs),(7, .int w),(8, .ax 0 0 L.length),(10, .ad 72 t),(18, .ad 70 xs),(19, .int xs.length),(20, .int i),(26, .ad 3 ds),(27, .int ds.length),(28, .int k)] [.row 70 (rws L)]) (bh (SN κ).E 123 7 0 I n K))=(
 letI a:=AV.int
 letI b:=AV.ad
 letI d:=K (Exit.exit 1) (sp 61 [(1,b 3 cs),(2,b 72 vs),(7,a w),(8,AV.ax 0 0 L.length),(18,b 70 xs),(19,a (↑(xs.length):
  Int)),(20,a (↑i:Int))] [Obj.row 70 (rws L)])
 letI c:=Int.toNat (↑k:Int)
 letI e:=nth t (Int.toNat (toInt (nth ds c)))
 letI f:=(↑k:Int)<(↑(ds.length):Int)
 an (decide f) (aG (true&&decide f) (an (decide (toInt (nth ds c)<(0:Int))) d (an (decide (toInt (nth ds c)>=(↑(t.length):Int))) d (aG (decide ((0
 :Int)<=toInt (nth ds c))&&decide (toInt (nth ds c)<(↑(t.length):Int))) (aG (true&&decide ((↑k:Int)<(↑(vs.length):Int))) (an (oF (AV.agg
 [AV.bool (Dn.toBool (af e 0)),a (toInt (af e 1)),AV.str (toStr (af e 2))]) (AV.agg [AV.bool (Dn.toBool (af (nth vs c) 0)),a (toInt (af (nth vs
 c) 1)),AV.str (toStr (af (nth vs c) 2))]) != (0:Int)) d (∃(e0:Nat),e0<n/\I e0 (sp 61 [(1,b 3 cs),(2,b 72 vs),(7,a w),(8,AV.ax 0
 0 L.length),(10,b 72 t),(18,b 70 xs),(19,a (↑(xs.length):Int)),(20,a (↑i:Int)),(26,b 3 ds),(27,a (↑(ds.length):
 Int)),(28,a (IntKind.wrap IntKind.i64 ((↑k:Int)+(1:Int))))] [Obj.row 70 (rws L)])))))))) (K (Exit.exit 2) (sp 61 [(1,b 3 cs),(2,b 72
 vs),(7,a w),(8,AV.ax 0 0 L.length),(10,b 72 t),(18,b 70 xs),(19,a (↑(xs.length):Int)),(20,a (↑i:Int))] [Obj.row 70 (rws
 L)]))):=by kernel_rfl
def yy(t:List AV):List AV->List AV->Bool
 |c::a,v::b=>(decide (0<=toInt c)&&decide (toInt c<t.length)&&decide (oF (nth t (toInt c).toNat) v=0))&&yy t a b
 |_,_=>true
theorem zk: ∀t b a,yy t (b.take (min b.length a.length)) a=yy t b a
 |t,[],a=>rfl
 |t,c::b,[]=>by rfl
 |t,c::b,v::a=>by
  have:=zk t b a
  grind [yy]
def k9(L:RL)(b a:List AV):RL:=L.filter fun t=>yy t b a
structure O0 where
 xs:List AV
 cs:List AV
 vs:List AV
 ds:List AV
 L:RL
 w:Nat
 i:Nat
 t:List AV
 k:Nat
abbrev Sq(x:O0):=sp 61 [(1, .ad 3 x.cs),(2, .ad 72 x.vs),(7, .int x.w),(8, .ax 0 0 x.L.length),(10, .ad 72 x.t),(18, .ad 70 x.xs),(19, .int x.xs.length),(20, .int x.i),(26, .ad 3 x.ds),(27, .int x.ds.length),(28, .int x.k)] [.row 70 (rws x.L)]
def HQ(x:O0):=x.k<=x.ds.length/\x.ds.length<=x.vs.length/\x.vs.length<=100000000
def FB(x:O0):Out (Exit×S):= .an (yy x.t (x.ds.drop x.k) (x.vs.drop x.k))
 (.one (.exit 2,sp 61 [(1, .ad 3 x.cs),(2, .ad 72 x.vs),(7, .int x.w),(8, .ax 0 0 x.L.length),(10, .ad 72 x.t),(18, .ad 70 x.xs),(19, .int x.xs.length),(20, .int x.i)] [.row 70 (rws x.L)]))
 (.one (.exit 1,sp 61 [(1, .ad 3 x.cs),(2, .ad 72 x.vs),(7, .int x.w),(8, .ax 0 0 x.L.length),(18, .ad 70 x.xs),(19, .int x.xs.length),(20, .int x.i)] [.row 70 (rws x.L)]))
theorem ag4 κ:aP (SN κ).E 12 123 7 (aI 0 Sq HQ FB):=by
 refine aD (fun x=>x.ds.length - x.k) ?_;rintro⟨xs,l,f,ds,L,w,i,t,k⟩ K ⟨p,m,o⟩ c;simp only at p m o;rw[show(SN κ).E.P=Pr κ from rfl];refine Eq.mpr (ak3 κ xs l f ds L w i k t _ _ K) ?_;simp only[FB,Out.run,ag] at c;rw[ag,an2,an4];refine⟨fun h=>?_,fun h=>?_⟩
 ·have j:k<ds.length:=by omega
  rw[ao3 j,←aJ _ _ j,ao3 (show k<f.length by omega),←aJ f k (by omega),yy] at c;rw[Int.toNat_natCast];refine ai.2 ⟨by simp;omega,ag.2 ⟨fun e=>c.2 ?_,fun e=>ag.2 ⟨fun d=>c.2 ?_,fun d=>?_⟩⟩⟩
  ·have e:toInt (nth ds k)<0:=by simpa using e
   rw[an6 (by omega),Bool.false_and,Bool.false_and,Bool.false_and]
  ·grind
  ·have e:0<=toInt (nth ds k):=by simpa using e
   have d:toInt (nth ds k)<t.length:=by simpa using d
   rw[an8 e,an8 d,ao7,ao7] at c;refine ai.2 ⟨by rw[an8 e,an8 d];rfl,ai.2 ⟨by simp;omega,?_⟩⟩;have ev: ∀a b:AV,oF (.agg [.bool (Dn.toBool (af a 0)), .int (toInt (af a 1)), .lit (.string (toStr (af a 2)))]) (.agg [.bool (Dn.toBool (af b 0)), .int (toInt (af b 1)), .lit (.string (toStr (af b 2)))])=oF a b:=fun _ _=>rfl
   rw[ev,ag,bne_iff_ne,bne_eq_false_iff_eq];refine⟨fun g=>c.2 ?_,fun g=>?_⟩
   ·rw[an6 g];rfl
   ·rw[an8 g,ao7] at c
    rw[ay (n:=(k:Int)+1) (by omega) (by omega)];refine⟨_,?_,⟨xs,l,f,ds,L,w,i,t,k+1⟩,rfl,⟨j,m,o⟩,rfl,?_⟩
    ·simp only;omega
    ·simp only[FB,Out.run,ag]
     exact c
 ·rw[ao0 (by omega)] at c
  exact c.1 rfl
noncomputable def S6 κ:=(SN κ).loop (ag4 _)
theorem xMt κ xs cs vs L(w:Nat)(i:Nat) I n K:(vc (S6 κ).E 12 123 none 0 (ah (Pr κ).toProgram 123 4) (sp 61 [(1, .ad 3 cs),(2, .ad 72 vs),(7, .int w),(8, .ax 0 0 L.length),(18, .ad 70 xs),(19, .int xs.length),(20, .int i)] [.row 70 (rws L)]) (bh (S6 κ).E 123 4 0 I n K))=(
 letI a:=AV.int
 letI b:=Obj.row
 letI c:=AV.ad
 letI d:=List.drop 0 (List.take (Int.toNat (↑w:Int)) cs)
 letI e:=(↑i:Int)<(↑(xs.length):Int)
 letI f:=Pg.toProgram (Env.P (EB.E (SN κ)))
 an (decide e) (aG (true&&decide e) (aG (true&&decide ((↑w:Int)<=(↑(cs.length):Int))) (ah f 123 7=ah f 123 7/\∃(e2:O0),letI g:=IntKind.wrap IntKind.i64 ((↑(e2.i):Int)+(1:Int));sp 61 [(1,c 3 cs),(2,c 72 vs),(7,a (↑w:Int)),(8,AV.ax 0 0 L.length),(10,c 72 (aa (nth xs (Int.toNat (↑i:Int))))),(18,c 70 xs),(19,a (↑(xs.length):Int)),(20,a (↑i:Int)),(26,c 3 d),(27,a (↑(List.length d):Int)),(28,a 0)] [b 70 (rws L)]=Sq e2/\HQ e2/\an (yy e2.t (List.drop e2.k e2.ds) (List.drop e2.k e2.vs)) (∃(e1:List AV),([c 72 e2.t],[])=Q5 e1/\e1.length<=100000000/\aG (decide ((e2.L.length+1+1)*25<=70368744177664)) (∃(e0:Nat),e0<n/\I e0 (sp 61 [(1,c 3 e2.cs),(2,c 72 e2.vs),(7,a (↑(e2.w):Int)),(8,AV.ax 0 0 (e2.L.length+1)),(18,c 70 e2.xs),(19,a (↑(e2.xs.length):Int)),(20,a g)] [b 70 (List.take e2.L.length (rws e2.L)++[c 72 e1])]))) (∃(e0:Nat),e0<n/\I e0 (sp 61 [(1,c 3 e2.cs),(2,c 72 e2.vs),(7,a (↑(e2.w):Int)),(8,AV.ax 0 0 e2.L.length),(18,c 70 e2.xs),(19,a (↑(e2.xs.length):Int)),(20,a g)] [b 70 (rws e2.L)]))))) (K (Exit.exit 0) (sp 61 [(8,AV.ax 0 0 L.length)] [b 70 (rws L)]))):=by kernel_rfl
structure KE where
 xs:List AV
 cs:List AV
 vs:List AV
 i:Nat
def KE.L(x:KE):RL:=k9 ((dS x.xs).take x.i) x.cs x.vs
def KE.w(x:KE):=min x.cs.length x.vs.length
abbrev H9(x:KE):=sp 61 [(1, .ad 3 x.cs),(2, .ad 72 x.vs),(7, .int x.w),(8, .ax 0 0 x.L.length),(18, .ad 70 x.xs),(19, .int x.xs.length),(20, .int x.i)] [.row 70 (rws x.L)]
def HP(x:KE):=x.i<=x.xs.length/\eE x.xs=true/\x.cs.length<=100000000/\x.vs.length<=100000000
def Ul(x:KE):Out (Exit×S):= .one (.exit 0,sp 61 [(8, .ax 0 0 (k9 (dS x.xs) x.cs x.vs).length)] [.row 70 (rws (k9 (dS x.xs) x.cs x.vs))])
theorem lMt κ:aP (S6 κ).E 12 123 4 (aI 0 H9 HP Ul):=by
 refine aD (fun x=>x.xs.length - x.i) ?_;rintro⟨xs,a,b,i⟩ K ⟨l,c,g,f⟩ k;simp only at l c g f;rw[show(S6 κ).E.P=Pr κ from rfl];refine Eq.mpr (xMt κ xs a b (k9 ((dS xs).take i) a b) (min a.length b.length) i _ _ K) ?_;have o:=jW c;rw[ag,an2,an4];refine⟨fun h=>?_,fun h=>?_⟩
 ·have j:i<xs.length:=by omega
  have d:k9 ((dS xs).take (i+1)) a b=k9 ((dS xs).take i) a b++(bif yy (aa (nth xs i)) a b then[aa (nth xs i)] else[]):=by
   rw[D0 xs i j,k9,List.filter_append,←k9];cases e:yy (aa (nth xs i)) a b<;>simp[e]
  have m:(k9 ((dS xs).take i) a b).length<=100000000:=by
   refine Nat.le_trans (List.length_filter_le _ _) ?_;rw[List.length_take,kB];omega
  refine ai.2 ⟨by simp;omega,ai.2 ⟨by simp;omega,?_⟩⟩;rw[Int.toNat_natCast,Int.toNat_natCast,ao2];refine⟨rfl,⟨xs,a,b,a.take (min a.length b.length),k9 ((dS xs).take i) a b,min a.length b.length,i,aa (nth xs i),0⟩,rfl,⟨Nat.zero_le _,by simp only[List.length_take];omega,f⟩,?_⟩;simp only[ao2,zk];rw[ay (n:=(i:Int)+1) (by omega) (by omega)];refine ag.2 ⟨fun e=>?_,fun e=>?_⟩
  ·rw[e,an9] at d
   refine⟨aa (nth xs i),rfl,nu c i,ai.2 ⟨by rw[an2];omega,_,?_,⟨xs,a,b,i+1⟩,?_,⟨j,c,g,f⟩,rfl,k⟩⟩
   ·simp only;omega
   ·simp only[H9,KE.L,KE.w]
    rw[d,←fq,List.take_length,vB,fq,ao6];rfl
  ·rw[e,an7,List.append_nil] at d
   refine⟨_,?_,⟨xs,a,b,i+1⟩,?_,⟨j,c,g,f⟩,rfl,k⟩
   ·simp only;omega
   ·simp only[H9,KE.L,KE.w]
    rw[d];rfl
 ·rw[List.take_of_length_le (by rw[kB];omega)]
  exact k
noncomputable def VU κ:=(S6 κ).loop (lMt _)
theorem am3 κ xs cs vs K:(a8 (VU κ).E 12 123 [.ad 70 xs, .ad 3 cs, .ad 72 vs] [] K)=(
 letI a:=Pg.toProgram (Env.P (EB.E (S6 κ)))
 ah a 123 4=ah a 123 4/\∃(e0:KE),letI b:=k9 (dS e0.xs) e0.cs e0.vs;sp 61 [(1,AV.ad 3 cs),(2,AV.ad 72 vs),(7,AV.int (if(↑(vs.length):Int)<(↑(cs.length):Int) then(↑(vs.length):Int) else(↑(cs.length):Int))),(8,AV.ax 0 0 0),(18,AV.ad 70 xs),(19,AV.int (↑(xs.length):Int)),(20,AV.int 0)] [Obj.row 70 []]=H9 e0/\HP e0/\K (AV.ad 70 (List.take (List.length b) (List.drop 0 (rws b)))) []):=by kernel_rfl
structure AMx where
 xs:List AV
 cs:List AV
 vs:List AV
def aj2(x:AMx):List AV×List Dn.Obj:=([.ad 70 x.xs, .ad 3 x.cs, .ad 72 x.vs],[])
def UD(x:AMx):=eE x.xs=true/\x.cs.length<=100000000/\x.vs.length<=100000000
def X4(x:AMx):Out (AV×List Dn.Obj):= .one (.ad 70 (rws (k9 (dS x.xs) x.cs x.vs)),[])
theorem cMx κ:bq (VU κ).E 12 123 (aX aj2 UD X4):=by
 refine a7 ?_;rintro⟨xs,a,b⟩ K ⟨d,e,f⟩ g;refine Eq.mpr (am3 κ xs a b K) ?_;have c:(if(b.length:Int)<a.length then(b.length:Int) else a.length)=min a.length b.length:=by grind
 rw[c];refine⟨rfl,⟨xs,a,_,0⟩,rfl,⟨Nat.zero_le _,d,e,f⟩,?_⟩;rw[ao2,←fq,List.take_length];exact g
noncomputable def S7 κ:=((VU κ).call (cMx _)).calm [123]
end Go.Proofs.YtioeffnadipbaaaGreatDoor
