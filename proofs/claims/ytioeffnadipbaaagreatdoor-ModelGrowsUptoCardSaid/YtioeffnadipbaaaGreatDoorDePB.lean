import Derived.Test.YtioeffnadipbaaaGreatDoorDePA
namespace Go.Proofs.YtioeffnadipbaaaGreatDoor
open Go Go.Dn Go.Rl Go.Proofs
attribute [local irreducible] a0 vc
set_option maxRecDepth 20000
theorem A5{i j:Nat}(h:i+j<=9223372036854775807):IntKind.wrap .i64 (Int.fdiv (IntKind.wrap .u64 (IntKind.wrap .i64 (i+j))) 2)=((i+j) / 2:Nat):=by
 grind [IntKind.wrap,IntKind.bits,az]
structure yn(P:Nat->Prop)(lo hi i j:Nat):Prop where
 le:lo<=i/\i<=j/\j<=hi
 h1:lo<i->P (i - 1)
 h2:j<hi-> ¬ P j
theorem yn.yes{P lo a i j}(h:yn P lo a i j)(c:i<j)(b:P ((i+j) / 2)):yn P lo a ((i+j) / 2+1) j:=⟨by have:=h.le;omega,fun _=>b,h.h2⟩
theorem yn.no{P lo a i j}(h:yn P lo a i j)(c:i<j)(b: ¬ P ((i+j) / 2)):yn P lo a i ((i+j) / 2):=⟨by have:=h.le;omega,h.h1,fun _=>b⟩
theorem yn.start{P lo a}(h:lo<=a):yn P lo a lo a:=⟨by omega,by simp,by simp⟩
theorem xMa κ L(a i j:Nat) I n K:(vc (kb κ).E 12 167 none 1 (ad (Pr κ).toProgram 167 3) (sp 220 [(0, .ak 0 0 L.length),(1, .int a),(4,oF),(10, .int i),(11, .int j)] [jL L]) (bj (kb κ).E 167 3 1 I n K))=(
 letI b:=IntKind.wrap IntKind.i64
 letI c:=AV.int
 letI d:=Int.fdiv (IntKind.wrap IntKind.u64 (b ((↑i:Int)+(↑j:Int)))) (2:Int)
 letI e:=b d
 letI f:=af (nth (rws L) (0+Int.toNat e))
 aq (decide ((↑i:Int)<(↑j:Int))) (aV (decide ((0:Int)<=b d)&&decide (b d<(↑(L.length):Int))) (aV
 (true&&decide ((↑a:Int)<(↑(L.length):Int))) (aV (decide (List.length f<=9223372036854775807)) (aq (decide (bz f (af (nth (rws L) (0+Int.toNat (↑a:
 Int))))<(0:Int))) (∃(e0:Nat),e0<n/\I e0 (sp 220 [(0,AV.ak 0 0 L.length),(1,c (↑a:Int)),(4,AV.bm 54 []),(10,c (IntKind.wrap
 IntKind.i64 (b d+(1:Int)))),(11,c (↑j:Int))] [Obj.row 70 (rws L)])) (∃(e0:Nat),e0<n/\I e0 (sp 220 [(0,AV.ak 0 0
 L.length),(1,c (↑a:Int)),(4,AV.bm 54 []),(10,c (↑i:Int)),(11,c e)] [Obj.row 70 (rws L)])))))) (K (Exit.exit 0) (sp 220 [(0,AV.ak 0
 0 L.length),(1,c (↑a:Int)),(10,c (↑i:Int))] [Obj.row 70 (rws L)]))):=by kernel_rfl
structure AMa where
 L:RL
 a:Nat
 b:Nat
 i:Nat
 j:Nat
abbrev PMa L a:=fun h=>bz (rat L h) (rat L a)<0
abbrev YC(x:AMa):=sp 220 [(0, .ak 0 0 x.L.length),(1, .int x.a),(4,oF),(10, .int x.i),(11, .int x.j)] [jL x.L]
def Y2(x:AMa):=yn (PMa x.L x.a) (x.a+1) x.b x.i x.j/\x.b<=x.L.length/\x.L.length<=100000000/\fq x.L
def ab4(x:AMa):Out (Exit×S):= .all (fun i=>yn (PMa x.L x.a) (x.a+1) x.b i i) fun i=> .one (.exit 0,sp 220 [(0, .ak 0 0 x.L.length),(1, .int x.a),(10, .int i)] [jL x.L])
theorem lMa κ:aU (kb κ).E 12 167 3 (aG 1 YC Y2 ab4):=by
 refine aC (fun x=>x.j - x.i) ?_;rintro⟨L,a,b,i,j⟩ K ⟨d,g,l,f⟩ k;simp only at d g l f;rw[show(kb κ).E.P=Pr κ from rfl];refine Eq.mpr (xMa κ L a i j _ _ K) ?_;have m:=d.le;rw[ae,ap6,ap8];refine⟨fun h=>?_,fun h=>?_⟩
 ·rw[A5 (by omega),az (n:=(((i+j) / 2:Nat):Int)+1) (by omega) (by omega),fM,fM,show 0+(((i+j) / 2:Nat):Int).toNat=(i+j) / 2 by omega,show 0+((a:Nat):Int).toNat=a by omega]
  have c:i<j:=by omega
  refine ai.2 ⟨by simp;omega,ai.2 ⟨by simp;omega,ai.2 ⟨aq2 (kB f _),ae.2 ⟨fun e=>?_,fun e=>?_⟩⟩⟩⟩
  ·refine⟨_,?_,⟨L,a,b,(i+j) / 2+1,j⟩,rfl,⟨d.yes c (by simpa using e),g,l,f⟩,rfl,k⟩
   simp only;omega
  ·refine⟨_,?_,⟨L,a,b,i,(i+j) / 2⟩,rfl,⟨d.no c (by simpa using e),g,l,f⟩,rfl,k⟩
   simp only;omega
 ·obtain rfl:i=j:=by omega
  exact k i d
theorem xMb κ L(i k:Nat) I n K:(vc (kb κ).E 12 167 none 1 (ad (Pr κ).toProgram 167 9) (sp 220 [(0, .ak 0 0 L.length),(10, .int i),(13, .int k)] [jL L]) (bj (kb κ).E 167 9 1 I n K))=(
 letI a:=IntKind.wrap IntKind.i64
 letI d:=true&&decide ((↑k:Int)<(↑(L.length):Int))
 letI b:=(↑k:Int)+(1:Int)
 letI e:=decide ((0:Int)<=a b)&&decide (a b<(↑(L.length):Int))
 letI c:=a b
 aq (decide ((↑k:Int)<a ((↑i:Int) - (1:Int)))) (aV e (aV d (aV d (aV e (∃(e0:Nat),e0<n/\I e0 (sp 220 [(0,AV.ak 0 0
 L.length),(10,AV.int (↑i:Int)),(13,AV.int c)] [Obj.row 70 (bH (bH (rws L) (0+Int.toNat (↑k:Int)) (AV.ah 72 (af (nth (rws L) (0+Int.toNat c))))) (0
 +Int.toNat c) (AV.ah 72 (af (nth (rws L) (0+Int.toNat (↑k:Int))))))])))))) (K (Exit.exit 2) (sp 220 [] [Obj.row 70 (rws L)]))):=by kernel_rfl
structure AMb where
 L0:RL
 L:RL
 a:Nat
 b:Nat
 i:Nat
 k:Nat
abbrev WZ(x:AMb):=sp 220 [(0, .ak 0 0 x.L.length),(10, .int x.i),(13, .int x.k)] [jL x.L]
def ad1(x:AMb):=Fw x.a x.b x.k x.L0 x.L/\(x.a<=x.k/\x.k+1<=x.i/\x.i<=x.b)/\x.b<=x.L0.length/\x.L0.length<=100000000
def ZB(x:AMb):Out (Exit×S):= .all (fun M=>Fw x.a x.b (x.i - 1) x.L0 M) fun M=> .one (.exit 2,sp 220 [] [jL M])
theorem lMb κ:aU (kb κ).E 12 167 9 (aG 1 WZ ad1 ZB):=by
 refine aC (fun x=>x.i - x.k) ?_;rintro⟨l,L,a,b,i,k⟩ K ⟨c,m,d,g⟩ f;simp only at c m d g;rw[show(kb κ).E.P=Pr κ from rfl];refine Eq.mpr (xMb κ L i k _ _ K) ?_;have o:=c.sw.len;rw[az (n:=(i:Int) - 1) (by omega) (by omega),az (n:=(k:Int)+1) (by omega) (by omega),show(k:Int)+1=(k+1:Nat) by omega,show 0+((k+1:Nat):Int).toNat=k+1 by omega,show 0+(k:Int).toNat=k by omega,vk,ae,ap6,ap8];refine⟨fun h=>?_,fun h=>?_⟩
 ·have j:(decide (0<=((k+1:Nat):Int))&&decide (((k+1:Nat):Int)<L.length))=true:=by simp;omega
  have e:(true&&decide ((k:Int)<L.length))=true:=by simp;omega
  refine ai.2 ⟨j,ai.2 ⟨e,ai.2 ⟨e,ai.2 ⟨j,_,?_,⟨l,swp L k (k+1),a,b,i,k+1⟩,?_,⟨c.step (by omega) d,by simp only;omega,d,g⟩,rfl,f⟩⟩⟩⟩
  ·simp only;omega
  ·simp only[WZ,nf]
 ·obtain rfl:k=i - 1:=by omega
  exact f L c
theorem xMc κ L(m i j:Nat) I n K:(vc (kb κ).E 12 167 none 1 (ad (Pr κ).toProgram 167 15) (sp 220 [(0, .ak 0 0 L.length),(2, .int m),(4,oF),(14, .int i),(15, .int j)] [jL L]) (bj (kb κ).E 167 15 1 I n K))=(
 letI a:=IntKind.wrap IntKind.i64
 letI b:=AV.int
 letI c:=Int.fdiv (IntKind.wrap IntKind.u64 (a ((↑i:Int)+(↑j:Int)))) (2:Int)
 letI d:=af (nth (rws L) (0+Int.toNat (↑m:Int)))
 letI e:=a c
 aq (decide ((↑i:Int)<(↑j:Int))) (aV (true&&decide ((↑m:Int)<(↑(L.length):Int))) (aV (decide ((0:Int)<=a c)&&decide
 (a c<(↑(L.length):Int))) (aV (decide (List.length d<=9223372036854775807)) (aq (!decide (bz d (af (nth (rws L) (0+Int.toNat
 e)))<(0:Int))) (∃(e0:Nat),e0<n/\I e0 (sp 220 [(0,AV.ak 0 0 L.length),(2,b (↑m:Int)),(4,AV.bm 54 []),(14,b (IntKind.wrap
 IntKind.i64 (a c+(1:Int)))),(15,b (↑j:Int))] [Obj.row 70 (rws L)])) (∃(e0:Nat),e0<n/\I e0 (sp 220 [(0,AV.ak 0 0
 L.length),(2,b (↑m:Int)),(4,AV.bm 54 []),(14,b (↑i:Int)),(15,b e)] [Obj.row 70 (rws L)])))))) (K (Exit.exit 4) (sp 220 [(0,AV.ak 0
 0 L.length),(2,b (↑m:Int)),(14,b (↑i:Int))] [Obj.row 70 (rws L)]))):=by kernel_rfl
structure AMc where
 L:RL
 a:Nat
 m:Nat
 i:Nat
 j:Nat
abbrev PMc L m:=fun h=>0<=bz (rat L m) (rat L h)
abbrev XS(x:AMc):=sp 220 [(0, .ak 0 0 x.L.length),(2, .int x.m),(4,oF),(14, .int x.i),(15, .int x.j)] [jL x.L]
def YX(x:AMc):=yn (PMc x.L x.m) x.a x.m x.i x.j/\x.m<x.L.length/\x.L.length<=100000000/\fq x.L
def ad8(x:AMc):Out (Exit×S):= .all (fun i=>yn (PMc x.L x.m) x.a x.m i i) fun i=> .one (.exit 4,sp 220 [(0, .ak 0 0 x.L.length),(2, .int x.m),(14, .int i)] [jL x.L])
theorem lMc κ:aU (kb κ).E 12 167 15 (aG 1 XS YX ad8):=by
 refine aC (fun x=>x.j - x.i) ?_;rintro⟨L,a,m,i,j⟩ K ⟨c,f,k,d⟩ g;simp only at c f k d;rw[show(kb κ).E.P=Pr κ from rfl];refine Eq.mpr (xMc κ L m i j _ _ K) ?_;have l:=c.le;rw[ae,ap6,ap8];refine⟨fun h=>?_,fun h=>?_⟩
 ·rw[A5 (by omega),az (n:=(((i+j) / 2:Nat):Int)+1) (by omega) (by omega),fM,fM,show 0+(((i+j) / 2:Nat):Int).toNat=(i+j) / 2 by omega,show 0+((m:Nat):Int).toNat=m by omega]
  have b:i<j:=by omega
  refine ai.2 ⟨by simp;omega,ai.2 ⟨by simp;omega,ai.2 ⟨aq2 (kB d _),ae.2 ⟨fun e=>?_,fun e=>?_⟩⟩⟩⟩
  ·refine⟨_,?_,⟨L,a,m,(i+j) / 2+1,j⟩,rfl,⟨c.yes b (by simpa using e),f,k,d⟩,rfl,g⟩
   simp only;omega
  ·refine⟨_,?_,⟨L,a,m,i,(i+j) / 2⟩,rfl,⟨c.no b (by simpa using e),f,k,d⟩,rfl,g⟩
   simp only;omega
 ·obtain rfl:i=j:=by omega
  exact g i c
theorem xMq κ L(i k:Nat) I n K:(vc (kb κ).E 12 167 none 1 (ad (Pr κ).toProgram 167 21) (sp 220 [(0, .ak 0 0 L.length),(14, .int i),(17, .int k)] [jL L]) (bj (kb κ).E 167 21 1 I n K))=(
 letI a:=IntKind.wrap IntKind.i64
 letI d:=true&&decide ((↑k:Int)<(↑(L.length):Int))
 letI b:=(↑k:Int) - (1:Int)
 letI e:=decide ((0:Int)<=a b)&&decide (a b<(↑(L.length):Int))
 letI c:=a b
 aq (decide ((↑k:Int)>(↑i:Int))) (aV e (aV d (aV d (aV e (∃(e0:Nat),e0<n/\I e0 (sp 220 [(0,AV.ak 0 0 L.length),(14,AV.int (↑i:Int)),(17,
 AV.int c)] [Obj.row 70 (bH (bH (rws L) (0+Int.toNat (↑k:Int)) (AV.ah 72 (af (nth (rws L) (0+Int.toNat c))))) (0+Int.toNat c) (AV.ah 72 (af (nth (rws
 L) (0+Int.toNat (↑k:Int))))))])))))) (K (Exit.exit 6) (sp 220 [] [Obj.row 70 (rws L)]))):=by kernel_rfl
structure AMq where
 L0:RL
 L:RL
 a:Nat
 m:Nat
 i:Nat
 k:Nat
abbrev ND(x:AMq):=sp 220 [(0, .ak 0 0 x.L.length),(14, .int x.i),(17, .int x.k)] [jL x.L]
def Xt(x:AMq):=Bw x.a x.m x.k x.L0 x.L/\(x.a<=x.i/\x.i<=x.k/\x.k<=x.m)/\x.m<x.L0.length/\x.L0.length<=100000000
def XL(x:AMq):Out (Exit×S):= .all (fun M=>Bw x.a x.m x.i x.L0 M) fun M=> .one (.exit 6,sp 220 [] [jL M])
theorem lMq κ:aU (kb κ).E 12 167 21 (aG 1 ND Xt XL):=by
 refine aC (fun x=>x.k) ?_;rintro⟨j,L,a,m,i,k⟩ K ⟨b,l,c,f⟩ e;simp only at b l c f;refine Eq.mpr (xMq κ L i k _ _ K) ?_;have o:=b.sw.len;rw[ae,ap6,ap8];refine⟨fun h=>?_,fun h=>?_⟩
 ·rw[az (n:=(k:Int) - 1) (by omega) (by omega),show(k:Int) - 1=(k - 1:Nat) by omega,show 0+((k - 1:Nat):Int).toNat=k - 1 by omega,show 0+(k:Int).toNat=k by omega,vk]
  have g:(decide (0<=((k - 1:Nat):Int))&&decide (((k - 1:Nat):Int)<L.length))=true:=by simp;omega
  have d:(true&&decide ((k:Int)<L.length))=true:=by simp;omega
  refine ai.2 ⟨g,ai.2 ⟨d,ai.2 ⟨d,ai.2 ⟨g,_,?_,⟨j,swp L k (k - 1),a,m,i,k - 1⟩,?_,⟨b.step (by omega) c,by simp only;omega,c,f⟩,rfl,e⟩⟩⟩⟩
  ·simp only;omega
  ·simp only[ND,nf]
 ·obtain rfl:k=i:=by omega
  exact e L b
theorem xMe κ L(a m b jC w i j p:Nat) I n K:(vc (kb κ).E 12 167 none 1 (ad (Pr κ).toProgram 167 33) (sp 220 [(0, .ak 0 0 L.length),(1, .int a),(2, .int m),(3, .int b),(4,oF),(18, .int jC),(19, .int w),(20, .int i),(21, .int j),(22, .int p)] [jL L]) (bj (kb κ).E 167 33 1 I n K))=(
 letI c:=IntKind.wrap IntKind.i64
 letI d:=AV.int
 letI e:=Int.fdiv (IntKind.wrap IntKind.u64 (c ((↑i:Int)+(↑j:Int)))) (2:Int)
 letI f:=(↑p:Int) - c e
 letI g:=af (nth (rws L) (0+Int.toNat (c f)))
 letI h:=c e
 aq (decide ((↑i:Int)<(↑j:Int))) (aV (decide ((0:Int)<=c f)&&decide (c f<(↑(L.length):Int))) (aV
 (decide ((0:Int)<=c e)&&decide (c e<(↑(L.length):Int))) (aV (decide (List.length g<=
 9223372036854775807)) (aq (!decide (bz g (af (nth (rws L) (0+Int.toNat h)))<(0:Int))) (∃(e0:Nat),e0<n/\I e0 (sp 220 [(0,AV.ak 0 0 L.length),(1,
 d (↑a:Int)),(2,d (↑m:Int)),(3,d (↑b:Int)),(4,AV.bm 54 []),(18,d (↑jC:Int)),(19,d (↑w:Int)),(20,d
 (c (c e+(1:Int)))),(21,d (↑j:Int)),(22,d (↑p:Int))] [Obj.row 70 (rws L)])) (∃(e0:Nat),
 e0<n/\I e0 (sp 220 [(0,AV.ak 0 0 L.length),(1,d (↑a:Int)),(2,d (↑m:Int)),(3,d (↑b:Int)),(4,AV.bm 54 []),(18,d (↑jC:
 Int)),(19,d (↑w:Int)),(20,d (↑i:Int)),(21,d h),(22,d (↑p:Int))] [Obj.row 70 (rws L)])))))) (K (Exit.exit 8) (sp 220 [(0,
 AV.ak 0 0 L.length),(1,d (↑a:Int)),(2,d (↑m:Int)),(3,d (↑b:Int)),(4,AV.bm 54 []),(18,d (↑jC:Int)),(19,d (↑w:
 Int)),(20,d (↑i:Int))] [Obj.row 70 (rws L)]))):=by kernel_rfl
structure XB where
 L:RL
 a:Nat
 m:Nat
 b:Nat
 jC:Nat
 w:Nat
 lo:Nat
 hi:Nat
 i:Nat
 j:Nat
 p:Nat
abbrev ZM L p:=fun c=>0<=bz (rat L (p - c)) (rat L c)
abbrev Pk(x:XB):=sp 220 [(0, .ak 0 0 x.L.length),(1, .int x.a),(2, .int x.m),(3, .int x.b),(4,oF),(18, .int x.jC),(19, .int x.w),(20, .int x.i),(21, .int x.j),(22, .int x.p)] [jL x.L]
def UE(x:XB):=yn (ZM x.L x.p) x.lo x.hi x.i x.j/\(x.hi<=x.p+1/\x.p<x.lo+x.L.length/\x.hi<=x.L.length)/\x.L.length<=100000000/\fq x.L
def ac4(x:XB):Out (Exit×S):= .all (fun i=>yn (ZM x.L x.p) x.lo x.hi i i) fun i=> .one (.exit 8,sp 220 [(0, .ak 0 0 x.L.length),(1, .int x.a),(2, .int x.m),(3, .int x.b),(4,oF),(18, .int x.jC),(19, .int x.w),(20, .int i)] [jL x.L])
theorem lMe κ:aU (kb κ).E 12 167 33 (aG 1 Pk UE ac4):=by
 refine aC (fun x=>x.j - x.i) ?_;rintro⟨L,a,m,b,c,w,lo,q,i,j,p⟩ K ⟨f,k,l,g⟩ o;simp only at f k l g;rw[show(kb κ).E.P=Pr κ from rfl];refine Eq.mpr (xMe κ L a m b c w i j p _ _ K) ?_;have r:=f.le;rw[ae,ap6,ap8];refine⟨fun h=>?_,fun h=>?_⟩
 ·rw[A5 (by omega),az (n:=(((i+j) / 2:Nat):Int)+1) (by omega) (by omega),az (n:=(p:Int) - ((i+j) / 2:Nat)) (by omega) (by omega),fM,fM,show 0+(((i+j) / 2:Nat):Int).toNat=(i+j) / 2 by omega,show 0+((p:Int) - ((i+j) / 2:Nat)).toNat=p - (i+j) / 2 by omega]
  have d:i<j:=by omega
  refine ai.2 ⟨by simp;omega,ai.2 ⟨by simp;omega,ai.2 ⟨aq2 (kB g _),ae.2 ⟨fun e=>?_,fun e=>?_⟩⟩⟩⟩
  ·refine⟨_,?_,⟨L,a,m,b,c,w,lo,q,(i+j) / 2+1,j,p⟩,rfl,⟨f.yes d (by simpa using e),k,l,g⟩,rfl,o⟩
   simp only;omega
  ·refine⟨_,?_,⟨L,a,m,b,c,w,lo,q,i,(i+j) / 2,p⟩,rfl,⟨f.no d (by simpa using e),k,l,g⟩,rfl,o⟩
   simp only;omega
 ·obtain rfl:i=j:=by omega
  exact o i f
noncomputable def WW κ:=(kb κ).loop (lMa _)
theorem SD κ:Pr κ=(kb κ).E.P:=rfl
noncomputable def W3 κ:=(WW _).AO _ (rfl.trans (SD κ)) (lMb _)
noncomputable def V4 κ:=(W3 _).AO _ (rfl.trans (SD κ)) (lMc _)
noncomputable def Kl κ:=(V4 _).AO _ (rfl.trans (SD κ)) (lMq _)
noncomputable def BMa(κ:Kp):EB:=(Kl κ).AO (kb κ) ((show(Kl κ).E.P=Pr κ from rfl).trans (SD κ)) (lMe κ)
structure js where
 L:RL
 a:Nat
 m:Nat
 b:Nat
def eY(x:js):=([.ak 0 0 x.L.length, .int x.a, .int x.m, .int x.b,oF],[jL x.L])
structure fu(x:js):Prop where
 lt:x.a<x.m/\x.m<x.b/\x.b<=x.L.length
 l:x.L.length<=100000000
 s:fq x.L
 u:Up x.L x.a x.m
 v:Up x.L x.m x.b
def Pf(x:js):Out (AV×List Dn.Obj):= .all (Sr x.a x.b x.L) fun M=> .one (.aH [],[jL M])
def NX n:=aO eY (fun x=>fu x/\x.b - x.a=n) Pf
noncomputable def MH κ r:=(BMa κ).E.aw 167 fun a st K=>∃m,m<r/\NX m a st K
theorem ah7(κ:Kp)(r:Nat)(L:RL)(a m b:Nat) K:(a0 (MH κ r) 12 167 [.ak 0 0 L.length, .int a, .int m, .int b,oF] [jL L] K)=(
 letI c:=IntKind.wrap IntKind.i64
 letI d:=AV.int
 letI e:=Obj.row
 letI f:=AV.aH
 letI g:=AV.ak
 letI h:=AV.bm
 letI S:=Int.fdiv (IntKind.wrap IntKind.u64 (c ((↑a:Int)+(↑b:Int)))) (2:Int)
 letI T:=c S+(↑m:Int)
 letI R:=Pg.toProgram (Env.P (EB.E (Kl κ)))
 letI V:=c (c T - (1:Int))
 letI U:=c S
 letI W:=Pg.toProgram (Env.P (EB.E (kb κ)))
 letI X:=Pg.toProgram (Env.P (EB.E (WW κ)))
 letI Y:=Pg.toProgram (Env.P (EB.E (W3 κ)))
 letI Z:=Pg.toProgram (Env.P (EB.E (V4 κ)))
 letI C:=c T
 aq (c ((↑m:Int) - (↑a:Int))==(1:Int)) (ad W 167 3=ad W 167 3/\∃(e3:AMa),sp 220 [(0,g 0 0 L.length),(1,d (↑a:Int)),(4,h 54 []),(10,d (↑m:Int)),(11,d (↑b:Int))] [e 70 (rws L)]=YC e3/\Y2 e3/\∀(e2:Nat),yn (PMa e3.L e3.a) (e3.a+1) e3.b e2 e2->ad X 167 9=ad X 167 9/\∃(e1:AMb),sp 220 [(0,g 0 0 e3.L.length),(10,d (↑e2:Int)),(13,d (↑(e3.a):Int))] [e 70 (rws e3.L)]=WZ e1/\ad1 e1/\∀(e0:RL),Fw e1.a e1.b (e1.i - 1) e1.L0 e0->K (f []) [e 70 (rws e0)]) (aq (c ((↑b:Int) - (↑m:Int))==(1:Int)) (ad Y 167 15=ad Y 167 15/\∃(e3:AMc),sp 220 [(0,g 0 0 L.length),(2,d (↑m:Int)),(4,h 54 []),(14,d (↑a:Int)),(15,d (↑m:Int))] [e 70 (rws L)]=XS e3/\YX e3/\∀(e2:Nat),yn (PMc e3.L e3.m) e3.a e3.m e2 e2->ad Z 167 21=ad Z 167 21/\∃(e1:AMq),sp 220 [(0,g 0 0 e3.L.length),(14,d (↑e2:Int)),(17,d (↑(e3.m):Int))] [e 70 (rws e3.L)]=ND e1/\Xt e1/\∀(e0:RL),Bw e1.a e1.m e1.i e1.L0 e0->K (f []) [e 70 (rws e0)]) (aq (decide ((↑m:Int)>c S)) (ad R 167 33=ad R 167 33/\∃(e9:XB),letI i:=[e 70 (rws e9.L)];letI s:=K (f []) i;sp 220 [(0,g 0 0 L.length),(1,d (↑a:Int)),(2,d (↑m:Int)),(3,d (↑b:Int)),(4,h 54 []),(18,d U),(19,d C),(20,d (c (c T - (↑b:Int)))),(21,d U),(22,d V)] [e 70 (rws L)]=Pk e9/\UE e9/\∀(e8:Nat),letI t:=(↑(e9.w):Int) - (↑e8:Int);letI D:=c t;letI j:=[g 0 0 e9.L.length,d (↑(e9.jC):Int),d D,d (↑(e9.b):Int),h 54 []];letI k:=decide ((↑(e9.jC):Int)<c t);letI l:=decide (c t<(↑(e9.b):Int));letI E:=[g 0 0 e9.L.length,d (↑(e9.a):Int),d (↑e8:Int),d (↑(e9.jC):Int),h 54 []];letI F:=decide ((↑e8:Int)<(↑(e9.jC):Int));letI G:=decide ((↑(e9.a):Int)<(↑e8:Int));letI H:=aq G (aq F (∃(e5:Nat),e5<r/\∃(e4:js),(E,i)=eY e4/\(fu e4/\e4.b - e4.a=e5)/\∀(e3:RL),letI y:=[e 70 (rws e3)];Sr e4.a e4.b e4.L e3->aq k (aq l (∃(e2:Nat),e2<r/\∃(e1:js),(j,y)=eY e1/\(fu e1/\e1.b - e1.a=e2)/\∀(e0:RL),Sr e1.a e1.b e1.L e0->K (f []) [e 70 (rws e0)]) (K (f []) y)) (K (f []) y)) (aq k (aq l (∃(e2:Nat),e2<r/\∃(e1:js),(j,i)=eY e1/\(fu e1/\e1.b - e1.a=e2)/\∀(e0:RL),Sr e1.a e1.b e1.L e0->K (f []) [e 70 (rws e0)]) s) s)) (aq k (aq l (∃(e2:Nat),e2<r/\∃(e1:js),(j,i)=eY e1/\(fu e1/\e1.b - e1.a=e2)/\∀(e0:RL),Sr e1.a e1.b e1.L e0->K (f []) [e 70 (rws e0)]) s) s);yn (ZM e9.L e9.p) e9.lo e9.hi e8 e8->aq (decide ((↑e8:Int)<(↑(e9.m):Int))) (aq (decide ((↑(e9.m):Int)<c t)) (∃(e7:PW),([g 0 0 e9.L.length,d (↑e8:Int),d (↑(e9.m):Int),d D,h 54 []],i)=Oj e7/\A3 e7/\∀(e6:RL),letI u:=[e 70 (rws e6)];letI I:=aq k (aq l (∃(e2:Nat),e2<r/\∃(e1:js),(j,u)=eY e1/\(fu e1/\e1.b - e1.a=e2)/\∀(e0:RL),Sr e1.a e1.b e1.L e0->K (f []) [e 70 (rws e0)]) (K (f []) u)) (K (f []) u);Ll e7.a e7.b e7.n e7.L e6->aq G (aq F (∃(e5:Nat),e5<r/\∃(e4:js),(E,u)=eY e4/\(fu e4/\e4.b - e4.a=e5)/\∀(e3:RL),letI z:=[e 70 (rws e3)];Sr e4.a e4.b e4.L e3->aq k (aq l (∃(e2:Nat),e2<r/\∃(e1:js),(j,z)=eY e1/\(fu e1/\e1.b - e1.a=e2)/\∀(e0:RL),Sr e1.a e1.b e1.L e0->K (f []) [e 70 (rws e0)]) (K (f []) z)) (K (f []) z)) I) I) H) H) (ad R 167 33=ad R 167 33/\∃(e9:XB),letI n:=[e 70 (rws e9.L)];letI v:=K (f []) n;sp 220 [(0,g 0 0 L.length),(1,d (↑a:Int)),(2,d (↑m:Int)),(3,d (↑b:Int)),(4,h 54 []),(18,d U),(19,d C),(20,d (↑a:Int)),(21,d (↑m:Int)),(22,d V)] [e 70 (rws L)]=Pk e9/\UE e9/\∀(e8:Nat),letI w:=(↑(e9.w):Int) - (↑e8:Int);letI J:=c w;letI o:=[g 0 0 e9.L.length,d (↑(e9.jC):Int),d J,d (↑(e9.b):Int),h 54 []];letI p:=decide ((↑(e9.jC):Int)<c w);letI q:=decide (c w<(↑(e9.b):Int));letI M:=[g 0 0 e9.L.length,d (↑(e9.a):Int),d (↑e8:Int),d (↑(e9.jC):Int),h 54 []];letI N:=decide ((↑e8:Int)<(↑(e9.jC):Int));letI O:=decide ((↑(e9.a):Int)<(↑e8:Int));letI P:=aq O (aq N (∃(e5:Nat),e5<r/\∃(e4:js),(M,n)=eY e4/\(fu e4/\e4.b - e4.a=e5)/\∀(e3:RL),letI A:=[e 70 (rws e3)];Sr e4.a e4.b e4.L e3->aq p (aq q (∃(e2:Nat),e2<r/\∃(e1:js),(o,A)=eY e1/\(fu e1/\e1.b - e1.a=e2)/\∀(e0:RL),Sr e1.a e1.b e1.L e0->K (f []) [e 70 (rws e0)]) (K (f []) A)) (K (f []) A)) (aq p (aq q (∃(e2:Nat),e2<r/\∃(e1:js),(o,n)=eY e1/\(fu e1/\e1.b - e1.a=e2)/\∀(e0:RL),Sr e1.a e1.b e1.L e0->K (f []) [e 70 (rws e0)]) v) v)) (aq p (aq q (∃(e2:Nat),e2<r/\∃(e1:js),(o,n)=eY e1/\(fu e1/\e1.b - e1.a=e2)/\∀(e0:RL),Sr e1.a e1.b e1.L e0->K (f []) [e 70 (rws e0)]) v) v);yn (ZM e9.L e9.p) e9.lo e9.hi e8 e8->aq (decide ((↑e8:Int)<(↑(e9.m):Int))) (aq (decide ((↑(e9.m):Int)<c w)) (∃(e7:PW),([g 0 0 e9.L.length,d (↑e8:Int),d (↑(e9.m):Int),d J,h 54 []],n)=Oj e7/\A3 e7/\∀(e6:RL),letI x:=[e 70 (rws e6)];letI Q:=aq p (aq q (∃(e2:Nat),e2<r/\∃(e1:js),(o,x)=eY e1/\(fu e1/\e1.b - e1.a=e2)/\∀(e0:RL),Sr e1.a e1.b e1.L e0->K (f []) [e 70 (rws e0)]) (K (f []) x)) (K (f []) x);Ll e7.a e7.b e7.n e7.L e6->aq O (aq N (∃(e5:Nat),e5<r/\∃(e4:js),(M,x)=eY e4/\(fu e4/\e4.b - e4.a=e5)/\∀(e3:RL),letI B:=[e 70 (rws e3)];Sr e4.a e4.b e4.L e3->aq p (aq q (∃(e2:Nat),e2<r/\∃(e1:js),(o,B)=eY e1/\(fu e1/\e1.b - e1.a=e2)/\∀(e0:RL),Sr e1.a e1.b e1.L e0->K (f []) [e 70 (rws e0)]) (K (f []) B)) (K (f []) B)) Q) Q) P) P)))):=by kernel_rfl
theorem ao5 κ r(d: ∀a st K,(∃m,m<r/\NX m a st K)->b7 (Pr κ) 167 a st K):aE (MH κ r)/\aj (MH κ r)/\(MH κ r).P=Pr κ:=
 ⟨(BMa _).ok.fT d,(BMa _).mono.aw fun _ _ _ _ c ⟨m,e,b⟩=>⟨m,e,aJ _ _ _ _ c b⟩,rfl⟩
theorem ag1 κ r:bd (MH κ r) 12 167 (NX r):=by
 refine aR ?_;rintro⟨L,a,m,b⟩ K ⟨⟨⟨P,h2,x⟩,t,z,F,E⟩,h8⟩ B;simp only at P h2 x t z F E h8
 replace B: ∀M,Sr a b L M->K (.aH []) [jL M]:=B
 refine Eq.mpr (ah7 κ r L a m b K) ?_;have A:=A5 (i:=a) (j:=b) (by omega);rw[az (n:=(m:Int) - a) (by omega) (by omega),az (n:=(b:Int) - m) (by omega) (by omega),A];obtain⟨c,hm⟩: ∃c,c=(a+b) / 2:=⟨_,rfl⟩
 rw[←hm];rw[az (n:=(c:Int)+m) (by omega) (by omega),az (n:=(c:Int)+m - b) (by omega) (by omega),az (n:=(c:Int)+m - 1) (by omega) (by omega)];rw[ae,beq_iff_eq,beq_eq_false_iff_ne];refine⟨fun e=>?_,fun e=>?_⟩
 ·obtain rfl:m=a+1:=by omega
  refine⟨rfl,⟨L,a,b,a+1,b⟩,rfl,⟨yn.start (show a+1<=b by omega),x,t,z⟩,fun i f=>⟨rfl,⟨L,L,a,b,i,a⟩,rfl,⟨.start a b L,?_,x,t⟩,fun M d=>B M ⟨d.sw,?_⟩⟩⟩
  ·obtain⟨v,_,p⟩:a+1<=i/\i<=i/\i<=b:=f.le
   exact⟨Nat.le_refl _,v,p⟩
  ·obtain⟨v,_,p⟩:a+1<=i/\i<=i/\i<=b:=f.le
   refine Fw.done (L:=L) (M:=M) (i:=i) d ⟨v,p⟩ E (fun q=>?_) (fun q=>?_)
   ·have:bz (rat L (i - 1)) (rat L a)<0:=f.h1 q
    omega
   ·have: ¬ bz (rat L i) (rat L a)<0:=f.h2 q
    rw[bQ.swap (rat L i)];omega
 ·rw [ae,beq_iff_eq,beq_eq_false_iff_ne]
  refine⟨fun e2=>?_,fun e2=>?_⟩
  ·obtain rfl:b=m+1:=by omega
   refine⟨rfl,⟨L,a,m,a,m⟩,rfl,⟨.start (Nat.le_of_lt P),x,t,z⟩,fun i f=>⟨rfl,⟨L,L,a,m,i,m⟩,rfl,⟨.start a m L,?_,x,t⟩,fun M d=>B M ⟨d.sw,?_⟩⟩⟩
   ·obtain⟨v,_,p⟩:a<=i/\i<=i/\i<=m:=f.le
    exact⟨v,p,Nat.le_refl _⟩
   ·obtain⟨v,_,p⟩:a<=i/\i<=i/\i<=m:=f.le
    refine Bw.done (L:=L) (M:=M) (i:=i) d ⟨v,p⟩ F (fun q=>?_) (fun q=>?_)
    ·have:0<=bz (rat L m) (rat L (i - 1)):=f.h1 q
     rw[bQ.swap (rat L m)];omega
    ·have: ¬ 0<=bz (rat L m) (rat L i):=f.h2 q
     omega
  ·have s: ∀lo f y,(lo=c+m - b/\f=c/\c<=m\/lo=a/\f=m/\m<=c)->yn (ZM L (c+m - 1)) lo f y y->y<=c/\c+m - y<=b/\Cut a m b y (c+m - y) L:=fun lo f y q1 l=>by
    have W:=l.le;refine⟨by omega,by omega,⟨fun C D=>?_,fun C D=>?_⟩⟩
    ·have:0<=bz (rat L (c+m - 1 - (y - 1))) (rat L (y - 1)):=l.h1 (by omega)
     rw[show c+m - 1 - (y - 1)=c+m - y by omega,bQ.swap (rat L (y - 1))] at this;omega
    ·have: ¬ 0<=bz (rat L (c+m - 1 - y)) (rat L y):=l.h2 (by omega)
     rw[show c+m - 1 - y=c+m - y - 1 by omega] at this;omega
   have u: ∀y e M,(a<=y/\y<=m/\m<=e/\e<=b)->y+(e - m)=c->Cut a m b y e L->Ll y m e L M->(Up M a y/\Up M y c/\Up M c e/\Up M e b)/\∀N,Sw a c M N->∀k,a<=k->k<c->∀j,c<=j->j<b->bz (rat N k) (rat M j)<=0:=fun y e M C D k3 d=>
    ⟨(Cp C D F E k3 d .refl).2,fun N h=>(Cp C D F E k3 d h).1⟩
   rcases Nat.lt_or_ge c m with q|q
   case' inl=>
    rw[ae,ap6,ap8];refine⟨fun _=>⟨rfl,⟨L,a,m,b,c,c+m,c+m - b,c,c+m - b,c,c+m - 1⟩,?_,⟨yn.start (show c+m - b<=c by omega),by simp only;omega,t,z⟩,fun y l=>?_⟩,fun g=>absurd (show(m:Int)>c by omega) g⟩
    ·simp only[Pk,show((c+m - b:Nat):Int)=c+m - b by omega,show((c+m - 1:Nat):Int)=c+m - 1 by omega,show((c+m:Nat):Int)=c+m by omega]
    have o:a<=y/\y<=m:=by have:c+m - b<=y/\y<=y/\y<=c:=l.le;omega
    obtain⟨c1,H,Q⟩:=s _ _ y (.inl ⟨rfl,rfl,by omega⟩) l
   case' inr=>
    rw[ae,ap6,ap8];refine⟨fun g=>absurd g (show ¬ (m:Int)>c by omega),fun _=>⟨rfl,⟨L,a,m,b,c,c+m,a,m,a,m,c+m - 1⟩,?_,⟨.start (Nat.le_of_lt P),by simp only;omega,t,z⟩,fun y l=>?_⟩⟩
    ·simp only[Pk,show((c+m - 1:Nat):Int)=c+m - 1 by omega,show((c+m:Nat):Int)=c+m by omega]
    have o:a<=y/\y<=m:=by have:a<=y/\y<=y/\y<=m:=l.le;omega
    obtain⟨c1,H,Q⟩:=s _ _ y (.inr ⟨rfl,rfl,by omega⟩) l
   all_goals
    simp only;rw[az (n:=((c+m:Nat):Int) - y) (by omega) (by omega),show((c+m:Nat):Int) - y=(c+m - y:Nat) by omega];clear l s;obtain⟨e,he⟩: ∃e,e=c+m - y:=⟨_,rfl⟩
    rw[←he] at H Q⊢;have T:c<=e:=by omega
    have J:c<=b:=by omega
    have V:a<=c:=by omega
    have u:=fun M=>u y e M ⟨o.1,o.2,by omega,H⟩ (by omega) Q
    refine ae.2 ⟨fun I=>ae.2 ⟨fun X=>⟨⟨L,y,m,e⟩,rfl,⟨by simpa using I,by simpa using X,by simp only;omega,by simp only[aW];omega⟩,fun M d=>?_⟩,fun X=>?_⟩,fun I=>?_⟩;simp only at d
    rotate_left
    have d:Ll y m e L L:= .none (.inr (by simp at I X;omega))
    rotate_left
    have d:Ll y m e L L:= .none (.inl (by simp at I;omega))
    rotate_left
    all_goals
     obtain⟨⟨u1,u2,u3,u4⟩,hx⟩:=u _ d;have W:=d.sw.len;have hs:=fj z d.sw.perm;have R:Sw a b L _:=d.sw.mono o.1 H x;refine ae.2 ⟨fun U=>ae.2 ⟨fun g4=>⟨c - a,by omega,⟨_,a,y,c⟩,Prod.ext (by simp only[eY,W]) rfl,⟨⟨⟨by simpa using U,by simpa using g4,by simp only;omega⟩,by simp only;omega,hs,u1,u2⟩,rfl⟩,fun N h=>?_⟩,fun g4=>?_⟩,fun U=>?_⟩;simp only at h
     rotate_left
     have h:Sr a c _ _:=⟨.refl,by simp at g4;rw[show c=y by omega];exact u1⟩
     rotate_left
     have h:Sr a c _ _:=⟨.refl,by simp at U;rw[show a=y by omega];exact u2⟩
     rotate_left
     all_goals
      have hx:=hx _ h.sw;have Z:=h.sw.len;have Y:=fj hs h.sw.perm;have v3:=h.sw.upr u3 (Nat.le_refl _);have v4:=h.sw.upr u4 T;have sw2:=R.trans (h.sw.mono (Nat.le_refl _) J (by omega));refine ae.2 ⟨fun g5=>ae.2 ⟨fun g6=>⟨b - c,by omega,⟨_,c,e,b⟩,Prod.ext (by simp only[eY,Z,W]) rfl,⟨⟨⟨by simpa using g5,by simpa using g6,by simp only;omega⟩,by simp only;omega,Y,v3,v4⟩,rfl⟩,fun O w=>?_⟩,fun g6=>?_⟩,fun g5=>?_⟩;simp only at w
      rotate_left
      have w:Sr c b _ _:=⟨.refl,by simp at g6;rw[show b=e by omega];exact v3⟩
      rotate_left
      have w:Sr c b _ _:=⟨.refl,by simp at g5;rw[show c=e by omega];exact v4⟩
      rotate_left
      all_goals exact B _ ⟨sw2.trans (w.sw.mono V (Nat.le_refl _) (by omega)),Rs hx h.sw h.up w.sw w.up⟩
theorem al7 κ: ∀a st K,aO eY fu Pf a st K->b7 (Pr κ) 167 a st K:=by
 rintro a st K ⟨x,c,d,b⟩;exact aE.ph _ _ (ao5 _) (ag1 _) _ _ _ K ⟨x,c,⟨d,rfl⟩,b⟩
noncomputable def Gx κ:=(kb κ).Xh aJ (al7 _)
def Blk L d N:=∀k,Up L (k*d) (min (k*d+d) N)
def US L d q:=∀k,k<q->Up L (k*d) (k*d+d)
theorem UP{L d q N}(b:US L d q)(f:Up L (q*d) N)(a:q*d<=N)(e:N<q*d+d):Blk L d N:=by
 intro k;rcases Nat.lt_trichotomy k q with h|rfl|h
 ·exact(b k h).cut (by grind)
 ·grind
 ·intro i j g l c
  have:=Nat.mul_le_mul_right d h
  grind
theorem DA{L M d q N}(c:US L d q)(h:Sw (q*d) N L M)(f:Up M (q*d) (q*d+d)):US M d (q+1):=fun k e=>by
 rcases Nat.lt_or_ge k q with a|a
 ·have b:=Nat.mul_le_mul_right d a
  rw[Nat.succ_mul] at b;exact h.upl (c k a) b
 grind
theorem IM{L M d q N}(c:US L d q)(h:Sw (q*d) N L M)(g:Up M (q*d) N)(e:q*d<=N)(f:N<q*d+d):Blk M d N:=
 UP (fun k a=>by
  have b:=Nat.mul_le_mul_right d a;rw[Nat.succ_mul] at b;exact h.upl (c k a) b) g e f
theorem xTa κ L(N a b:Nat) I n K:(vc (Gx κ).E 12 128 none 1 (ad (Pr κ).toProgram 128 2) (sp 63 [(0, .ak 0 0 L.length),(1, .int N),(2,oF),(6, .int 20),(7, .int a),(8, .int b)] [jL L]) (bj (Gx κ).E 128 2 1 I n K))=(
 letI c:=AV.int
 aq (decide ((↑b:Int)<=(↑N:Int))) (∃(a_1:ZF),([AV.ak 0 0 L.length,c (↑a:Int),c (↑b:Int),AV.bm 54 []],[Obj.row 70 (rws L)])=Vo
 a_1/\FK a_1/\∀(y:RL),(Sw a_1.a a_1.b a_1.L y/\∀(i j:Nat),a_1.a<=i->i<j->j<a_1.b->bz (rat y i) (rat y j)<=(0:Int))->∃(m:Nat),m
 <n/\I m (sp 63 [(0,AV.ak 0 0 L.length),(1,c (↑N:Int)),(2,AV.bm 54 []),(6,c 20),(7,c (↑b:Int)),(8,c (IntKind.wrap
 IntKind.i64 ((↑b:Int)+(20:Int))))] [Obj.row 70 (rws y)])) (K (Exit.exit 0) (sp 63 [(0,AV.ak 0 0 L.length),(1,c (↑N:Int)),(2,AV.bm 54 []),
 (6,c 20),(7,c (↑a:Int))] [Obj.row 70 (rws L)]))):=by kernel_rfl
structure ATa where
 L0:RL
 L:RL
 q:Nat
abbrev Vx(x:ATa):=sp 63 [(0, .ak 0 0 x.L.length),(1, .int x.L0.length),(2,oF),(6, .int 20),(7, .int (x.q*20:Nat)),(8, .int (x.q*20+20:Nat))] [jL x.L]
def XY(x:ATa):=Sw 0 x.L0.length x.L0 x.L/\US x.L 20 x.q/\x.q*20<=x.L0.length/\x.L0.length<=100000000/\fq x.L0
def XQ(x:ATa):Out (Exit×S):= .all (fun r:Nat×RL=>Sw 0 x.L0.length x.L0 r.2/\US r.2 20 r.1/\r.1*20<=x.L0.length/\x.L0.length<r.1*20+20) fun r=> .one (.exit 0,sp 63 [(0, .ak 0 0 r.2.length),(1, .int x.L0.length),(2,oF),(6, .int 20),(7, .int (r.1*20:Nat))] [jL r.2])
theorem lTa κ:aU (Gx κ).E 12 128 2 (aG 1 Vx XY XQ):=by
 refine aC (fun x=>x.L0.length - x.q*20) ?_;rintro⟨e,L,q⟩ K ⟨a,b,i,g,c⟩ f;simp only at a b i g c;rw[show(Gx κ).E.P=Pr κ from rfl];refine Eq.mpr (xTa κ L e.length (q*20) (q*20+20) _ _ K) ?_;have l:=a.len;rw[ae,ap6,ap8];refine⟨fun h=>⟨⟨L,q*20,q*20+20⟩,rfl,⟨by simp only;omega,by simp only;omega,by simp only;omega,fj c a.perm⟩,fun M k=>?_⟩,fun h=>?_⟩
 ·obtain⟨d,j⟩:Sw (q*20) (q*20+20) L M/\Up M (q*20) (q*20+20):=k
  rw[az (n:=((q*20+20:Nat):Int)+20) (by omega) (by omega)];refine⟨_,?_,⟨e,M,q+1⟩,?_,⟨a.trans (d.mono (by omega) (by omega) (by omega)),DA b d j,by simp only;omega,g,c⟩,rfl,f⟩
  ·simp only;omega
  ·simp only[Vx]
   rw[d.len,show(q+1)*20=q*20+20 by omega];rfl
 ·exact f (q,L) ⟨a,b,i,by simp only;omega⟩
noncomputable def Vk κ:=(Gx κ).loop (lTa _)
theorem xTb κ L(N bs a b:Nat) I n K:(vc (Vk κ).E 12 128 none 1 (ad (Pr κ).toProgram 128 9) (sp 63 [(0, .ak 0 0 L.length),(1, .int N),(2,oF),(6, .int bs),(7, .int a),(8, .int b)] [jL L]) (bj (Vk κ).E 128 9 1 I n K))=(
 letI c:=IntKind.wrap IntKind.i64
 letI d:=AV.int
 aq (decide ((↑b:Int)<=(↑N:Int))) (∃(e2:js),([AV.ak 0 0 L.length,d (↑a:Int),d (c ((↑a:Int)+(↑bs:Int))),
 d (↑b:Int),AV.bm 54 []],[Obj.row 70 (rws L)])=eY e2/\fu e2/\∀(e1:RL),Sr e2.a e2.b e2.L e1->∃(e0:Nat),e0<n/\I e0 (sp 63 [(0,AV.ak 0 0
 L.length),(1,d (↑N:Int)),(2,AV.bm 54 []),(6,d (↑bs:Int)),(7,d (↑b:Int)),(8,d (c ((↑b:Int)+
 c ((2:Int)*(↑bs:Int)))))] [Obj.row 70 (rws e1)])) (K (Exit.exit 4) (sp 63 [(0,AV.ak 0 0 L.length),(1,d (↑N:Int)),(2,
 AV.bm 54 []),(6,d (↑bs:Int)),(7,d (↑a:Int))] [Obj.row 70 (rws L)]))):=by kernel_rfl
structure ATb where
 L0:RL
 L:RL
 bs:Nat
 q:Nat
abbrev QZ(x:ATb):=sp 63 [(0, .ak 0 0 x.L.length),(1, .int x.L0.length),(2,oF),(6, .int x.bs),(7, .int (x.q*(2*x.bs):Nat)),(8, .int (x.q*(2*x.bs)+2*x.bs:Nat))] [jL x.L]
structure Mh(x:ATb):Prop where
 sw:Sw 0 x.L0.length x.L0 x.L
 w:US x.L (2*x.bs) x.q
 le:x.q*(2*x.bs)<=x.L0.length
 b:0<x.bs/\x.bs<x.L0.length
 l:x.L0.length<=100000000
 s:fq x.L0
 r: ∀k,2*x.q<=k->Up x.L (k*x.bs) (min (k*x.bs+x.bs) x.L0.length)
def aa2(x:ATb):Out (Exit×S):= .all (fun r:Nat×RL=>Mh ⟨x.L0,r.2,x.bs,r.1⟩/\x.L0.length<r.1*(2*x.bs)+2*x.bs) fun r=> .one (.exit 4,sp 63 [(0, .ak 0 0 r.2.length),(1, .int x.L0.length),(2,oF),(6, .int x.bs),(7, .int (r.1*(2*x.bs):Nat))] [jL r.2])
theorem o6 q a:2*q*a=q*(2*a):=by grind
theorem lTb κ:aU (Vk κ).E 12 128 9 (aG 1 QZ Mh aa2):=by
 refine aC (fun x=>x.L0.length - x.q*(2*x.bs)) ?_;rintro⟨f,L,a,q⟩ K l t;obtain⟨b,m,o,i,j,d,c⟩:=l;have l:Mh ⟨f,L,a,q⟩:=⟨b,m,o,i,j,d,c⟩
 simp only at b m o i j d c;rw[show(Vk κ).E.P=Pr κ from rfl];refine Eq.mpr (xTb κ L f.length a (q*(2*a)) (q*(2*a)+2*a) _ _ K) ?_;have y:=b.len;have p:=c (2*q) (Nat.le_refl _);have r:=c (2*q+1) (by omega);have s:(q+1)*(2*a)=q*(2*a)+2*a:=Nat.succ_mul _ _;have g: ∀k,2*(q+1)<=k->q*(2*a)+2*a<=k*a:=fun k g=>by
  have:=Nat.mul_le_mul_right a g
  rw[o6,s] at this;exact this
 rw[Nat.succ_mul,o6] at r;rw[o6] at p;rw[ae,ap6,ap8];refine⟨fun h=>?_,fun h=>?_⟩
 ·rw[az (n:=((q*(2*a):Nat):Int)+a) (by omega) (by omega),az (n:=2*(a:Int)) (by omega) (by omega),az (n:=((q*(2*a)+2*a:Nat):Int)+2*a) (by omega) (by omega),show((q*(2*a):Nat):Int)+a=(q*(2*a)+a:Nat) by omega]
  refine⟨⟨L,q*(2*a),q*(2*a)+a,q*(2*a)+2*a⟩,rfl,⟨⟨by simp only;omega,by simp only;omega,by simp only;omega⟩,by simp only;omega,fj d b.perm,p.cut (by simp only;omega),r.cut (by simp only;omega)⟩,fun M v=>?_⟩;obtain⟨e,w⟩:Sr (q*(2*a)) (q*(2*a)+2*a) L M:=v;refine⟨_,?_,⟨f,M,a,q+1⟩,?_,⟨b.trans (e.mono (by omega) (by omega) (by omega)),DA m e w,by simp only;omega,i,j,d,fun k u=>e.upr (c k (by simp only at u;omega)) (g k u)⟩,rfl,t⟩
  ·simp only;omega
  ·simp only[QZ]
   rw[e.len,s];rfl
 ·exact t (q,L) ⟨l,by simp only;omega⟩
noncomputable def WV κ:=(Vk κ).loop (lTb _)
theorem ak1 κ L(N bs:Nat) I n K:(vc (WV κ).E 12 128 none 1 (ad (Pr κ).toProgram 128 7) (sp 63 [(0, .ak 0 0 L.length),(1, .int N),(2,oF),(6, .int bs)] [jL L]) (bj (WV κ).E 128 7 1 I n K))=(
 letI a:=IntKind.wrap IntKind.i64
 letI b:=AV.int
 letI c:=Obj.row
 letI e:=Pg.toProgram (Env.P (EB.E (Vk κ)))
 aq (decide ((↑bs:Int)<(↑N:Int))) (ad e 128 9=ad e 128 9/\∃(e4:ATb),letI h:=Value.int IntKind.i64 (a ((↑(e4.bs):Int)*(2:Int)));letI d:=e4.L0.length;sp 63 [(0,AV.ak 0 0 L.length),(1,b (↑N:Int)),(2,AV.bm 54 []),(6,b (↑bs:Int)),(7,b 0),(8,b (a ((2:Int)*(↑bs:Int))))] [c 70 (rws L)]=QZ e4/\Mh e4/\∀(e3:Nat×RL),letI f:=[(0,AV.ak 0 0 e3.2.length),(1,b (↑d:Int)),(2,AV.bm 54 []),(6,AV.lit h)];letI g:=(↑(e3.1*(2*e4.bs)):Int)+(↑(e4.bs):Int);Mh {L0:=e4.L0,L:=e3.2,bs:=e4.bs,q:=e3.1}/\e4.L0.length<e3.1*(2*e4.bs)+2*e4.bs->aq (decide (a g<(↑d:Int))) (∃(e2:js),([AV.ak 0 0 e3.2.length,b (↑(e3.1*(2*e4.bs)):Int),AV.lit (Value.int IntKind.i64 (a g)),b (↑d:Int),AV.bm 54 []],[c 70 (rws e3.2)])=eY e2/\fu e2/\∀(e1:RL),Sr e2.a e2.b e2.L e1->∃(e0:Nat),e0<n/\I e0 (sp 63 f [c 70 (rws e1)])) (∃(e0:Nat),e0<n/\I e0 (sp 63 f [c 70 (rws e3.2)]))) (K (Exit.exit 2) (sp 63 [] [c 70 (rws L)]))):=by kernel_rfl
structure Ri where
 L0:RL
 L:RL
 bs:Nat
abbrev Dk(x:Ri):=sp 63 [(0, .ak 0 0 x.L.length),(1, .int x.L0.length),(2,oF),(6, .int x.bs)] [jL x.L]
def PL(x:Ri):=Sw 0 x.L0.length x.L0 x.L/\Blk x.L x.bs x.L0.length/\(0<x.bs/\x.bs<=200000000)/\x.L0.length<=100000000/\fq x.L0
def UK(x:Ri):Out (Exit×S):= .all (fun M=>Sw 0 x.L0.length x.L0 M/\Up M 0 x.L0.length) fun M=> .one (.exit 2,sp 63 [] [jL M])
theorem an5 κ:aU (WV κ).E 12 128 7 (aG 1 Dk PL UK):=by
 refine aC (fun x=>x.L0.length - x.bs) ?_;rintro⟨b,L,a⟩ K ⟨i,j,z,m,g⟩ l;simp only at i j z m g;rw[show(WV κ).E.P=Pr κ from rfl];refine Eq.mpr (ak1 κ L b.length a _ _ K) ?_;have D:=i.len;rw[ae,ap6,ap8];refine⟨fun h=>?_,fun h=>?_⟩
 ·rw [az (n:=2*(a:Int)) (by omega) (by omega)]
  refine⟨rfl,⟨b,L,a,0⟩,?_,⟨i,fun k y=>absurd y (Nat.not_lt_zero k),by simp only;omega,by simp only;omega,m,g,fun k _=>j k⟩,fun r w=>?_⟩
  ·simp only[QZ]
   rw[show 0*(2*a)+2*a=2*a by omega,show 0*(2*a)=0 by omega];rfl
  ·obtain⟨q,M⟩:=r
   obtain⟨⟨f,t,u,A,B,v,m7⟩,m8⟩:=w;simp only at f t u A B v m7 m8;have F:=f.len;have o:=m7 (2*q) (Nat.le_refl _);have s:=m7 (2*q+1) (by omega);rw[Nat.succ_mul,o6] at s;rw[o6] at o;simp only;rw[az (n:=(a:Int)*2) (by omega) (by omega),az (n:=((q*(2*a):Nat):Int)+a) (by omega) (by omega),show((q*(2*a):Nat):Int)+a=(q*(2*a)+a:Nat) by omega];have d: ∀X:RL,Sw (q*(2*a)) b.length M X->Up X (q*(2*a)) b.length->PL ⟨b,X,2*a⟩:=fun X c p=>
    ⟨f.trans (c.mono (by omega) (Nat.le_refl _) (by omega)),IM t c p u m8,by simp only;omega,m,g⟩
   rw[ae,ap6,ap8];refine⟨fun e=>?_,fun e=>?_⟩
   ·refine⟨⟨M,q*(2*a),q*(2*a)+a,b.length⟩,rfl,⟨⟨by simp only;omega,by simp only;omega,by simp only;omega⟩,by simp only;omega,fj g f.perm,o.cut (by simp only;omega),s.cut (by simp only;omega)⟩,fun X C=>?_⟩
    obtain⟨c,p⟩:Sr (q*(2*a)) b.length M X:=C;refine⟨_,?_,⟨b,X,2*a⟩,?_,d X c p,rfl,l⟩
    ·simp only;omega
    ·simp only[Dk]
     rw[c.len,show((2*a:Nat):Int)=(a:Int)*2 by omega]
   ·refine⟨_,?_,⟨b,M,2*a⟩,?_,d M .refl (o.cut (by omega)),rfl,l⟩
    ·simp only;omega
    ·simp only[Dk]
     rw[show((2*a:Nat):Int)=(a:Int)*2 by omega]
 ·exact l L ⟨i,by
   have:=j 0
   rw[Nat.zero_mul] at this;exact this.cut (show b.length<=min (0+a) b.length by omega)⟩
noncomputable def BTc κ:=(WV κ).loop (an5 _)
theorem ai6 κ L K:(a0 (BTc κ).E 12 128 [.ak 0 0 L.length, .int L.length,oF] [jL L] K)=(
 letI a:=AV.int
 letI b:=Obj.row
 letI c:=Pg.toProgram (Env.P (EB.E (Gx κ)))
 letI d:=Pg.toProgram (Env.P (EB.E (WV κ)))
 ad c 128 2=ad c 128 2/\∃(e7:ATa),sp 63 [(0,AV.ak 0 0 L.length),(1,a (↑(L.length):Int)),(2,AV.bm 54 []),(6,a 20),(7,a 0),(8,
 a 20)] [b 70 (rws L)]=Vx e7/\XY e7/\∀(e6:Nat×RL),Sw 0 e7.L0.length e7.L0 e6.2/\(∀(e2:Nat),e2<e6.1->∀(e1 e0:Nat),e2*20<=e1->
 e1<e0->e0<e2*20+20->bz (rat e6.2 e1) (rat e6.2 e0)<=(0:Int))/\e6.1*20<=e7.L0.length/\e7.L0.length<e6.1*20+20->∃(e5:ZF),([AV.ak 0 0
 e6.2.length,a (↑(e6.1*20):Int),a (↑(e7.L0.length):Int),AV.bm 54 []],[b 70 (rws e6.2)])=Vo e5/\FK e5/\∀(e4:RL),(Sw e5.a e5.b
 e5.L e4/\∀(e1 e0:Nat),e5.a<=e1->e1<e0->e0<e5.b->bz (rat e4 e1) (rat e4 e0)<=(0:Int))->ad d 128 7=ad d 128 7/\∃(e3:Ri),sp 63 [(0,AV.ak
 0 0 e6.2.length),(1,a (↑(e7.L0.length):Int)),(2,AV.bm 54 []),(6,a 20)] [b 70 (rws e4)]=Dk e3/\PL e3/\∀(e2:RL),(Sw 0 e3.L0.length
 e3.L0 e2/\∀(e1 e0:Nat),0<=e1->e1<e0->e0<e3.L0.length->bz (rat e2 e1) (rat e2 e0)<=(0:Int))->K (AV.aH []) [b 70 (rws e2)]):=by kernel_rfl
def SV L:=([.ak 0 0 L.length, .int L.length,oF],[jL L])
def pt L:=L.length<=100000000/\fq L
def Gc(L:RL):Out (AV×List Dn.Obj):= .all (fun M=>M.Perm L/\Up M 0 L.length) fun M=> .one (.aH [],[jL M])
theorem ai7 κ:bd (BTc κ).E 12 128 (aO SV pt Gc):=by
 refine aR ?_;rintro L K ⟨f,c⟩ m;refine Eq.mpr (ai6 κ L K) ?_;refine⟨rfl,⟨L,L,0⟩,rfl,⟨.refl,fun k i=>absurd i (Nat.not_lt_zero k),by simp only;omega,f,c⟩,fun r n=>?_⟩;obtain⟨q,M⟩:=r;obtain⟨a,g,b,e⟩:=n;simp only at a g b e;have o:=a.len;refine⟨⟨M,q*20,L.length⟩,rfl,⟨b,by simp only;omega,by simp only;omega,fj c a.perm⟩,fun X l=>?_⟩;obtain⟨d,j⟩:Sw (q*20) L.length M X/\Up X (q*20) L.length:=l;refine⟨rfl,⟨L,X,20⟩,?_,⟨a.trans (d.mono (by omega) (Nat.le_refl _) (by omega)),IM g d j b e,by simp only;omega,f,c⟩,fun Y h=>m Y ⟨h.1.perm,h.2⟩⟩;simp only[Dk];rw[d.len];rfl
noncomputable def BTs κ:=(BTc κ).call (ai7 _)
theorem ao8 κ L K:(a0 (BTs κ).E 12 79 [.ak 0 0 L.length,oF] [jL L] K)=(
 ∃(a:RL),([AV.ak 0 0 L.length,AV.int (↑(L.length):Int),AV.bm 54 []],[Obj.row 70 (rws L)])=SV a/\pt a/\∀(y:RL),(List.Perm y a/\∀(i j:
 Nat),0<=i->i<j->j<a.length->bz (rat y i) (rat y j)<=(0:Int))->K (AV.aH []) [Obj.row 70 (rws y)]):=by kernel_rfl
def CM L:=([.ak 0 0 L.length,oF],[jL L])
theorem ai0 κ:bd (BTs κ).E 12 79 (aO CM pt Gc):=by
 refine aR ?_;rintro L K b a;exact Eq.mpr (ao8 _ L K) ⟨L,rfl,b,a⟩
theorem ag3 κ: ∀a st K,aO CM pt Gc a st K->b7 (Pr κ) 79 a st K:=fun a st K h=>gS (BTs _).ok (BTs _).mono (ai0 _ _ _ K h)
def cU(xs:List AV):RL:=xs.map af
theorem lx xs:(cU xs).length=xs.length:=by simp[cU]
theorem rV: ∀xs i,rat (cU xs) i=af (nth xs i)
 |[],i=>by rfl
 |x::xs,0=>rfl
 |x::xs,i+1=>by
  have:=rV xs i
  grind [rat,cU,nth]
theorem jK: ∀L,cU (rws L)=L
 |[]=>rfl
 |r::L=>by
  have:=jK L
  simp only[cU,ar3] at this⊢;rw[this];rfl
theorem yCr κ l K:(a0 (P0 κ).E 12 39 [.ah 72 l] [] K)=(
 (Nx l=true->K (AV.ah 72 []) [])/\aV (decide ((0+l.length+1)*33<=70368744177664)) (K (AV.ah 72 (List.take (0+l.length) (List.drop 0 ([]++l)))) [])):=by kernel_rfl
def NF(l:List AV):List AV×List Dn.Obj:=([.ah 72 l],[])
def ae5(l:List AV):Out (AV×List Dn.Obj):= .one (.ah 72 l,[])
theorem cCr κ:bd (P0 κ).E 12 39 (aO NF (fun l=>l.length<=100000000) ae5):=by
 refine aR ?_;rintro l K h a;refine Eq.mpr (yCr _ l K) ⟨fun e=>?_,ai.2 ⟨by grind,?_⟩⟩
 ·cases l with
  |nil=>exact a
  |cons=>cases e
 ·rw[List.nil_append,aq6,Nat.zero_add,List.take_length]
  exact a
noncomputable def Wl κ:=(((P0 κ).call (cCr _)).YA [39]).calm [39]
def cK:RL->Bool
 |[]=>true
 |[_]=>true
 |a::b::l=>decide (bz a b<0)&&cK (b::l)
theorem xRi κ xs(i:Nat) I n K:(vc (Wl κ).E 12 37 none 0 (ad (Pr κ).toProgram 37 2) (sp 21 [(0, .ah 70 xs),(3, .int i)] []) (bj (Wl κ).E 37 2 0 I n K))=(
 letI a:=IntKind.wrap IntKind.i64
 letI b:=(↑i:Int) - (1:Int)
 letI c:=af (nth xs (Int.toNat (a b)))
 letI d:=(↑i:Int)<(↑(xs.length):Int)
 aq (decide d) (aV (decide ((0:Int)<=a b)&&decide (a b<(↑(xs.length):Int))) (aV (true&&decide d) (aV
 (decide (List.length c<=9223372036854775807)) (aq (decide (bz c (af (nth xs (Int.toNat (↑i:Int))))>=(0:Int))) (K Exit.ret (sp 21 [(2,AV.bool false)]
 [])) (∃(e0:Nat),e0<n/\I e0 (sp 21 [(0,AV.ah 70 xs),(3,AV.int (a ((↑i:Int)+(1:Int))))] [])))))) (K (Exit.exit 0) (sp 21 []
 []))):=by kernel_rfl
theorem Kk{L i}(b:1<=i)(a:i<L.length):cK (L.drop (i - 1))=(decide (bz (rat L (i - 1)) (rat L i)<0)&&cK (L.drop i)):=by
 grind [List.drop_eq_getElem_cons,cK,y9]
theorem Nh{L:RL}{i}(h:L.length<=i):cK (L.drop (i - 1))=true:=by
 rcases Nat.lt_or_ge _ _ with a|a
 ·rw[aq7 a,aq4 (by omega)];rfl
 ·rw[aq4 a];rfl
def eR(xs:List _):=decide (xs.length<=100000000)&&xs.all fun x=>decide ((af x).length<=100000000)
theorem lK{xs}(h:eR xs=true) i:(af (nth xs i)).length<=100000000:=by
 simp[eR] at h;rcases Nat.lt_or_ge i xs.length with a|a
 ·grind [aM]
 ·rw[eV _ _ a];exact Nat.zero_le _
theorem iX{xs}(h:eR xs=true):xs.length<=100000000:=by
 grind [eR]
structure ARi where
 xs:List AV
 i:Nat
abbrev Xx(x:ARi):=sp 21 [(0, .ah 70 x.xs),(3, .int x.i)] []
def Lv(x:ARi):Out (Exit×S):= .aq (cK ((cU x.xs).drop (x.i - 1))) (.one (.exit 0,sp 21 [] [])) (.one (.ret,sp 21 [(2, .bool false)] []))
theorem lRi κ:aU (Wl κ).E 12 37 2 (aG 0 Xx (fun x=>1<=x.i/\eR x.xs=true) Lv):=by
 refine aC (fun x=>x.xs.length - x.i) ?_;rintro⟨xs,i⟩ K ⟨c,b⟩ a;simp only at c b;rw[show(Wl κ).E.P=Pr κ from rfl];refine Eq.mpr (xRi κ xs i _ _ K) ?_;have d:=iX b;simp only[Lv,Out.run,ae] at a;rw[ae,ap6,ap8];refine⟨fun h=>?_,fun h=>?_⟩
 ·rw[az (n:=(i:Int) - 1) (by omega) (by omega),az (n:=(i:Int)+1) (by omega) (by omega),show((i:Int) - 1).toNat=i - 1 by omega,Int.toNat_natCast,←rV,←rV]
  rw[Kk c (by rw[lx];omega)] at a;have f:=lK b (i - 1);refine ai.2 ⟨by simp;omega,ai.2 ⟨by simp;omega,ai.2 ⟨by rw[rV,ap6];omega,ae.2 ⟨fun e=>a.2 ?_,fun e=>?_⟩⟩⟩⟩
  ·grind
  ·have e:bz (rat (cU xs) (i - 1)) (rat (cU xs) i)<0:=by simpa using e
   rw[aq2 e,ar2] at a;refine⟨_,?_,⟨xs,i+1⟩,rfl,⟨by simp only;omega,b⟩,rfl,?_⟩
   ·simp only;omega
   ·simp only[Lv,Out.run,ae,Nat.add_sub_cancel]
    exact a
 ·exact a.1 (Nh (by rw[lx];omega))
noncomputable def BRi κ:=(Wl κ).loop (lRi _)
theorem yRi κ xs K:(a0 (BRi κ).E 12 37 [.ah 70 xs] [] K)=(
 letI a:=Pg.toProgram (Env.P (EB.E (Wl κ)))
 ad a 37 2=ad a 37 2/\∃(e0:ARi),sp 21 [(0,AV.ah 70 xs),(3,AV.int 1)] []=Xx e0/\(1<=e0.i/\eR e0.xs=true)/\aq (cK (List.drop (e0.i - 1) (cU
 e0.xs))) (K (AV.bool true) []) (K (AV.bool false) [])):=by kernel_rfl
def gRi:List AV->Option (Bool×AV)
 |[.ah 70 xs]=>some (eR xs, .bool (cK (cU xs)))
 |_=>none
theorem pRi κ:cd (BRi κ).E 12 37 gRi:=by
 intro b x a;unfold gRi at a;split at a
 ·rename_i xs
  simp only[ap9,aq5] at a;obtain⟨c,rfl⟩:=a;refine⟨_,rfl,rfl,Eq.mpr (yRi κ xs _) ⟨rfl,⟨xs,1⟩,rfl,by grind,?_⟩⟩
  simp_all[ae]
 ·cases a
noncomputable def W9 κ:=EB.GV ((BRi κ).pure (pRi _)) [37]
theorem xRc κ xs L(i:Nat) I n K:(vc (W9 κ).E 12 55 none 0 (ad (Pr κ).toProgram 55 3) (sp 19 [(3, .ak 0 0 L.length),(6, .ah 70 xs),(7, .int xs.length),(8, .int i)] [.row 70 (rws L)]) (bj (W9 κ).E 55 3 0 I n K))=(
 letI a:=(↑i:Int)<(↑(xs.length):Int)
 aq (decide a) (aV (true&&decide a) (∃(e1:List AV),([AV.ah 72 (af (nth xs (Int.toNat (↑i:Int))))],[])=NF e1/\e1.length<=100000000/\aV (decide
 ((L.length+1+1)*25<=70368744177664)) (∃(e0:Nat),e0<n/\I e0 (sp 19 [(3,AV.ak 0 0 (L.length+1)),(6,AV.ah 70 xs),(7,AV.int (↑(xs.length):
 Int)),(8,AV.int (IntKind.wrap IntKind.i64 ((↑i:Int)+(1:Int))))] [Obj.row 70 (List.take L.length (rws L)++[AV.ah 72 e1])])))) (K (Exit.exit 0) (sp 19
 [(3,AV.ak 0 0 L.length)] [Obj.row 70 (rws L)]))):=by kernel_rfl
abbrev ARc:=List AV×Nat
abbrev VT(x:ARc):=sp 19 [(3, .ak 0 0 ((cU x.1).take x.2).length),(6, .ah 70 x.1),(7, .int x.1.length),(8, .int x.2)] [.row 70 (rws ((cU x.1).take x.2))]
def Iy(x:ARc):=x.2<=x.1.length/\eR x.1=true
def UN(x:ARc):Out (Exit×S):= .one (.exit 0,sp 19 [(3, .ak 0 0 (cU x.1).length)] [.row 70 (rws (cU x.1))])
theorem Ed xs i(h:i<xs.length):(cU xs).take (i+1)=(cU xs).take i++[af (nth xs i)]:=by
 rw[List.take_add_one,ar0 (by grind [lx]),←y9 _,rV];rfl
theorem ve L r:rws L++[.ah 72 r]=rws (L++[r]):=by simp
theorem lRc κ:aU (W9 κ).E 12 55 3 (aG 0 VT Iy UN):=by
 refine aC (fun x=>x.1.length - x.2) ?_;rintro⟨xs,i⟩ K ⟨d,a⟩ c;simp only at d a;refine Eq.mpr (xRc κ xs ((cU xs).take i) i _ _ K) ?_;have f:=iX a;rw[ae,ap6,ap8];refine⟨fun h=>?_,fun h=>?_⟩
 ·have b:i<xs.length:=by omega
  rw[az (n:=(i:Int)+1) (by omega) (by omega),Int.toNat_natCast];have e:((cU xs).take i).length<=100000000:=by grind
  refine ai.2 ⟨by simp;omega,af (nth xs i),rfl,lK a i,ai.2 ⟨by rw[ap6];omega,_,?_,(xs,i+1),?_,⟨b,a⟩,rfl,c⟩⟩
  ·simp only;omega
  ·simp only[VT]
   rw[Ed xs i b,←dX,List.take_length,ve,ar1,dX];rfl
 ·have b:(cU xs).take i=cU xs:=List.take_of_length_le (by rw[lx];omega)
  rw[b];exact c
noncomputable def BRk κ:=(W9 κ).loop (lRc _)
theorem yRc κ xs K:(a0 (BRk κ).E 12 55 [.ah 70 xs] [] K)=(
 letI a:=Pg.toProgram (Env.P (EB.E (W9 κ)))
 ad a 55 3=ad a 55 3/\∃(e0:ARc),sp 19 [(3,AV.ak 0 0 0),(6,AV.ah 70 xs),(7,AV.int (↑(xs.length):Int)),(8,AV.int 0)] [Obj.row 70 []]=VT e0/\Iy
 e0/\K (AV.ah 70 (List.take (List.length (cU e0.1)) (List.drop 0 (rws (cU e0.1))))) []):=by kernel_rfl
def U6(xs:List AV):List AV×List Dn.Obj:=([.ah 70 xs],[])
def XD(xs:List AV):Out (AV×List Dn.Obj):= .one (.ah 70 (rws (cU xs)),[])
theorem cCx κ:bd (BRk κ).E 12 55 (aO U6 (fun xs=>eR xs=true) XD):=by
 refine aR ?_;rintro xs K h a;refine Eq.mpr (yRc _ _ K) ⟨rfl,(xs,0),rfl,⟨Nat.zero_le _,h⟩,?_⟩;rw[aq6,←dX,List.take_length];exact a
noncomputable def V7 κ:=((BRk κ).call (cCx _)).calm [55]
theorem an7 κ xs cs vs ds L w(i k:Nat) t I n K:(vc (V7 κ).E 12 123 none 0 (ad (Pr κ).toProgram 123 7) (sp 61 [(1, .ah 3 cs),(2, .ah 72 vs),(7, .int w),(8, .ak 0 0 L.length),(10, .ah 72 t),(18, .ah 70 xs),(19, .int xs.length),(20, .int i),(26, .ah 3 ds),(27, .int ds.length),(28, .int k)] [.row 70 (rws L)]) (bj (V7 κ).E 123 7 0 I n K))=(
 letI a:=AV.int
 letI b:=AV.ah
 letI d:=K (Exit.exit 1) (sp 61 [(1,b 3 cs),(2,b 72 vs),(7,a w),(8,AV.ak 0 0 L.length),(18,b 70 xs),(19,a (↑(xs.length):
  Int)),(20,a (↑i:Int))] [Obj.row 70 (rws L)])
 letI c:=Int.toNat (↑k:Int)
 letI e:=nth t (Int.toNat (toInt (nth ds c)))
 letI f:=(↑k:Int)<(↑(ds.length):Int)
 aq (decide f) (aV (true&&decide f) (aq (decide (toInt (nth ds c)<(0:Int))) d (aq (decide (toInt (nth ds c)>=(↑(t.length):Int))) d (aV (decide ((0
 :Int)<=toInt (nth ds c))&&decide (toInt (nth ds c)<(↑(t.length):Int))) (aV (true&&decide ((↑k:Int)<(↑(vs.length):Int))) (aq (o0 (AV.agg
 [AV.bool (Dn.toBool (ag e 0)),a (toInt (ag e 1)),AV.str (toStr (ag e 2))]) (AV.agg [AV.bool (Dn.toBool (ag (nth vs c) 0)),a (toInt (ag (nth vs
 c) 1)),AV.str (toStr (ag (nth vs c) 2))]) != (0:Int)) d (∃(e0:Nat),e0<n/\I e0 (sp 61 [(1,b 3 cs),(2,b 72 vs),(7,a w),(8,AV.ak 0
 0 L.length),(10,b 72 t),(18,b 70 xs),(19,a (↑(xs.length):Int)),(20,a (↑i:Int)),(26,b 3 ds),(27,a (↑(ds.length):
 Int)),(28,a (IntKind.wrap IntKind.i64 ((↑k:Int)+(1:Int))))] [Obj.row 70 (rws L)])))))))) (K (Exit.exit 2) (sp 61 [(1,b 3 cs),(2,b 72
 vs),(7,a w),(8,AV.ak 0 0 L.length),(10,b 72 t),(18,b 70 xs),(19,a (↑(xs.length):Int)),(20,a (↑i:Int))] [Obj.row 70 (rws
 L)]))):=by kernel_rfl
def yk(t:List AV):List AV->List AV->Bool
 |c::a,v::b=>(decide (0<=toInt c)&&decide (toInt c<t.length)&&decide (o0 (nth t (toInt c).toNat) v=0))&&yk t a b
 |_,_=>true
theorem yY: ∀t b a,yk t (b.take (min b.length a.length)) a=yk t b a
 |t,[],a=>rfl
 |t,c::b,[]=>by rfl
 |t,c::b,v::a=>by
  have:=yY t b a
  grind [yk]
def sC(L:RL)(b a:List AV):RL:=L.filter fun t=>yk t b a
structure Qt where
 xs:List AV
 cs:List AV
 vs:List AV
 ds:List AV
 L:RL
 w:Nat
 i:Nat
 t:List AV
 k:Nat
abbrev Ti(x:Qt):=sp 61 [(1, .ah 3 x.cs),(2, .ah 72 x.vs),(7, .int x.w),(8, .ak 0 0 x.L.length),(10, .ah 72 x.t),(18, .ah 70 x.xs),(19, .int x.xs.length),(20, .int x.i),(26, .ah 3 x.ds),(27, .int x.ds.length),(28, .int x.k)] [.row 70 (rws x.L)]
def I7(x:Qt):=x.k<=x.ds.length/\x.ds.length<=x.vs.length/\x.vs.length<=100000000
def FY(x:Qt):Out (Exit×S):= .aq (yk x.t (x.ds.drop x.k) (x.vs.drop x.k))
 (.one (.exit 2,sp 61 [(1, .ah 3 x.cs),(2, .ah 72 x.vs),(7, .int x.w),(8, .ak 0 0 x.L.length),(10, .ah 72 x.t),(18, .ah 70 x.xs),(19, .int x.xs.length),(20, .int x.i)] [.row 70 (rws x.L)]))
 (.one (.exit 1,sp 61 [(1, .ah 3 x.cs),(2, .ah 72 x.vs),(7, .int x.w),(8, .ak 0 0 x.L.length),(18, .ah 70 x.xs),(19, .int x.xs.length),(20, .int x.i)] [.row 70 (rws x.L)]))
theorem af1 κ:aU (V7 κ).E 12 123 7 (aG 0 Ti I7 FY):=by
 refine aC (fun x=>x.ds.length - x.k) ?_;rintro⟨xs,l,f,ds,L,w,i,t,k⟩ K ⟨p,m,o⟩ c;simp only at p m o;rw[show(V7 κ).E.P=Pr κ from rfl];refine Eq.mpr (an7 κ xs l f ds L w i k t _ _ K) ?_;simp only[FY,Out.run,ae] at c;rw[ae,ap6,ap8];refine⟨fun h=>?_,fun h=>?_⟩
 ·have j:k<ds.length:=by omega
  rw[aq7 j,←aM _ _ j,aq7 (show k<f.length by omega),←aM f k (by omega),yk] at c;rw[Int.toNat_natCast];refine ai.2 ⟨by simp;omega,ae.2 ⟨fun e=>c.2 ?_,fun e=>ae.2 ⟨fun d=>c.2 ?_,fun d=>?_⟩⟩⟩
  ·have e:toInt (nth ds k)<0:=by simpa using e
   rw[aq0 (by omega),Bool.false_and,Bool.false_and,Bool.false_and]
  ·grind
  ·have e:0<=toInt (nth ds k):=by simpa using e
   have d:toInt (nth ds k)<t.length:=by simpa using d
   rw[aq2 e,aq2 d,ar2,ar2] at c;refine ai.2 ⟨by rw[aq2 e,aq2 d];rfl,ai.2 ⟨by simp;omega,?_⟩⟩;have ev: ∀a b:AV,o0 (.agg [.bool (Dn.toBool (ag a 0)), .int (toInt (ag a 1)), .lit (.string (toStr (ag a 2)))]) (.agg [.bool (Dn.toBool (ag b 0)), .int (toInt (ag b 1)), .lit (.string (toStr (ag b 2)))])=o0 a b:=fun _ _=>rfl
   rw[ev,ae,bne_iff_ne,bne_eq_false_iff_eq];refine⟨fun g=>c.2 ?_,fun g=>?_⟩
   ·rw[aq0 g];rfl
   ·rw[aq2 g,ar2] at c
    rw[az (n:=(k:Int)+1) (by omega) (by omega)];refine⟨_,?_,⟨xs,l,f,ds,L,w,i,t,k+1⟩,rfl,⟨j,m,o⟩,rfl,?_⟩
    ·simp only;omega
    ·simp only[FY,Out.run,ae]
     exact c
 ·rw[aq4 (by omega)] at c
  exact c.1 rfl
noncomputable def WD κ:=(V7 κ).loop (af1 _)
theorem xMt κ xs cs vs L(w:Nat)(i:Nat) I n K:(vc (WD κ).E 12 123 none 0 (ad (Pr κ).toProgram 123 4) (sp 61 [(1, .ah 3 cs),(2, .ah 72 vs),(7, .int w),(8, .ak 0 0 L.length),(18, .ah 70 xs),(19, .int xs.length),(20, .int i)] [.row 70 (rws L)]) (bj (WD κ).E 123 4 0 I n K))=(
 letI a:=AV.int
 letI b:=Obj.row
 letI c:=AV.ah
 letI d:=List.drop 0 (List.take (Int.toNat (↑w:Int)) cs)
 letI e:=(↑i:Int)<(↑(xs.length):Int)
 letI f:=Pg.toProgram (Env.P (EB.E (V7 κ)))
 aq (decide e) (aV (true&&decide e) (aV (true&&decide ((↑w:Int)<=(↑(cs.length):Int))) (ad f 123 7=ad f 123 7/\∃(e2:Qt),letI g:=IntKind.wrap IntKind.i64 ((↑(e2.i):Int)+(1:Int));sp 61 [(1,c 3 cs),(2,c 72 vs),(7,a (↑w:Int)),(8,AV.ak 0 0 L.length),(10,c 72 (af (nth xs (Int.toNat (↑i:Int))))),(18,c 70 xs),(19,a (↑(xs.length):Int)),(20,a (↑i:Int)),(26,c 3 d),(27,a (↑(List.length d):Int)),(28,a 0)] [b 70 (rws L)]=Ti e2/\I7 e2/\aq (yk e2.t (List.drop e2.k e2.ds) (List.drop e2.k e2.vs)) (∃(e1:List AV),([c 72 e2.t],[])=NF e1/\e1.length<=100000000/\aV (decide ((e2.L.length+1+1)*25<=70368744177664)) (∃(e0:Nat),e0<n/\I e0 (sp 61 [(1,c 3 e2.cs),(2,c 72 e2.vs),(7,a (↑(e2.w):Int)),(8,AV.ak 0 0 (e2.L.length+1)),(18,c 70 e2.xs),(19,a (↑(e2.xs.length):Int)),(20,a g)] [b 70 (List.take e2.L.length (rws e2.L)++[c 72 e1])]))) (∃(e0:Nat),e0<n/\I e0 (sp 61 [(1,c 3 e2.cs),(2,c 72 e2.vs),(7,a (↑(e2.w):Int)),(8,AV.ak 0 0 e2.L.length),(18,c 70 e2.xs),(19,a (↑(e2.xs.length):Int)),(20,a g)] [b 70 (rws e2.L)]))))) (K (Exit.exit 0) (sp 61 [(8,AV.ak 0 0 L.length)] [b 70 (rws L)]))):=by kernel_rfl
structure Li where
 xs:List AV
 cs:List AV
 vs:List AV
 i:Nat
def Li.L(x:Li):RL:=sC ((cU x.xs).take x.i) x.cs x.vs
def Li.w(x:Li):=min x.cs.length x.vs.length
abbrev Ig(x:Li):=sp 61 [(1, .ah 3 x.cs),(2, .ah 72 x.vs),(7, .int x.w),(8, .ak 0 0 x.L.length),(18, .ah 70 x.xs),(19, .int x.xs.length),(20, .int x.i)] [.row 70 (rws x.L)]
def Hm(x:Li):=x.i<=x.xs.length/\eR x.xs=true/\x.cs.length<=100000000/\x.vs.length<=100000000
def VA(x:Li):Out (Exit×S):= .one (.exit 0,sp 61 [(8, .ak 0 0 (sC (cU x.xs) x.cs x.vs).length)] [.row 70 (rws (sC (cU x.xs) x.cs x.vs))])
theorem lMt κ:aU (WD κ).E 12 123 4 (aG 0 Ig Hm VA):=by
 refine aC (fun x=>x.xs.length - x.i) ?_;rintro⟨xs,a,b,i⟩ K ⟨l,c,g,f⟩ k;simp only at l c g f;rw[show(WD κ).E.P=Pr κ from rfl];refine Eq.mpr (xMt κ xs a b (sC ((cU xs).take i) a b) (min a.length b.length) i _ _ K) ?_;have o:=iX c;rw[ae,ap6,ap8];refine⟨fun h=>?_,fun h=>?_⟩
 ·have j:i<xs.length:=by omega
  have d:sC ((cU xs).take (i+1)) a b=sC ((cU xs).take i) a b++(bif yk (af (nth xs i)) a b then[af (nth xs i)] else[]):=by
   rw[Ed xs i j,sC,List.filter_append,←sC];cases e:yk (af (nth xs i)) a b<;>simp[e]
  have m:(sC ((cU xs).take i) a b).length<=100000000:=by
   refine Nat.le_trans (List.length_filter_le _ _) ?_;rw[List.length_take,lx];omega
  refine ai.2 ⟨by simp;omega,ai.2 ⟨by simp;omega,?_⟩⟩;rw[Int.toNat_natCast,Int.toNat_natCast,aq6];refine⟨rfl,⟨xs,a,b,a.take (min a.length b.length),sC ((cU xs).take i) a b,min a.length b.length,i,af (nth xs i),0⟩,rfl,⟨Nat.zero_le _,by simp only[List.length_take];omega,f⟩,?_⟩;simp only[aq6,yY];rw[az (n:=(i:Int)+1) (by omega) (by omega)];refine ae.2 ⟨fun e=>?_,fun e=>?_⟩
  ·rw[e,aq3] at d
   refine⟨af (nth xs i),rfl,lK c i,ai.2 ⟨by rw[ap6];omega,_,?_,⟨xs,a,b,i+1⟩,?_,⟨j,c,g,f⟩,rfl,k⟩⟩
   ·simp only;omega
   ·simp only[Ig,Li.L,Li.w]
    rw[d,←dX,List.take_length,ve,dX,ar1];rfl
  ·rw[e,aq1,List.append_nil] at d
   refine⟨_,?_,⟨xs,a,b,i+1⟩,?_,⟨j,c,g,f⟩,rfl,k⟩
   ·simp only;omega
   ·simp only[Ig,Li.L,Li.w]
    rw[d];rfl
 ·rw[List.take_of_length_le (by rw[lx];omega)]
  exact k
noncomputable def BMt κ:=(WD κ).loop (lMt _)
theorem ak8 κ xs cs vs K:(a0 (BMt κ).E 12 123 [.ah 70 xs, .ah 3 cs, .ah 72 vs] [] K)=(
 letI a:=Pg.toProgram (Env.P (EB.E (WD κ)))
 ad a 123 4=ad a 123 4/\∃(e0:Li),letI b:=sC (cU e0.xs) e0.cs e0.vs;sp 61 [(1,AV.ah 3 cs),(2,AV.ah 72 vs),(7,AV.int (if(↑(vs.length):Int)<(↑(cs.length):Int) then(↑(vs.length):Int) else(↑(cs.length):Int))),(8,AV.ak 0 0 0),(18,AV.ah 70 xs),(19,AV.int (↑(xs.length):Int)),(20,AV.int 0)] [Obj.row 70 []]=Ig e0/\Hm e0/\K (AV.ah 70 (List.take (List.length b) (List.drop 0 (rws b)))) []):=by kernel_rfl
structure AMx where
 xs:List AV
 cs:List AV
 vs:List AV
def ah0(x:AMx):List AV×List Dn.Obj:=([.ah 70 x.xs, .ah 3 x.cs, .ah 72 x.vs],[])
def Vu(x:AMx):=eR x.xs=true/\x.cs.length<=100000000/\x.vs.length<=100000000
def YD(x:AMx):Out (AV×List Dn.Obj):= .one (.ah 70 (rws (sC (cU x.xs) x.cs x.vs)),[])
theorem cMx κ:bd (BMt κ).E 12 123 (aO ah0 Vu YD):=by
 refine aR ?_;rintro⟨xs,a,b⟩ K ⟨d,e,f⟩ g;refine Eq.mpr (ak8 κ xs a b K) ?_;have c:(if(b.length:Int)<a.length then(b.length:Int) else a.length)=min a.length b.length:=by grind
 rw[c];refine⟨rfl,⟨xs,a,_,0⟩,rfl,⟨Nat.zero_le _,d,e,f⟩,?_⟩;rw[aq6,←dX,List.take_length];exact g
noncomputable def Un κ:=((BMt κ).call (cMx _)).calm [123]
end Go.Proofs.YtioeffnadipbaaaGreatDoor
