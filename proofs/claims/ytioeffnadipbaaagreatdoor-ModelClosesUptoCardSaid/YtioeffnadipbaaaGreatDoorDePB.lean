import Derived.Test.YtioeffnadipbaaaGreatDoorDePA
namespace Go.Proofs.YtioeffnadipbaaaGreatDoor
open Go Go.Dn Go.Rl Go.Proofs
attribute [local irreducible] a8 vc
set_option maxRecDepth 20000
theorem Cs{i j:Nat}(h:i+j<=9223372036854775807):IntKind.wrap .i64 (Int.fdiv (IntKind.wrap .u64 (IntKind.wrap .i64 (i+j))) 2)=((i+j) / 2:Nat):=by
 grind [IntKind.wrap,IntKind.bits,az]
structure zA(P:Nat->Prop)(lo hi i j:Nat):Prop where
 le:lo<=i/\i<=j/\j<=hi
 h1:lo<i->P (i - 1)
 h2:j<hi-> ¬ P j
theorem zA.yes{P lo a i j}(h:zA P lo a i j)(c:i<j)(b:P ((i+j) / 2)):zA P lo a ((i+j) / 2+1) j:=⟨by have:=h.le;omega,fun _=>b,h.h2⟩
theorem zA.no{P lo a i j}(h:zA P lo a i j)(c:i<j)(b: ¬ P ((i+j) / 2)):zA P lo a i ((i+j) / 2):=⟨by have:=h.le;omega,h.h1,fun _=>b⟩
theorem zA.start{P lo a}(h:lo<=a):zA P lo a lo a:=⟨by omega,by simp,by simp⟩
theorem xMa κ L(a i j:Nat) I n K:(vc (kz κ).E 12 167 none 1 (ad (Pr κ).toProgram 167 3) (sp 220 [(0, .ak 0 0 L.length),(1, .int a),(4,pe),(10, .int i),(11, .int j)] [kh L]) (bg (kz κ).E 167 3 1 I n K))=(
 letI b:=IntKind.wrap .i64
 letI c:=AV.int
 letI d:=Int.fdiv (IntKind.wrap .u64 (b (↑i+↑j))) 2
 letI e:=b d
 letI f:=ag (nth (rws L) (0+Int.toNat e))
 aq (decide (↑i<(↑j:Int))) (aW (decide (0<=b d)&&decide (b d<↑(L.length))) (aW
 (true&&decide (↑a<(↑(L.length):Int))) (aW (decide (List.length f<=9223372036854775807)) (aq (decide (bD f (ag (nth (rws L) (0+Int.toNat ↑a)))<0)) (∃e0,e0<n/\I e0 (sp 220 [(0,.ak 0 0 L.length),(1,c ↑a),(4,.bo 54 []),(10,c (IntKind.wrap
 .i64 (b d+1))),(11,c ↑j)] [.row 70 (rws L)])) (∃e0,e0<n/\I e0 (sp 220 [(0,.ak 0 0
 L.length),(1,c ↑a),(4,.bo 54 []),(10,c ↑i),(11,c e)] [.row 70 (rws L)])))))) (K (.exit 0) (sp 220 [(0,.ak 0
 0 L.length),(1,c ↑a),(10,c ↑i)] [.row 70 (rws L)]))):=by kernel_rfl
structure AMa where
 L:RL
 a:Nat
 b:Nat
 i:Nat
 j:Nat
abbrev PMa L a:=fun h=>bD (rat L h) (rat L a)<0
abbrev ap2(x:AMa):=sp 220 [(0, .ak 0 0 x.L.length),(1, .int x.a),(4,pe),(10, .int x.i),(11, .int x.j)] [kh x.L]
def aa8(x:AMa):=zA (PMa x.L x.a) (x.a+1) x.b x.i x.j/\x.b<=x.L.length/\x.L.length<=100000000/\fK x.L
def aj0(x:AMa):Out (Exit×S):= .all (fun i=>zA (PMa x.L x.a) (x.a+1) x.b i i) fun i=> .one (.exit 0,sp 220 [(0, .ak 0 0 x.L.length),(1, .int x.a),(10, .int i)] [kh x.L])
theorem lMa κ:aU (kz κ).E 12 167 3 (aG 1 ap2 aa8 aj0):=by
 refine aC (fun x=>x.j - x.i) ?_;rintro⟨L,a,b,i,j⟩ K ⟨d,g,l,f⟩ k;simp only at d g l f;rw[show(kz κ).E.P=Pr κ from rfl];refine Eq.mpr (xMa κ L a i j _ _ K) ?_;have m:=d.le;rw[ae,at3,aC7];refine⟨fun h=>?_,fun h=>?_⟩
 ·rw[Cs (by omega),az (n:=(((i+j) / 2:Nat):Int)+1) (by omega) (by omega),gy,gy,show 0+(((i+j) / 2:Nat):Int).toNat=(i+j) / 2 by omega,show 0+((a:Nat):Int).toNat=a by omega]
  have c:i<j:=by omega
  refine ai.2 ⟨by simp;omega,ai.2 ⟨by simp;omega,ai.2 ⟨aD1 (lq f _),ae.2 ⟨fun e=>?_,fun e=>?_⟩⟩⟩⟩
  ·refine⟨_,?_,⟨L,a,b,(i+j) / 2+1,j⟩,rfl,⟨d.yes c (by simpa using e),g,l,f⟩,rfl,k⟩
   simp only;omega
  ·refine⟨_,?_,⟨L,a,b,i,(i+j) / 2⟩,rfl,⟨d.no c (by simpa using e),g,l,f⟩,rfl,k⟩
   simp only;omega
 ·obtain rfl:i=j:=by omega
  exact k i d
theorem xMb κ L(i k:Nat) I n K:(vc (kz κ).E 12 167 none 1 (ad (Pr κ).toProgram 167 9) (sp 220 [(0, .ak 0 0 L.length),(10, .int i),(13, .int k)] [kh L]) (bg (kz κ).E 167 9 1 I n K))=(
 letI a:=IntKind.wrap .i64
 letI d:=true&&decide (↑k<(↑(L.length):Int))
 letI b:=↑k+(1:Int)
 letI e:=decide (0<=a b)&&decide (a b<↑(L.length))
 letI c:=a b
 aq (decide (↑k<a (↑i - 1))) (aW e (aW d (aW d (aW e (∃e0,e0<n/\I e0 (sp 220 [(0,.ak 0 0
 L.length),(10,AV.int ↑i),(13,AV.int c)] [.row 70 (bP (bP (rws L) (0+Int.toNat ↑k) (.ah 72 (ag (nth (rws L) (0+Int.toNat c))))) (0
 +Int.toNat c) (.ah 72 (ag (nth (rws L) (0+Int.toNat ↑k)))))])))))) (K (.exit 2) (sp 220 [] [.row 70 (rws L)]))):=by kernel_rfl
structure AMb where
 L0:RL
 L:RL
 a:Nat
 b:Nat
 i:Nat
 k:Nat
abbrev Y4(x:AMb):=sp 220 [(0, .ak 0 0 x.L.length),(10, .int x.i),(13, .int x.k)] [kh x.L]
def aa9(x:AMb):=Fw x.a x.b x.k x.L0 x.L/\(x.a<=x.k/\x.k+1<=x.i/\x.i<=x.b)/\x.b<=x.L0.length/\x.L0.length<=100000000
def aj1(x:AMb):Out (Exit×S):= .all (fun M=>Fw x.a x.b (x.i - 1) x.L0 M) fun M=> .one (.exit 2,sp 220 [] [kh M])
theorem lMb κ:aU (kz κ).E 12 167 9 (aG 1 Y4 aa9 aj1):=by
 refine aC (fun x=>x.i - x.k) ?_;rintro⟨l,L,a,b,i,k⟩ K ⟨c,m,d,g⟩ f;simp only at c m d g;rw[show(kz κ).E.P=Pr κ from rfl];refine Eq.mpr (xMb κ L i k _ _ K) ?_;have o:=c.sw.len;rw[az (n:=(i:Int) - 1) (by omega) (by omega),az (n:=(k:Int)+1) (by omega) (by omega),show(k:Int)+1=(k+1:Nat) by omega,show 0+((k+1:Nat):Int).toNat=k+1 by omega,show 0+(k:Int).toNat=k by omega,wT,ae,at3,aC7];refine⟨fun h=>?_,fun h=>?_⟩
 ·have j:(decide (0<=((k+1:Nat):Int))&&decide (((k+1:Nat):Int)<L.length))=true:=by simp;omega
  have e:(true&&decide ((k:Int)<L.length))=true:=by simp;omega
  refine ai.2 ⟨j,ai.2 ⟨e,ai.2 ⟨e,ai.2 ⟨j,_,?_,⟨l,swp L k (k+1),a,b,i,k+1⟩,?_,⟨c.step (by omega) d,by simp only;omega,d,g⟩,rfl,f⟩⟩⟩⟩
  ·simp only;omega
  ·simp only[Y4,oC]
 ·obtain rfl:k=i - 1:=by omega
  exact f L c
theorem xMc κ L(m i j:Nat) I n K:(vc (kz κ).E 12 167 none 1 (ad (Pr κ).toProgram 167 15) (sp 220 [(0, .ak 0 0 L.length),(2, .int m),(4,pe),(14, .int i),(15, .int j)] [kh L]) (bg (kz κ).E 167 15 1 I n K))=(
 letI a:=IntKind.wrap .i64
 letI b:=AV.int
 letI c:=Int.fdiv (IntKind.wrap .u64 (a (↑i+↑j))) 2
 letI d:=ag (nth (rws L) (0+Int.toNat ↑m))
 letI e:=a c
 aq (decide (↑i<(↑j:Int))) (aW (true&&decide (↑m<(↑(L.length):Int))) (aW (decide (0<=a c)&&decide
 (a c<↑(L.length))) (aW (decide (List.length d<=9223372036854775807)) (aq (!decide (bD d (ag (nth (rws L) (0+Int.toNat
 e)))<0)) (∃e0,e0<n/\I e0 (sp 220 [(0,.ak 0 0 L.length),(2,b ↑m),(4,.bo 54 []),(14,b (IntKind.wrap
 .i64 (a c+1))),(15,b ↑j)] [.row 70 (rws L)])) (∃e0,e0<n/\I e0 (sp 220 [(0,.ak 0 0
 L.length),(2,b ↑m),(4,.bo 54 []),(14,b ↑i),(15,b e)] [.row 70 (rws L)])))))) (K (.exit 4) (sp 220 [(0,.ak 0
 0 L.length),(2,b ↑m),(14,b ↑i)] [.row 70 (rws L)]))):=by kernel_rfl
structure AMc where
 L:RL
 a:Nat
 m:Nat
 i:Nat
 j:Nat
abbrev PMc L m:=fun h=>0<=bD (rat L m) (rat L h)
abbrev ap3(x:AMc):=sp 220 [(0, .ak 0 0 x.L.length),(2, .int x.m),(4,pe),(14, .int x.i),(15, .int x.j)] [kh x.L]
def ab0(x:AMc):=zA (PMc x.L x.m) x.a x.m x.i x.j/\x.m<x.L.length/\x.L.length<=100000000/\fK x.L
def aj2(x:AMc):Out (Exit×S):= .all (fun i=>zA (PMc x.L x.m) x.a x.m i i) fun i=> .one (.exit 4,sp 220 [(0, .ak 0 0 x.L.length),(2, .int x.m),(14, .int i)] [kh x.L])
theorem lMc κ:aU (kz κ).E 12 167 15 (aG 1 ap3 ab0 aj2):=by
 refine aC (fun x=>x.j - x.i) ?_;rintro⟨L,a,m,i,j⟩ K ⟨c,f,k,d⟩ g;simp only at c f k d;rw[show(kz κ).E.P=Pr κ from rfl];refine Eq.mpr (xMc κ L m i j _ _ K) ?_;have l:=c.le;rw[ae,at3,aC7];refine⟨fun h=>?_,fun h=>?_⟩
 ·rw[Cs (by omega),az (n:=(((i+j) / 2:Nat):Int)+1) (by omega) (by omega),gy,gy,show 0+(((i+j) / 2:Nat):Int).toNat=(i+j) / 2 by omega,show 0+((m:Nat):Int).toNat=m by omega]
  have b:i<j:=by omega
  refine ai.2 ⟨by simp;omega,ai.2 ⟨by simp;omega,ai.2 ⟨aD1 (lq d _),ae.2 ⟨fun e=>?_,fun e=>?_⟩⟩⟩⟩
  ·refine⟨_,?_,⟨L,a,m,(i+j) / 2+1,j⟩,rfl,⟨c.yes b (by simpa using e),f,k,d⟩,rfl,g⟩
   simp only;omega
  ·refine⟨_,?_,⟨L,a,m,i,(i+j) / 2⟩,rfl,⟨c.no b (by simpa using e),f,k,d⟩,rfl,g⟩
   simp only;omega
 ·obtain rfl:i=j:=by omega
  exact g i c
theorem xMq κ L(i k:Nat) I n K:(vc (kz κ).E 12 167 none 1 (ad (Pr κ).toProgram 167 21) (sp 220 [(0, .ak 0 0 L.length),(14, .int i),(17, .int k)] [kh L]) (bg (kz κ).E 167 21 1 I n K))=(
 letI a:=IntKind.wrap .i64
 letI d:=true&&decide (↑k<(↑(L.length):Int))
 letI b:=↑k - (1:Int)
 letI e:=decide (0<=a b)&&decide (a b<↑(L.length))
 letI c:=a b
 aq (decide (↑k>(↑i:Int))) (aW e (aW d (aW d (aW e (∃e0,e0<n/\I e0 (sp 220 [(0,.ak 0 0 L.length),(14,AV.int ↑i),(17,
 AV.int c)] [.row 70 (bP (bP (rws L) (0+Int.toNat ↑k) (.ah 72 (ag (nth (rws L) (0+Int.toNat c))))) (0+Int.toNat c) (.ah 72 (ag (nth (rws
 L) (0+Int.toNat ↑k)))))])))))) (K (.exit 6) (sp 220 [] [.row 70 (rws L)]))):=by kernel_rfl
structure AMq where
 L0:RL
 L:RL
 a:Nat
 m:Nat
 i:Nat
 k:Nat
abbrev Rv(x:AMq):=sp 220 [(0, .ak 0 0 x.L.length),(14, .int x.i),(17, .int x.k)] [kh x.L]
def ab1(x:AMq):=Bw x.a x.m x.k x.L0 x.L/\(x.a<=x.i/\x.i<=x.k/\x.k<=x.m)/\x.m<x.L0.length/\x.L0.length<=100000000
def aj4(x:AMq):Out (Exit×S):= .all (fun M=>Bw x.a x.m x.i x.L0 M) fun M=> .one (.exit 6,sp 220 [] [kh M])
theorem lMq κ:aU (kz κ).E 12 167 21 (aG 1 Rv ab1 aj4):=by
 refine aC (fun x=>x.k) ?_;rintro⟨j,L,a,m,i,k⟩ K ⟨b,l,c,f⟩ e;simp only at b l c f;refine Eq.mpr (xMq κ L i k _ _ K) ?_;have o:=b.sw.len;rw[ae,at3,aC7];refine⟨fun h=>?_,fun h=>?_⟩
 ·rw[az (n:=(k:Int) - 1) (by omega) (by omega),show(k:Int) - 1=(k - 1:Nat) by omega,show 0+((k - 1:Nat):Int).toNat=k - 1 by omega,show 0+(k:Int).toNat=k by omega,wT]
  have g:(decide (0<=((k - 1:Nat):Int))&&decide (((k - 1:Nat):Int)<L.length))=true:=by simp;omega
  have d:(true&&decide ((k:Int)<L.length))=true:=by simp;omega
  refine ai.2 ⟨g,ai.2 ⟨d,ai.2 ⟨d,ai.2 ⟨g,_,?_,⟨j,swp L k (k - 1),a,m,i,k - 1⟩,?_,⟨b.step (by omega) c,by simp only;omega,c,f⟩,rfl,e⟩⟩⟩⟩
  ·simp only;omega
  ·simp only[Rv,oC]
 ·obtain rfl:k=i:=by omega
  exact e L b
theorem xMe κ L(a m b j6 w i j p:Nat) I n K:(vc (kz κ).E 12 167 none 1 (ad (Pr κ).toProgram 167 33) (sp 220 [(0, .ak 0 0 L.length),(1, .int a),(2, .int m),(3, .int b),(4,pe),(18, .int j6),(19, .int w),(20, .int i),(21, .int j),(22, .int p)] [kh L]) (bg (kz κ).E 167 33 1 I n K))=(
 letI c:=IntKind.wrap IntKind.i64
 letI d:=AV.int
 letI e:=Int.fdiv (IntKind.wrap IntKind.u64 (c ((↑i:Int)+(↑j:Int)))) (2:Int)
 letI f:=(↑p:Int) - c e
 letI g:=ag (nth (rws L) (0+Int.toNat (c f)))
 letI h:=c e
 aq (decide ((↑i:Int)<(↑j:Int))) (aW (decide ((0:Int)<=c f)&&decide (c f<(↑(L.length):Int))) (aW
 (decide ((0:Int)<=c e)&&decide (c e<(↑(L.length):Int))) (aW (decide (List.length g<=
 9223372036854775807)) (aq (!decide (bD g (ag (nth (rws L) (0+Int.toNat h)))<(0:Int))) (∃(e0:Nat),e0<n/\I e0 (sp 220 [(0,AV.ak 0 0 L.length),(1,
 d (↑a:Int)),(2,d (↑m:Int)),(3,d (↑b:Int)),(4,AV.bo 54 []),(18,d (↑j6:Int)),(19,d (↑w:Int)),(20,d
 (c (c e+(1:Int)))),(21,d (↑j:Int)),(22,d (↑p:Int))] [Obj.row 70 (rws L)])) (∃(e0:Nat),
 e0<n/\I e0 (sp 220 [(0,AV.ak 0 0 L.length),(1,d (↑a:Int)),(2,d (↑m:Int)),(3,d (↑b:Int)),(4,AV.bo 54 []),(18,d (↑j6:
 Int)),(19,d (↑w:Int)),(20,d (↑i:Int)),(21,d h),(22,d (↑p:Int))] [Obj.row 70 (rws L)])))))) (K (Exit.exit 8) (sp 220 [(0,
 AV.ak 0 0 L.length),(1,d (↑a:Int)),(2,d (↑m:Int)),(3,d (↑b:Int)),(4,AV.bo 54 []),(18,d (↑j6:Int)),(19,d (↑w:
 Int)),(20,d (↑i:Int))] [Obj.row 70 (rws L)]))):=by kernel_rfl
structure ZR where
 L:RL
 a:Nat
 m:Nat
 b:Nat
 j6:Nat
 w:Nat
 lo:Nat
 hi:Nat
 i:Nat
 j:Nat
 p:Nat
abbrev PMe L p:=fun c=>0<=bD (rat L (p - c)) (rat L c)
abbrev Ru(x:ZR):=sp 220 [(0, .ak 0 0 x.L.length),(1, .int x.a),(2, .int x.m),(3, .int x.b),(4,pe),(18, .int x.j6),(19, .int x.w),(20, .int x.i),(21, .int x.j),(22, .int x.p)] [kh x.L]
def XA(x:ZR):=zA (PMe x.L x.p) x.lo x.hi x.i x.j/\(x.hi<=x.p+1/\x.p<x.lo+x.L.length/\x.hi<=x.L.length)/\x.L.length<=100000000/\fK x.L
def aj3(x:ZR):Out (Exit×S):= .all (fun i=>zA (PMe x.L x.p) x.lo x.hi i i) fun i=> .one (.exit 8,sp 220 [(0, .ak 0 0 x.L.length),(1, .int x.a),(2, .int x.m),(3, .int x.b),(4,pe),(18, .int x.j6),(19, .int x.w),(20, .int i)] [kh x.L])
theorem lMe κ:aU (kz κ).E 12 167 33 (aG 1 Ru XA aj3):=by
 refine aC (fun x=>x.j - x.i) ?_;rintro⟨L,a,m,b,c,w,lo,q,i,j,p⟩ K ⟨f,k,l,g⟩ o;simp only at f k l g;rw[show(kz κ).E.P=Pr κ from rfl];refine Eq.mpr (xMe κ L a m b c w i j p _ _ K) ?_;have r:=f.le;rw[ae,at3,aC7];refine⟨fun h=>?_,fun h=>?_⟩
 ·rw[Cs (by omega),az (n:=(((i+j) / 2:Nat):Int)+1) (by omega) (by omega),az (n:=(p:Int) - ((i+j) / 2:Nat)) (by omega) (by omega),gy,gy,show 0+(((i+j) / 2:Nat):Int).toNat=(i+j) / 2 by omega,show 0+((p:Int) - ((i+j) / 2:Nat)).toNat=p - (i+j) / 2 by omega]
  have d:i<j:=by omega
  refine ai.2 ⟨by simp;omega,ai.2 ⟨by simp;omega,ai.2 ⟨aD1 (lq g _),ae.2 ⟨fun e=>?_,fun e=>?_⟩⟩⟩⟩
  ·refine⟨_,?_,⟨L,a,m,b,c,w,lo,q,(i+j) / 2+1,j,p⟩,rfl,⟨f.yes d (by simpa using e),k,l,g⟩,rfl,o⟩
   simp only;omega
  ·refine⟨_,?_,⟨L,a,m,b,c,w,lo,q,i,(i+j) / 2,p⟩,rfl,⟨f.no d (by simpa using e),k,l,g⟩,rfl,o⟩
   simp only;omega
 ·obtain rfl:i=j:=by omega
  exact o i f
noncomputable def W2 κ:=(kz κ).loop (lMa _)
theorem TG κ:Pr κ=(kz κ).E.P:=rfl
noncomputable def W3 κ:=(W2 _).Cj _ (rfl.trans (TG κ)) (lMb _)
noncomputable def W4 κ:=(W3 _).Cj _ (rfl.trans (TG κ)) (lMc _)
noncomputable def K7 κ:=(W4 _).Cj _ (rfl.trans (TG κ)) (lMq _)
noncomputable def BMa(κ:Kp):EB:=(K7 κ).Cj (kz κ) ((show(K7 κ).E.P=Pr κ from rfl).trans (TG κ)) (lMe κ)
structure jz where
 L:RL
 a:Nat
 m:Nat
 b:Nat
def fw(x:jz):=([.ak 0 0 x.L.length, .int x.a, .int x.m, .int x.b,pe],[kh x.L])
structure fL(x:jz):Prop where
 lt:x.a<x.m/\x.m<x.b/\x.b<=x.L.length
 l:x.L.length<=100000000
 s:fK x.L
 u:Up x.L x.a x.m
 v:Up x.L x.m x.b
def Qd(x:jz):Out (AV×List Dn.Obj):= .all (Sr x.a x.b x.L) fun M=> .one (.aH [],[kh M])
def Rd n:=aM fw (fun x=>fL x/\x.b - x.a=n) Qd
noncomputable def NS κ r:=(BMa κ).E.ax 167 fun a st K=>∃m,m<r/\Rd m a st K
theorem aB9(κ:Kp)(r:Nat)(L:RL)(a m b:Nat) K:(a8 (NS κ r) 12 167 [.ak 0 0 L.length, .int a, .int m, .int b,pe] [kh L] K)=(
 letI c:=IntKind.wrap IntKind.i64
 letI d:=AV.int
 letI e:=Obj.row
 letI f:=AV.aH
 letI g:=AV.ak
 letI h:=AV.bo
 letI S:=Int.fdiv (IntKind.wrap IntKind.u64 (c ((↑a:Int)+(↑b:Int)))) (2:Int)
 letI T:=c S+(↑m:Int)
 letI R:=Pg.toProgram (Env.P (EB.E (K7 κ)))
 letI V:=c (c T - (1:Int))
 letI U:=c S
 letI W:=Pg.toProgram (Env.P (EB.E (kz κ)))
 letI X:=Pg.toProgram (Env.P (EB.E (W2 κ)))
 letI Y:=Pg.toProgram (Env.P (EB.E (W3 κ)))
 letI Z:=Pg.toProgram (Env.P (EB.E (W4 κ)))
 letI C:=c T
 aq (c ((↑m:Int) - (↑a:Int))==(1:Int)) (ad W 167 3=ad W 167 3/\∃(e3:AMa),sp 220 [(0,g 0 0 L.length),(1,d (↑a:Int)),(4,h 54 []),(10,d (↑m:Int)),(11,d (↑b:Int))] [e 70 (rws L)]=ap2 e3/\aa8 e3/\∀(e2:Nat),zA (PMa e3.L e3.a) (e3.a+1) e3.b e2 e2->ad X 167 9=ad X 167 9/\∃(e1:AMb),sp 220 [(0,g 0 0 e3.L.length),(10,d (↑e2:Int)),(13,d (↑(e3.a):Int))] [e 70 (rws e3.L)]=Y4 e1/\aa9 e1/\∀(e0:RL),Fw e1.a e1.b (e1.i - 1) e1.L0 e0->K (f []) [e 70 (rws e0)]) (aq (c ((↑b:Int) - (↑m:Int))==(1:Int)) (ad Y 167 15=ad Y 167 15/\∃(e3:AMc),sp 220 [(0,g 0 0 L.length),(2,d (↑m:Int)),(4,h 54 []),(14,d (↑a:Int)),(15,d (↑m:Int))] [e 70 (rws L)]=ap3 e3/\ab0 e3/\∀(e2:Nat),zA (PMc e3.L e3.m) e3.a e3.m e2 e2->ad Z 167 21=ad Z 167 21/\∃(e1:AMq),sp 220 [(0,g 0 0 e3.L.length),(14,d (↑e2:Int)),(17,d (↑(e3.m):Int))] [e 70 (rws e3.L)]=Rv e1/\ab1 e1/\∀(e0:RL),Bw e1.a e1.m e1.i e1.L0 e0->K (f []) [e 70 (rws e0)]) (aq (decide ((↑m:Int)>c S)) (ad R 167 33=ad R 167 33/\∃(e9:ZR),letI i:=[e 70 (rws e9.L)];letI s:=K (f []) i;sp 220 [(0,g 0 0 L.length),(1,d (↑a:Int)),(2,d (↑m:Int)),(3,d (↑b:Int)),(4,h 54 []),(18,d U),(19,d C),(20,d (c (c T - (↑b:Int)))),(21,d U),(22,d V)] [e 70 (rws L)]=Ru e9/\XA e9/\∀(e8:Nat),letI t:=(↑(e9.w):Int) - (↑e8:Int);letI D:=c t;letI j:=[g 0 0 e9.L.length,d (↑(e9.j6):Int),d D,d (↑(e9.b):Int),h 54 []];letI k:=decide ((↑(e9.j6):Int)<c t);letI l:=decide (c t<(↑(e9.b):Int));letI E:=[g 0 0 e9.L.length,d (↑(e9.a):Int),d (↑e8:Int),d (↑(e9.j6):Int),h 54 []];letI F:=decide ((↑e8:Int)<(↑(e9.j6):Int));letI G:=decide ((↑(e9.a):Int)<(↑e8:Int));letI H:=aq G (aq F (∃(e5:Nat),e5<r/\∃(e4:jz),(E,i)=fw e4/\(fL e4/\e4.b - e4.a=e5)/\∀(e3:RL),letI y:=[e 70 (rws e3)];Sr e4.a e4.b e4.L e3->aq k (aq l (∃(e2:Nat),e2<r/\∃(e1:jz),(j,y)=fw e1/\(fL e1/\e1.b - e1.a=e2)/\∀(e0:RL),Sr e1.a e1.b e1.L e0->K (f []) [e 70 (rws e0)]) (K (f []) y)) (K (f []) y)) (aq k (aq l (∃(e2:Nat),e2<r/\∃(e1:jz),(j,i)=fw e1/\(fL e1/\e1.b - e1.a=e2)/\∀(e0:RL),Sr e1.a e1.b e1.L e0->K (f []) [e 70 (rws e0)]) s) s)) (aq k (aq l (∃(e2:Nat),e2<r/\∃(e1:jz),(j,i)=fw e1/\(fL e1/\e1.b - e1.a=e2)/\∀(e0:RL),Sr e1.a e1.b e1.L e0->K (f []) [e 70 (rws e0)]) s) s);zA (PMe e9.L e9.p) e9.lo e9.hi e8 e8->aq (decide ((↑e8:Int)<(↑(e9.m):Int))) (aq (decide ((↑(e9.m):Int)<c t)) (∃(e7:Np),([g 0 0 e9.L.length,d (↑e8:Int),d (↑(e9.m):Int),d D,h 54 []],i)=Ry e7/\Dq e7/\∀(e6:RL),letI u:=[e 70 (rws e6)];letI I:=aq k (aq l (∃(e2:Nat),e2<r/\∃(e1:jz),(j,u)=fw e1/\(fL e1/\e1.b - e1.a=e2)/\∀(e0:RL),Sr e1.a e1.b e1.L e0->K (f []) [e 70 (rws e0)]) (K (f []) u)) (K (f []) u);Nh e7.a e7.b e7.n e7.L e6->aq G (aq F (∃(e5:Nat),e5<r/\∃(e4:jz),(E,u)=fw e4/\(fL e4/\e4.b - e4.a=e5)/\∀(e3:RL),letI z:=[e 70 (rws e3)];Sr e4.a e4.b e4.L e3->aq k (aq l (∃(e2:Nat),e2<r/\∃(e1:jz),(j,z)=fw e1/\(fL e1/\e1.b - e1.a=e2)/\∀(e0:RL),Sr e1.a e1.b e1.L e0->K (f []) [e 70 (rws e0)]) (K (f []) z)) (K (f []) z)) I) I) H) H) (ad R 167 33=ad R 167 33/\∃(e9:ZR),letI n:=[e 70 (rws e9.L)];letI v:=K (f []) n;sp 220 [(0,g 0 0 L.length),(1,d (↑a:Int)),(2,d (↑m:Int)),(3,d (↑b:Int)),(4,h 54 []),(18,d U),(19,d C),(20,d (↑a:Int)),(21,d (↑m:Int)),(22,d V)] [e 70 (rws L)]=Ru e9/\XA e9/\∀(e8:Nat),letI w:=(↑(e9.w):Int) - (↑e8:Int);letI J:=c w;letI o:=[g 0 0 e9.L.length,d (↑(e9.j6):Int),d J,d (↑(e9.b):Int),h 54 []];letI p:=decide ((↑(e9.j6):Int)<c w);letI q:=decide (c w<(↑(e9.b):Int));letI M:=[g 0 0 e9.L.length,d (↑(e9.a):Int),d (↑e8:Int),d (↑(e9.j6):Int),h 54 []];letI N:=decide ((↑e8:Int)<(↑(e9.j6):Int));letI O:=decide ((↑(e9.a):Int)<(↑e8:Int));letI P:=aq O (aq N (∃(e5:Nat),e5<r/\∃(e4:jz),(M,n)=fw e4/\(fL e4/\e4.b - e4.a=e5)/\∀(e3:RL),letI A:=[e 70 (rws e3)];Sr e4.a e4.b e4.L e3->aq p (aq q (∃(e2:Nat),e2<r/\∃(e1:jz),(o,A)=fw e1/\(fL e1/\e1.b - e1.a=e2)/\∀(e0:RL),Sr e1.a e1.b e1.L e0->K (f []) [e 70 (rws e0)]) (K (f []) A)) (K (f []) A)) (aq p (aq q (∃(e2:Nat),e2<r/\∃(e1:jz),(o,n)=fw e1/\(fL e1/\e1.b - e1.a=e2)/\∀(e0:RL),Sr e1.a e1.b e1.L e0->K (f []) [e 70 (rws e0)]) v) v)) (aq p (aq q (∃(e2:Nat),e2<r/\∃(e1:jz),(o,n)=fw e1/\(fL e1/\e1.b - e1.a=e2)/\∀(e0:RL),Sr e1.a e1.b e1.L e0->K (f []) [e 70 (rws e0)]) v) v);zA (PMe e9.L e9.p) e9.lo e9.hi e8 e8->aq (decide ((↑e8:Int)<(↑(e9.m):Int))) (aq (decide ((↑(e9.m):Int)<c w)) (∃(e7:Np),([g 0 0 e9.L.length,d (↑e8:Int),d (↑(e9.m):Int),d J,h 54 []],n)=Ry e7/\Dq e7/\∀(e6:RL),letI x:=[e 70 (rws e6)];letI Q:=aq p (aq q (∃(e2:Nat),e2<r/\∃(e1:jz),(o,x)=fw e1/\(fL e1/\e1.b - e1.a=e2)/\∀(e0:RL),Sr e1.a e1.b e1.L e0->K (f []) [e 70 (rws e0)]) (K (f []) x)) (K (f []) x);Nh e7.a e7.b e7.n e7.L e6->aq O (aq N (∃(e5:Nat),e5<r/\∃(e4:jz),(M,x)=fw e4/\(fL e4/\e4.b - e4.a=e5)/\∀(e3:RL),letI B:=[e 70 (rws e3)];Sr e4.a e4.b e4.L e3->aq p (aq q (∃(e2:Nat),e2<r/\∃(e1:jz),(o,B)=fw e1/\(fL e1/\e1.b - e1.a=e2)/\∀(e0:RL),Sr e1.a e1.b e1.L e0->K (f []) [e 70 (rws e0)]) (K (f []) B)) (K (f []) B)) Q) Q) P) P)))):=by kernel_rfl
theorem aw4 κ r(d: ∀a st K,(∃m,m<r/\Rd m a st K)->cf (Pr κ) 167 a st K):aE (NS κ r)/\aj (NS κ r)/\(NS κ r).P=Pr κ:=
 ⟨(BMa _).ok.fQ d,(BMa _).mono.ax fun _ _ _ _ c ⟨m,e,b⟩=>⟨m,e,aJ _ _ _ _ c b⟩,rfl⟩
theorem as2 κ r:bd (NS κ r) 12 167 (Rd r):=by
 refine aQ ?_;rintro⟨L,a,m,b⟩ K ⟨⟨⟨P,h2,x⟩,t,z,F,E⟩,h8⟩ B;simp only at P h2 x t z F E h8
 replace B: ∀M,Sr a b L M->K (.aH []) [kh M]:=B
 refine Eq.mpr (aB9 κ r L a m b K) ?_;have A:=Cs (i:=a) (j:=b) (by omega);rw[az (n:=(m:Int) - a) (by omega) (by omega),az (n:=(b:Int) - m) (by omega) (by omega),A];obtain⟨c,hm⟩: ∃c,c=(a+b) / 2:=⟨_,rfl⟩
 rw[←hm];rw[az (n:=(c:Int)+m) (by omega) (by omega),az (n:=(c:Int)+m - b) (by omega) (by omega),az (n:=(c:Int)+m - 1) (by omega) (by omega)];rw[ae,beq_iff_eq,beq_eq_false_iff_ne];refine⟨fun e=>?_,fun e=>?_⟩
 ·obtain rfl:m=a+1:=by omega
  refine⟨rfl,⟨L,a,b,a+1,b⟩,rfl,⟨zA.start (show a+1<=b by omega),x,t,z⟩,fun i f=>⟨rfl,⟨L,L,a,b,i,a⟩,rfl,⟨.start a b L,?_,x,t⟩,fun M d=>B M ⟨d.sw,?_⟩⟩⟩
  ·obtain⟨v,_,p⟩:a+1<=i/\i<=i/\i<=b:=f.le
   exact⟨Nat.le_refl _,v,p⟩
  ·obtain⟨v,_,p⟩:a+1<=i/\i<=i/\i<=b:=f.le
   refine Fw.done (L:=L) (M:=M) (i:=i) d ⟨v,p⟩ E (fun q=>?_) (fun q=>?_)
   ·have:bD (rat L (i - 1)) (rat L a)<0:=f.h1 q
    omega
   ·have: ¬ bD (rat L i) (rat L a)<0:=f.h2 q
    rw[bX.swap (rat L i)];omega
 ·rw [ae,beq_iff_eq,beq_eq_false_iff_ne]
  refine⟨fun e2=>?_,fun e2=>?_⟩
  ·obtain rfl:b=m+1:=by omega
   refine⟨rfl,⟨L,a,m,a,m⟩,rfl,⟨.start (Nat.le_of_lt P),x,t,z⟩,fun i f=>⟨rfl,⟨L,L,a,m,i,m⟩,rfl,⟨.start a m L,?_,x,t⟩,fun M d=>B M ⟨d.sw,?_⟩⟩⟩
   ·obtain⟨v,_,p⟩:a<=i/\i<=i/\i<=m:=f.le
    exact⟨v,p,Nat.le_refl _⟩
   ·obtain⟨v,_,p⟩:a<=i/\i<=i/\i<=m:=f.le
    refine Bw.done (L:=L) (M:=M) (i:=i) d ⟨v,p⟩ F (fun q=>?_) (fun q=>?_)
    ·have:0<=bD (rat L m) (rat L (i - 1)):=f.h1 q
     rw[bX.swap (rat L m)];omega
    ·have: ¬ 0<=bD (rat L m) (rat L i):=f.h2 q
     omega
  ·have s: ∀lo f y,(lo=c+m - b/\f=c/\c<=m\/lo=a/\f=m/\m<=c)->zA (PMe L (c+m - 1)) lo f y y->y<=c/\c+m - y<=b/\Cut a m b y (c+m - y) L:=fun lo f y q1 l=>by
    have W:=l.le;refine⟨by omega,by omega,⟨fun C D=>?_,fun C D=>?_⟩⟩
    ·have:0<=bD (rat L (c+m - 1 - (y - 1))) (rat L (y - 1)):=l.h1 (by omega)
     rw[show c+m - 1 - (y - 1)=c+m - y by omega,bX.swap (rat L (y - 1))] at this;omega
    ·have: ¬ 0<=bD (rat L (c+m - 1 - y)) (rat L y):=l.h2 (by omega)
     rw[show c+m - 1 - y=c+m - y - 1 by omega] at this;omega
   have u: ∀y e M,(a<=y/\y<=m/\m<=e/\e<=b)->y+(e - m)=c->Cut a m b y e L->Nh y m e L M->(Up M a y/\Up M y c/\Up M c e/\Up M e b)/\∀N,Sw a c M N->∀k,a<=k->k<c->∀j,c<=j->j<b->bD (rat N k) (rat M j)<=0:=fun y e M C D k3 d=>
    ⟨(EM C D F E k3 d .refl).2,fun N h=>(EM C D F E k3 d h).1⟩
   rcases Nat.lt_or_ge c m with q|q
   case' inl=>
    rw[ae,at3,aC7];refine⟨fun _=>⟨rfl,⟨L,a,m,b,c,c+m,c+m - b,c,c+m - b,c,c+m - 1⟩,?_,⟨zA.start (show c+m - b<=c by omega),by simp only;omega,t,z⟩,fun y l=>?_⟩,fun g=>absurd (show(m:Int)>c by omega) g⟩
    ·simp only[Ru,show((c+m - b:Nat):Int)=c+m - b by omega,show((c+m - 1:Nat):Int)=c+m - 1 by omega,show((c+m:Nat):Int)=c+m by omega]
    have o:a<=y/\y<=m:=by have:c+m - b<=y/\y<=y/\y<=c:=l.le;omega
    obtain⟨c1,H,Q⟩:=s _ _ y (.inl ⟨rfl,rfl,by omega⟩) l
   case' inr=>
    rw[ae,at3,aC7];refine⟨fun g=>absurd g (show ¬ (m:Int)>c by omega),fun _=>⟨rfl,⟨L,a,m,b,c,c+m,a,m,a,m,c+m - 1⟩,?_,⟨.start (Nat.le_of_lt P),by simp only;omega,t,z⟩,fun y l=>?_⟩⟩
    ·simp only[Ru,show((c+m - 1:Nat):Int)=c+m - 1 by omega,show((c+m:Nat):Int)=c+m by omega]
    have o:a<=y/\y<=m:=by have:a<=y/\y<=y/\y<=m:=l.le;omega
    obtain⟨c1,H,Q⟩:=s _ _ y (.inr ⟨rfl,rfl,by omega⟩) l
   all_goals
    simp only;rw[az (n:=((c+m:Nat):Int) - y) (by omega) (by omega),show((c+m:Nat):Int) - y=(c+m - y:Nat) by omega];clear l s;obtain⟨e,he⟩: ∃e,e=c+m - y:=⟨_,rfl⟩
    rw[←he] at H Q⊢;have T:c<=e:=by omega
    have J:c<=b:=by omega
    have V:a<=c:=by omega
    have u:=fun M=>u y e M ⟨o.1,o.2,by omega,H⟩ (by omega) Q
    refine ae.2 ⟨fun I=>ae.2 ⟨fun X=>⟨⟨L,y,m,e⟩,rfl,⟨by simpa using I,by simpa using X,by simp only;omega,by simp only[aX];omega⟩,fun M d=>?_⟩,fun X=>?_⟩,fun I=>?_⟩;simp only at d
    rotate_left
    have d:Nh y m e L L:= .none (.inr (by simp at I X;omega))
    rotate_left
    have d:Nh y m e L L:= .none (.inl (by simp at I;omega))
    rotate_left
    all_goals
     obtain⟨⟨u1,u2,u3,u4⟩,hx⟩:=u _ d;have W:=d.sw.len;have hs:=fJ z d.sw.perm;have R:Sw a b L _:=d.sw.mono o.1 H x;refine ae.2 ⟨fun U=>ae.2 ⟨fun g4=>⟨c - a,by omega,⟨_,a,y,c⟩,Prod.ext (by simp only[fw,W]) rfl,⟨⟨⟨by simpa using U,by simpa using g4,by simp only;omega⟩,by simp only;omega,hs,u1,u2⟩,rfl⟩,fun N h=>?_⟩,fun g4=>?_⟩,fun U=>?_⟩;simp only at h
     rotate_left
     have h:Sr a c _ _:=⟨.refl,by simp at g4;rw[show c=y by omega];exact u1⟩
     rotate_left
     have h:Sr a c _ _:=⟨.refl,by simp at U;rw[show a=y by omega];exact u2⟩
     rotate_left
     all_goals
      have hx:=hx _ h.sw;have Z:=h.sw.len;have Y:=fJ hs h.sw.perm;have v3:=h.sw.upr u3 (Nat.le_refl _);have v4:=h.sw.upr u4 T;have sw2:=R.trans (h.sw.mono (Nat.le_refl _) J (by omega));refine ae.2 ⟨fun g5=>ae.2 ⟨fun g6=>⟨b - c,by omega,⟨_,c,e,b⟩,Prod.ext (by simp only[fw,Z,W]) rfl,⟨⟨⟨by simpa using g5,by simpa using g6,by simp only;omega⟩,by simp only;omega,Y,v3,v4⟩,rfl⟩,fun O w=>?_⟩,fun g6=>?_⟩,fun g5=>?_⟩;simp only at w
      rotate_left
      have w:Sr c b _ _:=⟨.refl,by simp at g6;rw[show b=e by omega];exact v3⟩
      rotate_left
      have w:Sr c b _ _:=⟨.refl,by simp at g5;rw[show c=e by omega];exact v4⟩
      rotate_left
      all_goals exact B _ ⟨sw2.trans (w.sw.mono V (Nat.le_refl _) (by omega)),U7 hx h.sw h.up w.sw w.up⟩
theorem az0 κ: ∀a st K,aM fw fL Qd a st K->cf (Pr κ) 167 a st K:=by
 rintro a st K ⟨x,c,d,b⟩;exact aE.qh _ _ (aw4 _) (as2 _) _ _ _ K ⟨x,c,⟨d,rfl⟩,b⟩
noncomputable def Gp κ:=(kz κ).ZJ aJ (az0 _)
def Blk L d N:=∀k,Up L (k*d) (min (k*d+d) N)
def XB L d q:=∀k,k<q->Up L (k*d) (k*d+d)
theorem XE{L d q N}(b:XB L d q)(f:Up L (q*d) N)(a:q*d<=N)(e:N<q*d+d):Blk L d N:=by
 intro k;rcases Nat.lt_trichotomy k q with h|rfl|h
 ·exact(b k h).cut (by grind)
 ·grind
 ·intro i j g l c
  have:=Nat.mul_le_mul_right d h
  grind
theorem Gb{L M d q N}(c:XB L d q)(h:Sw (q*d) N L M)(f:Up M (q*d) (q*d+d)):XB M d (q+1):=fun k e=>by
 rcases Nat.lt_or_ge k q with a|a
 ·have b:=Nat.mul_le_mul_right d a
  rw[Nat.succ_mul] at b;exact h.upl (c k a) b
 grind
theorem KZ{L M d q N}(c:XB L d q)(h:Sw (q*d) N L M)(g:Up M (q*d) N)(e:q*d<=N)(f:N<q*d+d):Blk M d N:=
 XE (fun k a=>by
  have b:=Nat.mul_le_mul_right d a;rw[Nat.succ_mul] at b;exact h.upl (c k a) b) g e f
theorem xTa κ L(N a b:Nat) I n K:(vc (Gp κ).E 12 128 none 1 (ad (Pr κ).toProgram 128 2) (sp 63 [(0, .ak 0 0 L.length),(1, .int N),(2,pe),(6, .int 20),(7, .int a),(8, .int b)] [kh L]) (bg (Gp κ).E 128 2 1 I n K))=(
 letI c:=AV.int
 aq (decide (↑b<=(↑N:Int))) (∃a_1,([.ak 0 0 L.length,c ↑a,c ↑b,.bo 54 []],[.row 70 (rws L)])=Y1
 a_1/\Ig a_1/\∀y,(Sw a_1.a a_1.b a_1.L y/\∀i j,a_1.a<=i->i<j->j<a_1.b->bD (rat y i) (rat y j)<=0)->∃m,m
 <n/\I m (sp 63 [(0,.ak 0 0 L.length),(1,c ↑N),(2,.bo 54 []),(6,c 20),(7,c ↑b),(8,c (IntKind.wrap
 .i64 (↑b+20)))] [.row 70 (rws y)])) (K (.exit 0) (sp 63 [(0,.ak 0 0 L.length),(1,c ↑N),(2,.bo 54 []),
 (6,c 20),(7,c ↑a)] [.row 70 (rws L)]))):=by kernel_rfl
structure ATa where
 L0:RL
 L:RL
 q:Nat
abbrev Zb(x:ATa):=sp 63 [(0, .ak 0 0 x.L.length),(1, .int x.L0.length),(2,pe),(6, .int 20),(7, .int (x.q*20:Nat)),(8, .int (x.q*20+20:Nat))] [kh x.L]
def ab4(x:ATa):=Sw 0 x.L0.length x.L0 x.L/\XB x.L 20 x.q/\x.q*20<=x.L0.length/\x.L0.length<=100000000/\fK x.L0
def ak8(x:ATa):Out (Exit×S):= .all (fun r:Nat×RL=>Sw 0 x.L0.length x.L0 r.2/\XB r.2 20 r.1/\r.1*20<=x.L0.length/\x.L0.length<r.1*20+20) fun r=> .one (.exit 0,sp 63 [(0, .ak 0 0 r.2.length),(1, .int x.L0.length),(2,pe),(6, .int 20),(7, .int (r.1*20:Nat))] [kh r.2])
theorem lTa κ:aU (Gp κ).E 12 128 2 (aG 1 Zb ab4 ak8):=by
 refine aC (fun x=>x.L0.length - x.q*20) ?_;rintro⟨e,L,q⟩ K ⟨a,b,i,g,c⟩ f;simp only at a b i g c;rw[show(Gp κ).E.P=Pr κ from rfl];refine Eq.mpr (xTa κ L e.length (q*20) (q*20+20) _ _ K) ?_;have l:=a.len;rw[ae,at3,aC7];refine⟨fun h=>⟨⟨L,q*20,q*20+20⟩,rfl,⟨by simp only;omega,by simp only;omega,by simp only;omega,fJ c a.perm⟩,fun M k=>?_⟩,fun h=>?_⟩
 ·obtain⟨d,j⟩:Sw (q*20) (q*20+20) L M/\Up M (q*20) (q*20+20):=k
  rw[az (n:=((q*20+20:Nat):Int)+20) (by omega) (by omega)];refine⟨_,?_,⟨e,M,q+1⟩,?_,⟨a.trans (d.mono (by omega) (by omega) (by omega)),Gb b d j,by simp only;omega,g,c⟩,rfl,f⟩
  ·simp only;omega
  ·simp only[Zb]
   rw[d.len,show(q+1)*20=q*20+20 by omega];rfl
 ·exact f (q,L) ⟨a,b,i,by simp only;omega⟩
noncomputable def Xg κ:=(Gp κ).loop (lTa _)
theorem xTb κ L(N bs a b:Nat) I n K:(vc (Xg κ).E 12 128 none 1 (ad (Pr κ).toProgram 128 9) (sp 63 [(0, .ak 0 0 L.length),(1, .int N),(2,pe),(6, .int bs),(7, .int a),(8, .int b)] [kh L]) (bg (Xg κ).E 128 9 1 I n K))=(
 letI c:=IntKind.wrap .i64
 letI d:=AV.int
 aq (decide (↑b<=(↑N:Int))) (∃e2,([.ak 0 0 L.length,d ↑a,d (c (↑a+↑bs)),
 d ↑b,.bo 54 []],[.row 70 (rws L)])=fw e2/\fL e2/\∀e1,Sr e2.a e2.b e2.L e1->∃e0,e0<n/\I e0 (sp 63 [(0,.ak 0 0
 L.length),(1,d ↑N),(2,.bo 54 []),(6,d ↑bs),(7,d ↑b),(8,d (c (↑b+
 c (2*↑bs))))] [.row 70 (rws e1)])) (K (.exit 4) (sp 63 [(0,.ak 0 0 L.length),(1,d ↑N),(2,
 .bo 54 []),(6,d ↑bs),(7,d ↑a)] [.row 70 (rws L)]))):=by kernel_rfl
structure ATb where
 L0:RL
 L:RL
 bs:Nat
 q:Nat
abbrev UZ(x:ATb):=sp 63 [(0, .ak 0 0 x.L.length),(1, .int x.L0.length),(2,pe),(6, .int x.bs),(7, .int (x.q*(2*x.bs):Nat)),(8, .int (x.q*(2*x.bs)+2*x.bs:Nat))] [kh x.L]
structure NY(x:ATb):Prop where
 sw:Sw 0 x.L0.length x.L0 x.L
 w:XB x.L (2*x.bs) x.q
 le:x.q*(2*x.bs)<=x.L0.length
 b:0<x.bs/\x.bs<x.L0.length
 l:x.L0.length<=100000000
 s:fK x.L0
 r: ∀k,2*x.q<=k->Up x.L (k*x.bs) (min (k*x.bs+x.bs) x.L0.length)
def ak9(x:ATb):Out (Exit×S):= .all (fun r:Nat×RL=>NY ⟨x.L0,r.2,x.bs,r.1⟩/\x.L0.length<r.1*(2*x.bs)+2*x.bs) fun r=> .one (.exit 4,sp 63 [(0, .ak 0 0 r.2.length),(1, .int x.L0.length),(2,pe),(6, .int x.bs),(7, .int (r.1*(2*x.bs):Nat))] [kh r.2])
theorem p8 q a:2*q*a=q*(2*a):=by grind
theorem lTb κ:aU (Xg κ).E 12 128 9 (aG 1 UZ NY ak9):=by
 refine aC (fun x=>x.L0.length - x.q*(2*x.bs)) ?_;rintro⟨f,L,a,q⟩ K l t;obtain⟨b,m,o,i,j,d,c⟩:=l;have l:NY ⟨f,L,a,q⟩:=⟨b,m,o,i,j,d,c⟩
 simp only at b m o i j d c;rw[show(Xg κ).E.P=Pr κ from rfl];refine Eq.mpr (xTb κ L f.length a (q*(2*a)) (q*(2*a)+2*a) _ _ K) ?_;have y:=b.len;have p:=c (2*q) (Nat.le_refl _);have r:=c (2*q+1) (by omega);have s:(q+1)*(2*a)=q*(2*a)+2*a:=Nat.succ_mul _ _;have g: ∀k,2*(q+1)<=k->q*(2*a)+2*a<=k*a:=fun k g=>by
  have:=Nat.mul_le_mul_right a g
  rw[p8,s] at this;exact this
 rw[Nat.succ_mul,p8] at r;rw[p8] at p;rw[ae,at3,aC7];refine⟨fun h=>?_,fun h=>?_⟩
 ·rw[az (n:=((q*(2*a):Nat):Int)+a) (by omega) (by omega),az (n:=2*(a:Int)) (by omega) (by omega),az (n:=((q*(2*a)+2*a:Nat):Int)+2*a) (by omega) (by omega),show((q*(2*a):Nat):Int)+a=(q*(2*a)+a:Nat) by omega]
  refine⟨⟨L,q*(2*a),q*(2*a)+a,q*(2*a)+2*a⟩,rfl,⟨⟨by simp only;omega,by simp only;omega,by simp only;omega⟩,by simp only;omega,fJ d b.perm,p.cut (by simp only;omega),r.cut (by simp only;omega)⟩,fun M v=>?_⟩;obtain⟨e,w⟩:Sr (q*(2*a)) (q*(2*a)+2*a) L M:=v;refine⟨_,?_,⟨f,M,a,q+1⟩,?_,⟨b.trans (e.mono (by omega) (by omega) (by omega)),Gb m e w,by simp only;omega,i,j,d,fun k u=>e.upr (c k (by simp only at u;omega)) (g k u)⟩,rfl,t⟩
  ·simp only;omega
  ·simp only[UZ]
   rw[e.len,s];rfl
 ·exact t (q,L) ⟨l,by simp only;omega⟩
noncomputable def Xh κ:=(Xg κ).loop (lTb _)
theorem aB2 κ L(N bs:Nat) I n K:(vc (Xh κ).E 12 128 none 1 (ad (Pr κ).toProgram 128 7) (sp 63 [(0, .ak 0 0 L.length),(1, .int N),(2,pe),(6, .int bs)] [kh L]) (bg (Xh κ).E 128 7 1 I n K))=(
 letI a:=IntKind.wrap .i64
 letI b:=AV.int
 letI c:=Obj.row
 letI e:=Pg.toProgram (Env.P (EB.E (Xg κ)))
 aq (decide (↑bs<(↑N:Int))) (ad e 128 9=ad e 128 9/\∃e4,letI h:=.int .i64 (a (↑(e4.bs)*2));letI d:=e4.L0.length;sp 63 [(0,.ak 0 0 L.length),(1,b ↑N),(2,.bo 54 []),(6,b ↑bs),(7,b 0),(8,b (a (2*↑bs)))] [c 70 (rws L)]=UZ e4/\NY e4/\∀(e3:Nat×RL),letI f:=[(0,.ak 0 0 e3.2.length),(1,b ↑d),(2,.bo 54 []),(6,.lit h)];letI g:=↑(e3.1*(2*e4.bs))+(↑(e4.bs):Int);NY {L0:=e4.L0,L:=e3.2,bs:=e4.bs,q:=e3.1}/\e4.L0.length<e3.1*(2*e4.bs)+2*e4.bs->aq (decide (a g<↑d)) (∃e2,([.ak 0 0 e3.2.length,b ↑(e3.1*(2*e4.bs)),.lit (.int .i64 (a g)),b ↑d,.bo 54 []],[c 70 (rws e3.2)])=fw e2/\fL e2/\∀e1,Sr e2.a e2.b e2.L e1->∃e0,e0<n/\I e0 (sp 63 f [c 70 (rws e1)])) (∃e0,e0<n/\I e0 (sp 63 f [c 70 (rws e3.2)]))) (K (.exit 2) (sp 63 [] [c 70 (rws L)]))):=by kernel_rfl
structure Sc where
 L0:RL
 L:RL
 bs:Nat
abbrev FT(x:Sc):=sp 63 [(0, .ak 0 0 x.L.length),(1, .int x.L0.length),(2,pe),(6, .int x.bs)] [kh x.L]
def NZ(x:Sc):=Sw 0 x.L0.length x.L0 x.L/\Blk x.L x.bs x.L0.length/\(0<x.bs/\x.bs<=200000000)/\x.L0.length<=100000000/\fK x.L0
def Yv(x:Sc):Out (Exit×S):= .all (fun M=>Sw 0 x.L0.length x.L0 M/\Up M 0 x.L0.length) fun M=> .one (.exit 2,sp 63 [] [kh M])
theorem ay2 κ:aU (Xh κ).E 12 128 7 (aG 1 FT NZ Yv):=by
 refine aC (fun x=>x.L0.length - x.bs) ?_;rintro⟨b,L,a⟩ K ⟨i,j,z,m,g⟩ l;simp only at i j z m g;rw[show(Xh κ).E.P=Pr κ from rfl];refine Eq.mpr (aB2 κ L b.length a _ _ K) ?_;have D:=i.len;rw[ae,at3,aC7];refine⟨fun h=>?_,fun h=>?_⟩
 ·rw [az (n:=2*(a:Int)) (by omega) (by omega)]
  refine⟨rfl,⟨b,L,a,0⟩,?_,⟨i,fun k y=>absurd y (Nat.not_lt_zero k),by simp only;omega,by simp only;omega,m,g,fun k _=>j k⟩,fun r w=>?_⟩
  ·simp only[UZ]
   rw[show 0*(2*a)+2*a=2*a by omega,show 0*(2*a)=0 by omega];rfl
  ·obtain⟨q,M⟩:=r
   obtain⟨⟨f,t,u,A,B,v,m7⟩,m8⟩:=w;simp only at f t u A B v m7 m8;have F:=f.len;have o:=m7 (2*q) (Nat.le_refl _);have s:=m7 (2*q+1) (by omega);rw[Nat.succ_mul,p8] at s;rw[p8] at o;simp only;rw[az (n:=(a:Int)*2) (by omega) (by omega),az (n:=((q*(2*a):Nat):Int)+a) (by omega) (by omega),show((q*(2*a):Nat):Int)+a=(q*(2*a)+a:Nat) by omega];have d: ∀X:RL,Sw (q*(2*a)) b.length M X->Up X (q*(2*a)) b.length->NZ ⟨b,X,2*a⟩:=fun X c p=>
    ⟨f.trans (c.mono (by omega) (Nat.le_refl _) (by omega)),KZ t c p u m8,by simp only;omega,m,g⟩
   rw[ae,at3,aC7];refine⟨fun e=>?_,fun e=>?_⟩
   ·refine⟨⟨M,q*(2*a),q*(2*a)+a,b.length⟩,rfl,⟨⟨by simp only;omega,by simp only;omega,by simp only;omega⟩,by simp only;omega,fJ g f.perm,o.cut (by simp only;omega),s.cut (by simp only;omega)⟩,fun X C=>?_⟩
    obtain⟨c,p⟩:Sr (q*(2*a)) b.length M X:=C;refine⟨_,?_,⟨b,X,2*a⟩,?_,d X c p,rfl,l⟩
    ·simp only;omega
    ·simp only[FT]
     rw[c.len,show((2*a:Nat):Int)=(a:Int)*2 by omega]
   ·refine⟨_,?_,⟨b,M,2*a⟩,?_,d M .refl (o.cut (by omega)),rfl,l⟩
    ·simp only;omega
    ·simp only[FT]
     rw[show((2*a:Nat):Int)=(a:Int)*2 by omega]
 ·exact l L ⟨i,by
   have:=j 0
   rw[Nat.zero_mul] at this;exact this.cut (show b.length<=min (0+a) b.length by omega)⟩
noncomputable def BTc κ:=(Xh κ).loop (ay2 _)
theorem aC0 κ L K:(a8 (BTc κ).E 12 128 [.ak 0 0 L.length, .int L.length,pe] [kh L] K)=(
 letI a:=AV.int
 letI b:=Obj.row
 letI c:=Pg.toProgram (Env.P (EB.E (Gp κ)))
 letI d:=Pg.toProgram (Env.P (EB.E (Xh κ)))
 ad c 128 2=ad c 128 2/\∃e7,sp 63 [(0,.ak 0 0 L.length),(1,a ↑(L.length)),(2,.bo 54 []),(6,a 20),(7,a 0),(8,
 a 20)] [b 70 (rws L)]=Zb e7/\ab4 e7/\∀(e6:Nat×RL),Sw 0 e7.L0.length e7.L0 e6.2/\(∀e2,e2<e6.1->∀e1 e0,e2*20<=e1->
 e1<e0->e0<e2*20+20->bD (rat e6.2 e1) (rat e6.2 e0)<=0)/\e6.1*20<=e7.L0.length/\e7.L0.length<e6.1*20+20->∃e5,([.ak 0 0
 e6.2.length,a ↑(e6.1*20),a ↑(e7.L0.length),.bo 54 []],[b 70 (rws e6.2)])=Y1 e5/\Ig e5/\∀e4,(Sw e5.a e5.b
 e5.L e4/\∀e1 e0,e5.a<=e1->e1<e0->e0<e5.b->bD (rat e4 e1) (rat e4 e0)<=0)->ad d 128 7=ad d 128 7/\∃e3,sp 63 [(0,.ak
 0 0 e6.2.length),(1,a ↑(e7.L0.length)),(2,.bo 54 []),(6,a 20)] [b 70 (rws e4)]=FT e3/\NZ e3/\∀e2,(Sw 0 e3.L0.length
 e3.L0 e2/\∀e1 e0,0<=e1->e1<e0->e0<e3.L0.length->bD (rat e2 e1) (rat e2 e0)<=0)->K (.aH []) [b 70 (rws e2)]):=by kernel_rfl
def Wo L:=([.ak 0 0 L.length, .int L.length,pe],[kh L])
def qE L:=L.length<=100000000/\fK L
def HJ(L:RL):Out (AV×List Dn.Obj):= .all (fun M=>M.Perm L/\Up M 0 L.length) fun M=> .one (.aH [],[kh M])
theorem as3 κ:bd (BTc κ).E 12 128 (aM Wo qE HJ):=by
 refine aQ ?_;rintro L K ⟨f,c⟩ m;refine Eq.mpr (aC0 κ L K) ?_;refine⟨rfl,⟨L,L,0⟩,rfl,⟨.refl,fun k i=>absurd i (Nat.not_lt_zero k),by simp only;omega,f,c⟩,fun r n=>?_⟩;obtain⟨q,M⟩:=r;obtain⟨a,g,b,e⟩:=n;simp only at a g b e;have o:=a.len;refine⟨⟨M,q*20,L.length⟩,rfl,⟨b,by simp only;omega,by simp only;omega,fJ c a.perm⟩,fun X l=>?_⟩;obtain⟨d,j⟩:Sw (q*20) L.length M X/\Up X (q*20) L.length:=l;refine⟨rfl,⟨L,X,20⟩,?_,⟨a.trans (d.mono (by omega) (Nat.le_refl _) (by omega)),KZ g d j b e,by simp only;omega,f,c⟩,fun Y h=>m Y ⟨h.1.perm,h.2⟩⟩;simp only[FT];rw[d.len];rfl
noncomputable def BTs κ:=(BTc κ).call (as3 _)
theorem aC1 κ L K:(a8 (BTs κ).E 12 79 [.ak 0 0 L.length,pe] [kh L] K)=(
 ∃a,([.ak 0 0 L.length,AV.int ↑(L.length),.bo 54 []],[.row 70 (rws L)])=Wo a/\qE a/\∀(y:RL),(List.Perm y a/\∀i j,0<=i->i<j->j<a.length->bD (rat y i) (rat y j)<=0)->K (.aH []) [.row 70 (rws y)]):=by kernel_rfl
def FU L:=([.ak 0 0 L.length,pe],[kh L])
theorem as4 κ:bd (BTs κ).E 12 79 (aM FU qE HJ):=by
 refine aQ ?_;rintro L K b a;exact Eq.mpr (aC1 _ L K) ⟨L,rfl,b,a⟩
theorem az1 κ: ∀a st K,aM FU qE HJ a st K->cf (Pr κ) 79 a st K:=fun a st K h=>gO (BTs _).ok (BTs _).mono (as4 _ _ _ K h)
def dh(xs:List AV):RL:=xs.map ag
theorem my xs:(dh xs).length=xs.length:=by simp[dh]
theorem s9: ∀xs i,rat (dh xs) i=ag (nth xs i)
 |[],i=>by rfl
 |x::xs,0=>rfl
 |x::xs,i+1=>by
  have:=s9 xs i
  grind [rat,dh,nth]
theorem iB: ∀L,dh (rws L)=L
 |[]=>rfl
 |r::L=>by
  have:=iB L
  simp only[dh,aE4] at this⊢;rw[this];rfl
theorem yCr κ l K:(a8 (R5 κ).E 12 39 [.ah 72 l] [] K)=(
 (Pw l=true->K (.ah 72 []) [])/\aW (decide ((0+l.length+1)*33<=70368744177664)) (K (.ah 72 (List.take (0+l.length) (List.drop 0 ([]++l)))) [])):=by kernel_rfl
def Rq(l:List AV):List AV×List Dn.Obj:=([.ah 72 l],[])
def ah2(l:List AV):Out (AV×List Dn.Obj):= .one (.ah 72 l,[])
theorem cCr κ:bd (R5 κ).E 12 39 (aM Rq (fun l=>l.length<=100000000) ah2):=by
 refine aQ ?_;rintro l K h a;refine Eq.mpr (yCr _ l K) ⟨fun e=>?_,ai.2 ⟨by grind,?_⟩⟩
 ·cases l with
  |nil=>exact a
  |cons=>cases e
 ·rw[List.nil_append,aD5,Nat.zero_add,List.take_length]
  exact a
noncomputable def WN κ:=(((R5 κ).call (cCr _)).ag8 [39]).calm [39]
def dg:RL->Bool
 |[]=>true
 |[_]=>true
 |a::b::l=>decide (bD a b<0)&&dg (b::l)
theorem xRi κ xs(i:Nat) I n K:(vc (WN κ).E 12 37 none 0 (ad (Pr κ).toProgram 37 2) (sp 21 [(0, .ah 70 xs),(3, .int i)] []) (bg (WN κ).E 37 2 0 I n K))=(
 letI a:=IntKind.wrap .i64
 letI b:=↑i - (1:Int)
 letI c:=ag (nth xs (Int.toNat (a b)))
 letI d:=↑i<(↑(xs.length):Int)
 aq (decide d) (aW (decide (0<=a b)&&decide (a b<↑(xs.length))) (aW (true&&decide d) (aW
 (decide (List.length c<=9223372036854775807)) (aq (decide (bD c (ag (nth xs (Int.toNat ↑i)))>=0)) (K .ret (sp 21 [(2,AV.bool false)]
 [])) (∃e0,e0<n/\I e0 (sp 21 [(0,.ah 70 xs),(3,AV.int (a (↑i+1)))] [])))))) (K (.exit 0) (sp 21 []
 []))):=by kernel_rfl
theorem MB{L i}(b:1<=i)(a:i<L.length):dg (L.drop (i - 1))=(decide (bD (rat L (i - 1)) (rat L i)<0)&&dg (L.drop i)):=by
 grind [List.drop_eq_getElem_cons,dg,Ac]
theorem Qm{L:RL}{i}(h:L.length<=i):dg (L.drop (i - 1))=true:=by
 rcases Nat.lt_or_ge _ _ with a|a
 ·rw[aD6 a,aD3 (by omega)];rfl
 ·rw[aD3 a];rfl
def fp(xs:List _):=decide (xs.length<=100000000)&&xs.all fun x=>decide ((ag x).length<=100000000)
theorem mg{xs}(h:fp xs=true) i:(ag (nth xs i)).length<=100000000:=by
 simp[fp] at h;rcases Nat.lt_or_ge i xs.length with a|a
 ·grind [aV]
 ·rw[gr _ _ a];exact Nat.zero_le _
theorem kj{xs}(h:fp xs=true):xs.length<=100000000:=by
 grind [fp]
structure ARi where
 xs:List AV
 i:Nat
abbrev aq2(x:ARi):=sp 21 [(0, .ah 70 x.xs),(3, .int x.i)] []
def Qc(x:ARi):Out (Exit×S):= .aq (dg ((dh x.xs).drop (x.i - 1))) (.one (.exit 0,sp 21 [] [])) (.one (.ret,sp 21 [(2, .bool false)] []))
theorem lRi κ:aU (WN κ).E 12 37 2 (aG 0 aq2 (fun x=>1<=x.i/\fp x.xs=true) Qc):=by
 refine aC (fun x=>x.xs.length - x.i) ?_;rintro⟨xs,i⟩ K ⟨c,b⟩ a;simp only at c b;rw[show(WN κ).E.P=Pr κ from rfl];refine Eq.mpr (xRi κ xs i _ _ K) ?_;have d:=kj b;simp only[Qc,Out.run,ae] at a;rw[ae,at3,aC7];refine⟨fun h=>?_,fun h=>?_⟩
 ·rw[az (n:=(i:Int) - 1) (by omega) (by omega),az (n:=(i:Int)+1) (by omega) (by omega),show((i:Int) - 1).toNat=i - 1 by omega,Int.toNat_natCast,←s9,←s9]
  rw[MB c (by rw[my];omega)] at a;have f:=mg b (i - 1);refine ai.2 ⟨by simp;omega,ai.2 ⟨by simp;omega,ai.2 ⟨by rw[s9,at3];omega,ae.2 ⟨fun e=>a.2 ?_,fun e=>?_⟩⟩⟩⟩
  ·grind
  ·have e:bD (rat (dh xs) (i - 1)) (rat (dh xs) i)<0:=by simpa using e
   rw[aD1 e,aE2] at a;refine⟨_,?_,⟨xs,i+1⟩,rfl,⟨by simp only;omega,b⟩,rfl,?_⟩
   ·simp only;omega
   ·simp only[Qc,Out.run,ae,Nat.add_sub_cancel]
    exact a
 ·exact a.1 (Qm (by rw[my];omega))
noncomputable def BRi κ:=(WN κ).loop (lRi _)
theorem yRi κ xs K:(a8 (BRi κ).E 12 37 [.ah 70 xs] [] K)=(
 letI a:=Pg.toProgram (Env.P (EB.E (WN κ)))
 ad a 37 2=ad a 37 2/\∃e0,sp 21 [(0,.ah 70 xs),(3,AV.int 1)] []=aq2 e0/\(1<=e0.i/\fp e0.xs=true)/\aq (dg (List.drop (e0.i - 1) (dh
 e0.xs))) (K (AV.bool true) []) (K (AV.bool false) [])):=by kernel_rfl
def gRi:List AV->Option (Bool×AV)
 |[.ah 70 xs]=>some (fp xs, .bool (dg (dh xs)))
 |_=>none
theorem pRi κ:cm (BRi κ).E 12 37 gRi:=by
 intro b x a;unfold gRi at a;split at a
 ·rename_i xs
  simp only[aC8,aD4] at a;obtain⟨c,rfl⟩:=a;refine⟨_,rfl,rfl,Eq.mpr (yRi κ xs _) ⟨rfl,⟨xs,1⟩,rfl,by grind,?_⟩⟩
  simp_all[ae]
 ·cases a
noncomputable def Zw κ:=EB.Hf ((BRi κ).pure (pRi _)) [37]
theorem xRc κ xs L(i:Nat) I n K:(vc (Zw κ).E 12 55 none 0 (ad (Pr κ).toProgram 55 3) (sp 19 [(3, .ak 0 0 L.length),(6, .ah 70 xs),(7, .int xs.length),(8, .int i)] [.row 70 (rws L)]) (bg (Zw κ).E 55 3 0 I n K))=(
 letI a:=↑i<(↑(xs.length):Int)
 aq (decide a) (aW (true&&decide a) (∃e1,([.ah 72 (ag (nth xs (Int.toNat ↑i)))],[])=Rq e1/\e1.length<=100000000/\aW (decide
 ((L.length+1+1)*25<=70368744177664)) (∃e0,e0<n/\I e0 (sp 19 [(3,.ak 0 0 (L.length+1)),(6,.ah 70 xs),(7,AV.int ↑(xs.length)),(8,AV.int (IntKind.wrap .i64 (↑i+1)))] [.row 70 (List.take L.length (rws L)++[.ah 72 e1])])))) (K (.exit 0) (sp 19
 [(3,.ak 0 0 L.length)] [.row 70 (rws L)]))):=by kernel_rfl
abbrev ARc:=List AV×Nat
abbrev Y7(x:ARc):=sp 19 [(3, .ak 0 0 ((dh x.1).take x.2).length),(6, .ah 70 x.1),(7, .int x.1.length),(8, .int x.2)] [.row 70 (rws ((dh x.1).take x.2))]
def Kz(x:ARc):=x.2<=x.1.length/\fp x.1=true
def Yu(x:ARc):Out (Exit×S):= .one (.exit 0,sp 19 [(3, .ak 0 0 (dh x.1).length)] [.row 70 (rws (dh x.1))])
theorem F4 xs i(h:i<xs.length):(dh xs).take (i+1)=(dh xs).take i++[ag (nth xs i)]:=by
 rw[List.take_add_one,aE0 (by grind [my]),←Ac _,s9];rfl
theorem wP L r:rws L++[.ah 72 r]=rws (L++[r]):=by simp
theorem lRc κ:aU (Zw κ).E 12 55 3 (aG 0 Y7 Kz Yu):=by
 refine aC (fun x=>x.1.length - x.2) ?_;rintro⟨xs,i⟩ K ⟨d,a⟩ c;simp only at d a;refine Eq.mpr (xRc κ xs ((dh xs).take i) i _ _ K) ?_;have f:=kj a;rw[ae,at3,aC7];refine⟨fun h=>?_,fun h=>?_⟩
 ·have b:i<xs.length:=by omega
  rw[az (n:=(i:Int)+1) (by omega) (by omega),Int.toNat_natCast];have e:((dh xs).take i).length<=100000000:=by grind
  refine ai.2 ⟨by simp;omega,ag (nth xs i),rfl,mg a i,ai.2 ⟨by rw[at3];omega,_,?_,(xs,i+1),?_,⟨b,a⟩,rfl,c⟩⟩
  ·simp only;omega
  ·simp only[Y7]
   rw[F4 xs i b,←eC,List.take_length,wP,aE1,eC];rfl
 ·have b:(dh xs).take i=dh xs:=List.take_of_length_le (by rw[my];omega)
  rw[b];exact c
noncomputable def BRk κ:=(Zw κ).loop (lRc _)
theorem yRc κ xs K:(a8 (BRk κ).E 12 55 [.ah 70 xs] [] K)=(
 letI a:=Pg.toProgram (Env.P (EB.E (Zw κ)))
 ad a 55 3=ad a 55 3/\∃e0,sp 19 [(3,.ak 0 0 0),(6,.ah 70 xs),(7,AV.int ↑(xs.length)),(8,AV.int 0)] [.row 70 []]=Y7 e0/\Kz
 e0/\K (.ah 70 (List.take (List.length (dh e0.1)) (List.drop 0 (rws (dh e0.1))))) []):=by kernel_rfl
def YW(xs:List AV):List AV×List Dn.Obj:=([.ah 70 xs],[])
def ah3(xs:List AV):Out (AV×List Dn.Obj):= .one (.ah 70 (rws (dh xs)),[])
theorem cCx κ:bd (BRk κ).E 12 55 (aM YW (fun xs=>fp xs=true) ah3):=by
 refine aQ ?_;rintro xs K h a;refine Eq.mpr (yRc _ _ K) ⟨rfl,(xs,0),rfl,⟨Nat.zero_le _,h⟩,?_⟩;rw[aD5,←eC,List.take_length];exact a
noncomputable def WO κ:=((BRk κ).call (cCx _)).calm [55]
theorem aA9 κ xs cs vs ds L w(i k:Nat) t I n K:(vc (WO κ).E 12 123 none 0 (ad (Pr κ).toProgram 123 7) (sp 61 [(1, .ah 3 cs),(2, .ah 72 vs),(7, .int w),(8, .ak 0 0 L.length),(10, .ah 72 t),(18, .ah 70 xs),(19, .int xs.length),(20, .int i),(26, .ah 3 ds),(27, .int ds.length),(28, .int k)] [.row 70 (rws L)]) (bg (WO κ).E 123 7 0 I n K))=(
 letI a:=AV.int
 letI b:=AV.ah
 letI d:=K (.exit 1) (sp 61 [(1,b 3 cs),(2,b 72 vs),(7,a w),(8,.ak 0 0 L.length),(18,b 70 xs),(19,a ↑(xs.length)),(20,a ↑i)] [.row 70 (rws L)])
 letI c:=Int.toNat ↑k
 letI e:=nth t (Int.toNat (toInt (nth ds c)))
 letI f:=↑k<(↑(ds.length):Int)
 aq (decide f) (aW (true&&decide f) (aq (decide (toInt (nth ds c)<0)) d (aq (decide (toInt (nth ds c)>=↑(t.length))) d (aW (decide (0<=toInt (nth ds c))&&decide (toInt (nth ds c)<↑(t.length))) (aW (true&&decide (↑k<(↑(vs.length):Int))) (aq (pf (.agg
 [AV.bool (Dn.toBool (af e 0)),a (toInt (af e 1)),AV.str (toStr (af e 2))]) (.agg [AV.bool (Dn.toBool (af (nth vs c) 0)),a (toInt (af (nth vs
 c) 1)),AV.str (toStr (af (nth vs c) 2))]) != 0) d (∃e0,e0<n/\I e0 (sp 61 [(1,b 3 cs),(2,b 72 vs),(7,a w),(8,.ak 0
 0 L.length),(10,b 72 t),(18,b 70 xs),(19,a ↑(xs.length)),(20,a ↑i),(26,b 3 ds),(27,a ↑(ds.length)),(28,a (IntKind.wrap .i64 (↑k+1)))] [.row 70 (rws L)])))))))) (K (.exit 2) (sp 61 [(1,b 3 cs),(2,b 72
 vs),(7,a w),(8,.ak 0 0 L.length),(10,b 72 t),(18,b 70 xs),(19,a ↑(xs.length)),(20,a ↑i)] [.row 70 (rws
 L)]))):=by kernel_rfl
def zM(t:List AV):List AV->List AV->Bool
 |c::a,v::b=>(decide (0<=toInt c)&&decide (toInt c<t.length)&&decide (pf (nth t (toInt c).toNat) v=0))&&zM t a b
 |_,_=>true
theorem AI: ∀t b a,zM t (b.take (min b.length a.length)) a=zM t b a
 |t,[],a=>rfl
 |t,c::b,[]=>by rfl
 |t,c::b,v::a=>by
  have:=AI t b a
  grind [zM]
def uo(L:RL)(b a:List AV):RL:=L.filter fun t=>zM t b a
structure Sa where
 xs:List AV
 cs:List AV
 vs:List AV
 ds:List AV
 L:RL
 w:Nat
 i:Nat
 t:List AV
 k:Nat
abbrev Wk(x:Sa):=sp 61 [(1, .ah 3 x.cs),(2, .ah 72 x.vs),(7, .int x.w),(8, .ak 0 0 x.L.length),(10, .ah 72 x.t),(18, .ah 70 x.xs),(19, .int x.xs.length),(20, .int x.i),(26, .ah 3 x.ds),(27, .int x.ds.length),(28, .int x.k)] [.row 70 (rws x.L)]
def Kw(x:Sa):=x.k<=x.ds.length/\x.ds.length<=x.vs.length/\x.vs.length<=100000000
def HI(x:Sa):Out (Exit×S):= .aq (zM x.t (x.ds.drop x.k) (x.vs.drop x.k))
 (.one (.exit 2,sp 61 [(1, .ah 3 x.cs),(2, .ah 72 x.vs),(7, .int x.w),(8, .ak 0 0 x.L.length),(10, .ah 72 x.t),(18, .ah 70 x.xs),(19, .int x.xs.length),(20, .int x.i)] [.row 70 (rws x.L)]))
 (.one (.exit 1,sp 61 [(1, .ah 3 x.cs),(2, .ah 72 x.vs),(7, .int x.w),(8, .ak 0 0 x.L.length),(18, .ah 70 x.xs),(19, .int x.xs.length),(20, .int x.i)] [.row 70 (rws x.L)]))
theorem ax9 κ:aU (WO κ).E 12 123 7 (aG 0 Wk Kw HI):=by
 refine aC (fun x=>x.ds.length - x.k) ?_;rintro⟨xs,l,f,ds,L,w,i,t,k⟩ K ⟨p,m,o⟩ c;simp only at p m o;rw[show(WO κ).E.P=Pr κ from rfl];refine Eq.mpr (aA9 κ xs l f ds L w i k t _ _ K) ?_;simp only[HI,Out.run,ae] at c;rw[ae,at3,aC7];refine⟨fun h=>?_,fun h=>?_⟩
 ·have j:k<ds.length:=by omega
  rw[aD6 j,←aV _ _ j,aD6 (show k<f.length by omega),←aV f k (by omega),zM] at c;rw[Int.toNat_natCast];refine ai.2 ⟨by simp;omega,ae.2 ⟨fun e=>c.2 ?_,fun e=>ae.2 ⟨fun d=>c.2 ?_,fun d=>?_⟩⟩⟩
  ·have e:toInt (nth ds k)<0:=by simpa using e
   rw[aC9 (by omega),Bool.false_and,Bool.false_and,Bool.false_and]
  ·grind
  ·have e:0<=toInt (nth ds k):=by simpa using e
   have d:toInt (nth ds k)<t.length:=by simpa using d
   rw[aD1 e,aD1 d,aE2,aE2] at c;refine ai.2 ⟨by rw[aD1 e,aD1 d];rfl,ai.2 ⟨by simp;omega,?_⟩⟩;have ev: ∀a b:AV,pf (.agg [.bool (Dn.toBool (af a 0)), .int (toInt (af a 1)), .lit (.string (toStr (af a 2)))]) (.agg [.bool (Dn.toBool (af b 0)), .int (toInt (af b 1)), .lit (.string (toStr (af b 2)))])=pf a b:=fun _ _=>rfl
   rw[ev,ae,bne_iff_ne,bne_eq_false_iff_eq];refine⟨fun g=>c.2 ?_,fun g=>?_⟩
   ·rw[aC9 g];rfl
   ·rw[aD1 g,aE2] at c
    rw[az (n:=(k:Int)+1) (by omega) (by omega)];refine⟨_,?_,⟨xs,l,f,ds,L,w,i,t,k+1⟩,rfl,⟨j,m,o⟩,rfl,?_⟩
    ·simp only;omega
    ·simp only[HI,Out.run,ae]
     exact c
 ·rw[aD3 (by omega)] at c
  exact c.1 rfl
noncomputable def W8 κ:=(WO κ).loop (ax9 _)
theorem xMt κ xs cs vs L(w:Nat)(i:Nat) I n K:(vc (W8 κ).E 12 123 none 0 (ad (Pr κ).toProgram 123 4) (sp 61 [(1, .ah 3 cs),(2, .ah 72 vs),(7, .int w),(8, .ak 0 0 L.length),(18, .ah 70 xs),(19, .int xs.length),(20, .int i)] [.row 70 (rws L)]) (bg (W8 κ).E 123 4 0 I n K))=(
 letI a:=AV.int
 letI b:=Obj.row
 letI c:=AV.ah
 letI d:=List.drop 0 (List.take (Int.toNat ↑w) cs)
 letI e:=↑i<(↑(xs.length):Int)
 letI f:=Pg.toProgram (Env.P (EB.E (WO κ)))
 aq (decide e) (aW (true&&decide e) (aW (true&&decide (↑w<=(↑(cs.length):Int))) (ad f 123 7=ad f 123 7/\∃e2,letI g:=IntKind.wrap .i64 (↑(e2.i)+1);sp 61 [(1,c 3 cs),(2,c 72 vs),(7,a ↑w),(8,.ak 0 0 L.length),(10,c 72 (ag (nth xs (Int.toNat ↑i)))),(18,c 70 xs),(19,a ↑(xs.length)),(20,a ↑i),(26,c 3 d),(27,a (↑(List.length d))),(28,a 0)] [b 70 (rws L)]=Wk e2/\Kw e2/\aq (zM e2.t (List.drop e2.k e2.ds) (List.drop e2.k e2.vs)) (∃e1,([c 72 e2.t],[])=Rq e1/\e1.length<=100000000/\aW (decide ((e2.L.length+1+1)*25<=70368744177664)) (∃e0,e0<n/\I e0 (sp 61 [(1,c 3 e2.cs),(2,c 72 e2.vs),(7,a ↑(e2.w)),(8,.ak 0 0 (e2.L.length+1)),(18,c 70 e2.xs),(19,a ↑(e2.xs.length)),(20,a g)] [b 70 (List.take e2.L.length (rws e2.L)++[c 72 e1])]))) (∃e0,e0<n/\I e0 (sp 61 [(1,c 3 e2.cs),(2,c 72 e2.vs),(7,a ↑(e2.w)),(8,.ak 0 0 e2.L.length),(18,c 70 e2.xs),(19,a ↑(e2.xs.length)),(20,a g)] [b 70 (rws e2.L)]))))) (K (.exit 0) (sp 61 [(8,.ak 0 0 L.length)] [b 70 (rws L)]))):=by kernel_rfl
structure Ng where
 xs:List AV
 cs:List AV
 vs:List AV
 i:Nat
def Ng.L(x:Ng):RL:=uo ((dh x.xs).take x.i) x.cs x.vs
def Ng.w(x:Ng):=min x.cs.length x.vs.length
abbrev KM(x:Ng):=sp 61 [(1, .ah 3 x.cs),(2, .ah 72 x.vs),(7, .int x.w),(8, .ak 0 0 x.L.length),(18, .ah 70 x.xs),(19, .int x.xs.length),(20, .int x.i)] [.row 70 (rws x.L)]
def Kv(x:Ng):=x.i<=x.xs.length/\fp x.xs=true/\x.cs.length<=100000000/\x.vs.length<=100000000
def Ys(x:Ng):Out (Exit×S):= .one (.exit 0,sp 61 [(8, .ak 0 0 (uo (dh x.xs) x.cs x.vs).length)] [.row 70 (rws (uo (dh x.xs) x.cs x.vs))])
theorem lMt κ:aU (W8 κ).E 12 123 4 (aG 0 KM Kv Ys):=by
 refine aC (fun x=>x.xs.length - x.i) ?_;rintro⟨xs,a,b,i⟩ K ⟨l,c,g,f⟩ k;simp only at l c g f;rw[show(W8 κ).E.P=Pr κ from rfl];refine Eq.mpr (xMt κ xs a b (uo ((dh xs).take i) a b) (min a.length b.length) i _ _ K) ?_;have o:=kj c;rw[ae,at3,aC7];refine⟨fun h=>?_,fun h=>?_⟩
 ·have j:i<xs.length:=by omega
  have d:uo ((dh xs).take (i+1)) a b=uo ((dh xs).take i) a b++(bif zM (ag (nth xs i)) a b then[ag (nth xs i)] else[]):=by
   rw[F4 xs i j,uo,List.filter_append,←uo];cases e:zM (ag (nth xs i)) a b<;>simp[e]
  have m:(uo ((dh xs).take i) a b).length<=100000000:=by
   refine Nat.le_trans (List.length_filter_le _ _) ?_;rw[List.length_take,my];omega
  refine ai.2 ⟨by simp;omega,ai.2 ⟨by simp;omega,?_⟩⟩;rw[Int.toNat_natCast,Int.toNat_natCast,aD5];refine⟨rfl,⟨xs,a,b,a.take (min a.length b.length),uo ((dh xs).take i) a b,min a.length b.length,i,ag (nth xs i),0⟩,rfl,⟨Nat.zero_le _,by simp only[List.length_take];omega,f⟩,?_⟩;simp only[aD5,AI];rw[az (n:=(i:Int)+1) (by omega) (by omega)];refine ae.2 ⟨fun e=>?_,fun e=>?_⟩
  ·rw[e,aD2] at d
   refine⟨ag (nth xs i),rfl,mg c i,ai.2 ⟨by rw[at3];omega,_,?_,⟨xs,a,b,i+1⟩,?_,⟨j,c,g,f⟩,rfl,k⟩⟩
   ·simp only;omega
   ·simp only[KM,Ng.L,Ng.w]
    rw[d,←eC,List.take_length,wP,eC,aE1];rfl
  ·rw[e,aD0,List.append_nil] at d
   refine⟨_,?_,⟨xs,a,b,i+1⟩,?_,⟨j,c,g,f⟩,rfl,k⟩
   ·simp only;omega
   ·simp only[KM,Ng.L,Ng.w]
    rw[d];rfl
 ·rw[List.take_of_length_le (by rw[my];omega)]
  exact k
noncomputable def BMt κ:=(W8 κ).loop (lMt _)
theorem aB7 κ xs cs vs K:(a8 (BMt κ).E 12 123 [.ah 70 xs, .ah 3 cs, .ah 72 vs] [] K)=(
 letI a:=Pg.toProgram (Env.P (EB.E (W8 κ)))
 ad a 123 4=ad a 123 4/\∃(e0:Ng),letI b:=uo (dh e0.xs) e0.cs e0.vs;sp 61 [(1,AV.ah 3 cs),(2,AV.ah 72 vs),(7,AV.int (if(↑(vs.length):Int)<(↑(cs.length):Int) then(↑(vs.length):Int) else(↑(cs.length):Int))),(8,AV.ak 0 0 0),(18,AV.ah 70 xs),(19,AV.int (↑(xs.length):Int)),(20,AV.int 0)] [Obj.row 70 []]=KM e0/\Kv e0/\K (AV.ah 70 (List.take (List.length b) (List.drop 0 (rws b)))) []):=by kernel_rfl
structure AMx where
 xs:List AV
 cs:List AV
 vs:List AV
def aA0(x:AMx):List AV×List Dn.Obj:=([.ah 70 x.xs, .ah 3 x.cs, .ah 72 x.vs],[])
def YH(x:AMx):=fp x.xs=true/\x.cs.length<=100000000/\x.vs.length<=100000000
def aj5(x:AMx):Out (AV×List Dn.Obj):= .one (.ah 70 (rws (uo (dh x.xs) x.cs x.vs)),[])
theorem cMx κ:bd (BMt κ).E 12 123 (aM aA0 YH aj5):=by
 refine aQ ?_;rintro⟨xs,a,b⟩ K ⟨d,e,f⟩ g;refine Eq.mpr (aB7 κ xs a b K) ?_;have c:(if(b.length:Int)<a.length then(b.length:Int) else a.length)=min a.length b.length:=by grind
 rw[c];refine⟨rfl,⟨xs,a,_,0⟩,rfl,⟨Nat.zero_le _,d,e,f⟩,?_⟩;rw[aD5,←eC,List.take_length];exact g
noncomputable def W9 κ:=((BMt κ).call (cMx _)).calm [123]
end Go.Proofs.YtioeffnadipbaaaGreatDoor
