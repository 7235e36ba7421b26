import Derived.Test.YtioeffnadipbaaaGreatDoorDePA
namespace Go.Proofs.YtioeffnadipbaaaGreatDoor
open Go Go.Dn Go.Rl Go.Proofs
attribute [local irreducible] a7 vc
set_option maxRecDepth 20000
theorem BV{i j:Nat}(h:i+j<=9223372036854775807):IntKind.wrap .i64 (Int.fdiv (IntKind.wrap .u64 (IntKind.wrap .i64 ((i:Int)+j))) 2)=((i+j) / 2:Nat):=by
 have e:IntKind.wrap .u64 ((i:Int)+j)=(i:Int)+j:=by
  unfold IntKind.wrap;simp only[IntKind.bits,IntKind.signed];have e:((i:Int)+j) % 18446744073709551616=(i:Int)+j:=Int.emod_eq_of_lt (by omega) (by omega);simp[e]
 have d:Int.fdiv ((i:Int)+j) 2=((i+j) / 2:Nat):=by
  rw[Int.fdiv_eq_ediv_of_nonneg _ (by omega)];omega
 rw[az (n:=(i:Int)+j) (by omega) (by omega),e,d,az (by omega) (by omega)]
structure yS(P:Nat->Prop)(lo hi i j:Nat):Prop where
 le:lo<=i/\i<=j/\j<=hi
 h1:lo<i->P (i - 1)
 h2:j<hi-> ¬ P j
theorem yS.yes{P:Nat->Prop}{lo hi i j:Nat}(h:yS P lo hi i j)(hij:i<j)(hp:P ((i+j) / 2)):yS P lo hi ((i+j) / 2+1) j:=⟨by have:=h.le;omega,fun _=>hp,h.h2⟩
theorem yS.no{P:Nat->Prop}{lo hi i j:Nat}(h:yS P lo hi i j)(hij:i<j)(hp: ¬ P ((i+j) / 2)):yS P lo hi i ((i+j) / 2):=⟨by have:=h.le;omega,h.h1,fun _=>hp⟩
theorem yS.start{P:Nat->Prop}{lo hi:Nat}(h:lo<=hi):yS P lo hi lo hi:=⟨by omega,fun h=>absurd h (Nat.lt_irrefl _),fun h=>absurd h (Nat.lt_irrefl _)⟩
theorem xMa(κ:Kp)(L:RL)(a i j:Nat)(I:Nat->S->Prop)(n:Nat)(K:Exit->S->Prop):(vc (jx κ).E 12 167 none 1 (ad (Pr κ).toProgram 167 3) (sp 220 [(0, .ak 0 0 L.length),(1, .int a),(4,oG),(10, .int i),(11, .int j)] [jO L]) (bh (jx κ).E 167 3 1 I n K))=(
 letI b:=IntKind.wrap IntKind.i64
 letI c:=AV.int
 letI d:=Int.fdiv (IntKind.wrap IntKind.u64 (b ((↑i:Int)+(↑j:Int)))) (2:Int)
 letI e:=b d
 letI f:=ag (nth (rws L) (0+Int.toNat e))
 aq (decide ((↑i:Int)<(↑j:Int))) (aW (decide ((0:Int)<=b d)&&decide (b d<(↑(L.length):Int))) (aW
 (true&&decide ((↑a:Int)<(↑(L.length):Int))) (aW (decide (List.length f<=9223372036854775807)) (aq (decide (bC f (ag (nth (rws L) (0+Int.toNat (↑a:
 Int))))<(0:Int))) (∃(e0:Nat),e0<n/\I e0 (sp 220 [(0,AV.ak 0 0 L.length),(1,c (↑a:Int)),(4,AV.bm 54 []),(10,c (IntKind.wrap
 IntKind.i64 (b d+(1:Int)))),(11,c (↑j:Int))] [Obj.row 70 (rws L)])) (∃(e0:Nat),e0<n/\I e0 (sp 220 [(0,AV.ak 0 0
 L.length),(1,c (↑a:Int)),(4,AV.bm 54 []),(10,c (↑i:Int)),(11,c e)] [Obj.row 70 (rws L)])))))) (K (Exit.exit 0) (sp 220 [(0,AV.ak 0
 0 L.length),(1,c (↑a:Int)),(10,c (↑i:Int))] [Obj.row 70 (rws L)]))):=by kernel_rfl
structure AMa where
 L:RL
 a:Nat
 b:Nat
 i:Nat
 j:Nat
abbrev PMa(L:RL)(a:Nat):Nat->Prop:=fun h=>bC (rat L h) (rat L a)<0
abbrev XP(x:AMa):S:=sp 220 [(0, .ak 0 0 x.L.length),(1, .int x.a),(4,oG),(10, .int x.i),(11, .int x.j)] [jO x.L]
def Zq(x:AMa):Prop:=yS (PMa x.L x.a) (x.a+1) x.b x.i x.j/\x.b<=x.L.length/\x.L.length<=100000000/\ft x.L
def aa7(x:AMa):Out (Exit×S):= .all (fun i=>yS (PMa x.L x.a) (x.a+1) x.b i i) fun i=> .one (.exit 0,sp 220 [(0, .ak 0 0 x.L.length),(1, .int x.a),(10, .int i)] [jO x.L])
theorem lMa(κ:Kp):aR (jx κ).E 12 167 3 (aG 1 XP Zq aa7):=by
 refine aD (fun x=>x.j - x.i) ?_;rintro⟨L,a,b,i,j⟩ K ⟨h1,h2,h3,h4⟩ ho;simp only at h1 h2 h3 h4;rw[show(jx κ).E.P=Pr κ from rfl];refine Eq.mpr (xMa κ L a i j _ _ K) ?_;have hle:=h1.le;rw[ae,an2,an4];refine⟨fun h=>?_,fun h=>?_⟩
 ·rw[BV (by omega),az (n:=(((i+j) / 2:Nat):Int)+1) (by omega) (by omega),fQ,fQ,show 0+(((i+j) / 2:Nat):Int).toNat=(i+j) / 2 by omega,show 0+((a:Nat):Int).toNat=a by omega]
  have hij:i<j:=by omega
  refine ai.2 ⟨by simp;omega,ai.2 ⟨by simp;omega,ai.2 ⟨an8 (kD h4 _),ae.2 ⟨fun e=>?_,fun e=>?_⟩⟩⟩⟩
  ·refine⟨_,?_,⟨L,a,b,(i+j) / 2+1,j⟩,rfl,⟨h1.yes hij (by simpa using e),h2,h3,h4⟩,rfl,ho⟩
   simp only;omega
  ·refine⟨_,?_,⟨L,a,b,i,(i+j) / 2⟩,rfl,⟨h1.no hij (by simpa using e),h2,h3,h4⟩,rfl,ho⟩
   simp only;omega
 ·obtain rfl:i=j:=by omega
  exact ho i h1
theorem xMb(κ:Kp)(L:RL)(i k:Nat)(I:Nat->S->Prop)(n:Nat)(K:Exit->S->Prop):(vc (jx κ).E 12 167 none 1 (ad (Pr κ).toProgram 167 9) (sp 220 [(0, .ak 0 0 L.length),(10, .int i),(13, .int k)] [jO L]) (bh (jx κ).E 167 9 1 I n K))=(
 letI a:=IntKind.wrap IntKind.i64
 letI d:=true&&decide ((↑k:Int)<(↑(L.length):Int))
 letI b:=(↑k:Int)+(1:Int)
 letI e:=decide ((0:Int)<=a b)&&decide (a b<(↑(L.length):Int))
 letI c:=a b
 aq (decide ((↑k:Int)<a ((↑i:Int) - (1:Int)))) (aW e (aW d (aW d (aW e (∃(e0:Nat),e0<n/\I e0 (sp 220 [(0,AV.ak 0 0
 L.length),(10,AV.int (↑i:Int)),(13,AV.int c)] [Obj.row 70 (bM (bM (rws L) (0+Int.toNat (↑k:Int)) (AV.ah 72 (ag (nth (rws L) (0+Int.toNat c))))) (0
 +Int.toNat c) (AV.ah 72 (ag (nth (rws L) (0+Int.toNat (↑k:Int))))))])))))) (K (Exit.exit 2) (sp 220 [] [Obj.row 70 (rws L)]))):=by kernel_rfl
structure AMb where
 L0:RL
 L:RL
 a:Nat
 b:Nat
 i:Nat
 k:Nat
abbrev VU(x:AMb):S:=sp 220 [(0, .ak 0 0 x.L.length),(10, .int x.i),(13, .int x.k)] [jO x.L]
def aa4(x:AMb):Prop:=Fw x.a x.b x.k x.L0 x.L/\(x.a<=x.k/\x.k+1<=x.i/\x.i<=x.b)/\x.b<=x.L0.length/\x.L0.length<=100000000
def Xf(x:AMb):Out (Exit×S):= .all (fun M=>Fw x.a x.b (x.i - 1) x.L0 M) fun M=> .one (.exit 2,sp 220 [] [jO M])
theorem lMb(κ:Kp):aR (jx κ).E 12 167 9 (aG 1 VU aa4 Xf):=by
 refine aD (fun x=>x.i - x.k) ?_;rintro⟨L0,L,a,b,i,k⟩ K ⟨h1,h2,h3,h4⟩ ho;simp only at h1 h2 h3 h4;rw[show(jx κ).E.P=Pr κ from rfl];refine Eq.mpr (xMb κ L i k _ _ K) ?_;have hl:=h1.sw.len;rw[az (n:=(i:Int) - 1) (by omega) (by omega),az (n:=(k:Int)+1) (by omega) (by omega),show(k:Int)+1=(k+1:Nat) by omega,show 0+((k+1:Nat):Int).toNat=k+1 by omega,show 0+(k:Int).toNat=k by omega,vm,ae,an2,an4];refine⟨fun h=>?_,fun h=>?_⟩
 ·have e1:(decide (0<=((k+1:Nat):Int))&&decide (((k+1:Nat):Int)<L.length))=true:=by simp;omega
  have e2:(true&&decide ((k:Int)<L.length))=true:=by simp;omega
  refine ai.2 ⟨e1,ai.2 ⟨e2,ai.2 ⟨e2,ai.2 ⟨e1,_,?_,⟨L0,swp L k (k+1),a,b,i,k+1⟩,?_,⟨h1.step (by omega) h3,by simp only;omega,h3,h4⟩,rfl,ho⟩⟩⟩⟩
  ·simp only;omega
  ·simp only[VU,mV]
 ·obtain rfl:k=i - 1:=by omega
  exact ho L h1
theorem xMc(κ:Kp)(L:RL)(m i j:Nat)(I:Nat->S->Prop)(n:Nat)(K:Exit->S->Prop):(vc (jx κ).E 12 167 none 1 (ad (Pr κ).toProgram 167 15) (sp 220 [(0, .ak 0 0 L.length),(2, .int m),(4,oG),(14, .int i),(15, .int j)] [jO L]) (bh (jx κ).E 167 15 1 I n K))=(
 letI a:=IntKind.wrap IntKind.i64
 letI b:=AV.int
 letI c:=Int.fdiv (IntKind.wrap IntKind.u64 (a ((↑i:Int)+(↑j:Int)))) (2:Int)
 letI d:=ag (nth (rws L) (0+Int.toNat (↑m:Int)))
 letI e:=a c
 aq (decide ((↑i:Int)<(↑j:Int))) (aW (true&&decide ((↑m:Int)<(↑(L.length):Int))) (aW (decide ((0:Int)<=a c)&&decide
 (a c<(↑(L.length):Int))) (aW (decide (List.length d<=9223372036854775807)) (aq (!decide (bC d (ag (nth (rws L) (0+Int.toNat
 e)))<(0:Int))) (∃(e0:Nat),e0<n/\I e0 (sp 220 [(0,AV.ak 0 0 L.length),(2,b (↑m:Int)),(4,AV.bm 54 []),(14,b (IntKind.wrap
 IntKind.i64 (a c+(1:Int)))),(15,b (↑j:Int))] [Obj.row 70 (rws L)])) (∃(e0:Nat),e0<n/\I e0 (sp 220 [(0,AV.ak 0 0
 L.length),(2,b (↑m:Int)),(4,AV.bm 54 []),(14,b (↑i:Int)),(15,b e)] [Obj.row 70 (rws L)])))))) (K (Exit.exit 4) (sp 220 [(0,AV.ak 0
 0 L.length),(2,b (↑m:Int)),(14,b (↑i:Int))] [Obj.row 70 (rws L)]))):=by kernel_rfl
structure AMc where
 L:RL
 a:Nat
 m:Nat
 i:Nat
 j:Nat
abbrev PMc(L:RL)(m:Nat):Nat->Prop:=fun h=>0<=bC (rat L m) (rat L h)
abbrev Ze(x:AMc):S:=sp 220 [(0, .ak 0 0 x.L.length),(2, .int x.m),(4,oG),(14, .int x.i),(15, .int x.j)] [jO x.L]
def aa2(x:AMc):Prop:=yS (PMc x.L x.m) x.a x.m x.i x.j/\x.m<x.L.length/\x.L.length<=100000000/\ft x.L
def Xn(x:AMc):Out (Exit×S):= .all (fun i=>yS (PMc x.L x.m) x.a x.m i i) fun i=> .one (.exit 4,sp 220 [(0, .ak 0 0 x.L.length),(2, .int x.m),(14, .int i)] [jO x.L])
theorem lMc(κ:Kp):aR (jx κ).E 12 167 15 (aG 1 Ze aa2 Xn):=by
 refine aD (fun x=>x.j - x.i) ?_;rintro⟨L,a,m,i,j⟩ K ⟨h1,h2,h3,h4⟩ ho;simp only at h1 h2 h3 h4;rw[show(jx κ).E.P=Pr κ from rfl];refine Eq.mpr (xMc κ L m i j _ _ K) ?_;have hle:=h1.le;rw[ae,an2,an4];refine⟨fun h=>?_,fun h=>?_⟩
 ·rw[BV (by omega),az (n:=(((i+j) / 2:Nat):Int)+1) (by omega) (by omega),fQ,fQ,show 0+(((i+j) / 2:Nat):Int).toNat=(i+j) / 2 by omega,show 0+((m:Nat):Int).toNat=m by omega]
  have hij:i<j:=by omega
  refine ai.2 ⟨by simp;omega,ai.2 ⟨by simp;omega,ai.2 ⟨an8 (kD h4 _),ae.2 ⟨fun e=>?_,fun e=>?_⟩⟩⟩⟩
  ·refine⟨_,?_,⟨L,a,m,(i+j) / 2+1,j⟩,rfl,⟨h1.yes hij (by simpa using e),h2,h3,h4⟩,rfl,ho⟩
   simp only;omega
  ·refine⟨_,?_,⟨L,a,m,i,(i+j) / 2⟩,rfl,⟨h1.no hij (by simpa using e),h2,h3,h4⟩,rfl,ho⟩
   simp only;omega
 ·obtain rfl:i=j:=by omega
  exact ho i h1
theorem xMq(κ:Kp)(L:RL)(i k:Nat)(I:Nat->S->Prop)(n:Nat)(K:Exit->S->Prop):(vc (jx κ).E 12 167 none 1 (ad (Pr κ).toProgram 167 21) (sp 220 [(0, .ak 0 0 L.length),(14, .int i),(17, .int k)] [jO L]) (bh (jx κ).E 167 21 1 I n K))=(
 letI a:=IntKind.wrap IntKind.i64
 letI d:=true&&decide ((↑k:Int)<(↑(L.length):Int))
 letI b:=(↑k:Int) - (1:Int)
 letI e:=decide ((0:Int)<=a b)&&decide (a b<(↑(L.length):Int))
 letI c:=a b
 aq (decide ((↑k:Int)>(↑i:Int))) (aW e (aW d (aW d (aW e (∃(e0:Nat),e0<n/\I e0 (sp 220 [(0,AV.ak 0 0 L.length),(14,AV.int (↑i:Int)),(17,
 AV.int c)] [Obj.row 70 (bM (bM (rws L) (0+Int.toNat (↑k:Int)) (AV.ah 72 (ag (nth (rws L) (0+Int.toNat c))))) (0+Int.toNat c) (AV.ah 72 (ag (nth (rws
 L) (0+Int.toNat (↑k:Int))))))])))))) (K (Exit.exit 6) (sp 220 [] [Obj.row 70 (rws L)]))):=by kernel_rfl
structure AMq where
 L0:RL
 L:RL
 a:Nat
 m:Nat
 i:Nat
 k:Nat
abbrev L9(x:AMq):S:=sp 220 [(0, .ak 0 0 x.L.length),(14, .int x.i),(17, .int x.k)] [jO x.L]
def YM(x:AMq):Prop:=Bw x.a x.m x.k x.L0 x.L/\(x.a<=x.i/\x.i<=x.k/\x.k<=x.m)/\x.m<x.L0.length/\x.L0.length<=100000000
def ZD(x:AMq):Out (Exit×S):= .all (fun M=>Bw x.a x.m x.i x.L0 M) fun M=> .one (.exit 6,sp 220 [] [jO M])
theorem lMq(κ:Kp):aR (jx κ).E 12 167 21 (aG 1 L9 YM ZD):=by
 refine aD (fun x=>x.k) ?_;rintro⟨L0,L,a,m,i,k⟩ K ⟨h1,h2,h3,h4⟩ ho;simp only at h1 h2 h3 h4;rw[show(jx κ).E.P=Pr κ from rfl];refine Eq.mpr (xMq κ L i k _ _ K) ?_;have hl:=h1.sw.len;rw[ae,an2,an4];refine⟨fun h=>?_,fun h=>?_⟩
 ·rw[az (n:=(k:Int) - 1) (by omega) (by omega),show(k:Int) - 1=(k - 1:Nat) by omega,show 0+((k - 1:Nat):Int).toNat=k - 1 by omega,show 0+(k:Int).toNat=k by omega,vm]
  have e1:(decide (0<=((k - 1:Nat):Int))&&decide (((k - 1:Nat):Int)<L.length))=true:=by simp;omega
  have e2:(true&&decide ((k:Int)<L.length))=true:=by simp;omega
  refine ai.2 ⟨e1,ai.2 ⟨e2,ai.2 ⟨e2,ai.2 ⟨e1,_,?_,⟨L0,swp L k (k - 1),a,m,i,k - 1⟩,?_,⟨h1.step (by omega) h3,by simp only;omega,h3,h4⟩,rfl,ho⟩⟩⟩⟩
  ·simp only;omega
  ·simp only[L9,mV]
 ·obtain rfl:k=i:=by omega
  exact ho L h1
theorem xMe(κ:Kp)(L:RL)(a m b dg w i j p:Nat)(I:Nat->S->Prop)(n:Nat)(K:Exit->S->Prop):(vc (jx κ).E 12 167 none 1 (ad (Pr κ).toProgram 167 33) (sp 220 [(0, .ak 0 0 L.length),(1, .int a),(2, .int m),(3, .int b),(4,oG),(18, .int dg),(19, .int w),(20, .int i),(21, .int j),(22, .int p)] [jO L]) (bh (jx κ).E 167 33 1 I n K))=(
 letI c:=IntKind.wrap IntKind.i64
 letI d:=AV.int
 letI e:=Int.fdiv (IntKind.wrap IntKind.u64 (c ((↑i:Int)+(↑j:Int)))) (2:Int)
 letI f:=(↑p:Int) - c e
 letI g:=ag (nth (rws L) (0+Int.toNat (c f)))
 letI h:=c e
 aq (decide ((↑i:Int)<(↑j:Int))) (aW (decide ((0:Int)<=c f)&&decide (c f<(↑(L.length):Int))) (aW
 (decide ((0:Int)<=c e)&&decide (c e<(↑(L.length):Int))) (aW (decide (List.length g<=
 9223372036854775807)) (aq (!decide (bC g (ag (nth (rws L) (0+Int.toNat h)))<(0:Int))) (∃(e0:Nat),e0<n/\I e0 (sp 220 [(0,AV.ak 0 0 L.length),(1,
 d (↑a:Int)),(2,d (↑m:Int)),(3,d (↑b:Int)),(4,AV.bm 54 []),(18,d (↑dg:Int)),(19,d (↑w:Int)),(20,d
 (c (c e+(1:Int)))),(21,d (↑j:Int)),(22,d (↑p:Int))] [Obj.row 70 (rws L)])) (∃(e0:Nat),
 e0<n/\I e0 (sp 220 [(0,AV.ak 0 0 L.length),(1,d (↑a:Int)),(2,d (↑m:Int)),(3,d (↑b:Int)),(4,AV.bm 54 []),(18,d (↑dg:
 Int)),(19,d (↑w:Int)),(20,d (↑i:Int)),(21,d h),(22,d (↑p:Int))] [Obj.row 70 (rws L)])))))) (K (Exit.exit 8) (sp 220 [(0,
 AV.ak 0 0 L.length),(1,d (↑a:Int)),(2,d (↑m:Int)),(3,d (↑b:Int)),(4,AV.bm 54 []),(18,d (↑dg:Int)),(19,d (↑w:
 Int)),(20,d (↑i:Int))] [Obj.row 70 (rws L)]))):=by kernel_rfl
structure YZ where
 L:RL
 a:Nat
 m:Nat
 b:Nat
 dg:Nat
 w:Nat
 lo:Nat
 hi:Nat
 i:Nat
 j:Nat
 p:Nat
abbrev PMe(L:RL)(p:Nat):Nat->Prop:=fun c=>0<=bC (rat L (p - c)) (rat L c)
abbrev NK(x:YZ):S:=sp 220 [(0, .ak 0 0 x.L.length),(1, .int x.a),(2, .int x.m),(3, .int x.b),(4,oG),(18, .int x.dg),(19, .int x.w),(20, .int x.i),(21, .int x.j),(22, .int x.p)] [jO x.L]
def Uh(x:YZ):Prop:=yS (PMe x.L x.p) x.lo x.hi x.i x.j/\(x.hi<=x.p+1/\x.p<x.lo+x.L.length/\x.hi<=x.L.length)/\x.L.length<=100000000/\ft x.L
def Xd(x:YZ):Out (Exit×S):= .all (fun i=>yS (PMe x.L x.p) x.lo x.hi i i) fun i=> .one (.exit 8,sp 220 [(0, .ak 0 0 x.L.length),(1, .int x.a),(2, .int x.m),(3, .int x.b),(4,oG),(18, .int x.dg),(19, .int x.w),(20, .int i)] [jO x.L])
theorem lMe(κ:Kp):aR (jx κ).E 12 167 33 (aG 1 NK Uh Xd):=by
 refine aD (fun x=>x.j - x.i) ?_;rintro⟨L,a,m,b,dg,w,lo,hi,i,j,p⟩ K ⟨h1,h2,h3,h4⟩ ho;simp only at h1 h2 h3 h4;rw[show(jx κ).E.P=Pr κ from rfl];refine Eq.mpr (xMe κ L a m b dg w i j p _ _ K) ?_;have hle:=h1.le;rw[ae,an2,an4];refine⟨fun h=>?_,fun h=>?_⟩
 ·rw[BV (by omega),az (n:=(((i+j) / 2:Nat):Int)+1) (by omega) (by omega),az (n:=(p:Int) - ((i+j) / 2:Nat)) (by omega) (by omega),fQ,fQ,show 0+(((i+j) / 2:Nat):Int).toNat=(i+j) / 2 by omega,show 0+((p:Int) - ((i+j) / 2:Nat)).toNat=p - (i+j) / 2 by omega]
  have hij:i<j:=by omega
  refine ai.2 ⟨by simp;omega,ai.2 ⟨by simp;omega,ai.2 ⟨an8 (kD h4 _),ae.2 ⟨fun e=>?_,fun e=>?_⟩⟩⟩⟩
  ·refine⟨_,?_,⟨L,a,m,b,dg,w,lo,hi,(i+j) / 2+1,j,p⟩,rfl,⟨h1.yes hij (by simpa using e),h2,h3,h4⟩,rfl,ho⟩
   simp only;omega
  ·refine⟨_,?_,⟨L,a,m,b,dg,w,lo,hi,i,(i+j) / 2,p⟩,rfl,⟨h1.no hij (by simpa using e),h2,h3,h4⟩,rfl,ho⟩
   simp only;omega
 ·obtain rfl:i=j:=by omega
  exact ho i h1
noncomputable def Qm(κ:Kp):EB:=(jx κ).loop (lMa κ)
theorem QG(κ:Kp):Pr κ=(jx κ).E.P:=rfl
noncomputable def Rb(κ:Kp):EB:=(Qm κ).Bg (jx κ) ((show(Qm κ).E.P=Pr κ from rfl).trans (QG κ)) (lMb κ)
noncomputable def Si(κ:Kp):EB:=(Rb κ).Bg (jx κ) ((show(Rb κ).E.P=Pr κ from rfl).trans (QG κ)) (lMc κ)
noncomputable def Jp(κ:Kp):EB:=(Si κ).Bg (jx κ) ((show(Si κ).E.P=Pr κ from rfl).trans (QG κ)) (lMq κ)
noncomputable def BMa(κ:Kp):EB:=(Jp κ).Bg (jx κ) ((show(Jp κ).E.P=Pr κ from rfl).trans (QG κ)) (lMe κ)
structure jr where
 L:RL
 a:Nat
 m:Nat
 b:Nat
def eV(x:jr):List AV×List Dn.Obj:=([.ak 0 0 x.L.length, .int x.a, .int x.m, .int x.b,oG],[jO x.L])
structure fx(x:jr):Prop where
 lt:x.a<x.m/\x.m<x.b/\x.b<=x.L.length
 l:x.L.length<=100000000
 s:ft x.L
 u:Up x.L x.a x.m
 v:Up x.L x.m x.b
def Nc(x:jr):Out (AV×List Dn.Obj):= .all (Sr x.a x.b x.L) fun M=> .one (.aJ [],[jO M])
def Hy(n:Nat):dc:=aO eV (fun x=>fx x/\x.b - x.a=n) Nc
noncomputable def KY(κ:Kp)(r:Nat):Env:=(BMa κ).E.aw 167 fun args st K=>∃m,m<r/\Hy m args st K
theorem af8(κ:Kp)(r:Nat)(L:RL)(a m b:Nat)(K:AV->List Dn.Obj->Prop):(a7 (KY κ r) 12 167 [.ak 0 0 L.length, .int a, .int m, .int b,oG] [jO L] K)=(
 letI c:=IntKind.wrap IntKind.i64
 letI d:=AV.int
 letI e:=Obj.row
 letI f:=AV.aJ
 letI g:=AV.ak
 letI h:=AV.bm
 letI S:=Int.fdiv (IntKind.wrap IntKind.u64 (c ((↑a:Int)+(↑b:Int)))) (2:Int)
 letI T:=c S+(↑m:Int)
 letI R:=Pg.toProgram (Env.P (EB.E (Jp κ)))
 letI V:=c (c T - (1:Int))
 letI U:=c S
 letI W:=Pg.toProgram (Env.P (EB.E (jx κ)))
 letI X:=Pg.toProgram (Env.P (EB.E (Qm κ)))
 letI Y:=Pg.toProgram (Env.P (EB.E (Rb κ)))
 letI Z:=Pg.toProgram (Env.P (EB.E (Si κ)))
 letI C:=c T
 aq (c ((↑m:Int) - (↑a:Int))==(1:Int)) (ad W 167 3=ad W 167 3/\∃(e3:AMa),sp 220 [(0,g 0 0 L.length),(1,d (↑a:Int)),(4,h 54 []),(10,d (↑m:Int)),(11,d (↑b:Int))] [e 70 (rws L)]=XP e3/\Zq e3/\∀(e2:Nat),yS (PMa e3.L e3.a) (e3.a+1) e3.b e2 e2->ad X 167 9=ad X 167 9/\∃(e1:AMb),sp 220 [(0,g 0 0 e3.L.length),(10,d (↑e2:Int)),(13,d (↑(e3.a):Int))] [e 70 (rws e3.L)]=VU e1/\aa4 e1/\∀(e0:RL),Fw e1.a e1.b (e1.i - 1) e1.L0 e0->K (f []) [e 70 (rws e0)]) (aq (c ((↑b:Int) - (↑m:Int))==(1:Int)) (ad Y 167 15=ad Y 167 15/\∃(e3:AMc),sp 220 [(0,g 0 0 L.length),(2,d (↑m:Int)),(4,h 54 []),(14,d (↑a:Int)),(15,d (↑m:Int))] [e 70 (rws L)]=Ze e3/\aa2 e3/\∀(e2:Nat),yS (PMc e3.L e3.m) e3.a e3.m e2 e2->ad Z 167 21=ad Z 167 21/\∃(e1:AMq),sp 220 [(0,g 0 0 e3.L.length),(14,d (↑e2:Int)),(17,d (↑(e3.m):Int))] [e 70 (rws e3.L)]=L9 e1/\YM e1/\∀(e0:RL),Bw e1.a e1.m e1.i e1.L0 e0->K (f []) [e 70 (rws e0)]) (aq (decide ((↑m:Int)>c S)) (ad R 167 33=ad R 167 33/\∃(e9:YZ),letI i:=[e 70 (rws e9.L)];letI s:=K (f []) i;sp 220 [(0,g 0 0 L.length),(1,d (↑a:Int)),(2,d (↑m:Int)),(3,d (↑b:Int)),(4,h 54 []),(18,d U),(19,d C),(20,d (c (c T - (↑b:Int)))),(21,d U),(22,d V)] [e 70 (rws L)]=NK e9/\Uh e9/\∀(e8:Nat),letI t:=(↑(e9.w):Int) - (↑e8:Int);letI D:=c t;letI j:=[g 0 0 e9.L.length,d (↑(e9.dg):Int),d D,d (↑(e9.b):Int),h 54 []];letI k:=decide ((↑(e9.dg):Int)<c t);letI l:=decide (c t<(↑(e9.b):Int));letI E:=[g 0 0 e9.L.length,d (↑(e9.a):Int),d (↑e8:Int),d (↑(e9.dg):Int),h 54 []];letI F:=decide ((↑e8:Int)<(↑(e9.dg):Int));letI G:=decide ((↑(e9.a):Int)<(↑e8:Int));letI H:=aq G (aq F (∃(e5:Nat),e5<r/\∃(e4:jr),(E,i)=eV e4/\(fx e4/\e4.b - e4.a=e5)/\∀(e3:RL),letI y:=[e 70 (rws e3)];Sr e4.a e4.b e4.L e3->aq k (aq l (∃(e2:Nat),e2<r/\∃(e1:jr),(j,y)=eV e1/\(fx e1/\e1.b - e1.a=e2)/\∀(e0:RL),Sr e1.a e1.b e1.L e0->K (f []) [e 70 (rws e0)]) (K (f []) y)) (K (f []) y)) (aq k (aq l (∃(e2:Nat),e2<r/\∃(e1:jr),(j,i)=eV e1/\(fx e1/\e1.b - e1.a=e2)/\∀(e0:RL),Sr e1.a e1.b e1.L e0->K (f []) [e 70 (rws e0)]) s) s)) (aq k (aq l (∃(e2:Nat),e2<r/\∃(e1:jr),(j,i)=eV e1/\(fx e1/\e1.b - e1.a=e2)/\∀(e0:RL),Sr e1.a e1.b e1.L e0->K (f []) [e 70 (rws e0)]) s) s);yS (PMe e9.L e9.p) e9.lo e9.hi e8 e8->aq (decide ((↑e8:Int)<(↑(e9.m):Int))) (aq (decide ((↑(e9.m):Int)<c t)) (∃(e7:Lw),([g 0 0 e9.L.length,d (↑e8:Int),d (↑(e9.m):Int),d D,h 54 []],i)=Pj e7/\Br e7/\∀(e6:RL),letI u:=[e 70 (rws e6)];letI I:=aq k (aq l (∃(e2:Nat),e2<r/\∃(e1:jr),(j,u)=eV e1/\(fx e1/\e1.b - e1.a=e2)/\∀(e0:RL),Sr e1.a e1.b e1.L e0->K (f []) [e 70 (rws e0)]) (K (f []) u)) (K (f []) u);Lf e7.a e7.b e7.n e7.L e6->aq G (aq F (∃(e5:Nat),e5<r/\∃(e4:jr),(E,u)=eV e4/\(fx e4/\e4.b - e4.a=e5)/\∀(e3:RL),letI z:=[e 70 (rws e3)];Sr e4.a e4.b e4.L e3->aq k (aq l (∃(e2:Nat),e2<r/\∃(e1:jr),(j,z)=eV e1/\(fx e1/\e1.b - e1.a=e2)/\∀(e0:RL),Sr e1.a e1.b e1.L e0->K (f []) [e 70 (rws e0)]) (K (f []) z)) (K (f []) z)) I) I) H) H) (ad R 167 33=ad R 167 33/\∃(e9:YZ),letI n:=[e 70 (rws e9.L)];letI v:=K (f []) n;sp 220 [(0,g 0 0 L.length),(1,d (↑a:Int)),(2,d (↑m:Int)),(3,d (↑b:Int)),(4,h 54 []),(18,d U),(19,d C),(20,d (↑a:Int)),(21,d (↑m:Int)),(22,d V)] [e 70 (rws L)]=NK e9/\Uh e9/\∀(e8:Nat),letI w:=(↑(e9.w):Int) - (↑e8:Int);letI J:=c w;letI o:=[g 0 0 e9.L.length,d (↑(e9.dg):Int),d J,d (↑(e9.b):Int),h 54 []];letI p:=decide ((↑(e9.dg):Int)<c w);letI q:=decide (c w<(↑(e9.b):Int));letI M:=[g 0 0 e9.L.length,d (↑(e9.a):Int),d (↑e8:Int),d (↑(e9.dg):Int),h 54 []];letI N:=decide ((↑e8:Int)<(↑(e9.dg):Int));letI O:=decide ((↑(e9.a):Int)<(↑e8:Int));letI P:=aq O (aq N (∃(e5:Nat),e5<r/\∃(e4:jr),(M,n)=eV e4/\(fx e4/\e4.b - e4.a=e5)/\∀(e3:RL),letI A:=[e 70 (rws e3)];Sr e4.a e4.b e4.L e3->aq p (aq q (∃(e2:Nat),e2<r/\∃(e1:jr),(o,A)=eV e1/\(fx e1/\e1.b - e1.a=e2)/\∀(e0:RL),Sr e1.a e1.b e1.L e0->K (f []) [e 70 (rws e0)]) (K (f []) A)) (K (f []) A)) (aq p (aq q (∃(e2:Nat),e2<r/\∃(e1:jr),(o,n)=eV e1/\(fx e1/\e1.b - e1.a=e2)/\∀(e0:RL),Sr e1.a e1.b e1.L e0->K (f []) [e 70 (rws e0)]) v) v)) (aq p (aq q (∃(e2:Nat),e2<r/\∃(e1:jr),(o,n)=eV e1/\(fx e1/\e1.b - e1.a=e2)/\∀(e0:RL),Sr e1.a e1.b e1.L e0->K (f []) [e 70 (rws e0)]) v) v);yS (PMe e9.L e9.p) e9.lo e9.hi e8 e8->aq (decide ((↑e8:Int)<(↑(e9.m):Int))) (aq (decide ((↑(e9.m):Int)<c w)) (∃(e7:Lw),([g 0 0 e9.L.length,d (↑e8:Int),d (↑(e9.m):Int),d J,h 54 []],n)=Pj e7/\Br e7/\∀(e6:RL),letI x:=[e 70 (rws e6)];letI Q:=aq p (aq q (∃(e2:Nat),e2<r/\∃(e1:jr),(o,x)=eV e1/\(fx e1/\e1.b - e1.a=e2)/\∀(e0:RL),Sr e1.a e1.b e1.L e0->K (f []) [e 70 (rws e0)]) (K (f []) x)) (K (f []) x);Lf e7.a e7.b e7.n e7.L e6->aq O (aq N (∃(e5:Nat),e5<r/\∃(e4:jr),(M,x)=eV e4/\(fx e4/\e4.b - e4.a=e5)/\∀(e3:RL),letI B:=[e 70 (rws e3)];Sr e4.a e4.b e4.L e3->aq p (aq q (∃(e2:Nat),e2<r/\∃(e1:jr),(o,B)=eV e1/\(fx e1/\e1.b - e1.a=e2)/\∀(e0:RL),Sr e1.a e1.b e1.L e0->K (f []) [e 70 (rws e0)]) (K (f []) B)) (K (f []) B)) Q) Q) P) P)))):=by kernel_rfl
theorem am2(κ:Kp)(r:Nat)(hp: ∀args st K,(∃m,m<r/\Hy m args st K)->b6 (Pr κ) 167 args st K):aE (KY κ r)/\aj (KY κ r)/\(KY κ r).P=Pr κ:=
 ⟨(BMa κ).ok.fV hp,(BMa κ).mono.aw (fun _ _ _ _ hK ⟨m,h1,h2⟩=>⟨m,h1,aH _ _ _ _ hK h2⟩),rfl⟩
theorem ad7(κ:Kp)(r:Nat):bg (KY κ r) 12 167 (Hy r):=by
 refine aQ ?_;rintro⟨L,a,m,b⟩ K ⟨⟨⟨h1,h2,h3⟩,h4,h5,h6,h7⟩,h8⟩ ho;simp only at h1 h2 h3 h4 h5 h6 h7 h8
 replace ho: ∀M,Sr a b L M->K (.aJ []) [jO M]:=ho
 refine Eq.mpr (af8 κ r L a m b K) ?_;have hmid:=BV (i:=a) (j:=b) (by omega);rw[az (n:=(m:Int) - a) (by omega) (by omega),az (n:=(b:Int) - m) (by omega) (by omega),hmid];obtain⟨dg,hm⟩: ∃dg,dg=(a+b) / 2:=⟨_,rfl⟩
 rw[←hm];rw[az (n:=(dg:Int)+m) (by omega) (by omega),az (n:=(dg:Int)+m - b) (by omega) (by omega),az (n:=(dg:Int)+m - 1) (by omega) (by omega)];rw[ae,beq_iff_eq,beq_eq_false_iff_ne];refine⟨fun e=>?_,fun e=>?_⟩
 ·obtain rfl:m=a+1:=by omega
  refine⟨rfl,⟨L,a,b,a+1,b⟩,rfl,⟨yS.start (show a+1<=b by omega),h3,h4,h5⟩,fun i hi=>⟨rfl,⟨L,L,a,b,i,a⟩,rfl,⟨.start a b L,?_,h3,h4⟩,fun M hM=>ho M ⟨hM.sw,?_⟩⟩⟩
  ·obtain⟨l1,_,l3⟩:a+1<=i/\i<=i/\i<=b:=hi.le
   exact⟨Nat.le_refl _,l1,l3⟩
  ·obtain⟨l1,_,l3⟩:a+1<=i/\i<=i/\i<=b:=hi.le
   refine Fw.done (L:=L) (M:=M) (i:=i) hM ⟨l1,l3⟩ h7 (fun q=>?_) (fun q=>?_)
   ·have:bC (rat L (i - 1)) (rat L a)<0:=hi.h1 q
    omega
   ·have: ¬ bC (rat L i) (rat L a)<0:=hi.h2 q
    rw[cm.swap (rat L i)];omega
 ·rw [ae,beq_iff_eq,beq_eq_false_iff_ne]
  refine⟨fun e2=>?_,fun e2=>?_⟩
  ·obtain rfl:b=m+1:=by omega
   refine⟨rfl,⟨L,a,m,a,m⟩,rfl,⟨.start (Nat.le_of_lt h1),h3,h4,h5⟩,fun i hi=>⟨rfl,⟨L,L,a,m,i,m⟩,rfl,⟨.start a m L,?_,h3,h4⟩,fun M hM=>ho M ⟨hM.sw,?_⟩⟩⟩
   ·obtain⟨l1,_,l3⟩:a<=i/\i<=i/\i<=m:=hi.le
    exact⟨l1,l3,Nat.le_refl _⟩
   ·obtain⟨l1,_,l3⟩:a<=i/\i<=i/\i<=m:=hi.le
    refine Bw.done (L:=L) (M:=M) (i:=i) hM ⟨l1,l3⟩ h6 (fun q=>?_) (fun q=>?_)
    ·have:0<=bC (rat L m) (rat L (i - 1)):=hi.h1 q
     rw[cm.swap (rat L m)];omega
    ·have: ¬ 0<=bC (rat L m) (rat L i):=hi.h2 q
     omega
  ·have cut: ∀lo hi y,(lo=dg+m - b/\hi=dg/\dg<=m\/lo=a/\hi=m/\m<=dg)->yS (PMe L (dg+m - 1)) lo hi y y->y<=dg/\dg+m - y<=b/\Cut a m b y (dg+m - y) L:=fun lo hi y q1 hy=>by
    have hl:=hy.le;refine⟨by omega,by omega,⟨fun k1 k2=>?_,fun k1 k2=>?_⟩⟩
    ·have:0<=bC (rat L (dg+m - 1 - (y - 1))) (rat L (y - 1)):=hy.h1 (by omega)
     rw[show dg+m - 1 - (y - 1)=dg+m - y by omega,cm.swap (rat L (y - 1))] at this;omega
    ·have: ¬ 0<=bC (rat L (dg+m - 1 - y)) (rat L y):=hy.h2 (by omega)
     rw[show dg+m - 1 - y=dg+m - y - 1 by omega] at this;omega
   have mer: ∀y e M,(a<=y/\y<=m/\m<=e/\e<=b)->y+(e - m)=dg->Cut a m b y e L->Lf y m e L M->(Up M a y/\Up M y dg/\Up M dg e/\Up M e b)/\∀N,Sw a dg M N->∀k,a<=k->k<dg->∀j,dg<=j->j<b->bC (rat N k) (rat M j)<=0:=fun y e M k1 k2 k3 hM=>
    ⟨(Eh k1 k2 h6 h7 k3 hM .refl).2,fun N hN=>(Eh k1 k2 h6 h7 k3 hM hN).1⟩
   rcases Nat.lt_or_ge dg m with q|q
   case' inl=>
    rw[ae,an2,an4];refine⟨fun _=>⟨rfl,⟨L,a,m,b,dg,dg+m,dg+m - b,dg,dg+m - b,dg,dg+m - 1⟩,?_,⟨yS.start (show dg+m - b<=dg by omega),by simp only;omega,h4,h5⟩,fun y hy=>?_⟩,fun g=>absurd (show(m:Int)>dg by omega) g⟩
    ·simp only[NK,show((dg+m - b:Nat):Int)=dg+m - b by omega,show((dg+m - 1:Nat):Int)=dg+m - 1 by omega,show((dg+m:Nat):Int)=dg+m by omega]
    have hle:a<=y/\y<=m:=by have:dg+m - b<=y/\y<=y/\y<=dg:=hy.le;omega
    obtain⟨c1,c2,c3⟩:=cut _ _ y (.inl ⟨rfl,rfl,by omega⟩) hy
   case' inr=>
    rw[ae,an2,an4];refine⟨fun g=>absurd g (show ¬ (m:Int)>dg by omega),fun _=>⟨rfl,⟨L,a,m,b,dg,dg+m,a,m,a,m,dg+m - 1⟩,?_,⟨.start (Nat.le_of_lt h1),by simp only;omega,h4,h5⟩,fun y hy=>?_⟩⟩
    ·simp only[NK,show((dg+m - 1:Nat):Int)=dg+m - 1 by omega,show((dg+m:Nat):Int)=dg+m by omega]
    have hle:a<=y/\y<=m:=by have:a<=y/\y<=y/\y<=m:=hy.le;omega
    obtain⟨c1,c2,c3⟩:=cut _ _ y (.inr ⟨rfl,rfl,by omega⟩) hy
   all_goals
    simp only;rw[az (n:=((dg+m:Nat):Int) - y) (by omega) (by omega),show((dg+m:Nat):Int) - y=(dg+m - y:Nat) by omega];clear hy cut;obtain⟨e,he⟩: ∃e,e=dg+m - y:=⟨_,rfl⟩
    rw[←he] at c2 c3⊢;have hme:dg<=e:=by omega
    have hmb:dg<=b:=by omega
    have ham:a<=dg:=by omega
    have mer:=fun M=>mer y e M ⟨hle.1,hle.2,by omega,c2⟩ (by omega) c3
    refine ae.2 ⟨fun g1=>ae.2 ⟨fun g2=>⟨⟨L,y,m,e⟩,rfl,⟨by simpa using g1,by simpa using g2,by simp only;omega,by simp only[aU];omega⟩,fun M hM=>?_⟩,fun g2=>?_⟩,fun g1=>?_⟩;simp only at hM
    rotate_left
    have hM:Lf y m e L L:= .none (.inr (by simp at g1 g2;omega))
    rotate_left
    have hM:Lf y m e L L:= .none (.inl (by simp at g1;omega))
    rotate_left
    all_goals
     obtain⟨⟨u1,u2,u3,u4⟩,hx⟩:=mer _ hM;have hl:=hM.sw.len;have hs:=fk h5 hM.sw.perm;have sw1:Sw a b L _:=hM.sw.mono hle.1 c2 h3;refine ae.2 ⟨fun g3=>ae.2 ⟨fun g4=>⟨dg - a,by omega,⟨_,a,y,dg⟩,Prod.ext (by simp only[eV,hl]) rfl,⟨⟨⟨by simpa using g3,by simpa using g4,by simp only;omega⟩,by simp only;omega,hs,u1,u2⟩,rfl⟩,fun N hN=>?_⟩,fun g4=>?_⟩,fun g3=>?_⟩;simp only at hN
     rotate_left
     have hN:Sr a dg _ _:=⟨.refl,by simp at g4;rw[show dg=y by omega];exact u1⟩
     rotate_left
     have hN:Sr a dg _ _:=⟨.refl,by simp at g3;rw[show a=y by omega];exact u2⟩
     rotate_left
     all_goals
      have hx:=hx _ hN.sw;have hl2:=hN.sw.len;have hs2:=fk hs hN.sw.perm;have v3:=hN.sw.upr u3 (Nat.le_refl _);have v4:=hN.sw.upr u4 hme;have sw2:=sw1.trans (hN.sw.mono (Nat.le_refl _) hmb (by omega));refine ae.2 ⟨fun g5=>ae.2 ⟨fun g6=>⟨b - dg,by omega,⟨_,dg,e,b⟩,Prod.ext (by simp only[eV,hl2,hl]) rfl,⟨⟨⟨by simpa using g5,by simpa using g6,by simp only;omega⟩,by simp only;omega,hs2,v3,v4⟩,rfl⟩,fun O hO=>?_⟩,fun g6=>?_⟩,fun g5=>?_⟩;simp only at hO
      rotate_left
      have hO:Sr dg b _ _:=⟨.refl,by simp at g6;rw[show b=e by omega];exact v3⟩
      rotate_left
      have hO:Sr dg b _ _:=⟨.refl,by simp at g5;rw[show dg=e by omega];exact v4⟩
      rotate_left
      all_goals exact ho _ ⟨sw2.trans (hO.sw.mono ham (Nat.le_refl _) (by omega)),RN hx hN.sw hN.up hO.sw hO.up⟩
theorem al5(κ:Kp): ∀args st K,aO eV fx Nc args st K->b6 (Pr κ) 167 args st K:=by
 rintro args st K ⟨x,h1,h2,h3⟩;exact aE.pJ Hy (KY κ) (am2 κ) (ad7 κ) (x.b - x.a) args st K ⟨x,h1,⟨h2,rfl⟩,h3⟩
noncomputable def FB(κ:Kp):EB:=(jx κ).Xa aH (al5 κ)
def Blk L d N:=∀k,Up L (k*d) (min (k*d+d) N)
def WC L d q:=∀k,k<q->Up L (k*d) (k*d+d)
theorem UO{L d q N}(hw:WC L d q)(hu:Up L (q*d) N)(_h1:q*d<=N)(h2:N<q*d+d):Blk L d N:=by
 intro k;rcases Nat.lt_trichotomy k q with h|rfl|h
 ·exact(hw k h).cut (by grind)
 ·grind
 ·intro i j k1 k2 k3
  have:=Nat.mul_le_mul_right d h
  grind
theorem CY{L M d q N}(hw:WC L d q)(h:Sw (q*d) N L M)(hu:Up M (q*d) (q*d+d)):WC M d (q+1):=fun k hk=>by
 rcases Nat.lt_or_ge k q with h1|h1
 ·have h2:=Nat.mul_le_mul_right d h1
  rw[Nat.succ_mul] at h2;exact h.upl (hw k h1) h2
 grind
theorem II{L M d q N}(hw:WC L d q)(h:Sw (q*d) N L M)(hu:Up M (q*d) N)(h1:q*d<=N)(h2:N<q*d+d):Blk M d N:=
 UO (fun k hk=>by
  have h3:=Nat.mul_le_mul_right d hk;rw[Nat.succ_mul] at h3;exact h.upl (hw k hk) h3) hu h1 h2
theorem xTa κ L(N a b:Nat) I n K:(vc (FB κ).E 12 128 none 1 (ad (Pr κ).toProgram 128 2) (sp 63 [(0, .ak 0 0 L.length),(1, .int N),(2,oG),(6, .int 20),(7, .int a),(8, .int b)] [jO L]) (bh (FB κ).E 128 2 1 I n K))=(
 letI c:=AV.int
 aq (decide ((↑b:Int)<=(↑N:Int))) (∃(a_1:ZX),([AV.ak 0 0 L.length,c (↑a:Int),c (↑b:Int),AV.bm 54 []],[Obj.row 70 (rws L)])=U2
 a_1/\Gn a_1/\∀(y:RL),(Sw a_1.a a_1.b a_1.L y/\∀(i j:Nat),a_1.a<=i->i<j->j<a_1.b->bC (rat y i) (rat y j)<=(0:Int))->∃(m:Nat),m
 <n/\I m (sp 63 [(0,AV.ak 0 0 L.length),(1,c (↑N:Int)),(2,AV.bm 54 []),(6,c 20),(7,c (↑b:Int)),(8,c (IntKind.wrap
 IntKind.i64 ((↑b:Int)+(20:Int))))] [Obj.row 70 (rws y)])) (K (Exit.exit 0) (sp 63 [(0,AV.ak 0 0 L.length),(1,c (↑N:Int)),(2,AV.bm 54 []),
 (6,c 20),(7,c (↑a:Int))] [Obj.row 70 (rws L)]))):=by kernel_rfl
structure ATa where
 L0:RL
 L:RL
 q:Nat
abbrev Uz(x:ATa):=sp 63 [(0, .ak 0 0 x.L.length),(1, .int x.L0.length),(2,oG),(6, .int 20),(7, .int (x.q*20:Nat)),(8, .int (x.q*20+20:Nat))] [jO x.L]
def XV(x:ATa):=Sw 0 x.L0.length x.L0 x.L/\WC x.L 20 x.q/\x.q*20<=x.L0.length/\x.L0.length<=100000000/\ft x.L0
def aa6(x:ATa):Out (Exit×S):= .all (fun r:Nat×RL=>Sw 0 x.L0.length x.L0 r.2/\WC r.2 20 r.1/\r.1*20<=x.L0.length/\x.L0.length<r.1*20+20) fun r=> .one (.exit 0,sp 63 [(0, .ak 0 0 r.2.length),(1, .int x.L0.length),(2,oG),(6, .int 20),(7, .int (r.1*20:Nat))] [jO r.2])
theorem lTa κ:aR (FB κ).E 12 128 2 (aG 1 Uz XV aa6):=by
 refine aD (fun x=>x.L0.length - x.q*20) ?_;rintro⟨L0,L,q⟩ K ⟨h1,h2,h3,h4,h5⟩ ho;simp only at h1 h2 h3 h4 h5;rw[show(FB κ).E.P=Pr κ from rfl];refine Eq.mpr (xTa κ L L0.length (q*20) (q*20+20) _ _ K) ?_;have hl:=h1.len;rw[ae,an2,an4];refine⟨fun h=>⟨⟨L,q*20,q*20+20⟩,rfl,⟨by simp only;omega,by simp only;omega,by simp only;omega,fk h5 h1.perm⟩,fun M hM=>?_⟩,fun h=>?_⟩
 ·obtain⟨m1,m2⟩:Sw (q*20) (q*20+20) L M/\Up M (q*20) (q*20+20):=hM
  rw[az (n:=((q*20+20:Nat):Int)+20) (by omega) (by omega)];refine⟨_,?_,⟨L0,M,q+1⟩,?_,⟨h1.trans (m1.mono (by omega) (by omega) (by omega)),CY h2 m1 m2,by simp only;omega,h4,h5⟩,rfl,ho⟩
  ·simp only;omega
  ·simp only[Uz]
   rw[m1.len,show(q+1)*20=q*20+20 by omega];rfl
 ·exact ho (q,L) ⟨h1,h2,h3,by simp only;omega⟩
noncomputable def Wu κ:=(FB κ).loop (lTa _)
theorem xTb κ L(N bs a b:Nat) I n K:(vc (Wu κ).E 12 128 none 1 (ad (Pr κ).toProgram 128 9) (sp 63 [(0, .ak 0 0 L.length),(1, .int N),(2,oG),(6, .int bs),(7, .int a),(8, .int b)] [jO L]) (bh (Wu κ).E 128 9 1 I n K))=(
 letI c:=IntKind.wrap IntKind.i64
 letI d:=AV.int
 aq (decide ((↑b:Int)<=(↑N:Int))) (∃(e2:jr),([AV.ak 0 0 L.length,d (↑a:Int),d (c ((↑a:Int)+(↑bs:Int))),
 d (↑b:Int),AV.bm 54 []],[Obj.row 70 (rws L)])=eV e2/\fx e2/\∀(e1:RL),Sr e2.a e2.b e2.L e1->∃(e0:Nat),e0<n/\I e0 (sp 63 [(0,AV.ak 0 0
 L.length),(1,d (↑N:Int)),(2,AV.bm 54 []),(6,d (↑bs:Int)),(7,d (↑b:Int)),(8,d (c ((↑b:Int)+
 c ((2:Int)*(↑bs:Int)))))] [Obj.row 70 (rws e1)])) (K (Exit.exit 4) (sp 63 [(0,AV.ak 0 0 L.length),(1,d (↑N:Int)),(2,
 AV.bm 54 []),(6,d (↑bs:Int)),(7,d (↑a:Int))] [Obj.row 70 (rws L)]))):=by kernel_rfl
structure ATb where
 L0:RL
 L:RL
 bs:Nat
 q:Nat
abbrev Ri(x:ATb):=sp 63 [(0, .ak 0 0 x.L.length),(1, .int x.L0.length),(2,oG),(6, .int x.bs),(7, .int (x.q*(2*x.bs):Nat)),(8, .int (x.q*(2*x.bs)+2*x.bs:Nat))] [jO x.L]
structure OG(x:ATb):Prop where
 sw:Sw 0 x.L0.length x.L0 x.L
 w:WC x.L (2*x.bs) x.q
 le:x.q*(2*x.bs)<=x.L0.length
 b:0<x.bs/\x.bs<x.L0.length
 l:x.L0.length<=100000000
 s:ft x.L0
 r: ∀k,2*x.q<=k->Up x.L (k*x.bs) (min (k*x.bs+x.bs) x.L0.length)
def ab5(x:ATb):Out (Exit×S):= .all (fun r:Nat×RL=>OG ⟨x.L0,r.2,x.bs,r.1⟩/\x.L0.length<r.1*(2*x.bs)+2*x.bs) fun r=> .one (.exit 4,sp 63 [(0, .ak 0 0 r.2.length),(1, .int x.L0.length),(2,oG),(6, .int x.bs),(7, .int (r.1*(2*x.bs):Nat))] [jO r.2])
theorem pA q bs:2*q*bs=q*(2*bs):=by grind
theorem lTb κ:aR (Wu κ).E 12 128 9 (aG 1 Ri OG ab5):=by
 refine aD (fun x=>x.L0.length - x.q*(2*x.bs)) ?_;rintro⟨L0,L,bs,q⟩ K hs ho;obtain⟨h1,h2,h3,h4,h5,h6,h7⟩:=hs;have hs:OG ⟨L0,L,bs,q⟩:=⟨h1,h2,h3,h4,h5,h6,h7⟩
 simp only at h1 h2 h3 h4 h5 h6 h7;rw[show(Wu κ).E.P=Pr κ from rfl];refine Eq.mpr (xTb κ L L0.length bs (q*(2*bs)) (q*(2*bs)+2*bs) _ _ K) ?_;have hl:=h1.len;have u1:=h7 (2*q) (Nat.le_refl _);have u2:=h7 (2*q+1) (by omega);have hq:(q+1)*(2*bs)=q*(2*bs)+2*bs:=Nat.succ_mul _ _;have hk: ∀k,2*(q+1)<=k->q*(2*bs)+2*bs<=k*bs:=fun k hk=>by
  have:=Nat.mul_le_mul_right bs hk
  rw[pA,hq] at this;exact this
 rw[Nat.succ_mul,pA] at u2;rw[pA] at u1;rw[ae,an2,an4];refine⟨fun h=>?_,fun h=>?_⟩
 ·rw[az (n:=((q*(2*bs):Nat):Int)+bs) (by omega) (by omega),az (n:=2*(bs:Int)) (by omega) (by omega),az (n:=((q*(2*bs)+2*bs:Nat):Int)+2*bs) (by omega) (by omega),show((q*(2*bs):Nat):Int)+bs=(q*(2*bs)+bs:Nat) by omega]
  refine⟨⟨L,q*(2*bs),q*(2*bs)+bs,q*(2*bs)+2*bs⟩,rfl,⟨⟨by simp only;omega,by simp only;omega,by simp only;omega⟩,by simp only;omega,fk h6 h1.perm,u1.cut (by simp only;omega),u2.cut (by simp only;omega)⟩,fun M hM=>?_⟩;obtain⟨m1,m2⟩:Sr (q*(2*bs)) (q*(2*bs)+2*bs) L M:=hM;refine⟨_,?_,⟨L0,M,bs,q+1⟩,?_,⟨h1.trans (m1.mono (by omega) (by omega) (by omega)),CY h2 m1 m2,by simp only;omega,h4,h5,h6,fun k k1=>m1.upr (h7 k (by simp only at k1;omega)) (hk k k1)⟩,rfl,ho⟩
  ·simp only;omega
  ·simp only[Ri]
   rw[m1.len,hq];rfl
 ·exact ho (q,L) ⟨hs,by simp only;omega⟩
noncomputable def Ww κ:=(Wu κ).loop (lTb _)
theorem ad8 κ L(N bs:Nat) I n K:(vc (Ww κ).E 12 128 none 1 (ad (Pr κ).toProgram 128 7) (sp 63 [(0, .ak 0 0 L.length),(1, .int N),(2,oG),(6, .int bs)] [jO L]) (bh (Ww κ).E 128 7 1 I n K))=(
 letI a:=IntKind.wrap IntKind.i64
 letI b:=AV.int
 letI c:=Obj.row
 letI e:=Pg.toProgram (Env.P (EB.E (Wu κ)))
 aq (decide ((↑bs:Int)<(↑N:Int))) (ad e 128 9=ad e 128 9/\∃(e4:ATb),letI h:=Value.int IntKind.i64 (a ((↑(e4.bs):Int)*(2:Int)));letI d:=e4.L0.length;sp 63 [(0,AV.ak 0 0 L.length),(1,b (↑N:Int)),(2,AV.bm 54 []),(6,b (↑bs:Int)),(7,b 0),(8,b (a ((2:Int)*(↑bs:Int))))] [c 70 (rws L)]=Ri e4/\OG e4/\∀(e3:Nat×RL),letI f:=[(0,AV.ak 0 0 e3.2.length),(1,b (↑d:Int)),(2,AV.bm 54 []),(6,AV.lit h)];letI g:=(↑(e3.1*(2*e4.bs)):Int)+(↑(e4.bs):Int);OG {L0:=e4.L0,L:=e3.2,bs:=e4.bs,q:=e3.1}/\e4.L0.length<e3.1*(2*e4.bs)+2*e4.bs->aq (decide (a g<(↑d:Int))) (∃(e2:jr),([AV.ak 0 0 e3.2.length,b (↑(e3.1*(2*e4.bs)):Int),AV.lit (Value.int IntKind.i64 (a g)),b (↑d:Int),AV.bm 54 []],[c 70 (rws e3.2)])=eV e2/\fx e2/\∀(e1:RL),Sr e2.a e2.b e2.L e1->∃(e0:Nat),e0<n/\I e0 (sp 63 f [c 70 (rws e1)])) (∃(e0:Nat),e0<n/\I e0 (sp 63 f [c 70 (rws e3.2)]))) (K (Exit.exit 2) (sp 63 [] [c 70 (rws L)]))):=by kernel_rfl
structure Rd where
 L0:RL
 L:RL
 bs:Nat
abbrev El(x:Rd):=sp 63 [(0, .ak 0 0 x.L.length),(1, .int x.L0.length),(2,oG),(6, .int x.bs)] [jO x.L]
def LS(x:Rd):=Sw 0 x.L0.length x.L0 x.L/\Blk x.L x.bs x.L0.length/\(0<x.bs/\x.bs<=200000000)/\x.L0.length<=100000000/\ft x.L0
def U8(x:Rd):Out (Exit×S):= .all (fun M=>Sw 0 x.L0.length x.L0 M/\Up M 0 x.L0.length) fun M=> .one (.exit 2,sp 63 [] [jO M])
theorem ag3 κ:aR (Ww κ).E 12 128 7 (aG 1 El LS U8):=by
 refine aD (fun x=>x.L0.length - x.bs) ?_;rintro⟨L0,L,bs⟩ K ⟨h1,h2,h3,h4,h5⟩ ho;simp only at h1 h2 h3 h4 h5;rw[show(Ww κ).E.P=Pr κ from rfl];refine Eq.mpr (ad8 κ L L0.length bs _ _ K) ?_;have hl:=h1.len;rw[ae,an2,an4];refine⟨fun h=>?_,fun h=>?_⟩
 ·rw [az (n:=2*(bs:Int)) (by omega) (by omega)]
  refine⟨rfl,⟨L0,L,bs,0⟩,?_,⟨h1,fun k hk=>absurd hk (Nat.not_lt_zero k),by simp only;omega,by simp only;omega,h4,h5,fun k _=>h2 k⟩,fun r hr=>?_⟩
  ·simp only[Ri]
   rw[show 0*(2*bs)+2*bs=2*bs by omega,show 0*(2*bs)=0 by omega];rfl
  ·obtain⟨q,M⟩:=r
   obtain⟨⟨m1,m2,m3,m4,m5,m6,m7⟩,m8⟩:=hr;simp only at m1 m2 m3 m4 m5 m6 m7 m8;have hm:=m1.len;have u1:=m7 (2*q) (Nat.le_refl _);have u2:=m7 (2*q+1) (by omega);rw[Nat.succ_mul,pA] at u2;rw[pA] at u1;simp only;rw[az (n:=(bs:Int)*2) (by omega) (by omega),az (n:=((q*(2*bs):Nat):Int)+bs) (by omega) (by omega),show((q*(2*bs):Nat):Int)+bs=(q*(2*bs)+bs:Nat) by omega];have fin: ∀X:RL,Sw (q*(2*bs)) L0.length M X->Up X (q*(2*bs)) L0.length->LS ⟨L0,X,2*bs⟩:=fun X x1 x2=>
    ⟨m1.trans (x1.mono (by omega) (Nat.le_refl _) (by omega)),II m2 x1 x2 m3 m8,by simp only;omega,h4,h5⟩
   rw[ae,an2,an4];refine⟨fun e=>?_,fun e=>?_⟩
   ·refine⟨⟨M,q*(2*bs),q*(2*bs)+bs,L0.length⟩,rfl,⟨⟨by simp only;omega,by simp only;omega,by simp only;omega⟩,by simp only;omega,fk h5 m1.perm,u1.cut (by simp only;omega),u2.cut (by simp only;omega)⟩,fun X hX=>?_⟩
    obtain⟨x1,x2⟩:Sr (q*(2*bs)) L0.length M X:=hX;refine⟨_,?_,⟨L0,X,2*bs⟩,?_,fin X x1 x2,rfl,ho⟩
    ·simp only;omega
    ·simp only[El]
     rw[x1.len,show((2*bs:Nat):Int)=(bs:Int)*2 by omega]
   ·refine⟨_,?_,⟨L0,M,2*bs⟩,?_,fin M .refl (u1.cut (by omega)),rfl,ho⟩
    ·simp only;omega
    ·simp only[El]
     rw[show((2*bs:Nat):Int)=(bs:Int)*2 by omega]
 ·exact ho L ⟨h1,by
   have:=h2 0
   rw[Nat.zero_mul] at this;exact this.cut (show L0.length<=min (0+bs) L0.length by omega)⟩
noncomputable def BTc κ:=(Ww κ).loop (ag3 _)
theorem ae1(κ:Kp)(L:RL)(K:AV->List Dn.Obj->Prop):(a7 (BTc κ).E 12 128 [.ak 0 0 L.length, .int L.length,oG] [jO L] K)=(
 letI a:=AV.int
 letI b:=Obj.row
 letI c:=Pg.toProgram (Env.P (EB.E (FB κ)))
 letI d:=Pg.toProgram (Env.P (EB.E (Ww κ)))
 ad c 128 2=ad c 128 2/\∃(e7:ATa),sp 63 [(0,AV.ak 0 0 L.length),(1,a (↑(L.length):Int)),(2,AV.bm 54 []),(6,a 20),(7,a 0),(8,
 a 20)] [b 70 (rws L)]=Uz e7/\XV e7/\∀(e6:Nat×RL),Sw 0 e7.L0.length e7.L0 e6.2/\(∀(e2:Nat),e2<e6.1->∀(e1 e0:Nat),e2*20<=e1->
 e1<e0->e0<e2*20+20->bC (rat e6.2 e1) (rat e6.2 e0)<=(0:Int))/\e6.1*20<=e7.L0.length/\e7.L0.length<e6.1*20+20->∃(e5:ZX),([AV.ak 0 0
 e6.2.length,a (↑(e6.1*20):Int),a (↑(e7.L0.length):Int),AV.bm 54 []],[b 70 (rws e6.2)])=U2 e5/\Gn e5/\∀(e4:RL),(Sw e5.a e5.b
 e5.L e4/\∀(e1 e0:Nat),e5.a<=e1->e1<e0->e0<e5.b->bC (rat e4 e1) (rat e4 e0)<=(0:Int))->ad d 128 7=ad d 128 7/\∃(e3:Rd),sp 63 [(0,AV.ak
 0 0 e6.2.length),(1,a (↑(e7.L0.length):Int)),(2,AV.bm 54 []),(6,a 20)] [b 70 (rws e4)]=El e3/\LS e3/\∀(e2:RL),(Sw 0 e3.L0.length
 e3.L0 e2/\∀(e1 e0:Nat),0<=e1->e1<e0->e0<e3.L0.length->bC (rat e2 e1) (rat e2 e0)<=(0:Int))->K (AV.aJ []) [b 70 (rws e2)]):=by kernel_rfl
def SS(L:RL):List AV×List Dn.Obj:=([.ak 0 0 L.length, .int L.length,oG],[jO L])
def pN(L:RL):Prop:=L.length<=100000000/\ft L
def Fu(L:RL):Out (AV×List Dn.Obj):= .all (fun M=>M.Perm L/\Up M 0 L.length) fun M=> .one (.aJ [],[jO M])
theorem aj2(κ:Kp):bg (BTc κ).E 12 128 (aO SS pN Fu):=by
 refine aQ ?_;rintro L K ⟨h1,h2⟩ ho;refine Eq.mpr (ae1 κ L K) ?_;refine⟨rfl,⟨L,L,0⟩,rfl,⟨.refl,fun k hk=>absurd hk (Nat.not_lt_zero k),by simp only;omega,h1,h2⟩,fun r hr=>?_⟩;obtain⟨q,M⟩:=r;obtain⟨m1,m2,m3,m4⟩:=hr;simp only at m1 m2 m3 m4;have hm:=m1.len;refine⟨⟨M,q*20,L.length⟩,rfl,⟨m3,by simp only;omega,by simp only;omega,fk h2 m1.perm⟩,fun X hX=>?_⟩;obtain⟨x1,x2⟩:Sw (q*20) L.length M X/\Up X (q*20) L.length:=hX;refine⟨rfl,⟨L,X,20⟩,?_,⟨m1.trans (x1.mono (by omega) (Nat.le_refl _) (by omega)),II m2 x1 x2 m3 m4,by simp only;omega,h1,h2⟩,fun Y hY=>ho Y ⟨hY.1.perm,hY.2⟩⟩;simp only[El];rw[x1.len];rfl
noncomputable def BTs(κ:Kp):EB:=(BTc κ).call (aj2 κ)
theorem aj9(κ:Kp)(L:RL)(K:AV->List Dn.Obj->Prop):(a7 (BTs κ).E 12 79 [.ak 0 0 L.length,oG] [jO L] K)=(
 ∃(a:RL),([AV.ak 0 0 L.length,AV.int (↑(L.length):Int),AV.bm 54 []],[Obj.row 70 (rws L)])=SS a/\pN a/\∀(y:RL),(List.Perm y a/\∀(i j:
 Nat),0<=i->i<j->j<a.length->bC (rat y i) (rat y j)<=(0:Int))->K (AV.aJ []) [Obj.row 70 (rws y)]):=by kernel_rfl
def DE(L:RL):List AV×List Dn.Obj:=([.ak 0 0 L.length,oG],[jO L])
theorem am0(κ:Kp):bg (BTs κ).E 12 79 (aO DE pN Fu):=by
 refine aQ ?_;rintro L K hs ho;exact Eq.mpr (aj9 κ L K) ⟨L,rfl,hs,ho⟩
theorem ae4(κ:Kp): ∀args st K,aO DE pN Fu args st K->b6 (Pr κ) 79 args st K:=fun args st K h=>gW (BTs κ).ok (BTs κ).mono (am0 κ args st K h)
def dm(xs:List AV):RL:=xs.map ag
theorem l6 xs:(dm xs).length=xs.length:=by simp[dm]
theorem rq: ∀xs i,rat (dm xs) i=ag (nth xs i)
 |[],i=>by rfl
 |x::xs,0=>rfl
 |x::xs,i+1=>by
  have:=rq xs i
  grind [rat,dm,nth]
theorem nt: ∀L,dm (rws L)=L
 |[]=>rfl
 |r::L=>by
  have:=nt L
  simp only[dm,ao9] at this⊢;rw[this];rfl
theorem yCr κ l K:(a7 (PV κ).E 12 39 [.ah 72 l] [] K)=(
 (LB l=true->K (AV.ah 72 []) [])/\aW (decide ((0+l.length+1)*33<=70368744177664)) (K (AV.ah 72 (List.take (0+l.length) (List.drop 0 ([]++l)))) [])):=by kernel_rfl
def Q9(l:List AV):List AV×List Dn.Obj:=([.ah 72 l],[])
def YI(l:List AV):Out (AV×List Dn.Obj):= .one (.ah 72 l,[])
theorem cCr κ:bg (PV κ).E 12 39 (aO Q9 (fun l=>l.length<=100000000) YI):=by
 refine aQ ?_;rintro l K h ho;refine Eq.mpr (yCr _ l K) ⟨fun e=>?_,ai.2 ⟨by grind,?_⟩⟩
 ·cases l with
  |nil=>exact ho
  |cons=>cases e
 ·rw[List.nil_append,ao2,Nat.zero_add,List.take_length]
  exact ho
noncomputable def Vx κ:=(((PV κ).call (cCr _)).Zk [39]).calm [39]
def ec:RL->Bool
 |[]=>true
 |[_]=>true
 |a::b::l=>decide (bC a b<0)&&ec (b::l)
theorem xRi κ xs(i:Nat) I n K:(vc (Vx κ).E 12 37 none 0 (ad (Pr κ).toProgram 37 2) (sp 21 [(0, .ah 70 xs),(3, .int i)] []) (bh (Vx κ).E 37 2 0 I n K))=(
 letI a:=IntKind.wrap IntKind.i64
 letI b:=(↑i:Int) - (1:Int)
 letI c:=ag (nth xs (Int.toNat (a b)))
 letI d:=(↑i:Int)<(↑(xs.length):Int)
 aq (decide d) (aW (decide ((0:Int)<=a b)&&decide (a b<(↑(xs.length):Int))) (aW (true&&decide d) (aW
 (decide (List.length c<=9223372036854775807)) (aq (decide (bC c (ag (nth xs (Int.toNat (↑i:Int))))>=(0:Int))) (K Exit.ret (sp 21 [(2,AV.bool false)]
 [])) (∃(e0:Nat),e0<n/\I e0 (sp 21 [(0,AV.ah 70 xs),(3,AV.int (a ((↑i:Int)+(1:Int))))] [])))))) (K (Exit.exit 0) (sp 21 []
 []))):=by kernel_rfl
theorem Kb{L i}(h1:1<=i)(h2:i<L.length):ec (L.drop (i - 1))=(decide (bC (rat L (i - 1)) (rat L i)<0)&&ec (L.drop i)):=by
 grind [List.drop_eq_getElem_cons,ec,zw]
theorem Nx{L:RL}{i}(h:L.length<=i):ec (L.drop (i - 1))=true:=by
 rcases Nat.lt_or_ge _ _ with h1|h1
 ·rw[ao3 h1,ao0 (by omega)];rfl
 ·rw[ao0 h1];rfl
def fD(xs:List _):=decide (xs.length<=100000000)&&xs.all fun x=>decide ((ag x).length<=100000000)
theorem lS{xs}(h:fD xs=true) i:(ag (nth xs i)).length<=100000000:=by
 simp[fD] at h;rcases Nat.lt_or_ge i xs.length with h1|h1
 ·grind [aX]
 ·rw[fT _ _ h1];exact Nat.zero_le _
theorem jV{xs}(h:fD xs=true):xs.length<=100000000:=by
 grind [fD]
structure ARi where
 xs:List AV
 i:Nat
abbrev Xc(x:ARi):=sp 21 [(0, .ah 70 x.xs),(3, .int x.i)] []
def Mc(x:ARi):Out (Exit×S):= .aq (ec ((dm x.xs).drop (x.i - 1))) (.one (.exit 0,sp 21 [] [])) (.one (.ret,sp 21 [(2, .bool false)] []))
theorem lRi κ:aR (Vx κ).E 12 37 2 (aG 0 Xc (fun x=>1<=x.i/\fD x.xs=true) Mc):=by
 refine aD (fun x=>x.xs.length - x.i) ?_;rintro⟨xs,i⟩ K ⟨h1,h2⟩ ho;simp only at h1 h2;rw[show(Vx κ).E.P=Pr κ from rfl];refine Eq.mpr (xRi κ xs i _ _ K) ?_;have hl:=jV h2;simp only[Mc,Out.run,ae] at ho;rw[ae,an2,an4];refine⟨fun h=>?_,fun h=>?_⟩
 ·rw[az (n:=(i:Int) - 1) (by omega) (by omega),az (n:=(i:Int)+1) (by omega) (by omega),show((i:Int) - 1).toNat=i - 1 by omega,Int.toNat_natCast,←rq,←rq]
  rw[Kb h1 (by rw[l6];omega)] at ho;have hf:=lS h2 (i - 1);refine ai.2 ⟨by simp;omega,ai.2 ⟨by simp;omega,ai.2 ⟨by rw[rq,an2];omega,ae.2 ⟨fun e=>ho.2 ?_,fun e=>?_⟩⟩⟩⟩
  ·grind
  ·have e:bC (rat (dm xs) (i - 1)) (rat (dm xs) i)<0:=by simpa using e
   rw[an8 e,ao8] at ho;refine⟨_,?_,⟨xs,i+1⟩,rfl,⟨by simp only;omega,h2⟩,rfl,?_⟩
   ·simp only;omega
   ·simp only[Mc,Out.run,ae,Nat.add_sub_cancel]
    exact ho
 ·exact ho.1 (Nx (by rw[l6];omega))
noncomputable def BRi κ:=(Vx κ).loop (lRi _)
theorem yRi κ xs K:(a7 (BRi κ).E 12 37 [.ah 70 xs] [] K)=(
 letI a:=Pg.toProgram (Env.P (EB.E (Vx κ)))
 ad a 37 2=ad a 37 2/\∃(e0:ARi),sp 21 [(0,AV.ah 70 xs),(3,AV.int 1)] []=Xc e0/\(1<=e0.i/\fD e0.xs=true)/\aq (ec (List.drop (e0.i - 1) (dm
 e0.xs))) (K (AV.bool true) []) (K (AV.bool false) [])):=by kernel_rfl
def gRi:List AV->Option (Bool×AV)
 |[.ah 70 xs]=>some (fD xs, .bool (ec (dm xs)))
 |_=>none
theorem pRi κ:cj (BRi κ).E 12 37 gRi:=by
 intro args x hh;unfold gRi at hh;split at hh
 ·rename_i xs
  simp only[an5,ao1] at hh;obtain⟨h1,rfl⟩:=hh;refine⟨_,rfl,rfl,Eq.mpr (yRi κ xs _) ⟨rfl,⟨xs,1⟩,rfl,by grind,?_⟩⟩
  simp_all[ae]
 ·cases hh
noncomputable def W9 κ:=EB.JB ((BRi κ).pure (pRi _)) [37]
theorem xRc κ xs L(i:Nat) I n K:(vc (W9 κ).E 12 55 none 0 (ad (Pr κ).toProgram 55 3) (sp 19 [(3, .ak 0 0 L.length),(6, .ah 70 xs),(7, .int xs.length),(8, .int i)] [.row 70 (rws L)]) (bh (W9 κ).E 55 3 0 I n K))=(
 letI a:=(↑i:Int)<(↑(xs.length):Int)
 aq (decide a) (aW (true&&decide a) (∃(e1:List AV),([AV.ah 72 (ag (nth xs (Int.toNat (↑i:Int))))],[])=Q9 e1/\e1.length<=100000000/\aW (decide
 ((L.length+1+1)*25<=70368744177664)) (∃(e0:Nat),e0<n/\I e0 (sp 19 [(3,AV.ak 0 0 (L.length+1)),(6,AV.ah 70 xs),(7,AV.int (↑(xs.length):
 Int)),(8,AV.int (IntKind.wrap IntKind.i64 ((↑i:Int)+(1:Int))))] [Obj.row 70 (List.take L.length (rws L)++[AV.ah 72 e1])])))) (K (Exit.exit 0) (sp 19
 [(3,AV.ak 0 0 L.length)] [Obj.row 70 (rws L)]))):=by kernel_rfl
abbrev ARc:=List AV×Nat
abbrev Vv(x:ARc):=sp 19 [(3, .ak 0 0 ((dm x.1).take x.2).length),(6, .ah 70 x.1),(7, .int x.1.length),(8, .int x.2)] [.row 70 (rws ((dm x.1).take x.2))]
def H6(x:ARc):=x.2<=x.1.length/\fD x.1=true
def UQ(x:ARc):Out (Exit×S):= .one (.exit 0,sp 19 [(3, .ak 0 0 (dm x.1).length)] [.row 70 (rws (dm x.1))])
theorem Cx xs i(h:i<xs.length):(dm xs).take (i+1)=(dm xs).take i++[ag (nth xs i)]:=by
 rw[List.take_add_one,ao6 (by grind [l6]),←zw _,rq];rfl
theorem vl L r:rws L++[.ah 72 r]=rws (L++[r]):=by simp
theorem lRc κ:aR (W9 κ).E 12 55 3 (aG 0 Vv H6 UQ):=by
 refine aD (fun x=>x.1.length - x.2) ?_;rintro⟨xs,i⟩ K ⟨h1,h2⟩ ho;simp only at h1 h2;refine Eq.mpr (xRc κ xs ((dm xs).take i) i _ _ K) ?_;have hl:=jV h2;rw[ae,an2,an4];refine⟨fun h=>?_,fun h=>?_⟩
 ·have hi:i<xs.length:=by omega
  rw[az (n:=(i:Int)+1) (by omega) (by omega),Int.toNat_natCast];have hle:((dm xs).take i).length<=100000000:=by grind
  refine ai.2 ⟨by simp;omega,ag (nth xs i),rfl,lS h2 i,ai.2 ⟨by rw[an2];omega,_,?_,(xs,i+1),?_,⟨hi,h2⟩,rfl,ho⟩⟩
  ·simp only;omega
  ·simp only[Vv]
   rw[Cx xs i hi,←dU,List.take_length,vl,ao7,dU];rfl
 ·have hi:(dm xs).take i=dm xs:=List.take_of_length_le (by rw[l6];omega)
  rw[hi];exact ho
noncomputable def BRk κ:=(W9 κ).loop (lRc _)
theorem yRc κ xs K:(a7 (BRk κ).E 12 55 [.ah 70 xs] [] K)=(
 letI a:=Pg.toProgram (Env.P (EB.E (W9 κ)))
 ad a 55 3=ad a 55 3/\∃(e0:ARc),sp 19 [(3,AV.ak 0 0 0),(6,AV.ah 70 xs),(7,AV.int (↑(xs.length):Int)),(8,AV.int 0)] [Obj.row 70 []]=Vv e0/\H6
 e0/\K (AV.ah 70 (List.take (List.length (dm e0.1)) (List.drop 0 (rws (dm e0.1))))) []):=by kernel_rfl
def UI(xs:List AV):List AV×List Dn.Obj:=([.ah 70 xs],[])
def Xb(xs:List AV):Out (AV×List Dn.Obj):= .one (.ah 70 (rws (dm xs)),[])
theorem cCx κ:bg (BRk κ).E 12 55 (aO UI (fun xs=>fD xs=true) Xb):=by
 refine aQ ?_;rintro xs K h ho;refine Eq.mpr (yRc _ _ K) ⟨rfl,(xs,0),rfl,⟨Nat.zero_le _,h⟩,?_⟩;rw[ao2,←dU,List.take_length];exact ho
noncomputable def Uq κ:=((BRk κ).call (cCx _)).calm [55]
theorem ai9 κ xs cs vs ds L w(i k:Nat) t I n K:(vc (Uq κ).E 12 123 none 0 (ad (Pr κ).toProgram 123 7) (sp 61 [(1, .ah 3 cs),(2, .ah 72 vs),(7, .int w),(8, .ak 0 0 L.length),(10, .ah 72 t),(18, .ah 70 xs),(19, .int xs.length),(20, .int i),(26, .ah 3 ds),(27, .int ds.length),(28, .int k)] [.row 70 (rws L)]) (bh (Uq κ).E 123 7 0 I n K))=(
 letI a:=AV.int
 letI b:=AV.ah
 letI d:=K (Exit.exit 1) (sp 61 [(1,b 3 cs),(2,b 72 vs),(7,a w),(8,AV.ak 0 0 L.length),(18,b 70 xs),(19,a (↑(xs.length):
  Int)),(20,a (↑i:Int))] [Obj.row 70 (rws L)])
 letI c:=Int.toNat (↑k:Int)
 letI e:=nth t (Int.toNat (toInt (nth ds c)))
 letI f:=(↑k:Int)<(↑(ds.length):Int)
 aq (decide f) (aW (true&&decide f) (aq (decide (toInt (nth ds c)<(0:Int))) d (aq (decide (toInt (nth ds c)>=(↑(t.length):Int))) d (aW (decide ((0
 :Int)<=toInt (nth ds c))&&decide (toInt (nth ds c)<(↑(t.length):Int))) (aW (true&&decide ((↑k:Int)<(↑(vs.length):Int))) (aq (oV (AV.agg
 [AV.bool (Dn.toBool (af e 0)),a (toInt (af e 1)),AV.str (toStr (af e 2))]) (AV.agg [AV.bool (Dn.toBool (af (nth vs c) 0)),a (toInt (af (nth vs
 c) 1)),AV.str (toStr (af (nth vs c) 2))]) != (0:Int)) d (∃(e0:Nat),e0<n/\I e0 (sp 61 [(1,b 3 cs),(2,b 72 vs),(7,a w),(8,AV.ak 0
 0 L.length),(10,b 72 t),(18,b 70 xs),(19,a (↑(xs.length):Int)),(20,a (↑i:Int)),(26,b 3 ds),(27,a (↑(ds.length):
 Int)),(28,a (IntKind.wrap IntKind.i64 ((↑k:Int)+(1:Int))))] [Obj.row 70 (rws L)])))))))) (K (Exit.exit 2) (sp 61 [(1,b 3 cs),(2,b 72
 vs),(7,a w),(8,AV.ak 0 0 L.length),(10,b 72 t),(18,b 70 xs),(19,a (↑(xs.length):Int)),(20,a (↑i:Int))] [Obj.row 70 (rws
 L)]))):=by kernel_rfl
def yN(t:List AV):List AV->List AV->Bool
 |c::cs,v::vs=>(decide (0<=toInt c)&&decide (toInt c<t.length)&&decide (oV (nth t (toInt c).toNat) v=0))&&yN t cs vs
 |_,_=>true
theorem zh: ∀t cs vs,yN t (cs.take (min cs.length vs.length)) vs=yN t cs vs
 |t,[],vs=>rfl
 |t,c::cs,[]=>by rfl
 |t,c::cs,v::vs=>by
  have:=zh t cs vs
  grind [yN]
def tk(L:RL)(cs vs:List AV):RL:=L.filter fun t=>yN t cs vs
structure Rw where
 xs:List AV
 cs:List AV
 vs:List AV
 ds:List AV
 L:RL
 w:Nat
 i:Nat
 t:List AV
 k:Nat
abbrev SJ(x:Rw):=sp 61 [(1, .ah 3 x.cs),(2, .ah 72 x.vs),(7, .int x.w),(8, .ak 0 0 x.L.length),(10, .ah 72 x.t),(18, .ah 70 x.xs),(19, .int x.xs.length),(20, .int x.i),(26, .ah 3 x.ds),(27, .int x.ds.length),(28, .int x.k)] [.row 70 (rws x.L)]
def HQ(x:Rw):=x.k<=x.ds.length/\x.ds.length<=x.vs.length/\x.vs.length<=100000000
def Gm(x:Rw):Out (Exit×S):= .aq (yN x.t (x.ds.drop x.k) (x.vs.drop x.k))
 (.one (.exit 2,sp 61 [(1, .ah 3 x.cs),(2, .ah 72 x.vs),(7, .int x.w),(8, .ak 0 0 x.L.length),(10, .ah 72 x.t),(18, .ah 70 x.xs),(19, .int x.xs.length),(20, .int x.i)] [.row 70 (rws x.L)]))
 (.one (.exit 1,sp 61 [(1, .ah 3 x.cs),(2, .ah 72 x.vs),(7, .int x.w),(8, .ak 0 0 x.L.length),(18, .ah 70 x.xs),(19, .int x.xs.length),(20, .int x.i)] [.row 70 (rws x.L)]))
theorem ak2(κ:Kp):aR (Uq κ).E 12 123 7 (aG 0 SJ HQ Gm):=by
 refine aD (fun x=>x.ds.length - x.k) ?_;rintro⟨xs,cs,vs,ds,L,w,i,t,k⟩ K ⟨h1,h2,h3⟩ ho;simp only at h1 h2 h3;rw[show(Uq κ).E.P=Pr κ from rfl];refine Eq.mpr (ai9 κ xs cs vs ds L w i k t _ _ K) ?_;simp only[Gm,Out.run,ae] at ho;rw[ae,an2,an4];refine⟨fun h=>?_,fun h=>?_⟩
 ·have hk:k<ds.length:=by omega
  rw[ao3 hk,←aX _ _ hk,ao3 (show k<vs.length by omega),←aX vs k (by omega),yN] at ho;rw[Int.toNat_natCast];refine ai.2 ⟨by simp;omega,ae.2 ⟨fun e=>ho.2 ?_,fun e=>ae.2 ⟨fun e2=>ho.2 ?_,fun e2=>?_⟩⟩⟩
  ·have e:toInt (nth ds k)<0:=by simpa using e
   rw[an6 (by omega),Bool.false_and,Bool.false_and,Bool.false_and]
  ·have e2:(t.length:Int)<=toInt (nth ds k):=by simpa using e2
   rw[show decide (toInt (nth ds k)<t.length)=false from an6 (by omega),Bool.and_false,Bool.false_and,Bool.false_and]
  ·have e:0<=toInt (nth ds k):=by simpa using e
   have e2:toInt (nth ds k)<t.length:=by simpa using e2
   rw[an8 e,an8 e2,ao8,ao8] at ho;refine ai.2 ⟨by rw[an8 e,an8 e2];rfl,ai.2 ⟨by simp;omega,?_⟩⟩;have ev: ∀a b:AV,oV (.agg [.bool (Dn.toBool (af a 0)), .int (toInt (af a 1)), .lit (.string (toStr (af a 2)))]) (.agg [.bool (Dn.toBool (af b 0)), .int (toInt (af b 1)), .lit (.string (toStr (af b 2)))])=oV a b:=fun _ _=>rfl
   rw[ev,ae,bne_iff_ne,bne_eq_false_iff_eq];refine⟨fun e3=>ho.2 ?_,fun e3=>?_⟩
   ·rw[an6 e3];rfl
   ·rw[an8 e3,ao8] at ho
    rw[az (n:=(k:Int)+1) (by omega) (by omega)];refine⟨_,?_,⟨xs,cs,vs,ds,L,w,i,t,k+1⟩,rfl,⟨hk,h2,h3⟩,rfl,?_⟩
    ·simp only;omega
    ·simp only[Gm,Out.run,ae]
     exact ho
 ·rw[ao0 (by omega)] at ho
  exact ho.1 rfl
noncomputable def Vz(κ:Kp):EB:=(Uq κ).loop (ak2 κ)
theorem xMt(κ:Kp)(xs cs vs:List AV)(L:RL)(w:Nat)(i:Nat)(I:Nat->S->Prop)(n:Nat)(K:Exit->S->Prop):(vc (Vz κ).E 12 123 none 0 (ad (Pr κ).toProgram 123 4) (sp 61 [(1, .ah 3 cs),(2, .ah 72 vs),(7, .int w),(8, .ak 0 0 L.length),(18, .ah 70 xs),(19, .int xs.length),(20, .int i)] [.row 70 (rws L)]) (bh (Vz κ).E 123 4 0 I n K))=(
 letI a:=AV.int
 letI b:=Obj.row
 letI c:=AV.ah
 letI d:=List.drop 0 (List.take (Int.toNat (↑w:Int)) cs)
 letI e:=(↑i:Int)<(↑(xs.length):Int)
 letI f:=Pg.toProgram (Env.P (EB.E (Uq κ)))
 aq (decide e) (aW (true&&decide e) (aW (true&&decide ((↑w:Int)<=(↑(cs.length):Int))) (ad f 123 7=ad f 123 7/\∃(e2:Rw),letI g:=IntKind.wrap IntKind.i64 ((↑(e2.i):Int)+(1:Int));sp 61 [(1,c 3 cs),(2,c 72 vs),(7,a (↑w:Int)),(8,AV.ak 0 0 L.length),(10,c 72 (ag (nth xs (Int.toNat (↑i:Int))))),(18,c 70 xs),(19,a (↑(xs.length):Int)),(20,a (↑i:Int)),(26,c 3 d),(27,a (↑(List.length d):Int)),(28,a 0)] [b 70 (rws L)]=SJ e2/\HQ e2/\aq (yN e2.t (List.drop e2.k e2.ds) (List.drop e2.k e2.vs)) (∃(e1:List AV),([c 72 e2.t],[])=Q9 e1/\e1.length<=100000000/\aW (decide ((e2.L.length+1+1)*25<=70368744177664)) (∃(e0:Nat),e0<n/\I e0 (sp 61 [(1,c 3 e2.cs),(2,c 72 e2.vs),(7,a (↑(e2.w):Int)),(8,AV.ak 0 0 (e2.L.length+1)),(18,c 70 e2.xs),(19,a (↑(e2.xs.length):Int)),(20,a g)] [b 70 (List.take e2.L.length (rws e2.L)++[c 72 e1])]))) (∃(e0:Nat),e0<n/\I e0 (sp 61 [(1,c 3 e2.cs),(2,c 72 e2.vs),(7,a (↑(e2.w):Int)),(8,AV.ak 0 0 e2.L.length),(18,c 70 e2.xs),(19,a (↑(e2.xs.length):Int)),(20,a g)] [b 70 (rws e2.L)]))))) (K (Exit.exit 0) (sp 61 [(8,AV.ak 0 0 L.length)] [b 70 (rws L)]))):=by kernel_rfl
structure Lk where
 xs:List AV
 cs:List AV
 vs:List AV
 i:Nat
def Lk.L(x:Lk):RL:=tk ((dm x.xs).take x.i) x.cs x.vs
def Lk.w(x:Lk):Nat:=min x.cs.length x.vs.length
abbrev IY(x:Lk):S:=sp 61 [(1, .ah 3 x.cs),(2, .ah 72 x.vs),(7, .int x.w),(8, .ak 0 0 x.L.length),(18, .ah 70 x.xs),(19, .int x.xs.length),(20, .int x.i)] [.row 70 (rws x.L)]
def Hq(x:Lk):Prop:=x.i<=x.xs.length/\fD x.xs=true/\x.cs.length<=100000000/\x.vs.length<=100000000
def VH(x:Lk):Out (Exit×S):= .one (.exit 0,sp 61 [(8, .ak 0 0 (tk (dm x.xs) x.cs x.vs).length)] [.row 70 (rws (tk (dm x.xs) x.cs x.vs))])
theorem lMt(κ:Kp):aR (Vz κ).E 12 123 4 (aG 0 IY Hq VH):=by
 refine aD (fun x=>x.xs.length - x.i) ?_;rintro⟨xs,cs,vs,i⟩ K ⟨h1,h2,h3,h4⟩ ho;simp only at h1 h2 h3 h4;rw[show(Vz κ).E.P=Pr κ from rfl];refine Eq.mpr (xMt κ xs cs vs (tk ((dm xs).take i) cs vs) (min cs.length vs.length) i _ _ K) ?_;have hl:=jV h2;rw[ae,an2,an4];refine⟨fun h=>?_,fun h=>?_⟩
 ·have hi:i<xs.length:=by omega
  have hs:tk ((dm xs).take (i+1)) cs vs=tk ((dm xs).take i) cs vs++(bif yN (ag (nth xs i)) cs vs then[ag (nth xs i)] else[]):=by
   rw[Cx xs i hi,tk,List.filter_append,←tk];cases e:yN (ag (nth xs i)) cs vs<;>simp[e]
  have hle:(tk ((dm xs).take i) cs vs).length<=100000000:=by
   refine Nat.le_trans (List.length_filter_le _ _) ?_;rw[List.length_take,l6];omega
  refine ai.2 ⟨by simp;omega,ai.2 ⟨by simp;omega,?_⟩⟩;rw[Int.toNat_natCast,Int.toNat_natCast,ao2];refine⟨rfl,⟨xs,cs,vs,cs.take (min cs.length vs.length),tk ((dm xs).take i) cs vs,min cs.length vs.length,i,ag (nth xs i),0⟩,rfl,⟨Nat.zero_le _,by simp only[List.length_take];omega,h4⟩,?_⟩;simp only[ao2,zh];rw[az (n:=(i:Int)+1) (by omega) (by omega)];refine ae.2 ⟨fun e=>?_,fun e=>?_⟩
  ·rw[e,an9] at hs
   refine⟨ag (nth xs i),rfl,lS h2 i,ai.2 ⟨by rw[an2];omega,_,?_,⟨xs,cs,vs,i+1⟩,?_,⟨hi,h2,h3,h4⟩,rfl,ho⟩⟩
   ·simp only;omega
   ·simp only[IY,Lk.L,Lk.w]
    rw[hs,←dU,List.take_length,vl,dU,ao7];rfl
  ·rw[e,an7,List.append_nil] at hs
   refine⟨_,?_,⟨xs,cs,vs,i+1⟩,?_,⟨hi,h2,h3,h4⟩,rfl,ho⟩
   ·simp only;omega
   ·simp only[IY,Lk.L,Lk.w]
    rw[hs];rfl
 ·rw[List.take_of_length_le (by rw[l6];omega)]
  exact ho
noncomputable def BMt(κ:Kp):EB:=(Vz κ).loop (lMt κ)
theorem ac9(κ:Kp)(xs cs vs:List AV)(K:AV->List Dn.Obj->Prop):(a7 (BMt κ).E 12 123 [.ah 70 xs, .ah 3 cs, .ah 72 vs] [] K)=(
 letI a:=Pg.toProgram (Env.P (EB.E (Vz κ)))
 ad a 123 4=ad a 123 4/\∃(e0:Lk),letI b:=tk (dm e0.xs) e0.cs e0.vs;sp 61 [(1,AV.ah 3 cs),(2,AV.ah 72 vs),(7,AV.int (if(↑(vs.length):Int)<(↑(cs.length):Int) then(↑(vs.length):Int) else(↑(cs.length):Int))),(8,AV.ak 0 0 0),(18,AV.ah 70 xs),(19,AV.int (↑(xs.length):Int)),(20,AV.int 0)] [Obj.row 70 []]=IY e0/\Hq e0/\K (AV.ah 70 (List.take (List.length b) (List.drop 0 (rws b)))) []):=by kernel_rfl
structure AMx where
 xs:List AV
 cs:List AV
 vs:List AV
def ak6(x:AMx):List AV×List Dn.Obj:=([.ah 70 x.xs, .ah 3 x.cs, .ah 72 x.vs],[])
def UE(x:AMx):Prop:=fD x.xs=true/\x.cs.length<=100000000/\x.vs.length<=100000000
def Y4(x:AMx):Out (AV×List Dn.Obj):= .one (.ah 70 (rws (tk (dm x.xs) x.cs x.vs)),[])
theorem cMx(κ:Kp):bg (BMt κ).E 12 123 (aO ak6 UE Y4):=by
 refine aQ ?_;rintro⟨xs,cs,vs⟩ K ⟨h1,h2,h3⟩ ho;refine Eq.mpr (ac9 κ xs cs vs K) ?_;have hw:(if(vs.length:Int)<cs.length then(vs.length:Int) else cs.length)=(min cs.length vs.length:Nat):=by split<;>omega
 rw[hw];refine⟨rfl,⟨xs,cs,vs,0⟩,rfl,⟨Nat.zero_le _,h1,h2,h3⟩,?_⟩;rw[ao2,←dU,List.take_length];exact ho
noncomputable def Uu(κ:Kp):EB:=((BMt κ).call (cMx κ)).calm [123]
end Go.Proofs.YtioeffnadipbaaaGreatDoor
