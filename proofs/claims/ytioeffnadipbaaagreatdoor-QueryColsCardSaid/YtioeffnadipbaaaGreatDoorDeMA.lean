import Derived.Test.YtioeffnadipbaaaGreatDoorDeM9
namespace Go.Proofs.YtioeffnadipbaaaGreatDoor
open Go Go.Dn Go.Rl Go.Proofs
attribute [local irreducible] ba vc
set_option maxRecDepth 20000
theorem yF{i j:Nat}(h:i+j<=9223372036854775807):IntKind.wrap .i64 (Int.fdiv (IntKind.wrap .u64 (IntKind.wrap .i64 ((i:Int)+j))) 2)=((i+j) / 2:Nat):=by
 have e:IntKind.wrap .u64 ((i:Int)+j)=(i:Int)+j:=by
  unfold IntKind.wrap
  simp only[IntKind.bits,IntKind.signed]
  have e:((i:Int)+j) % 18446744073709551616=(i:Int)+j:=Int.emod_eq_of_lt (by omega) (by omega)
  simp[e]
 have d:Int.fdiv ((i:Int)+j) 2=((i+j) / 2:Nat):=by
  rw[Int.fdiv_eq_ediv_of_nonneg _ (by omega)];omega
 rw[aC (n:=(i:Int)+j) (by omega) (by omega),e,d,aC (by omega) (by omega)]
structure wK(P:Nat->Prop)(lo hi i j:Nat):Prop where
 le:lo<=i/\i<=j/\j<=hi
 h1:lo<i->P (i - 1)
 h2:j<hi-> ¬ P j
theorem wK.yes{P:Nat->Prop}{lo hi i j:Nat}(h:wK P lo hi i j)(hij:i<j)(hp:P ((i+j) / 2)):wK P lo hi ((i+j) / 2+1) j:=⟨by have:=h.le;omega,fun _=>hp,h.h2⟩
theorem wK.no{P:Nat->Prop}{lo hi i j:Nat}(h:wK P lo hi i j)(hij:i<j)(hp: ¬ P ((i+j) / 2)):wK P lo hi i ((i+j) / 2):=⟨by have:=h.le;omega,h.h1,fun _=>hp⟩
theorem wK.start{P:Nat->Prop}{lo hi:Nat}(h:lo<=hi):wK P lo hi lo hi:=⟨by omega,fun h=>absurd h (Nat.lt_irrefl _),fun h=>absurd h (Nat.lt_irrefl _)⟩
theorem xMa(κ:Kp)(L:RL)(a i j:Nat)(I:Nat->S->Prop)(n:Nat)(K:Exit->S->Prop):(vc (iI κ).E 12 167 none 1 (ag (Pr κ).toProgram 167 3) (sp 220 [(0, .aB 0 0 L.length),(1, .int a),(4,ni),(10, .int i),(11, .int j)] [jh L]) (bB (iI κ).E 167 3 1 I n K))=(
 letI z1:=Int.fdiv (IntKind.wrap IntKind.u64 (IntKind.wrap IntKind.i64 ((↑i:Int)+(↑j:Int)))) (2:Int)
 letI z3:=IntKind.wrap IntKind.i64 z1
 letI z2:=ah (nth (rws L) (0+Int.toNat z3))
 aw (decide ((↑i:Int)<(↑j:Int))) (aP (decide ((0:Int)<=IntKind.wrap IntKind.i64 z1)&&decide (IntKind.wrap IntKind.i64 z1<(↑(L.length):Int))) (aP
 (true&&decide ((↑a:Int)<(↑(L.length):Int))) (aP (decide (List.length z2<=9223372036854775807)) (aw (decide (cw z2 (ah (nth (rws L) (0+Int.toNat (↑a:
 Int))))<(0:Int))) (∃(e0:Nat),e0<n/\I e0 (sp 220 [(0,AV.aB 0 0 L.length),(1,AV.int (↑a:Int)),(4,AV.bq 54 []),(10,AV.int (IntKind.wrap
 IntKind.i64 (IntKind.wrap IntKind.i64 z1+(1:Int)))),(11,AV.int (↑j:Int))] [Obj.row 70 (rws L)])) (∃(e0:Nat),e0<n/\I e0 (sp 220 [(0,AV.aB 0 0
 L.length),(1,AV.int (↑a:Int)),(4,AV.bq 54 []),(10,AV.int (↑i:Int)),(11,AV.int z3)] [Obj.row 70 (rws L)])))))) (K (Exit.exit 0) (sp 220 [(0,AV.aB 0
 0 L.length),(1,AV.int (↑a:Int)),(10,AV.int (↑i:Int))] [Obj.row 70 (rws L)]))):=by kernel_rfl
structure UO where
 L:RL
 a:Nat
 b:Nat
 i:Nat
 j:Nat
abbrev WB(L:RL)(a:Nat):Nat->Prop:=fun h=>cw (rat L h) (rat L a)<0
abbrev TY(x:UO):S:=sp 220 [(0, .aB 0 0 x.L.length),(1, .int x.a),(4,ni),(10, .int x.i),(11, .int x.j)] [jh x.L]
def Rk(x:UO):Prop:=wK (WB x.L x.a) (x.a+1) x.b x.i x.j/\x.b<=x.L.length/\x.L.length<=100000000/\fb x.L
def Rr(x:UO):Out (Exit×S):= .all (fun i=>wK (WB x.L x.a) (x.a+1) x.b i i) fun i=> .one (.exit 0,sp 220 [(0, .aB 0 0 x.L.length),(1, .int x.a),(10, .int i)] [jh x.L])
theorem Zp(κ:Kp):bf (iI κ).E 12 167 3 (aR 1 TY Rk Rr):=by
 refine aG (fun x=>x.j - x.i) ?_
 rintro⟨L,a,b,i,j⟩ K ⟨h1,h2,h3,h4⟩ ho
 simp only at h1 h2 h3 h4
 rw[show(iI κ).E.P=Pr κ from rfl]
 refine Eq.mpr (xMa κ L a i j _ _ K) ?_
 have hle:=h1.le
 rw[ae,aa0,aa2]
 refine⟨fun h=>?_,fun h=>?_⟩
 ·rw[yF (by omega),aC (n:=(((i+j) / 2:Nat):Int)+1) (by omega) (by omega),fE,fE,show 0+(((i+j) / 2:Nat):Int).toNat=(i+j) / 2 by omega,show 0+((a:Nat):Int).toNat=a by omega]
  have hij:i<j:=by omega
  refine ai.2 ⟨by simp;omega,ai.2 ⟨by simp;omega,ai.2 ⟨aa6 (jW h4 _),ae.2 ⟨fun e=>?_,fun e=>?_⟩⟩⟩⟩
  ·refine⟨_,?_,⟨L,a,b,(i+j) / 2+1,j⟩,rfl,⟨h1.yes hij (by simpa using e),h2,h3,h4⟩,rfl,ho⟩
   simp only;omega
  ·refine⟨_,?_,⟨L,a,b,i,(i+j) / 2⟩,rfl,⟨h1.no hij (by simpa using e),h2,h3,h4⟩,rfl,ho⟩
   simp only;omega
 ·obtain rfl:i=j:=by omega
  exact ho i h1
theorem xMb(κ:Kp)(L:RL)(i k:Nat)(I:Nat->S->Prop)(n:Nat)(K:Exit->S->Prop):(vc (iI κ).E 12 167 none 1 (ag (Pr κ).toProgram 167 9) (sp 220 [(0, .aB 0 0 L.length),(10, .int i),(13, .int k)] [jh L]) (bB (iI κ).E 167 9 1 I n K))=(
 letI z3:=true&&decide ((↑k:Int)<(↑(L.length):Int))
 letI z4:=(↑k:Int)+(1:Int)
 letI z1:=decide ((0:Int)<=IntKind.wrap IntKind.i64 z4)&&decide (IntKind.wrap IntKind.i64 z4<(↑(L.length):Int))
 letI z2:=IntKind.wrap IntKind.i64 z4
 aw (decide ((↑k:Int)<IntKind.wrap IntKind.i64 ((↑i:Int) - (1:Int)))) (aP z1 (aP z3 (aP z3 (aP z1 (∃(e0:Nat),e0<n/\I e0 (sp 220 [(0,AV.aB 0 0
 L.length),(10,AV.int (↑i:Int)),(13,AV.int z2)] [Obj.row 70 (bJ (bJ (rws L) (0+Int.toNat (↑k:Int)) (AV.ad 72 (ah (nth (rws L) (0+Int.toNat z2))))) (0
 +Int.toNat z2) (AV.ad 72 (ah (nth (rws L) (0+Int.toNat (↑k:Int))))))])))))) (K (Exit.exit 2) (sp 220 [] [Obj.row 70 (rws L)]))):=by kernel_rfl
structure Ul where
 L0:RL
 L:RL
 a:Nat
 b:Nat
 i:Nat
 k:Nat
abbrev PA(x:Ul):S:=sp 220 [(0, .aB 0 0 x.L.length),(10, .int x.i),(13, .int x.k)] [jh x.L]
def S3(x:Ul):Prop:=Fw x.a x.b x.k x.L0 x.L/\(x.a<=x.k/\x.k+1<=x.i/\x.i<=x.b)/\x.b<=x.L0.length/\x.L0.length<=100000000
def SC(x:Ul):Out (Exit×S):= .all (fun M=>Fw x.a x.b (x.i - 1) x.L0 M) fun M=> .one (.exit 2,sp 220 [] [jh M])
theorem lMb(κ:Kp):bf (iI κ).E 12 167 9 (aR 1 PA S3 SC):=by
 refine aG (fun x=>x.i - x.k) ?_
 rintro⟨L0,L,a,b,i,k⟩ K ⟨h1,h2,h3,h4⟩ ho
 simp only at h1 h2 h3 h4
 rw[show(iI κ).E.P=Pr κ from rfl]
 refine Eq.mpr (xMb κ L i k _ _ K) ?_
 have hl:=h1.sw.len
 rw[aC (n:=(i:Int) - 1) (by omega) (by omega),aC (n:=(k:Int)+1) (by omega) (by omega),show(k:Int)+1=(k+1:Nat) by omega,show 0+((k+1:Nat):Int).toNat=k+1 by omega,show 0+(k:Int).toNat=k by omega,tp,ae,aa0,aa2]
 refine⟨fun h=>?_,fun h=>?_⟩
 ·have e1:(decide (0<=((k+1:Nat):Int))&&decide (((k+1:Nat):Int)<L.length))=true:=by simp;omega
  have e2:(true&&decide ((k:Int)<L.length))=true:=by simp;omega
  refine ai.2 ⟨e1,ai.2 ⟨e2,ai.2 ⟨e2,ai.2 ⟨e1,_,?_,⟨L0,swp L k (k+1),a,b,i,k+1⟩,?_,⟨h1.step (by omega) h3,by simp only;omega,h3,h4⟩,rfl,ho⟩⟩⟩⟩
  ·simp only;omega
  ·simp only[PA,mD]
 ·obtain rfl:k=i - 1:=by omega
  exact ho L h1
theorem xMc(κ:Kp)(L:RL)(m i j:Nat)(I:Nat->S->Prop)(n:Nat)(K:Exit->S->Prop):(vc (iI κ).E 12 167 none 1 (ag (Pr κ).toProgram 167 15) (sp 220 [(0, .aB 0 0 L.length),(2, .int m),(4,ni),(14, .int i),(15, .int j)] [jh L]) (bB (iI κ).E 167 15 1 I n K))=(
 letI z1:=Int.fdiv (IntKind.wrap IntKind.u64 (IntKind.wrap IntKind.i64 ((↑i:Int)+(↑j:Int)))) (2:Int)
 letI z2:=ah (nth (rws L) (0+Int.toNat (↑m:Int)))
 letI z3:=IntKind.wrap IntKind.i64 z1
 aw (decide ((↑i:Int)<(↑j:Int))) (aP (true&&decide ((↑m:Int)<(↑(L.length):Int))) (aP (decide ((0:Int)<=IntKind.wrap IntKind.i64 z1)&&decide
 (IntKind.wrap IntKind.i64 z1<(↑(L.length):Int))) (aP (decide (List.length z2<=9223372036854775807)) (aw (!decide (cw z2 (ah (nth (rws L) (0+Int.toNat
 z3)))<(0:Int))) (∃(e0:Nat),e0<n/\I e0 (sp 220 [(0,AV.aB 0 0 L.length),(2,AV.int (↑m:Int)),(4,AV.bq 54 []),(14,AV.int (IntKind.wrap
 IntKind.i64 (IntKind.wrap IntKind.i64 z1+(1:Int)))),(15,AV.int (↑j:Int))] [Obj.row 70 (rws L)])) (∃(e0:Nat),e0<n/\I e0 (sp 220 [(0,AV.aB 0 0
 L.length),(2,AV.int (↑m:Int)),(4,AV.bq 54 []),(14,AV.int (↑i:Int)),(15,AV.int z3)] [Obj.row 70 (rws L)])))))) (K (Exit.exit 4) (sp 220 [(0,AV.aB 0
 0 L.length),(2,AV.int (↑m:Int)),(14,AV.int (↑i:Int))] [Obj.row 70 (rws L)]))):=by kernel_rfl
structure US where
 L:RL
 a:Nat
 m:Nat
 i:Nat
 j:Nat
abbrev Wx(L:RL)(m:Nat):Nat->Prop:=fun h=>0<=cw (rat L m) (rat L h)
abbrev Qx(x:US):S:=sp 220 [(0, .aB 0 0 x.L.length),(2, .int x.m),(4,ni),(14, .int x.i),(15, .int x.j)] [jh x.L]
def Rx(x:US):Prop:=wK (Wx x.L x.m) x.a x.m x.i x.j/\x.m<x.L.length/\x.L.length<=100000000/\fb x.L
def TT(x:US):Out (Exit×S):= .all (fun i=>wK (Wx x.L x.m) x.a x.m i i) fun i=> .one (.exit 4,sp 220 [(0, .aB 0 0 x.L.length),(2, .int x.m),(14, .int i)] [jh x.L])
theorem lMc(κ:Kp):bf (iI κ).E 12 167 15 (aR 1 Qx Rx TT):=by
 refine aG (fun x=>x.j - x.i) ?_
 rintro⟨L,a,m,i,j⟩ K ⟨h1,h2,h3,h4⟩ ho
 simp only at h1 h2 h3 h4
 rw[show(iI κ).E.P=Pr κ from rfl]
 refine Eq.mpr (xMc κ L m i j _ _ K) ?_
 have hle:=h1.le
 rw[ae,aa0,aa2]
 refine⟨fun h=>?_,fun h=>?_⟩
 ·rw[yF (by omega),aC (n:=(((i+j) / 2:Nat):Int)+1) (by omega) (by omega),fE,fE,show 0+(((i+j) / 2:Nat):Int).toNat=(i+j) / 2 by omega,show 0+((m:Nat):Int).toNat=m by omega]
  have hij:i<j:=by omega
  refine ai.2 ⟨by simp;omega,ai.2 ⟨by simp;omega,ai.2 ⟨aa6 (jW h4 _),ae.2 ⟨fun e=>?_,fun e=>?_⟩⟩⟩⟩
  ·refine⟨_,?_,⟨L,a,m,(i+j) / 2+1,j⟩,rfl,⟨h1.yes hij (by simpa using e),h2,h3,h4⟩,rfl,ho⟩
   simp only;omega
  ·refine⟨_,?_,⟨L,a,m,i,(i+j) / 2⟩,rfl,⟨h1.no hij (by simpa using e),h2,h3,h4⟩,rfl,ho⟩
   simp only;omega
 ·obtain rfl:i=j:=by omega
  exact ho i h1
theorem xMq(κ:Kp)(L:RL)(i k:Nat)(I:Nat->S->Prop)(n:Nat)(K:Exit->S->Prop):(vc (iI κ).E 12 167 none 1 (ag (Pr κ).toProgram 167 21) (sp 220 [(0, .aB 0 0 L.length),(14, .int i),(17, .int k)] [jh L]) (bB (iI κ).E 167 21 1 I n K))=(
 letI z3:=true&&decide ((↑k:Int)<(↑(L.length):Int))
 letI z4:=(↑k:Int) - (1:Int)
 letI z1:=decide ((0:Int)<=IntKind.wrap IntKind.i64 z4)&&decide (IntKind.wrap IntKind.i64 z4<(↑(L.length):Int))
 letI z2:=IntKind.wrap IntKind.i64 z4
 aw (decide ((↑k:Int)>(↑i:Int))) (aP z1 (aP z3 (aP z3 (aP z1 (∃(e0:Nat),e0<n/\I e0 (sp 220 [(0,AV.aB 0 0 L.length),(14,AV.int (↑i:Int)),(17,
 AV.int z2)] [Obj.row 70 (bJ (bJ (rws L) (0+Int.toNat (↑k:Int)) (AV.ad 72 (ah (nth (rws L) (0+Int.toNat z2))))) (0+Int.toNat z2) (AV.ad 72 (ah (nth (rws
 L) (0+Int.toNat (↑k:Int))))))])))))) (K (Exit.exit 6) (sp 220 [] [Obj.row 70 (rws L)]))):=by kernel_rfl
structure Uw where
 L0:RL
 L:RL
 a:Nat
 m:Nat
 i:Nat
 k:Nat
abbrev I6(x:Uw):S:=sp 220 [(0, .aB 0 0 x.L.length),(14, .int x.i),(17, .int x.k)] [jh x.L]
def Rq(x:Uw):Prop:=Bw x.a x.m x.k x.L0 x.L/\(x.a<=x.i/\x.i<=x.k/\x.k<=x.m)/\x.m<x.L0.length/\x.L0.length<=100000000
def Tg(x:Uw):Out (Exit×S):= .all (fun M=>Bw x.a x.m x.i x.L0 M) fun M=> .one (.exit 6,sp 220 [] [jh M])
theorem lMq(κ:Kp):bf (iI κ).E 12 167 21 (aR 1 I6 Rq Tg):=by
 refine aG (fun x=>x.k) ?_
 rintro⟨L0,L,a,m,i,k⟩ K ⟨h1,h2,h3,h4⟩ ho
 simp only at h1 h2 h3 h4
 rw[show(iI κ).E.P=Pr κ from rfl]
 refine Eq.mpr (xMq κ L i k _ _ K) ?_
 have hl:=h1.sw.len
 rw[ae,aa0,aa2]
 refine⟨fun h=>?_,fun h=>?_⟩
 ·rw[aC (n:=(k:Int) - 1) (by omega) (by omega),show(k:Int) - 1=(k - 1:Nat) by omega,show 0+((k - 1:Nat):Int).toNat=k - 1 by omega,show 0+(k:Int).toNat=k by omega,tp]
  have e1:(decide (0<=((k - 1:Nat):Int))&&decide (((k - 1:Nat):Int)<L.length))=true:=by simp;omega
  have e2:(true&&decide ((k:Int)<L.length))=true:=by simp;omega
  refine ai.2 ⟨e1,ai.2 ⟨e2,ai.2 ⟨e2,ai.2 ⟨e1,_,?_,⟨L0,swp L k (k - 1),a,m,i,k - 1⟩,?_,⟨h1.step (by omega) h3,by simp only;omega,h3,h4⟩,rfl,ho⟩⟩⟩⟩
  ·simp only;omega
  ·simp only[I6,mD]
 ·obtain rfl:k=i:=by omega
  exact ho L h1
theorem xMe(κ:Kp)(L:RL)(a m b dg w i j p:Nat)(I:Nat->S->Prop)(n:Nat)(K:Exit->S->Prop):(vc (iI κ).E 12 167 none 1 (ag (Pr κ).toProgram 167 33) (sp 220 [(0, .aB 0 0 L.length),(1, .int a),(2, .int m),(3, .int b),(4,ni),(18, .int dg),(19, .int w),(20, .int i),(21, .int j),(22, .int p)] [jh L]) (bB (iI κ).E 167 33 1 I n K))=(
 letI z1:=Int.fdiv (IntKind.wrap IntKind.u64 (IntKind.wrap IntKind.i64 ((↑i:Int)+(↑j:Int)))) (2:Int)
 letI z2:=(↑p:Int) - IntKind.wrap IntKind.i64 z1
 letI z3:=ah (nth (rws L) (0+Int.toNat (IntKind.wrap IntKind.i64 z2)))
 letI z4:=IntKind.wrap IntKind.i64 z1
 aw (decide ((↑i:Int)<(↑j:Int))) (aP (decide ((0:Int)<=IntKind.wrap IntKind.i64 z2)&&decide (IntKind.wrap IntKind.i64 z2<(↑(L.length):Int))) (aP
 (decide ((0:Int)<=IntKind.wrap IntKind.i64 z1)&&decide (IntKind.wrap IntKind.i64 z1<(↑(L.length):Int))) (aP (decide (List.length z3<=
 9223372036854775807)) (aw (!decide (cw z3 (ah (nth (rws L) (0+Int.toNat z4)))<(0:Int))) (∃(e0:Nat),e0<n/\I e0 (sp 220 [(0,AV.aB 0 0 L.length),(1,
 AV.int (↑a:Int)),(2,AV.int (↑m:Int)),(3,AV.int (↑b:Int)),(4,AV.bq 54 []),(18,AV.int (↑dg:Int)),(19,AV.int (↑w:Int)),(20,AV.int
 (IntKind.wrap IntKind.i64 (IntKind.wrap IntKind.i64 z1+(1:Int)))),(21,AV.int (↑j:Int)),(22,AV.int (↑p:Int))] [Obj.row 70 (rws L)])) (∃(e0:Nat),
 e0<n/\I e0 (sp 220 [(0,AV.aB 0 0 L.length),(1,AV.int (↑a:Int)),(2,AV.int (↑m:Int)),(3,AV.int (↑b:Int)),(4,AV.bq 54 []),(18,AV.int (↑dg:
 Int)),(19,AV.int (↑w:Int)),(20,AV.int (↑i:Int)),(21,AV.int z4),(22,AV.int (↑p:Int))] [Obj.row 70 (rws L)])))))) (K (Exit.exit 8) (sp 220 [(0,
 AV.aB 0 0 L.length),(1,AV.int (↑a:Int)),(2,AV.int (↑m:Int)),(3,AV.int (↑b:Int)),(4,AV.bq 54 []),(18,AV.int (↑dg:Int)),(19,AV.int (↑w:
 Int)),(20,AV.int (↑i:Int))] [Obj.row 70 (rws L)]))):=by kernel_rfl
structure Q9 where
 L:RL
 a:Nat
 m:Nat
 b:Nat
 dg:Nat
 w:Nat
 lo:Nat
 hi:Nat
 i:Nat
 j:Nat
 p:Nat
abbrev SQ(L:RL)(p:Nat):Nat->Prop:=fun c=>0<=cw (rat L (p - c)) (rat L c)
abbrev Io(x:Q9):S:=sp 220 [(0, .aB 0 0 x.L.length),(1, .int x.a),(2, .int x.m),(3, .int x.b),(4,ni),(18, .int x.dg),(19, .int x.w),(20, .int x.i),(21, .int x.j),(22, .int x.p)] [jh x.L]
def Py(x:Q9):Prop:=wK (SQ x.L x.p) x.lo x.hi x.i x.j/\(x.hi<=x.p+1/\x.p<x.lo+x.L.length/\x.hi<=x.L.length)/\x.L.length<=100000000/\fb x.L
def Q2(x:Q9):Out (Exit×S):= .all (fun i=>wK (SQ x.L x.p) x.lo x.hi i i) fun i=> .one (.exit 8,sp 220 [(0, .aB 0 0 x.L.length),(1, .int x.a),(2, .int x.m),(3, .int x.b),(4,ni),(18, .int x.dg),(19, .int x.w),(20, .int i)] [jh x.L])
theorem lMe(κ:Kp):bf (iI κ).E 12 167 33 (aR 1 Io Py Q2):=by
 refine aG (fun x=>x.j - x.i) ?_
 rintro⟨L,a,m,b,dg,w,lo,hi,i,j,p⟩ K ⟨h1,h2,h3,h4⟩ ho
 simp only at h1 h2 h3 h4
 rw[show(iI κ).E.P=Pr κ from rfl]
 refine Eq.mpr (xMe κ L a m b dg w i j p _ _ K) ?_
 have hle:=h1.le
 rw[ae,aa0,aa2]
 refine⟨fun h=>?_,fun h=>?_⟩
 ·rw[yF (by omega),aC (n:=(((i+j) / 2:Nat):Int)+1) (by omega) (by omega),aC (n:=(p:Int) - ((i+j) / 2:Nat)) (by omega) (by omega),fE,fE,show 0+(((i+j) / 2:Nat):Int).toNat=(i+j) / 2 by omega,show 0+((p:Int) - ((i+j) / 2:Nat)).toNat=p - (i+j) / 2 by omega]
  have hij:i<j:=by omega
  refine ai.2 ⟨by simp;omega,ai.2 ⟨by simp;omega,ai.2 ⟨aa6 (jW h4 _),ae.2 ⟨fun e=>?_,fun e=>?_⟩⟩⟩⟩
  ·refine⟨_,?_,⟨L,a,m,b,dg,w,lo,hi,(i+j) / 2+1,j,p⟩,rfl,⟨h1.yes hij (by simpa using e),h2,h3,h4⟩,rfl,ho⟩
   simp only;omega
  ·refine⟨_,?_,⟨L,a,m,b,dg,w,lo,hi,i,(i+j) / 2,p⟩,rfl,⟨h1.no hij (by simpa using e),h2,h3,h4⟩,rfl,ho⟩
   simp only;omega
 ·obtain rfl:i=j:=by omega
  exact ho i h1
noncomputable def Mh(κ:Kp):EB:=(iI κ).loop (Zp κ)
theorem MG(κ:Kp):Pr κ=(iI κ).E.P:=rfl
noncomputable def No(κ:Kp):EB:=(Mh κ).yi (iI κ) ((show(Mh κ).E.P=Pr κ from rfl).trans (MG κ)) (lMb κ)
noncomputable def Nv(κ:Kp):EB:=(No κ).yi (iI κ) ((show(No κ).E.P=Pr κ from rfl).trans (MG κ)) (lMc κ)
noncomputable def Hd(κ:Kp):EB:=(Nv κ).yi (iI κ) ((show(Nv κ).E.P=Pr κ from rfl).trans (MG κ)) (lMq κ)
noncomputable def Wj(κ:Kp):EB:=(Hd κ).yi (iI κ) ((show(Hd κ).E.P=Pr κ from rfl).trans (MG κ)) (lMe κ)
structure iC where
 L:RL
 a:Nat
 m:Nat
 b:Nat
def eL(x:iC):List AV×List Dn.Obj:=([.aB 0 0 x.L.length, .int x.a, .int x.m, .int x.b,ni],[jh x.L])
structure fe(x:iC):Prop where
 lt:x.a<x.m/\x.m<x.b/\x.b<=x.L.length
 l:x.L.length<=100000000
 s:fb x.L
 u:Up x.L x.a x.m
 v:Up x.L x.m x.b
def IB(x:iC):Out (AV×List Dn.Obj):= .all (Sr x.a x.b x.L) fun M=> .one (.aX [],[jh M])
def FR(n:Nat):b7:=a0 eL (fun x=>fe x/\x.b - x.a=n) IB
noncomputable def Gr(κ:Kp)(r:Nat):Env:=(Wj κ).E.az 167 fun args st K=>∃m,m<r/\FR m args st K
theorem Vl(κ:Kp)(r:Nat)(L:RL)(a m b:Nat)(K:AV->List Dn.Obj->Prop):(ba (Gr κ r) 12 167 [.aB 0 0 L.length, .int a, .int m, .int b,ni] [jh L] K)=(
 letI z1:=Int.fdiv (IntKind.wrap IntKind.u64 (IntKind.wrap IntKind.i64 ((↑a:Int)+(↑b:Int)))) (2:Int)
 letI z2:=IntKind.wrap IntKind.i64 z1+(↑m:Int)
 letI z3:=Pg.toProgram (Env.P (EB.E (Hd κ)))
 letI z4:=IntKind.wrap IntKind.i64 (IntKind.wrap IntKind.i64 z2 - (1:Int))
 letI z5:=IntKind.wrap IntKind.i64 z1
 letI z6:=Pg.toProgram (Env.P (EB.E (iI κ)))
 letI z7:=Pg.toProgram (Env.P (EB.E (Mh κ)))
 letI z8:=Pg.toProgram (Env.P (EB.E (No κ)))
 letI z9:=Pg.toProgram (Env.P (EB.E (Nv κ)))
 letI z10:=IntKind.wrap IntKind.i64 z2
 aw (IntKind.wrap IntKind.i64 ((↑m:Int) - (↑a:Int))==(1:Int)) (ag z6 167 3=ag z6 167 3/\∃(e3:UO),sp 220 [(0,AV.aB 0 0 L.length),(1,AV.int (↑a:
 Int)),(4,AV.bq 54 []),(10,AV.int (↑m:Int)),(11,AV.int (↑b:Int))] [Obj.row 70 (rws L)]=TY e3/\Rk e3/\∀(e2:Nat),wK (WB e3.L e3.a) (e3.a+1)
 e3.b e2 e2->ag z7 167 9=ag z7 167 9/\∃(e1:Ul),sp 220 [(0,AV.aB 0 0 e3.L.length),(10,AV.int (↑e2:Int)),(13,AV.int (↑(e3.a):Int))] [Obj.row 70
 (rws e3.L)]=PA e1/\S3 e1/\∀(e0:RL),Fw e1.a e1.b (e1.i - 1) e1.L0 e0->K (AV.aX []) [Obj.row 70 (rws e0)]) (aw (IntKind.wrap IntKind.i64 ((↑b:Int) -
 (↑m:Int))==(1:Int)) (ag z8 167 15=ag z8 167 15/\∃(e3:US),sp 220 [(0,AV.aB 0 0 L.length),(2,AV.int (↑m:Int)),(4,AV.bq 54 []),(14,AV.int (↑a
 :Int)),(15,AV.int (↑m:Int))] [Obj.row 70 (rws L)]=Qx e3/\Rx e3/\∀(e2:Nat),wK (Wx e3.L e3.m) e3.a e3.m e2 e2->ag z9 167 21=ag z9 167 21/\∃(e1:
 Uw),sp 220 [(0,AV.aB 0 0 e3.L.length),(14,AV.int (↑e2:Int)),(17,AV.int (↑(e3.m):Int))] [Obj.row 70 (rws e3.L)]=I6 e1/\Rq e1/\∀(e0:RL),Bw e1.a
 e1.m e1.i e1.L0 e0->K (AV.aX []) [Obj.row 70 (rws e0)]) (aw (decide ((↑m:Int)>IntKind.wrap IntKind.i64 z1)) (ag z3 167 33=ag z3 167 33/\∃(e9:Q9),sp
 220 [(0,AV.aB 0 0 L.length),(1,AV.int (↑a:Int)),(2,AV.int (↑m:Int)),(3,AV.int (↑b:Int)),(4,AV.bq 54 []),(18,AV.int z5),(19,AV.int z10),(20,
 AV.int (IntKind.wrap IntKind.i64 (IntKind.wrap IntKind.i64 z2 - (↑b:Int)))),(21,AV.int z5),(22,AV.int z4)] [Obj.row 70 (rws L)]=Io e9/\Py e9/\∀(e8:
 Nat),wK (SQ e9.L e9.p) e9.lo e9.hi e8 e8->aw (decide ((↑e8:Int)<(↑(e9.m):Int))) (aw (decide ((↑(e9.m):Int)<IntKind.wrap IntKind.i64 ((↑(e9.w):Int)
 - (↑e8:Int)))) (∃(e7:Kz),([AV.aB 0 0 e9.L.length,AV.int (↑e8:Int),AV.int (↑(e9.m):Int),AV.int (IntKind.wrap IntKind.i64 ((↑(e9.w):Int) - (↑e8:
 Int))),AV.bq 54 []],[Obj.row 70 (rws e9.L)])=JJ e7/\yB e7/\∀(e6:RL),HZ e7.a e7.b e7.n e7.L e6->aw (decide ((↑(e9.a):Int)<(↑e8:Int))) (aw
 (decide ((↑e8:Int)<(↑(e9.dg):Int))) (∃(e5:Nat),e5<r/\∃(e4:iC),([AV.aB 0 0 e9.L.length,AV.int (↑(e9.a):Int),AV.int (↑e8:Int),AV.int
 (↑(e9.dg):Int),AV.bq 54 []],[Obj.row 70 (rws e6)])=eL e4/\(fe e4/\e4.b - e4.a=e5)/\∀(e3:RL),Sr e4.a e4.b e4.L e3->aw (decide ((↑(e9.dg):Int)<
 IntKind.wrap IntKind.i64 ((↑(e9.w):Int) - (↑e8:Int)))) (aw (decide (IntKind.wrap IntKind.i64 ((↑(e9.w):Int) - (↑e8:Int))<(↑(e9.b):Int))) (∃(e2:
 Nat),e2<r/\∃(e1:iC),([AV.aB 0 0 e9.L.length,AV.int (↑(e9.dg):Int),AV.int (IntKind.wrap IntKind.i64 ((↑(e9.w):Int) - (↑e8:Int))),AV.int (↑(e9.b)
 :Int),AV.bq 54 []],[Obj.row 70 (rws e3)])=eL e1/\(fe e1/\e1.b - e1.a=e2)/\∀(e0:RL),Sr e1.a e1.b e1.L e0->K (AV.aX []) [Obj.row 70 (rws e0)]) (K
 (AV.aX []) [Obj.row 70 (rws e3)])) (K (AV.aX []) [Obj.row 70 (rws e3)])) (aw (decide ((↑(e9.dg):Int)<IntKind.wrap IntKind.i64 ((↑(e9.w):Int) - (↑e8:
 Int)))) (aw (decide (IntKind.wrap IntKind.i64 ((↑(e9.w):Int) - (↑e8:Int))<(↑(e9.b):Int))) (∃(e2:Nat),e2<r/\∃(e1:iC),([AV.aB 0 0 e9.L.length,
 AV.int (↑(e9.dg):Int),AV.int (IntKind.wrap IntKind.i64 ((↑(e9.w):Int) - (↑e8:Int))),AV.int (↑(e9.b):Int),AV.bq 54 []],[Obj.row 70 (rws e6)])=eL e1
 /\(fe e1/\e1.b - e1.a=e2)/\∀(e0:RL),Sr e1.a e1.b e1.L e0->K (AV.aX []) [Obj.row 70 (rws e0)]) (K (AV.aX []) [Obj.row 70 (rws e6)])) (K (AV.aX [])
 [Obj.row 70 (rws e6)]))) (aw (decide ((↑(e9.dg):Int)<IntKind.wrap IntKind.i64 ((↑(e9.w):Int) - (↑e8:Int)))) (aw (decide (IntKind.wrap IntKind.i64
 ((↑(e9.w):Int) - (↑e8:Int))<(↑(e9.b):Int))) (∃(e2:Nat),e2<r/\∃(e1:iC),([AV.aB 0 0 e9.L.length,AV.int (↑(e9.dg):Int),AV.int (IntKind.wrap
 IntKind.i64 ((↑(e9.w):Int) - (↑e8:Int))),AV.int (↑(e9.b):Int),AV.bq 54 []],[Obj.row 70 (rws e6)])=eL e1/\(fe e1/\e1.b - e1.a=e2)/\∀(e0:RL),
 Sr e1.a e1.b e1.L e0->K (AV.aX []) [Obj.row 70 (rws e0)]) (K (AV.aX []) [Obj.row 70 (rws e6)])) (K (AV.aX []) [Obj.row 70 (rws e6)]))) (aw (decide ((↑(e9.a):
 Int)<(↑e8:Int))) (aw (decide ((↑e8:Int)<(↑(e9.dg):Int))) (∃(e5:Nat),e5<r/\∃(e4:iC),([AV.aB 0 0 e9.L.length,AV.int (↑(e9.a):Int),AV.int
 (↑e8:Int),AV.int (↑(e9.dg):Int),AV.bq 54 []],[Obj.row 70 (rws e9.L)])=eL e4/\(fe e4/\e4.b - e4.a=e5)/\∀(e3:RL),Sr e4.a e4.b e4.L e3->aw
 (decide ((↑(e9.dg):Int)<IntKind.wrap IntKind.i64 ((↑(e9.w):Int) - (↑e8:Int)))) (aw (decide (IntKind.wrap IntKind.i64 ((↑(e9.w):Int) - (↑e8:Int))<
 (↑(e9.b):Int))) (∃(e2:Nat),e2<r/\∃(e1:iC),([AV.aB 0 0 e9.L.length,AV.int (↑(e9.dg):Int),AV.int (IntKind.wrap IntKind.i64 ((↑(e9.w):Int) -
 (↑e8:Int))),AV.int (↑(e9.b):Int),AV.bq 54 []],[Obj.row 70 (rws e3)])=eL e1/\(fe e1/\e1.b - e1.a=e2)/\∀(e0:RL),Sr e1.a e1.b e1.L e0->K (AV.aX
 []) [Obj.row 70 (rws e0)]) (K (AV.aX []) [Obj.row 70 (rws e3)])) (K (AV.aX []) [Obj.row 70 (rws e3)])) (aw (decide ((↑(e9.dg):Int)<IntKind.wrap IntKind.i64
 ((↑(e9.w):Int) - (↑e8:Int)))) (aw (decide (IntKind.wrap IntKind.i64 ((↑(e9.w):Int) - (↑e8:Int))<(↑(e9.b):Int))) (∃(e2:Nat),e2<r/\∃(e1:iC),
 ([AV.aB 0 0 e9.L.length,AV.int (↑(e9.dg):Int),AV.int (IntKind.wrap IntKind.i64 ((↑(e9.w):Int) - (↑e8:Int))),AV.int (↑(e9.b):Int),AV.bq 54 []],
 [Obj.row 70 (rws e9.L)])=eL e1/\(fe e1/\e1.b - e1.a=e2)/\∀(e0:RL),Sr e1.a e1.b e1.L e0->K (AV.aX []) [Obj.row 70 (rws e0)]) (K (AV.aX []) [Obj.row
 70 (rws e9.L)])) (K (AV.aX []) [Obj.row 70 (rws e9.L)]))) (aw (decide ((↑(e9.dg):Int)<IntKind.wrap IntKind.i64 ((↑(e9.w):Int) - (↑e8:Int)))) (aw (decide
 (IntKind.wrap IntKind.i64 ((↑(e9.w):Int) - (↑e8:Int))<(↑(e9.b):Int))) (∃(e2:Nat),e2<r/\∃(e1:iC),([AV.aB 0 0 e9.L.length,AV.int (↑(e9.dg):
 Int),AV.int (IntKind.wrap IntKind.i64 ((↑(e9.w):Int) - (↑e8:Int))),AV.int (↑(e9.b):Int),AV.bq 54 []],[Obj.row 70 (rws e9.L)])=eL e1/\(fe e1/\e1.b
 - e1.a=e2)/\∀(e0:RL),Sr e1.a e1.b e1.L e0->K (AV.aX []) [Obj.row 70 (rws e0)]) (K (AV.aX []) [Obj.row 70 (rws e9.L)])) (K (AV.aX []) [Obj.row 70 (rws
 e9.L)])))) (aw (decide ((↑(e9.a):Int)<(↑e8:Int))) (aw (decide ((↑e8:Int)<(↑(e9.dg):Int))) (∃(e5:Nat),e5<r/\∃(e4:iC),([AV.aB 0 0
 e9.L.length,AV.int (↑(e9.a):Int),AV.int (↑e8:Int),AV.int (↑(e9.dg):Int),AV.bq 54 []],[Obj.row 70 (rws e9.L)])=eL e4/\(fe e4/\e4.b - e4.a=e5)/\
 ∀(e3:RL),Sr e4.a e4.b e4.L e3->aw (decide ((↑(e9.dg):Int)<IntKind.wrap IntKind.i64 ((↑(e9.w):Int) - (↑e8:Int)))) (aw (decide (IntKind.wrap
 IntKind.i64 ((↑(e9.w):Int) - (↑e8:Int))<(↑(e9.b):Int))) (∃(e2:Nat),e2<r/\∃(e1:iC),([AV.aB 0 0 e9.L.length,AV.int (↑(e9.dg):Int),AV.int
 (IntKind.wrap IntKind.i64 ((↑(e9.w):Int) - (↑e8:Int))),AV.int (↑(e9.b):Int),AV.bq 54 []],[Obj.row 70 (rws e3)])=eL e1/\(fe e1/\e1.b - e1.a=e2)/\
 ∀(e0:RL),Sr e1.a e1.b e1.L e0->K (AV.aX []) [Obj.row 70 (rws e0)]) (K (AV.aX []) [Obj.row 70 (rws e3)])) (K (AV.aX []) [Obj.row 70 (rws e3)])) (aw (decide
 ((↑(e9.dg):Int)<IntKind.wrap IntKind.i64 ((↑(e9.w):Int) - (↑e8:Int)))) (aw (decide (IntKind.wrap IntKind.i64 ((↑(e9.w):Int) - (↑e8:Int))<(↑(e9.b)
 :Int))) (∃(e2:Nat),e2<r/\∃(e1:iC),([AV.aB 0 0 e9.L.length,AV.int (↑(e9.dg):Int),AV.int (IntKind.wrap IntKind.i64 ((↑(e9.w):Int) - (↑e8:
 Int))),AV.int (↑(e9.b):Int),AV.bq 54 []],[Obj.row 70 (rws e9.L)])=eL e1/\(fe e1/\e1.b - e1.a=e2)/\∀(e0:RL),Sr e1.a e1.b e1.L e0->K (AV.aX [])
 [Obj.row 70 (rws e0)]) (K (AV.aX []) [Obj.row 70 (rws e9.L)])) (K (AV.aX []) [Obj.row 70 (rws e9.L)]))) (aw (decide ((↑(e9.dg):Int)<IntKind.wrap IntKind.i64
 ((↑(e9.w):Int) - (↑e8:Int)))) (aw (decide (IntKind.wrap IntKind.i64 ((↑(e9.w):Int) - (↑e8:Int))<(↑(e9.b):Int))) (∃(e2:Nat),e2<r/\∃(e1:iC),
 ([AV.aB 0 0 e9.L.length,AV.int (↑(e9.dg):Int),AV.int (IntKind.wrap IntKind.i64 ((↑(e9.w):Int) - (↑e8:Int))),AV.int (↑(e9.b):Int),AV.bq 54 []],
 [Obj.row 70 (rws e9.L)])=eL e1/\(fe e1/\e1.b - e1.a=e2)/\∀(e0:RL),Sr e1.a e1.b e1.L e0->K (AV.aX []) [Obj.row 70 (rws e0)]) (K (AV.aX []) [Obj.row
 70 (rws e9.L)])) (K (AV.aX []) [Obj.row 70 (rws e9.L)])))) (ag z3 167 33=ag z3 167 33/\∃(e9:Q9),sp 220 [(0,AV.aB 0 0 L.length),(1,AV.int (↑a:Int)),
 (2,AV.int (↑m:Int)),(3,AV.int (↑b:Int)),(4,AV.bq 54 []),(18,AV.int z5),(19,AV.int z10),(20,AV.int (↑a:Int)),(21,AV.int (↑m:Int)),(22,
 AV.int z4)] [Obj.row 70 (rws L)]=Io e9/\Py e9/\∀(e8:Nat),wK (SQ e9.L e9.p) e9.lo e9.hi e8 e8->aw (decide ((↑e8:Int)<(↑(e9.m):Int))) (aw (decide
 ((↑(e9.m):Int)<IntKind.wrap IntKind.i64 ((↑(e9.w):Int) - (↑e8:Int)))) (∃(e7:Kz),([AV.aB 0 0 e9.L.length,AV.int (↑e8:Int),AV.int (↑(e9.m):Int),
 AV.int (IntKind.wrap IntKind.i64 ((↑(e9.w):Int) - (↑e8:Int))),AV.bq 54 []],[Obj.row 70 (rws e9.L)])=JJ e7/\yB e7/\∀(e6:RL),HZ e7.a e7.b e7.n e7.L
 e6->aw (decide ((↑(e9.a):Int)<(↑e8:Int))) (aw (decide ((↑e8:Int)<(↑(e9.dg):Int))) (∃(e5:Nat),e5<r/\∃(e4:iC),([AV.aB 0 0 e9.L.length,
 AV.int (↑(e9.a):Int),AV.int (↑e8:Int),AV.int (↑(e9.dg):Int),AV.bq 54 []],[Obj.row 70 (rws e6)])=eL e4/\(fe e4/\e4.b - e4.a=e5)/\∀(e3:RL),Sr
 e4.a e4.b e4.L e3->aw (decide ((↑(e9.dg):Int)<IntKind.wrap IntKind.i64 ((↑(e9.w):Int) - (↑e8:Int)))) (aw (decide (IntKind.wrap IntKind.i64 ((↑(e9.w):
 Int) - (↑e8:Int))<(↑(e9.b):Int))) (∃(e2:Nat),e2<r/\∃(e1:iC),([AV.aB 0 0 e9.L.length,AV.int (↑(e9.dg):Int),AV.int (IntKind.wrap IntKind.i64
 ((↑(e9.w):Int) - (↑e8:Int))),AV.int (↑(e9.b):Int),AV.bq 54 []],[Obj.row 70 (rws e3)])=eL e1/\(fe e1/\e1.b - e1.a=e2)/\∀(e0:RL),Sr e1.a e1.b
 e1.L e0->K (AV.aX []) [Obj.row 70 (rws e0)]) (K (AV.aX []) [Obj.row 70 (rws e3)])) (K (AV.aX []) [Obj.row 70 (rws e3)])) (aw (decide ((↑(e9.dg):Int)<
 IntKind.wrap IntKind.i64 ((↑(e9.w):Int) - (↑e8:Int)))) (aw (decide (IntKind.wrap IntKind.i64 ((↑(e9.w):Int) - (↑e8:Int))<(↑(e9.b):Int))) (∃(e2:
 Nat),e2<r/\∃(e1:iC),([AV.aB 0 0 e9.L.length,AV.int (↑(e9.dg):Int),AV.int (IntKind.wrap IntKind.i64 ((↑(e9.w):Int) - (↑e8:Int))),AV.int (↑(e9.b)
 :Int),AV.bq 54 []],[Obj.row 70 (rws e6)])=eL e1/\(fe e1/\e1.b - e1.a=e2)/\∀(e0:RL),Sr e1.a e1.b e1.L e0->K (AV.aX []) [Obj.row 70 (rws e0)]) (K
 (AV.aX []) [Obj.row 70 (rws e6)])) (K (AV.aX []) [Obj.row 70 (rws e6)]))) (aw (decide ((↑(e9.dg):Int)<IntKind.wrap IntKind.i64 ((↑(e9.w):Int) - (↑e8:
 Int)))) (aw (decide (IntKind.wrap IntKind.i64 ((↑(e9.w):Int) - (↑e8:Int))<(↑(e9.b):Int))) (∃(e2:Nat),e2<r/\∃(e1:iC),([AV.aB 0 0 e9.L.length,
 AV.int (↑(e9.dg):Int),AV.int (IntKind.wrap IntKind.i64 ((↑(e9.w):Int) - (↑e8:Int))),AV.int (↑(e9.b):Int),AV.bq 54 []],[Obj.row 70 (rws e6)])=eL e1
 /\(fe e1/\e1.b - e1.a=e2)/\∀(e0:RL),Sr e1.a e1.b e1.L e0->K (AV.aX []) [Obj.row 70 (rws e0)]) (K (AV.aX []) [Obj.row 70 (rws e6)])) (K (AV.aX [])
 [Obj.row 70 (rws e6)]))) (aw (decide ((↑(e9.a):Int)<(↑e8:Int))) (aw (decide ((↑e8:Int)<(↑(e9.dg):Int))) (∃(e5:Nat),e5<r/\∃(e4:iC),([AV.aB
 0 0 e9.L.length,AV.int (↑(e9.a):Int),AV.int (↑e8:Int),AV.int (↑(e9.dg):Int),AV.bq 54 []],[Obj.row 70 (rws e9.L)])=eL e4/\(fe e4/\e4.b - e4.a=
 e5)/\∀(e3:RL),Sr e4.a e4.b e4.L e3->aw (decide ((↑(e9.dg):Int)<IntKind.wrap IntKind.i64 ((↑(e9.w):Int) - (↑e8:Int)))) (aw (decide (IntKind.wrap
 IntKind.i64 ((↑(e9.w):Int) - (↑e8:Int))<(↑(e9.b):Int))) (∃(e2:Nat),e2<r/\∃(e1:iC),([AV.aB 0 0 e9.L.length,AV.int (↑(e9.dg):Int),AV.int
 (IntKind.wrap IntKind.i64 ((↑(e9.w):Int) - (↑e8:Int))),AV.int (↑(e9.b):Int),AV.bq 54 []],[Obj.row 70 (rws e3)])=eL e1/\(fe e1/\e1.b - e1.a=e2)/\
 ∀(e0:RL),Sr e1.a e1.b e1.L e0->K (AV.aX []) [Obj.row 70 (rws e0)]) (K (AV.aX []) [Obj.row 70 (rws e3)])) (K (AV.aX []) [Obj.row 70 (rws e3)])) (aw (decide
 ((↑(e9.dg):Int)<IntKind.wrap IntKind.i64 ((↑(e9.w):Int) - (↑e8:Int)))) (aw (decide (IntKind.wrap IntKind.i64 ((↑(e9.w):Int) - (↑e8:Int))<(↑(e9.b)
 :Int))) (∃(e2:Nat),e2<r/\∃(e1:iC),([AV.aB 0 0 e9.L.length,AV.int (↑(e9.dg):Int),AV.int (IntKind.wrap IntKind.i64 ((↑(e9.w):Int) - (↑e8:
 Int))),AV.int (↑(e9.b):Int),AV.bq 54 []],[Obj.row 70 (rws e9.L)])=eL e1/\(fe e1/\e1.b - e1.a=e2)/\∀(e0:RL),Sr e1.a e1.b e1.L e0->K (AV.aX [])
 [Obj.row 70 (rws e0)]) (K (AV.aX []) [Obj.row 70 (rws e9.L)])) (K (AV.aX []) [Obj.row 70 (rws e9.L)]))) (aw (decide ((↑(e9.dg):Int)<IntKind.wrap IntKind.i64
 ((↑(e9.w):Int) - (↑e8:Int)))) (aw (decide (IntKind.wrap IntKind.i64 ((↑(e9.w):Int) - (↑e8:Int))<(↑(e9.b):Int))) (∃(e2:Nat),e2<r/\∃(e1:iC),
 ([AV.aB 0 0 e9.L.length,AV.int (↑(e9.dg):Int),AV.int (IntKind.wrap IntKind.i64 ((↑(e9.w):Int) - (↑e8:Int))),AV.int (↑(e9.b):Int),AV.bq 54 []],
 [Obj.row 70 (rws e9.L)])=eL e1/\(fe e1/\e1.b - e1.a=e2)/\∀(e0:RL),Sr e1.a e1.b e1.L e0->K (AV.aX []) [Obj.row 70 (rws e0)]) (K (AV.aX []) [Obj.row
 70 (rws e9.L)])) (K (AV.aX []) [Obj.row 70 (rws e9.L)])))) (aw (decide ((↑(e9.a):Int)<(↑e8:Int))) (aw (decide ((↑e8:Int)<(↑(e9.dg):Int))) (∃(e5:
 Nat),e5<r/\∃(e4:iC),([AV.aB 0 0 e9.L.length,AV.int (↑(e9.a):Int),AV.int (↑e8:Int),AV.int (↑(e9.dg):Int),AV.bq 54 []],[Obj.row 70 (rws e9.L)])
 =eL e4/\(fe e4/\e4.b - e4.a=e5)/\∀(e3:RL),Sr e4.a e4.b e4.L e3->aw (decide ((↑(e9.dg):Int)<IntKind.wrap IntKind.i64 ((↑(e9.w):Int) - (↑e8:
 Int)))) (aw (decide (IntKind.wrap IntKind.i64 ((↑(e9.w):Int) - (↑e8:Int))<(↑(e9.b):Int))) (∃(e2:Nat),e2<r/\∃(e1:iC),([AV.aB 0 0 e9.L.length,
 AV.int (↑(e9.dg):Int),AV.int (IntKind.wrap IntKind.i64 ((↑(e9.w):Int) - (↑e8:Int))),AV.int (↑(e9.b):Int),AV.bq 54 []],[Obj.row 70 (rws e3)])=eL e1
 /\(fe e1/\e1.b - e1.a=e2)/\∀(e0:RL),Sr e1.a e1.b e1.L e0->K (AV.aX []) [Obj.row 70 (rws e0)]) (K (AV.aX []) [Obj.row 70 (rws e3)])) (K (AV.aX [])
 [Obj.row 70 (rws e3)])) (aw (decide ((↑(e9.dg):Int)<IntKind.wrap IntKind.i64 ((↑(e9.w):Int) - (↑e8:Int)))) (aw (decide (IntKind.wrap IntKind.i64
 ((↑(e9.w):Int) - (↑e8:Int))<(↑(e9.b):Int))) (∃(e2:Nat),e2<r/\∃(e1:iC),([AV.aB 0 0 e9.L.length,AV.int (↑(e9.dg):Int),AV.int (IntKind.wrap
 IntKind.i64 ((↑(e9.w):Int) - (↑e8:Int))),AV.int (↑(e9.b):Int),AV.bq 54 []],[Obj.row 70 (rws e9.L)])=eL e1/\(fe e1/\e1.b - e1.a=e2)/\∀(e0:RL),
 Sr e1.a e1.b e1.L e0->K (AV.aX []) [Obj.row 70 (rws e0)]) (K (AV.aX []) [Obj.row 70 (rws e9.L)])) (K (AV.aX []) [Obj.row 70 (rws e9.L)]))) (aw (decide
 ((↑(e9.dg):Int)<IntKind.wrap IntKind.i64 ((↑(e9.w):Int) - (↑e8:Int)))) (aw (decide (IntKind.wrap IntKind.i64 ((↑(e9.w):Int) - (↑e8:Int))<(↑(e9.b)
 :Int))) (∃(e2:Nat),e2<r/\∃(e1:iC),([AV.aB 0 0 e9.L.length,AV.int (↑(e9.dg):Int),AV.int (IntKind.wrap IntKind.i64 ((↑(e9.w):Int) - (↑e8:
 Int))),AV.int (↑(e9.b):Int),AV.bq 54 []],[Obj.row 70 (rws e9.L)])=eL e1/\(fe e1/\e1.b - e1.a=e2)/\∀(e0:RL),Sr e1.a e1.b e1.L e0->K (AV.aX [])
 [Obj.row 70 (rws e0)]) (K (AV.aX []) [Obj.row 70 (rws e9.L)])) (K (AV.aX []) [Obj.row 70 (rws e9.L)]))))))):=by kernel_rfl
theorem Ww(κ:Kp)(r:Nat)(hp: ∀args st K,(∃m,m<r/\FR m args st K)->bD (Pr κ) 167 args st K):aE (Gr κ r)/\aj (Gr κ r)/\(Gr κ r).P=Pr κ:=
 ⟨(Wj κ).ok.fT hp,(Wj κ).mono.az (fun _ _ _ _ hK ⟨m,h1,h2⟩=>⟨m,h1,aZ _ _ _ _ hK h2⟩),rfl⟩
theorem W8(κ:Kp)(r:Nat):bG (Gr κ r) 12 167 (FR r):=by
 refine bc ?_
 rintro⟨L,a,m,b⟩ K ⟨⟨⟨h1,h2,h3⟩,h4,h5,h6,h7⟩,h8⟩ ho
 simp only at h1 h2 h3 h4 h5 h6 h7 h8
 replace ho: ∀M,Sr a b L M->K (.aX []) [jh M]:=ho
 refine Eq.mpr (Vl κ r L a m b K) ?_
 have hmid:=yF (i:=a) (j:=b) (by omega)
 rw[aC (n:=(m:Int) - a) (by omega) (by omega),aC (n:=(b:Int) - m) (by omega) (by omega),hmid]
 obtain⟨dg,hm⟩: ∃dg,dg=(a+b) / 2:=⟨_,rfl⟩
 rw[←hm]
 rw[aC (n:=(dg:Int)+m) (by omega) (by omega),aC (n:=(dg:Int)+m - b) (by omega) (by omega),aC (n:=(dg:Int)+m - 1) (by omega) (by omega)]
 rw[ae,beq_iff_eq,beq_eq_false_iff_ne]
 refine⟨fun e=>?_,fun e=>?_⟩
 ·obtain rfl:m=a+1:=by omega
  refine⟨rfl,⟨L,a,b,a+1,b⟩,rfl,⟨wK.start (show a+1<=b by omega),h3,h4,h5⟩,fun i hi=>⟨rfl,⟨L,L,a,b,i,a⟩,rfl,⟨.start a b L,?_,h3,h4⟩,fun M hM=>ho M ⟨hM.sw,?_⟩⟩⟩
  ·obtain⟨l1,_,l3⟩:a+1<=i/\i<=i/\i<=b:=hi.le
   exact⟨Nat.le_refl _,l1,l3⟩
  ·obtain⟨l1,_,l3⟩:a+1<=i/\i<=i/\i<=b:=hi.le
   refine Fw.done (L:=L) (M:=M) (i:=i) hM ⟨l1,l3⟩ h7 (fun q=>?_) (fun q=>?_)
   ·have:cw (rat L (i - 1)) (rat L a)<0:=hi.h1 q
    omega
   ·have: ¬ cw (rat L i) (rat L a)<0:=hi.h2 q
    rw[cE.swap (rat L i)];omega
 ·rw [ae,beq_iff_eq,beq_eq_false_iff_ne]
  refine⟨fun e2=>?_,fun e2=>?_⟩
  ·obtain rfl:b=m+1:=by omega
   refine⟨rfl,⟨L,a,m,a,m⟩,rfl,⟨.start (Nat.le_of_lt h1),h3,h4,h5⟩,fun i hi=>⟨rfl,⟨L,L,a,m,i,m⟩,rfl,⟨.start a m L,?_,h3,h4⟩,fun M hM=>ho M ⟨hM.sw,?_⟩⟩⟩
   ·obtain⟨l1,_,l3⟩:a<=i/\i<=i/\i<=m:=hi.le
    exact⟨l1,l3,Nat.le_refl _⟩
   ·obtain⟨l1,_,l3⟩:a<=i/\i<=i/\i<=m:=hi.le
    refine Bw.done (L:=L) (M:=M) (i:=i) hM ⟨l1,l3⟩ h6 (fun q=>?_) (fun q=>?_)
    ·have:0<=cw (rat L m) (rat L (i - 1)):=hi.h1 q
     rw[cE.swap (rat L m)];omega
    ·have: ¬ 0<=cw (rat L m) (rat L i):=hi.h2 q
     omega
  ·have cut: ∀lo hi y,(lo=dg+m - b/\hi=dg/\dg<=m\/lo=a/\hi=m/\m<=dg)->wK (SQ L (dg+m - 1)) lo hi y y->y<=dg/\dg+m - y<=b/\Cut a m b y (dg+m - y) L:=fun lo hi y q1 hy=>by
    have hl:=hy.le
    refine⟨by omega,by omega,⟨fun k1 k2=>?_,fun k1 k2=>?_⟩⟩
    ·have:0<=cw (rat L (dg+m - 1 - (y - 1))) (rat L (y - 1)):=hy.h1 (by omega)
     rw[show dg+m - 1 - (y - 1)=dg+m - y by omega,cE.swap (rat L (y - 1))] at this
     omega
    ·have: ¬ 0<=cw (rat L (dg+m - 1 - y)) (rat L y):=hy.h2 (by omega)
     rw[show dg+m - 1 - y=dg+m - y - 1 by omega] at this
     omega
   have mer: ∀y e M,(a<=y/\y<=m/\m<=e/\e<=b)->y+(e - m)=dg->Cut a m b y e L->HZ y m e L M->(Up M a y/\Up M y dg/\Up M dg e/\Up M e b)/\∀N,Sw a dg M N->∀k,a<=k->k<dg->∀j,dg<=j->j<b->cw (rat N k) (rat M j)<=0:=fun y e M k1 k2 k3 hM=>
    ⟨(Bp k1 k2 h6 h7 k3 hM .refl).2,fun N hN=>(Bp k1 k2 h6 h7 k3 hM hN).1⟩
   rcases Nat.lt_or_ge dg m with q|q
   case' inl=>
    rw[ae,aa0,aa2]
    refine⟨fun _=>⟨rfl,⟨L,a,m,b,dg,dg+m,dg+m - b,dg,dg+m - b,dg,dg+m - 1⟩,?_,⟨wK.start (show dg+m - b<=dg by omega),by simp only;omega,h4,h5⟩,fun y hy=>?_⟩,fun g=>absurd (show(m:Int)>dg by omega) g⟩
    ·simp only[Io,show((dg+m - b:Nat):Int)=dg+m - b by omega,show((dg+m - 1:Nat):Int)=dg+m - 1 by omega,show((dg+m:Nat):Int)=dg+m by omega]
    have hle:a<=y/\y<=m:=by have:dg+m - b<=y/\y<=y/\y<=dg:=hy.le;omega
    obtain⟨c1,c2,c3⟩:=cut _ _ y (.inl ⟨rfl,rfl,by omega⟩) hy
   case' inr=>
    rw[ae,aa0,aa2]
    refine⟨fun g=>absurd g (show ¬ (m:Int)>dg by omega),fun _=>⟨rfl,⟨L,a,m,b,dg,dg+m,a,m,a,m,dg+m - 1⟩,?_,⟨.start (Nat.le_of_lt h1),by simp only;omega,h4,h5⟩,fun y hy=>?_⟩⟩
    ·simp only[Io,show((dg+m - 1:Nat):Int)=dg+m - 1 by omega,show((dg+m:Nat):Int)=dg+m by omega]
    have hle:a<=y/\y<=m:=by have:a<=y/\y<=y/\y<=m:=hy.le;omega
    obtain⟨c1,c2,c3⟩:=cut _ _ y (.inr ⟨rfl,rfl,by omega⟩) hy
   all_goals
    simp only
    rw[aC (n:=((dg+m:Nat):Int) - y) (by omega) (by omega),show((dg+m:Nat):Int) - y=(dg+m - y:Nat) by omega]
    clear hy cut
    obtain⟨e,he⟩: ∃e,e=dg+m - y:=⟨_,rfl⟩
    rw[←he] at c2 c3⊢
    have hme:dg<=e:=by omega
    have hmb:dg<=b:=by omega
    have ham:a<=dg:=by omega
    have mer:=fun M=>mer y e M ⟨hle.1,hle.2,by omega,c2⟩ (by omega) c3
    refine ae.2 ⟨fun g1=>ae.2 ⟨fun g2=>⟨⟨L,y,m,e⟩,rfl,⟨by simpa using g1,by simpa using g2,by simp only;omega,by simp only[aL];omega⟩,fun M hM=>?_⟩,fun g2=>?_⟩,fun g1=>?_⟩
    simp only at hM
    rotate_left
    have hM:HZ y m e L L:= .none (.inr (by simp at g1 g2;omega))
    rotate_left
    have hM:HZ y m e L L:= .none (.inl (by simp at g1;omega))
    rotate_left
    all_goals
     obtain⟨⟨u1,u2,u3,u4⟩,hx⟩:=mer _ hM
     have hl:=hM.sw.len
     have hs:=eS h5 hM.sw.perm
     have sw1:Sw a b L _:=hM.sw.mono hle.1 c2 h3
     refine ae.2 ⟨fun g3=>ae.2 ⟨fun g4=>⟨dg - a,by omega,⟨_,a,y,dg⟩,Prod.ext (by simp only[eL,hl]) rfl,⟨⟨⟨by simpa using g3,by simpa using g4,by simp only;omega⟩,by simp only;omega,hs,u1,u2⟩,rfl⟩,fun N hN=>?_⟩,fun g4=>?_⟩,fun g3=>?_⟩
     simp only at hN
     rotate_left
     have hN:Sr a dg _ _:=⟨.refl,by simp at g4;rw[show dg=y by omega];exact u1⟩
     rotate_left
     have hN:Sr a dg _ _:=⟨.refl,by simp at g3;rw[show a=y by omega];exact u2⟩
     rotate_left
     all_goals
      have hx:=hx _ hN.sw
      have hl2:=hN.sw.len
      have hs2:=eS hs hN.sw.perm
      have v3:=hN.sw.UY u3 (Nat.le_refl _)
      have v4:=hN.sw.UY u4 hme
      have sw2:=sw1.trans (hN.sw.mono (Nat.le_refl _) hmb (by omega))
      refine ae.2 ⟨fun g5=>ae.2 ⟨fun g6=>⟨b - dg,by omega,⟨_,dg,e,b⟩,Prod.ext (by simp only[eL,hl2,hl]) rfl,⟨⟨⟨by simpa using g5,by simpa using g6,by simp only;omega⟩,by simp only;omega,hs2,v3,v4⟩,rfl⟩,fun O hO=>?_⟩,fun g6=>?_⟩,fun g5=>?_⟩
      simp only at hO
      rotate_left
      have hO:Sr dg b _ _:=⟨.refl,by simp at g6;rw[show b=e by omega];exact v3⟩
      rotate_left
      have hO:Sr dg b _ _:=⟨.refl,by simp at g5;rw[show dg=e by omega];exact v4⟩
      rotate_left
      all_goals exact ho _ ⟨sw2.trans (hO.sw.mono ham (Nat.le_refl _) (by omega)),Nf hx hN.sw hN.up hO.sw hO.up⟩
theorem WW(κ:Kp): ∀args st K,a0 eL fe IB args st K->bD (Pr κ) 167 args st K:=by
 rintro args st K ⟨x,h1,h2,h3⟩
 exact aE.q9 FR (Gr κ) (Ww κ) (W8 κ) (x.b - x.a) args st K ⟨x,h1,⟨h2,rfl⟩,h3⟩
noncomputable def Di(κ:Kp):EB:=(iI κ).HV aZ (WW κ)
def Vr(L:RL)(d N:Nat):Prop:=∀k,Up L (k*d) (min (k*d+d) N)
def Qb(L:RL)(d q:Nat):Prop:=∀k,k<q->Up L (k*d) (k*d+d)
theorem PQ{L:RL}{d q N:Nat}(hw:Qb L d q)(hu:Up L (q*d) N)(_h1:q*d<=N)(h2:N<q*d+d):Vr L d N:=by
 intro k
 rcases Nat.lt_trichotomy k q with h|rfl|h
 ·exact(hw k h).cut (Nat.min_le_left _ _)
 ·exact hu.cut (Nat.min_le_right _ _)
 ·intro i j k1 k2 k3
  have:(q+1)*d<=k*d:=Nat.mul_le_mul_right d h
  rw[Nat.succ_mul] at this
  omega
theorem B1{L M:RL}{d q N:Nat}(hw:Qb L d q)(h:Sw (q*d) N L M)(hu:Up M (q*d) (q*d+d)):Qb M d (q+1):=fun k hk=>by
 rcases Nat.lt_or_ge k q with h1|h1
 ·have h2:(k+1)*d<=q*d:=Nat.mul_le_mul_right d h1
  rw[Nat.succ_mul] at h2
  exact h.Yw (hw k h1) h2
 ·obtain rfl:k=q:=by omega
  exact hu
theorem Eh{L M:RL}{d q N:Nat}(hw:Qb L d q)(h:Sw (q*d) N L M)(hu:Up M (q*d) N)(h1:q*d<=N)(h2:N<q*d+d):Vr M d N:=
 PQ (fun k hk=>by
  have h3:(k+1)*d<=q*d:=Nat.mul_le_mul_right d hk
  rw[Nat.succ_mul] at h3
  exact h.Yw (hw k hk) h3) hu h1 h2
theorem xTa(κ:Kp)(L:RL)(N a b:Nat)(I:Nat->S->Prop)(n:Nat)(K:Exit->S->Prop):(vc (Di κ).E 12 128 none 1 (ag (Pr κ).toProgram 128 2) (sp 63 [(0, .aB 0 0 L.length),(1, .int N),(2,ni),(6, .int 20),(7, .int a),(8, .int b)] [jh L]) (bB (Di κ).E 128 2 1 I n K))=(
 aw (decide ((↑b:Int)<=(↑N:Int))) (∃(a_1:R0),([AV.aB 0 0 L.length,AV.int (↑a:Int),AV.int (↑b:Int),AV.bq 54 []],[Obj.row 70 (rws L)])=P2
 a_1/\DL a_1/\∀(y:RL),(Sw a_1.a a_1.b a_1.L y/\∀(i j:Nat),a_1.a<=i->i<j->j<a_1.b->cw (rat y i) (rat y j)<=(0:Int))->∃(m:Nat),m
 <n/\I m (sp 63 [(0,AV.aB 0 0 L.length),(1,AV.int (↑N:Int)),(2,AV.bq 54 []),(6,AV.int 20),(7,AV.int (↑b:Int)),(8,AV.int (IntKind.wrap
 IntKind.i64 ((↑b:Int)+(20:Int))))] [Obj.row 70 (rws y)])) (K (Exit.exit 0) (sp 63 [(0,AV.aB 0 0 L.length),(1,AV.int (↑N:Int)),(2,AV.bq 54 []),
 (6,AV.int 20),(7,AV.int (↑a:Int))] [Obj.row 70 (rws L)]))):=by kernel_rfl
structure UU where
 L0:RL
 L:RL
 q:Nat
abbrev P4(x:UU):S:=sp 63 [(0, .aB 0 0 x.L.length),(1, .int x.L0.length),(2,ni),(6, .int 20),(7, .int (x.q*20:Nat)),(8, .int (x.q*20+20:Nat))] [jh x.L]
def SL(x:UU):Prop:=Sw 0 x.L0.length x.L0 x.L/\Qb x.L 20 x.q/\x.q*20<=x.L0.length/\x.L0.length<=100000000/\fb x.L0
def RQ(x:UU):Out (Exit×S):= .all (fun r:Nat×RL=>Sw 0 x.L0.length x.L0 r.2/\Qb r.2 20 r.1/\r.1*20<=x.L0.length/\x.L0.length<r.1*20+20) fun r=> .one (.exit 0,sp 63 [(0, .aB 0 0 r.2.length),(1, .int x.L0.length),(2,ni),(6, .int 20),(7, .int (r.1*20:Nat))] [jh r.2])
theorem lTa(κ:Kp):bf (Di κ).E 12 128 2 (aR 1 P4 SL RQ):=by
 refine aG (fun x=>x.L0.length - x.q*20) ?_
 rintro⟨L0,L,q⟩ K ⟨h1,h2,h3,h4,h5⟩ ho
 simp only at h1 h2 h3 h4 h5
 rw[show(Di κ).E.P=Pr κ from rfl]
 refine Eq.mpr (xTa κ L L0.length (q*20) (q*20+20) _ _ K) ?_
 have hl:=h1.len
 rw[ae,aa0,aa2]
 refine⟨fun h=>⟨⟨L,q*20,q*20+20⟩,rfl,⟨by simp only;omega,by simp only;omega,by simp only;omega,eS h5 h1.perm⟩,fun M hM=>?_⟩,fun h=>?_⟩
 ·obtain⟨m1,m2⟩:Sw (q*20) (q*20+20) L M/\Up M (q*20) (q*20+20):=hM
  rw[aC (n:=((q*20+20:Nat):Int)+20) (by omega) (by omega)]
  refine⟨_,?_,⟨L0,M,q+1⟩,?_,⟨h1.trans (m1.mono (by omega) (by omega) (by omega)),B1 h2 m1 m2,by simp only;omega,h4,h5⟩,rfl,ho⟩
  ·simp only;omega
  ·simp only[P4]
   rw[m1.len,show(q+1)*20=q*20+20 by omega];rfl
 ·exact ho (q,L) ⟨h1,h2,h3,by simp only;omega⟩
noncomputable def Oz(κ:Kp):EB:=(Di κ).loop (lTa κ)
theorem xTb(κ:Kp)(L:RL)(N bs a b:Nat)(I:Nat->S->Prop)(n:Nat)(K:Exit->S->Prop):(vc (Oz κ).E 12 128 none 1 (ag (Pr κ).toProgram 128 9) (sp 63 [(0, .aB 0 0 L.length),(1, .int N),(2,ni),(6, .int bs),(7, .int a),(8, .int b)] [jh L]) (bB (Oz κ).E 128 9 1 I n K))=(
 aw (decide ((↑b:Int)<=(↑N:Int))) (∃(e2:iC),([AV.aB 0 0 L.length,AV.int (↑a:Int),AV.int (IntKind.wrap IntKind.i64 ((↑a:Int)+(↑bs:Int))),
 AV.int (↑b:Int),AV.bq 54 []],[Obj.row 70 (rws L)])=eL e2/\fe e2/\∀(e1:RL),Sr e2.a e2.b e2.L e1->∃(e0:Nat),e0<n/\I e0 (sp 63 [(0,AV.aB 0 0
 L.length),(1,AV.int (↑N:Int)),(2,AV.bq 54 []),(6,AV.int (↑bs:Int)),(7,AV.int (↑b:Int)),(8,AV.int (IntKind.wrap IntKind.i64 ((↑b:Int)+
 IntKind.wrap IntKind.i64 ((2:Int)*(↑bs:Int)))))] [Obj.row 70 (rws e1)])) (K (Exit.exit 4) (sp 63 [(0,AV.aB 0 0 L.length),(1,AV.int (↑N:Int)),(2,
 AV.bq 54 []),(6,AV.int (↑bs:Int)),(7,AV.int (↑a:Int))] [Obj.row 70 (rws L)]))):=by kernel_rfl
structure UD where
 L0:RL
 L:RL
 bs:Nat
 q:Nat
abbrev LV(x:UD):S:=sp 63 [(0, .aB 0 0 x.L.length),(1, .int x.L0.length),(2,ni),(6, .int x.bs),(7, .int (x.q*(2*x.bs):Nat)),(8, .int (x.q*(2*x.bs)+2*x.bs:Nat))] [jh x.L]
structure J5(x:UD):Prop where
 sw:Sw 0 x.L0.length x.L0 x.L
 w:Qb x.L (2*x.bs) x.q
 le:x.q*(2*x.bs)<=x.L0.length
 b:0<x.bs/\x.bs<x.L0.length
 l:x.L0.length<=100000000
 s:fb x.L0
 r: ∀k,2*x.q<=k->Up x.L (k*x.bs) (min (k*x.bs+x.bs) x.L0.length)
def SG(x:UD):Out (Exit×S):= .all (fun r:Nat×RL=>J5 ⟨x.L0,r.2,x.bs,r.1⟩/\x.L0.length<r.1*(2*x.bs)+2*x.bs) fun r=> .one (.exit 4,sp 63 [(0, .aB 0 0 r.2.length),(1, .int x.L0.length),(2,ni),(6, .int x.bs),(7, .int (r.1*(2*x.bs):Nat))] [jh r.2])
theorem nT(q bs:Nat):2*q*bs=q*(2*bs):=by rw[Nat.mul_comm 2 q,Nat.mul_assoc]
theorem lTb(κ:Kp):bf (Oz κ).E 12 128 9 (aR 1 LV J5 SG):=by
 refine aG (fun x=>x.L0.length - x.q*(2*x.bs)) ?_
 rintro⟨L0,L,bs,q⟩ K hs ho
 obtain⟨h1,h2,h3,h4,h5,h6,h7⟩:=hs
 have hs:J5 ⟨L0,L,bs,q⟩:=⟨h1,h2,h3,h4,h5,h6,h7⟩
 simp only at h1 h2 h3 h4 h5 h6 h7
 rw[show(Oz κ).E.P=Pr κ from rfl]
 refine Eq.mpr (xTb κ L L0.length bs (q*(2*bs)) (q*(2*bs)+2*bs) _ _ K) ?_
 have hl:=h1.len
 have u1:=h7 (2*q) (Nat.le_refl _)
 have u2:=h7 (2*q+1) (by omega)
 have hq:(q+1)*(2*bs)=q*(2*bs)+2*bs:=Nat.succ_mul _ _
 have hk: ∀k,2*(q+1)<=k->q*(2*bs)+2*bs<=k*bs:=fun k hk=>by
  have:=Nat.mul_le_mul_right bs hk
  rw[nT,hq] at this;exact this
 rw[Nat.succ_mul,nT] at u2
 rw[nT] at u1
 rw[ae,aa0,aa2]
 refine⟨fun h=>?_,fun h=>?_⟩
 ·rw[aC (n:=((q*(2*bs):Nat):Int)+bs) (by omega) (by omega),aC (n:=2*(bs:Int)) (by omega) (by omega),aC (n:=((q*(2*bs)+2*bs:Nat):Int)+2*bs) (by omega) (by omega),show((q*(2*bs):Nat):Int)+bs=(q*(2*bs)+bs:Nat) by omega]
  refine⟨⟨L,q*(2*bs),q*(2*bs)+bs,q*(2*bs)+2*bs⟩,rfl,⟨⟨by simp only;omega,by simp only;omega,by simp only;omega⟩,by simp only;omega,eS h6 h1.perm,u1.cut (by simp only;omega),u2.cut (by simp only;omega)⟩,fun M hM=>?_⟩
  obtain⟨m1,m2⟩:Sr (q*(2*bs)) (q*(2*bs)+2*bs) L M:=hM
  refine⟨_,?_,⟨L0,M,bs,q+1⟩,?_,⟨h1.trans (m1.mono (by omega) (by omega) (by omega)),B1 h2 m1 m2,by simp only;omega,h4,h5,h6,fun k k1=>m1.UY (h7 k (by simp only at k1;omega)) (hk k k1)⟩,rfl,ho⟩
  ·simp only;omega
  ·simp only[LV]
   rw[m1.len,hq]
   simp only[show((q*(2*bs)+2*bs:Nat):Int)+2*bs=(q*(2*bs)+2*bs+2*bs:Nat) by omega]
 ·exact ho (q,L) ⟨hs,by simp only;omega⟩
noncomputable def OE(κ:Kp):EB:=(Oz κ).loop (lTb κ)
theorem Xe(κ:Kp)(L:RL)(N bs:Nat)(I:Nat->S->Prop)(n:Nat)(K:Exit->S->Prop):(vc (OE κ).E 12 128 none 1 (ag (Pr κ).toProgram 128 7) (sp 63 [(0, .aB 0 0 L.length),(1, .int N),(2,ni),(6, .int bs)] [jh L]) (bB (OE κ).E 128 7 1 I n K))=(
 letI z1:=Pg.toProgram (Env.P (EB.E (Oz κ)))
 aw (decide ((↑bs:Int)<(↑N:Int))) (ag z1 128 9=ag z1 128 9/\∃(e4:UD),sp 63 [(0,AV.aB 0 0 L.length),(1,AV.int (↑N:Int)),(2,AV.bq 54 []),(6,AV.int (↑bs:Int)),(7,AV.int 0),(8,AV.int (IntKind.wrap IntKind.i64 ((2:Int)*(↑bs:Int))))] [Obj.row 70 (rws L)]=LV e4/\J5 e4/\∀(e3:Nat×RL),J5 {L0:=e4.L0,L:=e3.2,bs:=e4.bs,q:=e3.1}/\e4.L0.length<e3.1*(2*e4.bs)+2*e4.bs->aw (decide (IntKind.wrap IntKind.i64 ((↑(e3.1*(2*e4.bs)):Int)+(↑(e4.bs):Int))<(↑(e4.L0.length):Int))) (∃(e2:iC),([AV.aB 0 0 e3.2.length,AV.int (↑(e3.1*(2*e4.bs)):Int),AV.lit (Value.int IntKind.i64 (IntKind.wrap IntKind.i64 ((↑(e3.1*(2*e4.bs)):Int)+(↑(e4.bs):Int)))),AV.int (↑(e4.L0.length):Int),AV.bq 54 []],[Obj.row 70 (rws e3.2)])=eL e2/\fe e2/\∀(e1:RL),Sr e2.a e2.b e2.L e1->∃(e0:Nat),e0<n/\I e0 (sp 63 [(0,AV.aB 0 0 e3.2.length),(1,AV.int (↑(e4.L0.length):Int)),(2,AV.bq 54 []),(6,AV.lit (Value.int IntKind.i64 (IntKind.wrap IntKind.i64 ((↑(e4.bs):Int)*(2:Int)))))] [Obj.row 70 (rws e1)])) (∃(e0:Nat),e0<n/\I e0 (sp 63 [(0,AV.aB 0 0 e3.2.length),(1,AV.int (↑(e4.L0.length):Int)),(2,AV.bq 54 []),(6,AV.lit (Value.int IntKind.i64 (IntKind.wrap IntKind.i64 ((↑(e4.bs):Int)*(2:Int)))))] [Obj.row 70 (rws e3.2)]))) (K (Exit.exit 2) (sp 63 [] [Obj.row 70 (rws L)]))):=by kernel_rfl
structure Mq where
 L0:RL
 L:RL
 bs:Nat
abbrev BZ(x:Mq):S:=sp 63 [(0, .aB 0 0 x.L.length),(1, .int x.L0.length),(2,ni),(6, .int x.bs)] [jh x.L]
def Li(x:Mq):Prop:=Sw 0 x.L0.length x.L0 x.L/\Vr x.L x.bs x.L0.length/\(0<x.bs/\x.bs<=200000000)/\x.L0.length<=100000000/\fb x.L0
def Ps(x:Mq):Out (Exit×S):= .all (fun M=>Sw 0 x.L0.length x.L0 M/\Up M 0 x.L0.length) fun M=> .one (.exit 2,sp 63 [] [jh M])
theorem VY(κ:Kp):bf (OE κ).E 12 128 7 (aR 1 BZ Li Ps):=by
 refine aG (fun x=>x.L0.length - x.bs) ?_
 rintro⟨L0,L,bs⟩ K ⟨h1,h2,h3,h4,h5⟩ ho
 simp only at h1 h2 h3 h4 h5
 rw[show(OE κ).E.P=Pr κ from rfl]
 refine Eq.mpr (Xe κ L L0.length bs _ _ K) ?_
 have hl:=h1.len
 rw[ae,aa0,aa2]
 refine⟨fun h=>?_,fun h=>?_⟩
 ·rw [aC (n:=2*(bs:Int)) (by omega) (by omega)]
  refine⟨rfl,⟨L0,L,bs,0⟩,?_,⟨h1,fun k hk=>absurd hk (Nat.not_lt_zero k),by simp only;omega,by simp only;omega,h4,h5,fun k _=>h2 k⟩,fun r hr=>?_⟩
  ·simp only[LV]
   rw[show 0*(2*bs)+2*bs=2*bs by omega,show 0*(2*bs)=0 by omega];rfl
  ·obtain⟨q,M⟩:=r
   obtain⟨⟨m1,m2,m3,m4,m5,m6,m7⟩,m8⟩:=hr
   simp only at m1 m2 m3 m4 m5 m6 m7 m8
   have hm:=m1.len
   have u1:=m7 (2*q) (Nat.le_refl _)
   have u2:=m7 (2*q+1) (by omega)
   rw[Nat.succ_mul,nT] at u2
   rw[nT] at u1
   simp only
   rw[aC (n:=(bs:Int)*2) (by omega) (by omega),aC (n:=((q*(2*bs):Nat):Int)+bs) (by omega) (by omega),show((q*(2*bs):Nat):Int)+bs=(q*(2*bs)+bs:Nat) by omega]
   have fin: ∀X:RL,Sw (q*(2*bs)) L0.length M X->Up X (q*(2*bs)) L0.length->Li ⟨L0,X,2*bs⟩:=fun X x1 x2=>
    ⟨m1.trans (x1.mono (by omega) (Nat.le_refl _) (by omega)),Eh m2 x1 x2 m3 m8,by simp only;omega,h4,h5⟩
   rw[ae,aa0,aa2]
   refine⟨fun e=>?_,fun e=>?_⟩
   ·refine⟨⟨M,q*(2*bs),q*(2*bs)+bs,L0.length⟩,rfl,⟨⟨by simp only;omega,by simp only;omega,by simp only;omega⟩,by simp only;omega,eS h5 m1.perm,u1.cut (by simp only;omega),u2.cut (by simp only;omega)⟩,fun X hX=>?_⟩
    obtain⟨x1,x2⟩:Sr (q*(2*bs)) L0.length M X:=hX
    refine⟨_,?_,⟨L0,X,2*bs⟩,?_,fin X x1 x2,rfl,ho⟩
    ·simp only;omega
    ·simp only[BZ]
     rw[x1.len,show((2*bs:Nat):Int)=(bs:Int)*2 by omega]
   ·refine⟨_,?_,⟨L0,M,2*bs⟩,?_,fin M .refl (u1.cut (by omega)),rfl,ho⟩
    ·simp only;omega
    ·simp only[BZ]
     rw[show((2*bs:Nat):Int)=(bs:Int)*2 by omega]
 ·exact ho L ⟨h1,by
   have:=h2 0
   rw[Nat.zero_mul] at this
   exact this.cut (show L0.length<=min (0+bs) L0.length by omega)⟩
noncomputable def Va(κ:Kp):EB:=(OE κ).loop (VY κ)
theorem VR(κ:Kp)(L:RL)(K:AV->List Dn.Obj->Prop):(ba (Va κ).E 12 128 [.aB 0 0 L.length, .int L.length,ni] [jh L] K)=(
 letI z1:=Pg.toProgram (Env.P (EB.E (Di κ)))
 letI z2:=Pg.toProgram (Env.P (EB.E (OE κ)))
 ag z1 128 2=ag z1 128 2/\∃(e7:UU),sp 63 [(0,AV.aB 0 0 L.length),(1,AV.int (↑(L.length):Int)),(2,AV.bq 54 []),(6,AV.int 20),(7,AV.int 0),(8,
 AV.int 20)] [Obj.row 70 (rws L)]=P4 e7/\SL e7/\∀(e6:Nat×RL),Sw 0 e7.L0.length e7.L0 e6.2/\(∀(e2:Nat),e2<e6.1->∀(e1 e0:Nat),e2*20<=e1->
 e1<e0->e0<e2*20+20->cw (rat e6.2 e1) (rat e6.2 e0)<=(0:Int))/\e6.1*20<=e7.L0.length/\e7.L0.length<e6.1*20+20->∃(e5:R0),([AV.aB 0 0
 e6.2.length,AV.int (↑(e6.1*20):Int),AV.int (↑(e7.L0.length):Int),AV.bq 54 []],[Obj.row 70 (rws e6.2)])=P2 e5/\DL e5/\∀(e4:RL),(Sw e5.a e5.b
 e5.L e4/\∀(e1 e0:Nat),e5.a<=e1->e1<e0->e0<e5.b->cw (rat e4 e1) (rat e4 e0)<=(0:Int))->ag z2 128 7=ag z2 128 7/\∃(e3:Mq),sp 63 [(0,AV.aB
 0 0 e6.2.length),(1,AV.int (↑(e7.L0.length):Int)),(2,AV.bq 54 []),(6,AV.int 20)] [Obj.row 70 (rws e4)]=BZ e3/\Li e3/\∀(e2:RL),(Sw 0 e3.L0.length
 e3.L0 e2/\∀(e1 e0:Nat),0<=e1->e1<e0->e0<e3.L0.length->cw (rat e2 e1) (rat e2 e0)<=(0:Int))->K (AV.aX []) [Obj.row 70 (rws e2)]):=by kernel_rfl
def N4(L:RL):List AV×List Dn.Obj:=([.aB 0 0 L.length, .int L.length,ni],[jh L])
def oB(L:RL):Prop:=L.length<=100000000/\fb L
def CU(L:RL):Out (AV×List Dn.Obj):= .all (fun M=>M.Perm L/\Up M 0 L.length) fun M=> .one (.aX [],[jh M])
theorem WV(κ:Kp):bG (Va κ).E 12 128 (a0 N4 oB CU):=by
 refine bc ?_
 rintro L K ⟨h1,h2⟩ ho
 refine Eq.mpr (VR κ L K) ?_
 refine⟨rfl,⟨L,L,0⟩,rfl,⟨.refl,fun k hk=>absurd hk (Nat.not_lt_zero k),by simp only;omega,h1,h2⟩,fun r hr=>?_⟩
 obtain⟨q,M⟩:=r
 obtain⟨m1,m2,m3,m4⟩:=hr
 simp only at m1 m2 m3 m4
 have hm:=m1.len
 refine⟨⟨M,q*20,L.length⟩,rfl,⟨m3,by simp only;omega,by simp only;omega,eS h2 m1.perm⟩,fun X hX=>?_⟩
 obtain⟨x1,x2⟩:Sw (q*20) L.length M X/\Up X (q*20) L.length:=hX
 refine⟨rfl,⟨L,X,20⟩,?_,⟨m1.trans (x1.mono (by omega) (Nat.le_refl _) (by omega)),Eh m2 x1 x2 m3 m4,by simp only;omega,h1,h2⟩,fun Y hY=>ho Y ⟨hY.1.perm,hY.2⟩⟩
 simp only[BZ]
 rw[x1.len];rfl
noncomputable def Uv(κ:Kp):EB:=(Va κ).call (WV κ)
theorem Vq(κ:Kp)(L:RL)(K:AV->List Dn.Obj->Prop):(ba (Uv κ).E 12 79 [.aB 0 0 L.length,ni] [jh L] K)=(
 ∃(a:RL),([AV.aB 0 0 L.length,AV.int (↑(L.length):Int),AV.bq 54 []],[Obj.row 70 (rws L)])=N4 a/\oB a/\∀(y:RL),(List.Perm y a/\∀(i j:
 Nat),0<=i->i<j->j<a.length->cw (rat y i) (rat y j)<=(0:Int))->K (AV.aX []) [Obj.row 70 (rws y)]):=by kernel_rfl
def AY(L:RL):List AV×List Dn.Obj:=([.aB 0 0 L.length,ni],[jh L])
theorem Vx(κ:Kp):bG (Uv κ).E 12 79 (a0 AY oB CU):=by
 refine bc ?_
 rintro L K hs ho
 exact Eq.mpr (Vq κ L K) ⟨L,rfl,hs,ho⟩
theorem XC(κ:Kp): ∀args st K,a0 AY oB CU args st K->bD (Pr κ) 79 args st K:=fun args st K h=>cZ (Uv κ).ok (Uv κ).mono (Vx κ args st K h)
def kj(xs:List AV):RL:=xs.map ah
theorem kL(xs:List AV):(kj xs).length=xs.length:=by simp[kj]
theorem rj: ∀(xs:List AV) (i:Nat),rat (kj xs) i=ah (nth xs i)
 |[],i=>by cases i<;>rfl
 |x::xs,0=>rfl
 |x::xs,i+1=>by
  have:=rj xs i
  simpa[rat,kj,nth] using this
theorem EM: ∀L:RL,kj (rws L)=L
 |[]=>rfl
 |r::L=>by
  have:=EM L
  simp only[kj,rws,ac0] at this⊢
  rw[this];rfl
theorem Zt(κ:Kp)(l:List AV)(K:AV->List Dn.Obj->Prop):(ba (Lo κ).E 12 39 [.ad 72 l] [] K)=(
 (Kd l=true->K (AV.ad 72 []) [])/\aP (decide ((0+l.length+1)*33<=70368744177664)) (K (AV.ad 72 (List.take (0+l.length) (List.drop 0 ([]++l)))) [])):=by kernel_rfl
def O7(l:List AV):List AV×List Dn.Obj:=([.ad 72 l],[])
def TI(l:List AV):Out (AV×List Dn.Obj):= .one (.ad 72 l,[])
theorem ZN(κ:Kp):bG (Lo κ).E 12 39 (a0 O7 (fun l=>l.length<=100000000) TI):=by
 refine bc ?_
 rintro l K h ho
 refine Eq.mpr (Zt κ l K) ⟨fun e=>?_,ai.2 ⟨by simp;omega,?_⟩⟩
 ·cases l with
  |nil=>exact ho
  |cons=>cases e
 ·rw[List.nil_append,ab0,Nat.zero_add,List.take_length]
  exact ho
noncomputable def OW(κ:Kp):EB:=(((Lo κ).call (ZN κ)).Fm [39]).calm [39]
def gP:RL->Bool
 |[]=>true
 |[_]=>true
 |a::b::l=>decide (cw a b<0)&&gP (b::l)
theorem Z7(κ:Kp)(xs:List AV)(i:Nat)(I:Nat->S->Prop)(n:Nat)(K:Exit->S->Prop):(vc (OW κ).E 12 37 none 0 (ag (Pr κ).toProgram 37 2) (sp 21 [(0, .ad 70 xs),(3, .int i)] []) (bB (OW κ).E 37 2 0 I n K))=(
 letI z2:=(↑i:Int) - (1:Int)
 letI z1:=ah (nth xs (Int.toNat (IntKind.wrap IntKind.i64 z2)))
 letI z3:=(↑i:Int)<(↑(xs.length):Int)
 aw (decide z3) (aP (decide ((0:Int)<=IntKind.wrap IntKind.i64 z2)&&decide (IntKind.wrap IntKind.i64 z2<(↑(xs.length):Int))) (aP (true&&decide z3) (aP
 (decide (List.length z1<=9223372036854775807)) (aw (decide (cw z1 (ah (nth xs (Int.toNat (↑i:Int))))>=(0:Int))) (K Exit.ret (sp 21 [(2,AV.bool false)]
 [])) (∃(e0:Nat),e0<n/\I e0 (sp 21 [(0,AV.ad 70 xs),(3,AV.int (IntKind.wrap IntKind.i64 ((↑i:Int)+(1:Int))))] [])))))) (K (Exit.exit 0) (sp 21 []
 []))):=by kernel_rfl
theorem GF{L:RL}{i:Nat}(h1:1<=i)(h2:i<L.length):gP (L.drop (i - 1))=(decide (cw (rat L (i - 1)) (rat L i)<0)&&gP (L.drop i)):=by
 rw[ab1 (show i - 1<L.length by omega),show i - 1+1=i by omega,ab1 h2,gP,←sn (show i - 1<L.length by omega),←sn h2]
theorem IL{L:RL}{i:Nat}(h:L.length<=i):gP (L.drop (i - 1))=true:=by
 rcases Nat.lt_or_ge (i - 1) L.length with h1|h1
 ·rw[ab1 h1,aa8 (by omega)];rfl
 ·rw[aa8 h1];rfl
def ki(xs:List AV):Bool:=decide (xs.length<=100000000)&&xs.all fun x=>decide ((ah x).length<=100000000)
theorem tu{xs:List AV}(h:ki xs=true)(i:Nat):(ah (nth xs i)).length<=100000000:=by
 simp only[ki,aa1,List.all_eq_true,aa0] at h
 rcases Nat.lt_or_ge i xs.length with h1|h1
 ·rw[a7 _ _ h1];exact h.2 _ (List.getElem_mem _)
 ·rw[jN _ _ h1];exact Nat.zero_le _
theorem qi{xs:List AV}(h:ki xs=true):xs.length<=100000000:=by
 simp only[ki,aa1,aa0] at h
 exact h.1
structure V8 where
 xs:List AV
 i:Nat
abbrev SJ(x:V8):S:=sp 21 [(0, .ad 70 x.xs),(3, .int x.i)] []
def K9(x:V8):Out (Exit×S):= .aw (gP ((kj x.xs).drop (x.i - 1))) (.one (.exit 0,sp 21 [] [])) (.one (.ret,sp 21 [(2, .bool false)] []))
theorem ZB(κ:Kp):bf (OW κ).E 12 37 2 (aR 0 SJ (fun x=>1<=x.i/\ki x.xs=true) K9):=by
 refine aG (fun x=>x.xs.length - x.i) ?_
 rintro⟨xs,i⟩ K ⟨h1,h2⟩ ho
 simp only at h1 h2
 rw[show(OW κ).E.P=Pr κ from rfl]
 refine Eq.mpr (Z7 κ xs i _ _ K) ?_
 have hl:=qi h2
 simp only[K9,Out.run,ae] at ho
 rw[ae,aa0,aa2]
 refine⟨fun h=>?_,fun h=>?_⟩
 ·rw[aC (n:=(i:Int) - 1) (by omega) (by omega),aC (n:=(i:Int)+1) (by omega) (by omega),show((i:Int) - 1).toNat=i - 1 by omega,Int.toNat_natCast,←rj,←rj]
  rw[GF h1 (by rw[kL];omega)] at ho
  have hf:=tu h2 (i - 1)
  refine ai.2 ⟨by simp;omega,ai.2 ⟨by simp;omega,ai.2 ⟨by rw[rj,aa0];omega,ae.2 ⟨fun e=>ho.2 ?_,fun e=>?_⟩⟩⟩⟩
  ·have e:0<=cw (rat (kj xs) (i - 1)) (rat (kj xs) i):=by simpa using e
   rw[aa4 (by omega),Bool.false_and]
  ·have e:cw (rat (kj xs) (i - 1)) (rat (kj xs) i)<0:=by simpa using e
   rw[aa6 e,ab9] at ho
   refine⟨_,?_,⟨xs,i+1⟩,rfl,⟨by simp only;omega,h2⟩,rfl,?_⟩
   ·simp only;omega
   ·simp only[K9,Out.run,ae,Nat.add_sub_cancel]
    exact ho
 ·exact ho.1 (IL (by rw[kL];omega))
noncomputable def XA(κ:Kp):EB:=(OW κ).loop (ZB κ)
theorem yRi(κ:Kp)(xs:List AV)(K:AV->List Dn.Obj->Prop):(ba (XA κ).E 12 37 [.ad 70 xs] [] K)=(
 letI z1:=Pg.toProgram (Env.P (EB.E (OW κ)))
 ag z1 37 2=ag z1 37 2/\∃(e0:V8),sp 21 [(0,AV.ad 70 xs),(3,AV.int 1)] []=SJ e0/\(1<=e0.i/\ki e0.xs=true)/\aw (gP (List.drop (e0.i - 1) (kj
 e0.xs))) (K (AV.bool true) []) (K (AV.bool false) [])):=by kernel_rfl
def Yq:List AV->Option (Bool×AV)
 |[.ad 70 xs]=>some (ki xs, .bool (gP (kj xs)))
 |_=>none
theorem pRi(κ:Kp):cj (XA κ).E 12 37 Yq:=by
 intro args x hh
 unfold Yq at hh
 split at hh
 ·rename_i xs
  simp only[aa3,aa9] at hh
  obtain⟨h1,rfl⟩:=hh
  refine⟨_,rfl,rfl,Eq.mpr (yRi κ xs _) ⟨rfl,⟨xs,1⟩,rfl,⟨Nat.le_refl _,h1⟩,?_⟩⟩
  simp only[Nat.sub_self,ab0]
  exact ae.2 ⟨fun e=>by rw[e],fun e=>by rw[e]⟩
 ·cases hh
noncomputable def PI(κ:Kp):EB:=EB.Ml ((XA κ).pure (pRi κ)) [37]
theorem Z8(κ:Kp)(xs:List AV)(L:RL)(i:Nat)(I:Nat->S->Prop)(n:Nat)(K:Exit->S->Prop):(vc (PI κ).E 12 55 none 0 (ag (Pr κ).toProgram 55 3) (sp 19 [(3, .aB 0 0 L.length),(6, .ad 70 xs),(7, .int xs.length),(8, .int i)] [.row 70 (rws L)]) (bB (PI κ).E 55 3 0 I n K))=(
 letI z1:=(↑i:Int)<(↑(xs.length):Int)
 aw (decide z1) (aP (true&&decide z1) (∃(e1:List AV),([AV.ad 72 (ah (nth xs (Int.toNat (↑i:Int))))],[])=O7 e1/\e1.length<=100000000/\aP (decide
 ((L.length+1+1)*25<=70368744177664)) (∃(e0:Nat),e0<n/\I e0 (sp 19 [(3,AV.aB 0 0 (L.length+1)),(6,AV.ad 70 xs),(7,AV.int (↑(xs.length):
 Int)),(8,AV.int (IntKind.wrap IntKind.i64 ((↑i:Int)+(1:Int))))] [Obj.row 70 (List.take L.length (rws L)++[AV.ad 72 e1])])))) (K (Exit.exit 0) (sp 19
 [(3,AV.aB 0 0 L.length)] [Obj.row 70 (rws L)]))):=by kernel_rfl
abbrev UG:=List AV×Nat
abbrev Ox(x:UG):S:=sp 19 [(3, .aB 0 0 ((kj x.1).take x.2).length),(6, .ad 70 x.1),(7, .int x.1.length),(8, .int x.2)] [.row 70 (rws ((kj x.1).take x.2))]
def D7(x:UG):Prop:=x.2<=x.1.length/\ki x.1=true
def P0(x:UG):Out (Exit×S):= .one (.exit 0,sp 19 [(3, .aB 0 0 (kj x.1).length)] [.row 70 (rws (kj x.1))])
theorem Bi(xs:List AV)(i:Nat)(h:i<xs.length):(kj xs).take (i+1)=(kj xs).take i++[ah (nth xs i)]:=by
 rw[List.take_add_one,ab6 (by rw[kL];exact h),←sn (by rw[kL];exact h),rj];rfl
theorem EL(L:RL)(r:List AV):rws L++[.ad 72 r]=rws (L++[r]):=by simp[rws]
theorem lRc(κ:Kp):bf (PI κ).E 12 55 3 (aR 0 Ox D7 P0):=by
 refine aG (fun x=>x.1.length - x.2) ?_
 rintro⟨xs,i⟩ K ⟨h1,h2⟩ ho
 simp only at h1 h2
 rw[show(PI κ).E.P=Pr κ from rfl]
 refine Eq.mpr (Z8 κ xs ((kj xs).take i) i _ _ K) ?_
 have hl:=qi h2
 rw[ae,aa0,aa2]
 refine⟨fun h=>?_,fun h=>?_⟩
 ·have hi:i<xs.length:=by omega
  rw[aC (n:=(i:Int)+1) (by omega) (by omega),Int.toNat_natCast]
  have hle:((kj xs).take i).length<=100000000:=by rw[List.length_take,kL];omega
  refine ai.2 ⟨by simp;omega,ah (nth xs i),rfl,tu h2 i,ai.2 ⟨by rw[aa0];omega,_,?_,(xs,i+1),?_,⟨hi,h2⟩,rfl,ho⟩⟩
  ·simp only;omega
  ·simp only[Ox]
   rw[Bi xs i hi,←gZ,List.take_length,EL,ab8,gZ]
   rfl
 ·have hi:(kj xs).take i=kj xs:=List.take_of_length_le (by rw[kL];omega)
  rw[hi];exact ho
noncomputable def WL(κ:Kp):EB:=(PI κ).loop (lRc κ)
theorem yRc(κ:Kp)(xs:List AV)(K:AV->List Dn.Obj->Prop):(ba (WL κ).E 12 55 [.ad 70 xs] [] K)=(
 letI z1:=Pg.toProgram (Env.P (EB.E (PI κ)))
 ag z1 55 3=ag z1 55 3/\∃(e0:UG),sp 19 [(3,AV.aB 0 0 0),(6,AV.ad 70 xs),(7,AV.int (↑(xs.length):Int)),(8,AV.int 0)] [Obj.row 70 []]=Ox e0/\D7
 e0/\K (AV.ad 70 (List.take (List.length (kj e0.1)) (List.drop 0 (rws (kj e0.1))))) []):=by kernel_rfl
def OH(xs:List AV):List AV×List Dn.Obj:=([.ad 70 xs],[])
def QU(xs:List AV):Out (AV×List Dn.Obj):= .one (.ad 70 (rws (kj xs)),[])
theorem cCx(κ:Kp):bG (WL κ).E 12 55 (a0 OH (fun xs=>ki xs=true) QU):=by
 refine bc ?_
 rintro xs K h ho
 refine Eq.mpr (yRc κ xs K) ⟨rfl,(xs,0),rfl,⟨Nat.zero_le _,h⟩,?_⟩
 rw[ab0,←gZ,List.take_length]
 exact ho
noncomputable def Oy(κ:Kp):EB:=((WL κ).call (cCx κ)).calm [55]
theorem WY(κ:Kp)(xs cs vs ds:List AV)(L:RL)(w:Int)(i k:Nat)(t:List AV)(I:Nat->S->Prop)(n:Nat)(K:Exit->S->Prop):(vc (Oy κ).E 12 123 none 0 (ag (Pr κ).toProgram 123 7) (sp 61 [(1, .ad 3 cs),(2, .ad 72 vs),(7, .int w),(8, .aB 0 0 L.length),(10, .ad 72 t),(18, .ad 70 xs),(19, .int xs.length),(20, .int i),(26, .ad 3 ds),(27, .int ds.length),(28, .int k)] [.row 70 (rws L)]) (bB (Oy κ).E 123 7 0 I n K))=(
 letI z1:=K (Exit.exit 1) (sp 61 [(1,AV.ad 3 cs),(2,AV.ad 72 vs),(7,AV.int w),(8,AV.aB 0 0 L.length),(18,AV.ad 70 xs),(19,AV.int (↑(xs.length):
  Int)),(20,AV.int (↑i:Int))] [Obj.row 70 (rws L)])
 letI z2:=Int.toNat (↑k:Int)
 letI z3:=nth t (Int.toNat (toInt (nth ds z2)))
 letI z4:=(↑k:Int)<(↑(ds.length):Int)
 aw (decide z4) (aP (true&&decide z4) (aw (decide (toInt (nth ds z2)<(0:Int))) z1 (aw (decide (toInt (nth ds z2)>=(↑(t.length):Int))) z1 (aP (decide ((0
 :Int)<=toInt (nth ds z2))&&decide (toInt (nth ds z2)<(↑(t.length):Int))) (aP (true&&decide ((↑k:Int)<(↑(vs.length):Int))) (aw (nP (AV.agg
 [AV.bool (Dn.toBool (af z3 0)),AV.int (toInt (af z3 1)),AV.str (toStr (af z3 2))]) (AV.agg [AV.bool (Dn.toBool (af (nth vs z2) 0)),AV.int (toInt (af (nth vs
 z2) 1)),AV.str (toStr (af (nth vs z2) 2))]) != (0:Int)) z1 (∃(e0:Nat),e0<n/\I e0 (sp 61 [(1,AV.ad 3 cs),(2,AV.ad 72 vs),(7,AV.int w),(8,AV.aB 0
 0 L.length),(10,AV.ad 72 t),(18,AV.ad 70 xs),(19,AV.int (↑(xs.length):Int)),(20,AV.int (↑i:Int)),(26,AV.ad 3 ds),(27,AV.int (↑(ds.length):
 Int)),(28,AV.int (IntKind.wrap IntKind.i64 ((↑k:Int)+(1:Int))))] [Obj.row 70 (rws L)])))))))) (K (Exit.exit 2) (sp 61 [(1,AV.ad 3 cs),(2,AV.ad 72
 vs),(7,AV.int w),(8,AV.aB 0 0 L.length),(10,AV.ad 72 t),(18,AV.ad 70 xs),(19,AV.int (↑(xs.length):Int)),(20,AV.int (↑i:Int))] [Obj.row 70 (rws
 L)]))):=by kernel_rfl
def wq(t:List AV):List AV->List AV->Bool
 |c::cs,v::vs=>(decide (0<=toInt c)&&decide (toInt c<t.length)&&decide (nP (nth t (toInt c).toNat) v=0))&&wq t cs vs
 |_,_=>true
theorem yf: ∀(t cs vs:List AV),wq t (cs.take (min cs.length vs.length)) vs=wq t cs vs
 |t,[],vs=>rfl
 |t,c::cs,[]=>by simp[wq]
 |t,c::cs,v::vs=>by
  have:=yf t cs vs
  simp only[List.length_cons,Nat.succ_min_succ,List.take_succ_cons,wq,this]
def qp(L:RL)(cs vs:List AV):RL:=L.filter fun t=>wq t cs vs
structure Mo where
 xs:List AV
 cs:List AV
 vs:List AV
 ds:List AV
 L:RL
 w:Nat
 i:Nat
 t:List AV
 k:Nat
abbrev NY(x:Mo):S:=sp 61 [(1, .ad 3 x.cs),(2, .ad 72 x.vs),(7, .int x.w),(8, .aB 0 0 x.L.length),(10, .ad 72 x.t),(18, .ad 70 x.xs),(19, .int x.xs.length),(20, .int x.i),(26, .ad 3 x.ds),(27, .int x.ds.length),(28, .int x.k)] [.row 70 (rws x.L)]
def FN(x:Mo):Prop:=x.k<=x.ds.length/\x.ds.length<=x.vs.length/\x.vs.length<=100000000
def C8(x:Mo):Out (Exit×S):= .aw (wq x.t (x.ds.drop x.k) (x.vs.drop x.k))
 (.one (.exit 2,sp 61 [(1, .ad 3 x.cs),(2, .ad 72 x.vs),(7, .int x.w),(8, .aB 0 0 x.L.length),(10, .ad 72 x.t),(18, .ad 70 x.xs),(19, .int x.xs.length),(20, .int x.i)] [.row 70 (rws x.L)]))
 (.one (.exit 1,sp 61 [(1, .ad 3 x.cs),(2, .ad 72 x.vs),(7, .int x.w),(8, .aB 0 0 x.L.length),(18, .ad 70 x.xs),(19, .int x.xs.length),(20, .int x.i)] [.row 70 (rws x.L)]))
theorem Vs(κ:Kp):bf (Oy κ).E 12 123 7 (aR 0 NY FN C8):=by
 refine aG (fun x=>x.ds.length - x.k) ?_
 rintro⟨xs,cs,vs,ds,L,w,i,t,k⟩ K ⟨h1,h2,h3⟩ ho
 simp only at h1 h2 h3
 rw[show(Oy κ).E.P=Pr κ from rfl]
 refine Eq.mpr (WY κ xs cs vs ds L w i k t _ _ K) ?_
 simp only[C8,Out.run,ae] at ho
 rw[ae,aa0,aa2]
 refine⟨fun h=>?_,fun h=>?_⟩
 ·have hk:k<ds.length:=by omega
  rw[ab1 hk,←a7 _ _ hk,ab1 (show k<vs.length by omega),←a7 vs k (by omega),wq] at ho
  rw[Int.toNat_natCast]
  refine ai.2 ⟨by simp;omega,ae.2 ⟨fun e=>ho.2 ?_,fun e=>ae.2 ⟨fun e2=>ho.2 ?_,fun e2=>?_⟩⟩⟩
  ·have e:toInt (nth ds k)<0:=by simpa using e
   rw[aa4 (by omega),Bool.false_and,Bool.false_and,Bool.false_and]
  ·have e2:(t.length:Int)<=toInt (nth ds k):=by simpa using e2
   rw[show decide (toInt (nth ds k)<t.length)=false from aa4 (by omega),Bool.and_false,Bool.false_and,Bool.false_and]
  ·have e:0<=toInt (nth ds k):=by simpa using e
   have e2:toInt (nth ds k)<t.length:=by simpa using e2
   rw[aa6 e,aa6 e2,ab9,ab9] at ho
   refine ai.2 ⟨by rw[aa6 e,aa6 e2];rfl,ai.2 ⟨by simp;omega,?_⟩⟩
   have ev: ∀a b:AV,nP (.agg [.bool (Dn.toBool (af a 0)), .int (toInt (af a 1)), .lit (.string (toStr (af a 2)))]) (.agg [.bool (Dn.toBool (af b 0)), .int (toInt (af b 1)), .lit (.string (toStr (af b 2)))])=nP a b:=fun _ _=>rfl
   rw[ev,ae,bne_iff_ne,bne_eq_false_iff_eq]
   refine⟨fun e3=>ho.2 ?_,fun e3=>?_⟩
   ·rw[aa4 e3];rfl
   ·rw[aa6 e3,ab9] at ho
    rw[aC (n:=(k:Int)+1) (by omega) (by omega)]
    refine⟨_,?_,⟨xs,cs,vs,ds,L,w,i,t,k+1⟩,rfl,⟨hk,h2,h3⟩,rfl,?_⟩
    ·simp only;omega
    ·simp only[C8,Out.run,ae]
     exact ho
 ·rw[aa8 (by omega)] at ho
  exact ho.1 rfl
noncomputable def PG(κ:Kp):EB:=(Oy κ).loop (Vs κ)
theorem xMt(κ:Kp)(xs cs vs:List AV)(L:RL)(w:Nat)(i:Nat)(I:Nat->S->Prop)(n:Nat)(K:Exit->S->Prop):(vc (PG κ).E 12 123 none 0 (ag (Pr κ).toProgram 123 4) (sp 61 [(1, .ad 3 cs),(2, .ad 72 vs),(7, .int w),(8, .aB 0 0 L.length),(18, .ad 70 xs),(19, .int xs.length),(20, .int i)] [.row 70 (rws L)]) (bB (PG κ).E 123 4 0 I n K))=(
 letI z1:=List.drop 0 (List.take (Int.toNat (↑w:Int)) cs)
 letI z2:=(↑i:Int)<(↑(xs.length):Int)
 letI z3:=Pg.toProgram (Env.P (EB.E (Oy κ)))
 aw (decide z2) (aP (true&&decide z2) (aP (true&&decide ((↑w:Int)<=(↑(cs.length):Int))) (ag z3 123 7=ag z3 123 7/\∃(e2:Mo),sp 61 [(1,AV.ad 3
 cs),(2,AV.ad 72 vs),(7,AV.int (↑w:Int)),(8,AV.aB 0 0 L.length),(10,AV.ad 72 (ah (nth xs (Int.toNat (↑i:Int))))),(18,AV.ad 70 xs),(19,AV.int
 (↑(xs.length):Int)),(20,AV.int (↑i:Int)),(26,AV.ad 3 z1),(27,AV.int (↑(List.length z1):Int)),(28,AV.int 0)] [Obj.row 70 (rws L)]=NY e2/\FN e2/\
 aw (wq e2.t (List.drop e2.k e2.ds) (List.drop e2.k e2.vs)) (∃(e1:List AV),([AV.ad 72 e2.t],[])=O7 e1/\e1.length<=100000000/\aP (decide ((e2.L.length+
 1+1)*25<=70368744177664)) (∃(e0:Nat),e0<n/\I e0 (sp 61 [(1,AV.ad 3 e2.cs),(2,AV.ad 72 e2.vs),(7,AV.int (↑(e2.w):Int)),(8,AV.aB 0 0
 (e2.L.length+1)),(18,AV.ad 70 e2.xs),(19,AV.int (↑(e2.xs.length):Int)),(20,AV.int (IntKind.wrap IntKind.i64 ((↑(e2.i):Int)+(1:Int))))] [Obj.row
 70 (List.take e2.L.length (rws e2.L)++[AV.ad 72 e1])]))) (∃(e0:Nat),e0<n/\I e0 (sp 61 [(1,AV.ad 3 e2.cs),(2,AV.ad 72 e2.vs),(7,AV.int (↑(e2.w):
 Int)),(8,AV.aB 0 0 e2.L.length),(18,AV.ad 70 e2.xs),(19,AV.int (↑(e2.xs.length):Int)),(20,AV.int (IntKind.wrap IntKind.i64 ((↑(e2.i):Int)+(1:
 Int))))] [Obj.row 70 (rws e2.L)]))))) (K (Exit.exit 0) (sp 61 [(8,AV.aB 0 0 L.length)] [Obj.row 70 (rws L)]))):=by kernel_rfl
structure H4 where
 xs:List AV
 cs:List AV
 vs:List AV
 i:Nat
def H4.L(x:H4):RL:=qp ((kj x.xs).take x.i) x.cs x.vs
def H4.w(x:H4):Nat:=min x.cs.length x.vs.length
abbrev EH(x:H4):S:=sp 61 [(1, .ad 3 x.cs),(2, .ad 72 x.vs),(7, .int x.w),(8, .aB 0 0 x.L.length),(18, .ad 70 x.xs),(19, .int x.xs.length),(20, .int x.i)] [.row 70 (rws x.L)]
def E4(x:H4):Prop:=x.i<=x.xs.length/\ki x.xs=true/\x.cs.length<=100000000/\x.vs.length<=100000000
def Pm(x:H4):Out (Exit×S):= .one (.exit 0,sp 61 [(8, .aB 0 0 (qp (kj x.xs) x.cs x.vs).length)] [.row 70 (rws (qp (kj x.xs) x.cs x.vs))])
theorem lMt(κ:Kp):bf (PG κ).E 12 123 4 (aR 0 EH E4 Pm):=by
 refine aG (fun x=>x.xs.length - x.i) ?_
 rintro⟨xs,cs,vs,i⟩ K ⟨h1,h2,h3,h4⟩ ho
 simp only at h1 h2 h3 h4
 rw[show(PG κ).E.P=Pr κ from rfl]
 refine Eq.mpr (xMt κ xs cs vs (qp ((kj xs).take i) cs vs) (min cs.length vs.length) i _ _ K) ?_
 have hl:=qi h2
 rw[ae,aa0,aa2]
 refine⟨fun h=>?_,fun h=>?_⟩
 ·have hi:i<xs.length:=by omega
  have hs:qp ((kj xs).take (i+1)) cs vs=qp ((kj xs).take i) cs vs++(bif wq (ah (nth xs i)) cs vs then[ah (nth xs i)] else[]):=by
   rw[Bi xs i hi,qp,List.filter_append,←qp]
   cases e:wq (ah (nth xs i)) cs vs<;>simp[e]
  have hle:(qp ((kj xs).take i) cs vs).length<=100000000:=by
   refine Nat.le_trans (List.length_filter_le _ _) ?_
   rw[List.length_take,kL];omega
  refine ai.2 ⟨by simp;omega,ai.2 ⟨by simp;omega,?_⟩⟩
  rw[Int.toNat_natCast,Int.toNat_natCast,ab0]
  refine⟨rfl,⟨xs,cs,vs,cs.take (min cs.length vs.length),qp ((kj xs).take i) cs vs,min cs.length vs.length,i,ah (nth xs i),0⟩,rfl,⟨Nat.zero_le _,by simp only[List.length_take];omega,h4⟩,?_⟩
  simp only[ab0,yf]
  rw[aC (n:=(i:Int)+1) (by omega) (by omega)]
  refine ae.2 ⟨fun e=>?_,fun e=>?_⟩
  ·rw[e,aa7] at hs
   refine⟨ah (nth xs i),rfl,tu h2 i,ai.2 ⟨by rw[aa0];omega,_,?_,⟨xs,cs,vs,i+1⟩,?_,⟨hi,h2,h3,h4⟩,rfl,ho⟩⟩
   ·simp only;omega
   ·simp only[EH,H4.L,H4.w]
    rw[hs,←gZ,List.take_length,EL,gZ,ab8]
    rfl
  ·rw[e,aa5,List.append_nil] at hs
   refine⟨_,?_,⟨xs,cs,vs,i+1⟩,?_,⟨hi,h2,h3,h4⟩,rfl,ho⟩
   ·simp only;omega
   ·simp only[EH,H4.L,H4.w]
    rw[hs];rfl
 ·rw[List.take_of_length_le (by rw[kL];omega)]
  exact ho
noncomputable def RD(κ:Kp):EB:=(PG κ).loop (lMt κ)
theorem WM(κ:Kp)(xs cs vs:List AV)(K:AV->List Dn.Obj->Prop):(ba (RD κ).E 12 123 [.ad 70 xs, .ad 3 cs, .ad 72 vs] [] K)=(
 letI z1:=Pg.toProgram (Env.P (EB.E (PG κ)))
 ag z1 123 4=ag z1 123 4/\∃(e0:H4),sp 61 [(1,AV.ad 3 cs),(2,AV.ad 72 vs),(7,AV.int (if(↑(vs.length):Int)<(↑(cs.length):Int) then(↑(vs.length)
 :Int) else(↑(cs.length):Int))),(8,AV.aB 0 0 0),(18,AV.ad 70 xs),(19,AV.int (↑(xs.length):Int)),(20,AV.int 0)] [Obj.row 70 []]=EH e0/\E4 e0/\K
 (AV.ad 70 (List.take (List.length (qp (kj e0.xs) e0.cs e0.vs)) (List.drop 0 (rws (qp (kj e0.xs) e0.cs e0.vs))))) []):=by kernel_rfl
structure Xa where
 xs:List AV
 cs:List AV
 vs:List AV
def Vw(x:Xa):List AV×List Dn.Obj:=([.ad 70 x.xs, .ad 3 x.cs, .ad 72 x.vs],[])
def PB(x:Xa):Prop:=ki x.xs=true/\x.cs.length<=100000000/\x.vs.length<=100000000
def Sg(x:Xa):Out (AV×List Dn.Obj):= .one (.ad 70 (rws (qp (kj x.xs) x.cs x.vs)),[])
theorem YI(κ:Kp):bG (RD κ).E 12 123 (a0 Vw PB Sg):=by
 refine bc ?_
 rintro⟨xs,cs,vs⟩ K ⟨h1,h2,h3⟩ ho
 refine Eq.mpr (WM κ xs cs vs K) ?_
 have hw:(if(vs.length:Int)<cs.length then(vs.length:Int) else cs.length)=(min cs.length vs.length:Nat):=by split<;>omega
 rw[hw]
 refine⟨rfl,⟨xs,cs,vs,0⟩,rfl,⟨Nat.zero_le _,h1,h2,h3⟩,?_⟩
 rw[ab0,←gZ,List.take_length]
 exact ho
noncomputable def PN(κ:Kp):EB:=((RD κ).call (YI κ)).calm [123]
end Go.Proofs.YtioeffnadipbaaaGreatDoor
