import Derived.Test.YthaiinlfnommnaaGreatDoorDbM2
import Derived.Test.YthaiinlfnommnaaGreatDoorDbM1
namespace Go.Proofs.YthaiinlfnommnaaGreatDoor
open Go Go.Dn Go.Rl Go.Proofs
attribute [local irreducible] a9 vc
set_option maxRecDepth 20000
structure Da where
 xs:List AV
 more:List AV
 t:AV
 m:List AV
 i:Int
abbrev Gx(a:Da):AV:=o7 56 (nth a.m a.i.toNat)
def Nl:List Nat:=[229,265,238]
def M6(a:AV):List AV×List Dn.Obj:=([.cu 0, .ptr 1 0 [] 0],[.ext (some (oK 56 a)), .box 56 (o7 56 a)])
def PQ(n:Nat)(a:AV):Prop:=(cM a).iS=n/\n<=100000
def EK(_:AV):Out (AV×List Dn.Obj):= .all (fun st'=>qP st') fun st'=> .one (.ba [],st')
def IP(n:Nat):dj:=aM M6 (PQ n) EK
noncomputable def AN(κ:Kp)(r:Nat):Env:=(Ua κ).ay 265 fun args st K=>∃m,m<r/\IP m args st K
noncomputable abbrev TH(a:Da)(κ:Kp)(st:LoopState)(p:Option Code):Dn.Obj:=
 .loop (fR (Pr κ).toProgram 265 6 st p (fK (bz 25) [(2, .ptr 2 0 [] 0),(4, .ptr 3 0 [] 0),(11, .ad 56 a.m),(12, .int a.m.length),(13, .int a.i),(14, .bool true),
  (15, .jO 56 (nth a.m a.i.toNat)),(16,Gx a),(17,Gx a),(18, .bI 265 [.ptr 4 0 [] 0])]))
noncomputable abbrev o8(κ:Kp)(a:Da):List Dn.Obj:=[.ext (some a.xs), .box 56 (o7 56 a.t), .box 187 (.cu 0), .box 56 (Gx a), .box 56 (Gx a),TH a κ .ready none]
noncomputable abbrev yA(κ:Kp)(a:Da)(o:Option (List AV))(st:LoopState)(p:Option Code):List Dn.Obj:=[.ext o, .box 56 (o7 56 a.t), .box 187 (.cu 0), .box 56 (Gx a), .dead,TH a κ st p]
theorem s56(κ:Kp)(a:Da)(Q:List Dn.Obj->Prop):(tidy (Pr κ).toProgram 6 (dO (o8 κ a) (ct (o8 κ a) [.ptr 4 0 [] 0])) Q)=(
 letI z1:=nth a.m a.i.toNat
 letI z2:=toInt (ae z1 0)
 letI z3:=toStr (ae z1 1)
 letI z4:=toInt (ae z1 2)
 letI z5:=ai (ae z1 3)
 Q [Obj.ext (some a.xs),Obj.box 56 (AV.agg [AV.int (toInt (ae a.t 0)),AV.str (toStr (ae a.t 1)),AV.int (toInt (ae a.t 2)),AV.ad 56 (ai (ae a.t 3))]),Obj.box
 187 (AV.cu 0),Obj.box 56 (AV.agg [AV.int z2,AV.str z3,AV.int z4,AV.ad 56 z5]),Obj.dead,Dn.Obj.loop (fR Tryz.prog 265 6 LoopState.ready none (fK (bz 25)
 [(2,AV.ptr 2 0 [] 0),(4,AV.ptr 3 0 [] 0),(11,AV.ad 56 a.m),(12,AV.int (↑(a.m.length):Int)),(13,AV.int a.i),(14,AV.bool true),(15,AV.jO 56 z1),
 (16,AV.agg [AV.int z2,AV.str z3,AV.int z4,AV.ad 56 z5]),(17,AV.agg [AV.int z2,AV.str z3,AV.int z4,AV.ad 56 z5]),(18,AV.bI 265 [AV.ptr 4 0 [] 0])]))]):=by kernel_rfl
theorem r56(κ:Kp)(r:Nat)(a:Da)(o:List AV)(u:AV)(Q:List Dn.Obj->Prop)(K2:List Dn.Obj->Prop):(gG (vc (AN κ r) 12) 5 [o7 56 u] (yA κ a (some o) .ready none) (fun r st''=>match r with| .lit (.bool true)=>tidy (Pr κ).toProgram 6 st'' Q| .lit (.bool false)=>K2 st''|_=>False))=(
 letI z3:=nth a.m a.i.toNat
 letI z4:=AV.agg [AV.int (toInt (ae a.t 0)),AV.str (toStr (ae a.t 1)),AV.int (toInt (ae a.t 2)),AV.ad 56 (ai (ae a.t 3))]
 letI z5:=toInt (ae z3 0)
 letI z6:=toStr (ae z3 1)
 letI z7:=toInt (ae z3 2)
 letI z8:=ai (ae z3 3)
 letI z1:=AV.agg [AV.int z5,AV.str z6,AV.int z7,AV.ad 56 z8]
 letI z2:=fK (bz 25) [(2,AV.ptr 2 0 [] 0),(4,AV.ptr 3 0 [] 0),(11,AV.ad 56 a.m),(12,AV.int (↑(a.m.length):Int)),(13,AV.int a.i),(14,AV.bool true),
  (15,AV.jO 56 z3),(16,AV.agg [AV.int z5,AV.str z6,AV.int z7,AV.ad 56 z8]),(17,AV.agg [AV.int z5,AV.str z6,AV.int z7,AV.ad 56 z8]),(18,AV.bI 265
  [AV.ptr 4 0 [] 0])]
 ∃(e0:List AV),o=AV.ba [AV.agg [AV.int (toInt (ae u 0)),AV.str (toStr (ae u 1)),AV.int (toInt (ae u 2)),AV.ad 56 (ai (ae u 3))]]::e0/\Q [Obj.ext
 (some e0),Obj.box 56 z4,Obj.box 187 (AV.cu 0),Obj.box 56 z1,Obj.dead,Dn.Obj.loop (fR Tryz.prog 265 6 LoopState.ready none z2)]/\K2 [Obj.ext none,Obj.box
 56 z4,Obj.box 187 (AV.cu 0),Obj.box 56 z1,Obj.dead,Dn.Obj.loop (fR Tryz.prog 265 6 LoopState.done (some Code.ret) z2),Obj.box 56 (AV.agg [AV.int (toInt (ae
 u 0)),AV.str (toStr (ae u 1)),AV.int (toInt (ae u 2)),AV.ad 56 (ai (ae u 3))])]):=by kernel_rfl
theorem k56(κ:Kp)(a:Da)(xs:List AV):(AV.cu 0::fM (ju (ct (o8 κ a) [.ptr 4 0 [] 0])) [.ptr 4 0 [] 0],Obj.ext (some xs)::fZ (ju (ct (o8 κ a) [.ptr 4 0 [] 0])) (gE (o8 κ a) (ct (o8 κ a) [.ptr 4 0 [] 0])))=([.cu 0, .ptr 1 0 [] 0],[.ext (some xs), .box 56 (Gx a)]):=by kernel_rfl
theorem o56(κ:Kp)(a:Da):mV (o8 κ a) [.ptr 4 0 [] 0]=true:=by kernel_rfl
noncomputable def K9(κ:Kp)(r:Nat):dv:=fun caps st K=>∃a:Da,(caps,st)=([AV.ptr 4 0 [] 0],o8 κ a)/\((cM (nth a.m a.i.toNat)).iS<r/\(cM (nth a.m a.i.toNat)).iS<=100000/\a.xs=oK 56 (nth a.m a.i.toNat)++a.more)/\
 (K (yA κ a (some a.more) .ready none)/\∀u:AV,K (yA κ a none .done (some .ret)++[.box 56 (o7 56 u)]))
theorem Ef(κ:Kp)(r:Nat):(K9 κ r).iT:=by
 rintro caps st K K' hK ⟨a,h1,h2,h3,h4⟩
 exact⟨a,h1,h2,hK _ h3,fun u=>hK _ (h4 u)⟩
theorem L6(κ:Kp)(r:Nat)(args:List AV)(st:List Dn.Obj)(K:AV->List Dn.Obj->Prop)(h: ∃m,m<r/\IP m args st K):(AN κ r).call 265 args st K:=h
theorem UY(κ:Kp)(r:Nat):kP (AN κ r) 12 265 (K9 κ r):=by
 rintro caps st K ⟨a,h1,⟨h2,h3,h4⟩,h5,h6⟩
 obtain⟨rfl,rfl⟩:=Prod.mk.inj h1
 refine⟨oK 56 (nth a.m a.i.toNat),fun items st'=>(∀x,x∈items->qV 56 x)/\st'=yA κ a (some (items++a.more)) .ready none,⟨o56 κ a,?_,?_,?_,?_⟩⟩
 ·refine L6 κ r _ _ _ ⟨_,h2,nth a.m a.i.toNat,?_,⟨rfl,h3⟩,fun st' h=>h⟩
  rw[k56];rfl
 ·rw[show(AN κ r).P=Pr κ from rfl,show(o8 κ a).length=6 from rfl,s56]
  exact⟨mo _ _ _ (Nat.lt_succ_self _),by rw[h4];rfl⟩
 ·rintro us rest st' ⟨e1,rfl⟩
  obtain⟨u,hu⟩:=e1 (.ba us) (by simp)
  obtain rfl:=AV.ba.inj hu
  rw[show(AN κ r).P=Pr κ from rfl,show(o8 κ a).length=6 from rfl]
  refine Eq.mpr (r56 κ r a _ u _ _) ?_
  exact⟨_,rfl,⟨fun x hx=>e1 x (by simp[hx]),rfl⟩,h6 u⟩
 ·rintro st' ⟨_,rfl⟩
  exact h5
noncomputable def yn(κ:Kp)(r:Nat):Env:=((AN κ r).addRange 265 6 265 (K9 κ r)).dn (fun f=>jM f Nl)
theorem Re(κ:Kp)(r:Nat):aj (AN κ r):=(XG κ).ay (fun _ _ _ _ hK ⟨m,h1,h2⟩=>⟨m,h1,aJ _ _ _ _ hK h2⟩)
theorem x56(κ:Kp)(r:Nat)(a:Da)(I:Nat->S->Prop)(n:Nat)(K:Exit->S->Prop):(vc (yn κ r) 12 265 none 2 (af (Pr κ).toProgram 265 3) (sp 25 [(2, .ptr 2 0 [] 0),(11, .ad 56 a.m),(12, .int a.m.length),(13, .int a.i)] [.ext (some a.xs), .box 56 (o7 56 a.t), .box 187 (.cu 0)]) (bH (yn κ r) 265 3 2 I n K))=(
 letI z2:=nth a.m a.i.toNat
 letI z3:=AV.agg [AV.int (toInt (ae a.t 0)),AV.str (toStr (ae a.t 1)),AV.int (toInt (ae a.t 2)),AV.ad 56 (ai (ae a.t 3))]
 letI z4:=a.i<(↑(a.m.length):Int)
 letI z5:=toInt (ae z2 0)
 letI z6:=toStr (ae z2 1)
 letI z7:=toInt (ae z2 2)
 letI z8:=ai (ae z2 3)
 letI z1:=AV.agg [AV.int z5,AV.str z6,AV.int z7,AV.ad 56 z8]
 aD (decide z4) (a7 (decide ((0:Int)<=a.i)&&decide z4) (∃(e1:Da),([AV.ptr 4 0 [] 0],[Obj.ext (some a.xs),Obj.box 56 z3,Obj.box 187 (AV.cu 0),Obj.box
 56 z1,Obj.box 56 z1,Dn.Obj.loop (fR Tryz.prog 265 6 LoopState.ready none (fK (bz 25) [(2,AV.ptr 2 0 [] 0),(4,AV.ptr 3 0 [] 0),(11,AV.ad 56 a.m),(12,
 AV.int (↑(a.m.length):Int)),(13,AV.int a.i),(14,AV.bool true),(15,AV.jO 56 z2),(16,AV.agg [AV.int z5,AV.str z6,AV.int z7,AV.ad 56 z8]),(17,AV.agg
 [AV.int z5,AV.str z6,AV.int z7,AV.ad 56 z8]),(18,AV.bI 265 [AV.ptr 4 0 [] 0])]))])=([AV.ptr 4 0 [] 0],[Obj.ext (some e1.xs),Obj.box 56 (AV.agg [AV.int
 (toInt (ae e1.t 0)),AV.str (toStr (ae e1.t 1)),AV.int (toInt (ae e1.t 2)),AV.ad 56 (ai (ae e1.t 3))]),Obj.box 187 (AV.cu 0),Obj.box 56 (AV.agg [AV.int
 (toInt (ae (nth e1.m e1.i.toNat) 0)),AV.str (toStr (ae (nth e1.m e1.i.toNat) 1)),AV.int (toInt (ae (nth e1.m e1.i.toNat) 2)),AV.ad 56 (ai (ae (nth e1.m
 e1.i.toNat) 3))]),Obj.box 56 (AV.agg [AV.int (toInt (ae (nth e1.m e1.i.toNat) 0)),AV.str (toStr (ae (nth e1.m e1.i.toNat) 1)),AV.int (toInt (ae (nth e1.m
 e1.i.toNat) 2)),AV.ad 56 (ai (ae (nth e1.m e1.i.toNat) 3))]),Dn.Obj.loop (fR Tryz.prog 265 6 LoopState.ready none (fK (bz 25) [(2,AV.ptr 2 0 [] 0),(4,
 AV.ptr 3 0 [] 0),(11,AV.ad 56 e1.m),(12,AV.int (↑(e1.m.length):Int)),(13,AV.int e1.i),(14,AV.bool true),(15,AV.jO 56 (nth e1.m e1.i.toNat)),(16,
 AV.agg [AV.int (toInt (ae (nth e1.m e1.i.toNat) 0)),AV.str (toStr (ae (nth e1.m e1.i.toNat) 1)),AV.int (toInt (ae (nth e1.m e1.i.toNat) 2)),AV.ad 56 (ai (ae
 (nth e1.m e1.i.toNat) 3))]),(17,AV.agg [AV.int (toInt (ae (nth e1.m e1.i.toNat) 0)),AV.str (toStr (ae (nth e1.m e1.i.toNat) 1)),AV.int (toInt (ae (nth e1.m
 e1.i.toNat) 2)),AV.ad 56 (ai (ae (nth e1.m e1.i.toNat) 3))]),(18,AV.bI 265 [AV.ptr 4 0 [] 0])]))])/\(Tm.iS (cM (nth e1.m e1.i.toNat))<r/\Tm.iS (cM (nth
 e1.m e1.i.toNat))<=100000/\e1.xs=oK 56 (nth e1.m e1.i.toNat)++e1.more)/\(∃(e0:Nat),e0<n/\I e0 (sp 25 [(2,AV.ptr 2 0 [] 0),(11,AV.ad 56 a.m),
 (12,AV.int (↑(a.m.length):Int)),(13,AV.int (IntKind.wrap IntKind.i64 (a.i+(1:Int))))] [Obj.ext (some e1.more),Obj.box 56 (AV.agg [AV.int (toInt (ae
 e1.t 0)),AV.str (toStr (ae e1.t 1)),AV.int (toInt (ae e1.t 2)),AV.ad 56 (ai (ae e1.t 3))]),Obj.box 187 (AV.cu 0)]))/\∀(e0:AV),K Exit.ret (sp 25 []
 [Obj.ext none,Obj.box 56 (AV.agg [AV.int (toInt (ae e1.t 0)),AV.str (toStr (ae e1.t 1)),AV.int (toInt (ae e1.t 2)),AV.ad 56 (ai (ae e1.t 3))])]))) (K
 (Exit.exit 0) (sp 25 [] [Obj.ext (some a.xs),Obj.box 56 z3]))):=by kernel_rfl
abbrev OK(a:Da):S:=sp 25 [(2, .ptr 2 0 [] 0),(11, .ad 56 a.m),(12, .int a.m.length),(13, .int a.i)] [.ext (some a.xs), .box 56 (o7 56 a.t), .box 187 (.cu 0)]
def Ey(r:Nat)(a:Da):Prop:=a.m.length<=aR/\0<=a.i/\a.i<=a.m.length/\aX (aa (a.m.drop a.i.toNat))<r/\aX (aa (a.m.drop a.i.toNat))<=100000/\a.xs=fr 56 (a.m.drop a.i.toNat)
def KR(a:Da):Out (Exit×S):= .all (fun _:Bool=>True) fun b=> .aD b (.one (.exit 0,sp 25 [] [.ext (some []), .box 56 (o7 56 a.t)])) (.one (.ret,sp 25 [] [.ext none, .box 56 (o7 56 a.t)]))
theorem tM(l:List AV)(i:Nat)(h:i<l.length):aX (aa (l.drop i))=(cM (nth l i)).iS+aX (aa (l.drop (i+1))):=by
 rw[eu l i h,aX]
theorem l56(κ:Kp)(r:Nat):bh (yn κ r) 12 265 3 (aP 2 OK (Ey r) KR):=by
 refine aL (fun a=>a.m.length - a.i.toNat) ?_
 rintro⟨xs,more,t,m,i⟩ K ⟨h1,h2,h3,h4,h5,h6⟩ ho
 simp only at h1 h2 h3 h4 h5 h6
 rw[show(yn κ r).P=Pr κ from rfl]
 refine Eq.mpr (x56 κ r ⟨xs,more,t,m,i⟩ _ _ K) ?_
 have ho1:=ho true trivial
 have ho2:=ho false trivial
 simp only[Out.run,aD] at ho1 ho2
 simp only[aR] at h1
 simp only[ah,an,aa1,aa3,aa2]
 refine⟨fun hi=>⟨⟨h2,hi⟩,?_⟩,fun hi=>?_⟩
 ·have hc:=tM m i.toNat (by omega)
  rw[tu _ m i.toNat (by omega)] at h6
  rw[aW (n:=i+1) (by omega) (by omega)]
  refine⟨⟨xs,fr 56 (m.drop (i.toNat+1)),t,m,i⟩,rfl,⟨by simp only;omega,by simp only;omega,h6⟩,⟨_,?_,⟨_,more,t,m,i+1⟩,rfl,⟨by simpa[aR] using h1,by simp only;omega,by simp only;omega,?_,?_,?_⟩,rfl,ho⟩,fun _=>ho2⟩
  ·simp only;omega
  ·simp only[show(i+1).toNat=i.toNat+1 by omega];omega
  ·simp only[show(i+1).toNat=i.toNat+1 by omega];omega
  ·simp only[show(i+1).toNat=i.toNat+1 by omega]
 ·rw[aa9 (by omega)] at h6
  subst h6
  exact ho1
noncomputable def G7(κ:Kp)(r:Nat):Env:=(yn κ r).ak 265 3 (aP 2 OK (Ey r) KR)
theorem y56(κ:Kp)(r:Nat)(t:AV)(xs:List AV)(K:AV->List Dn.Obj->Prop):(a9 (G7 κ r) 12 265 [.cu 0, .ptr 1 0 [] 0] [.ext (some xs), .box 56 (o7 56 t)] K)=(
 letI z2:=ai (ae t 3)
 letI z1:=AV.agg [AV.int (toInt (ae t 0)),AV.str (toStr (ae t 1)),AV.int (toInt (ae t 2)),AV.ad 56 z2]
 letI z3:=Pg.toProgram (Env.P (yn κ r))
 ∃(e2:List AV),xs=AV.ba [AV.agg [AV.int (toInt (ae t 0)),AV.str (toStr (ae t 1)),AV.int (toInt (ae t 2)),AV.ad 56 z2]]::e2/\(af z3 265 3=af z3 265
 3/\∃(e1:Da),sp 25 [(2,AV.ptr 2 0 [] 0),(11,AV.ad 56 z2),(12,AV.int (↑(List.length z2):Int)),(13,AV.int 0)] [Obj.ext (some e2),Obj.box 56 z1,
 Obj.box 187 (AV.cu 0)]=sp 25 [(2,AV.ptr 2 0 [] 0),(11,AV.ad 56 e1.m),(12,AV.int (↑(e1.m.length):Int)),(13,AV.int e1.i)] [Obj.ext (some e1.xs),
 Obj.box 56 (AV.agg [AV.int (toInt (ae e1.t 0)),AV.str (toStr (ae e1.t 1)),AV.int (toInt (ae e1.t 2)),AV.ad 56 (ai (ae e1.t 3))]),Obj.box 187 (AV.cu 0)]/\
 (e1.m.length<=9223372036854775807/\(0:Int)<=e1.i/\e1.i<=(↑(e1.m.length):Int)/\aX (aa (List.drop e1.i.toNat e1.m))<r/\aX (aa (List.drop e1.i.toNat
 e1.m))<=100000/\e1.xs=fr 56 (List.drop e1.i.toNat e1.m))/\∀(e0:Bool),True->aD e0 (K (AV.ba []) [Obj.ext (some []),Obj.box 56 (AV.agg [AV.int (toInt
 (ae e1.t 0)),AV.str (toStr (ae e1.t 1)),AV.int (toInt (ae e1.t 2)),AV.ad 56 (ai (ae e1.t 3))])]) (K (AV.ba []) [Obj.ext none,Obj.box 56 (AV.agg [AV.int
 (toInt (ae e1.t 0)),AV.str (toStr (ae e1.t 1)),AV.int (toInt (ae e1.t 2)),AV.ad 56 (ai (ae e1.t 3))])]))/\K (AV.ba []) [Obj.ext none,Obj.box 56 z1]):=by kernel_rfl
theorem UI(κ:Kp)(r:Nat)(hp: ∀args st K,(∃m,m<r/\IP m args st K)->dp (Pr κ) 265 args st K):aB (G7 κ r)/\aj (G7 κ r)/\(G7 κ r).P=Pr κ:=
 have h:aB (AN κ r):=(TX κ).iz hp
 have h2:aB (yn κ r):=(h.addRange (Re κ r) (UY κ r)).dn _
 have hm:aj (yn κ r):=((Re κ r).addRange (Ef κ r)).dn _
 ⟨h2.ak hm (l56 κ r),hm.ak aF,rfl⟩
theorem c56(κ:Kp)(r:Nat):bq (G7 κ r) 12 265 (IP r):=by
 refine aZ ?_
 rintro t K ⟨h1,h2⟩ ho
 have hn: ∀b,K (.ba []) [.ext none,b]:=fun b=>ho _ trivial
 have h0: ∀b,K (.ba []) [.ext (some []),b]:=fun b=>ho _ trivial
 refine Eq.mpr (y56 κ r t _ K) ?_
 rw[da,Tm.iS] at h1
 have hl:=fk (aa (ai (ae t 3)))
 rw[eC] at hl
 rw[zl]
 refine⟨_,rfl,⟨rfl,⟨_,[],t,ai (ae t 3),0⟩,rfl,⟨by simp only;omega,by simp only;omega,by simp only;omega,?_,?_,rfl⟩,?_⟩,hn _⟩
 ·simp only[ab8,ab1];omega
 ·simp only[ab8,ab1];omega
 ·intro y _
  cases y
  ·exact hn _
  ·exact h0 _
def zi(a:AV):Prop:=(cM a).iS<=100000
theorem q56(κ:Kp): ∀args st K,aM M6 zi EK args st K->dp (Pr κ) 265 args st K:=by
 rintro args st K ⟨l,h1,h2,h3⟩
 exact aB.sV IP (G7 κ) (UI κ) (c56 κ) (cM l).iS args st K ⟨l,h1,⟨rfl,h2⟩,h3⟩
noncomputable def J1(κ:Kp):Env:=(Ua κ).ay 265 (aM M6 zi EK)
theorem Zl(κ:Kp):aB (J1 κ):=(TX κ).iz (q56 κ)
theorem Yj(κ:Kp):aj (J1 κ):=(XG κ).ay aJ
structure uo where
 xs:List AV
 more:List AV
 r:cg
 bl:List AV
 ts:List AV
 i:Int
abbrev CE(a:uo):AV:=o7 56 (nth a.ts (0+a.i.toNat))
abbrev ED(a:uo):S:=sp 46 [(2, .ptr 2 0 [] 0),(3, .ar 3 0 a.ts.length),(14, .ad 72 a.bl),(15, .int a.bl.length),(16, .int a.i)] [.ext (some a.xs), .box 66 (aq a.r), .box 187 (.cu 0), .row 56 a.ts]
theorem VG(κ:Kp)(a:uo)(I:Nat->S->Prop)(n:Nat)(K:Exit->S->Prop):(vc (J1 κ) 12 238 none 2 (af (Pr κ).toProgram 238 3) (ED a) (bH (J1 κ) 238 3 2 I n K))=(
 letI z1:=nth a.bl a.i.toNat
 letI z2:=a.i<(↑(a.bl.length):Int)
 letI z3:=ae (ae z1 1) 1
 aD (decide z2) (a7 (decide ((0:Int)<=a.i)&&decide z2) (a7 (decide ((a.ts.length+2+1)*57<=70368744177664)) (a7 (decide ((a.ts.length+2+
 List.length (ai z3)+1)*57<=70368744177664)) (∃(e0:Nat),e0<n/\I e0 (sp 46 [(2,AV.ptr 2 0 [] 0),(3,AV.ar 3 0 (a.ts.length+2+List.length (ai
 z3))),(14,AV.ad 72 a.bl),(15,AV.int (↑(a.bl.length):Int)),(16,AV.int (IntKind.wrap IntKind.i64 (a.i+(1:Int))))] [Obj.ext (some a.xs),Obj.box 66 (aq
 a.r),Obj.box 187 (AV.cu 0),Obj.row 56 (List.take (a.ts.length+2) (List.take a.ts.length a.ts++[AV.agg [AV.int (toInt (ae (ae z1 2) 0)),AV.str (toStr (ae
 (ae z1 2) 1)),AV.int (toInt (ae (ae z1 2) 2)),AV.ad 56 (ai (ae (ae z1 2) 3))],AV.agg [AV.int (toInt (ae (ae z1 3) 0)),AV.str (toStr (ae (ae z1 3) 1)),
 AV.int (toInt (ae (ae z1 3) 2)),AV.ad 56 (ai (ae (ae z1 3) 3))]])++ai z3)]))))) (K (Exit.exit 0) (sp 46 [(2,AV.ptr 2 0 [] 0),(3,AV.ar 3 0 a.ts.length)]
 [Obj.ext (some a.xs),Obj.box 66 (aq a.r),Obj.box 187 (AV.cu 0),Obj.row 56 a.ts]))):=by kernel_rfl
def dC(l:List AV):List AV:=l.flatMap fun a=>[o7 56 (ae a 2),o7 56 (ae a 3)]++ai (ae (ae a 1) 1)
def Gp(a:uo):Prop:=a.bl.length<=aR/\0<=a.i/\a.i<=a.bl.length/\(a.ts++dC (a.bl.drop a.i.toNat)).length<=100000
def zA(a:uo):Out (Exit×S):= .one (.exit 0,sp 46 [(2, .ptr 2 0 [] 0),(3, .ar 3 0 (a.ts++dC (a.bl.drop a.i.toNat)).length)] [.ext (some a.xs), .box 66 (aq a.r), .box 187 (.cu 0), .row 56 (a.ts++dC (a.bl.drop a.i.toNat))])
theorem DK(l:List AV)(i:Nat)(h:i<l.length):dC (l.drop i)=[o7 56 (ae (nth l i) 2),o7 56 (ae (nth l i) 3)]++ai (ae (ae (nth l i) 1) 1)++dC (l.drop (i+1)):=by
 rw[ab2 h,bg l i h];rfl
theorem UR(κ:Kp):bh (J1 κ) 12 238 3 (aP 2 ED Gp zA):=by
 refine aL (fun a=>a.bl.length - a.i.toNat) ?_
 rintro⟨xs,more,r,bl,ts,i⟩ K ⟨h1,h2,h3,h4⟩ ho
 simp only at h1 h2 h3 h4
 rw[show(J1 κ).P=Pr κ from rfl]
 refine Eq.mpr (VG κ ⟨xs,more,r,bl,ts,i⟩ _ _ K) ?_
 simp only[and_self]
 simp only[zA,Out.run] at ho
 simp only[aR] at h1
 simp only[ah,an,aa1,aa3,aa2]
 refine⟨fun hi=>⟨⟨h2,hi⟩,?_⟩,fun hi=>?_⟩
 ·have hp:=DK bl i.toNat (by omega)
  rw[hp] at h4 ho
  rw[aW (n:=i+1) (by omega) (by omega)]
  simp only[ab9,List.length_cons,List.length_nil] at h4
  refine⟨by omega,by omega,_,?_,⟨xs,more,r,bl,ts++([o7 56 (ae (nth bl i.toNat) 2),o7 56 (ae (nth bl i.toNat) 3)]++ai (ae (ae (nth bl i.toNat) 1) 1)),i+1⟩,?_,⟨by simpa[aR] using h1,by simp only;omega,by simp only;omega,?_⟩,rfl,?_⟩
  ·simp only;omega
  ·simp only[ED,ab9,List.length_cons,List.length_nil,List.take_length]
   rw[List.take_of_length_le (by simp),show ts.length+2+(ai (ae (ae (nth bl i.toNat) 1) 1)).length=ts.length+(0+1+1+(ai (ae (ae (nth bl i.toNat) 1) 1)).length) by omega,List.append_assoc]
   rfl
  ·simp only[ab9,List.length_cons,List.length_nil,show(i+1).toNat=i.toNat+1 by omega];omega
  ·simp only[zA,Out.run,show(i+1).toNat=i.toNat+1 by omega]
   simpa only[List.append_assoc] using ho
 ·rw[aa9 (by omega)] at ho
  simpa[dC] using ho
noncomputable def BJ(κ:Kp):Env:=(J1 κ).ak 238 3 (aP 2 ED Gp zA)
theorem U2(κ:Kp):aB (BJ κ):=(Zl κ).ak (Yj κ) (UR κ)
theorem RK(κ:Kp):aj (BJ κ):=(Yj κ).ak aF
noncomputable abbrev Q7(a:uo)(κ:Kp)(st:LoopState)(p:Option Code):Dn.Obj:=
 .loop (fR (Pr κ).toProgram 238 11 st p (fK (bz 46) [(2, .ptr 2 0 [] 0),(7, .ptr 4 0 [] 0),(32, .ar 3 0 a.ts.length),(33, .int a.ts.length),(34, .int a.i),(35, .bool true),
  (36, .ptr 3 (0+a.i.toNat) [] 0),(37,CE a),(38,CE a),(39, .bI 265 [.ptr 5 0 [] 0])]))
noncomputable abbrev pf(κ:Kp)(a:uo):List Dn.Obj:=[.ext (some a.xs), .box 66 (aq a.r), .box 187 (.cu 0), .row 56 a.ts, .box 56 (CE a), .box 56 (CE a),Q7 a κ .ready none]
noncomputable abbrev y4(κ:Kp)(a:uo)(o:Option (List AV))(st:LoopState)(p:Option Code):List Dn.Obj:=[.ext o, .box 66 (aq a.r), .box 187 (.cu 0), .row 56 a.ts, .box 56 (CE a), .dead,Q7 a κ st p]
theorem Uu(κ:Kp)(a:uo)(Q:List Dn.Obj->Prop):(tidy (Pr κ).toProgram 7 (dO (pf κ a) (ct (pf κ a) [.ptr 5 0 [] 0])) Q)=(
 letI z1:=nth a.ts (0+a.i.toNat)
 letI z2:=toInt (ae z1 0)
 letI z3:=toStr (ae z1 1)
 letI z4:=toInt (ae z1 2)
 letI z5:=ai (ae z1 3)
 Q [Obj.ext (some a.xs),Obj.box 66 (aq a.r),Obj.box 187 (AV.cu 0),Obj.row 56 a.ts,Obj.box 56 (AV.agg [AV.int z2,AV.str z3,AV.int z4,AV.ad 56 z5]),
 Obj.dead,Dn.Obj.loop (fR Tryz.prog 238 11 LoopState.ready none (fK (bz 46) [(2,AV.ptr 2 0 [] 0),(7,AV.ptr 4 0 [] 0),(32,AV.ar 3 0 a.ts.length),(33,
 AV.int (↑(a.ts.length):Int)),(34,AV.int a.i),(35,AV.bool true),(36,AV.ptr 3 (0+a.i.toNat) [] 0),(37,AV.agg [AV.int z2,AV.str z3,AV.int z4,AV.ad
 56 z5]),(38,AV.agg [AV.int z2,AV.str z3,AV.int z4,AV.ad 56 z5]),(39,AV.bI 265 [AV.ptr 5 0 [] 0])]))]):=by kernel_rfl
theorem r42(κ:Kp)(a:uo)(o:List AV)(u:AV)(Q:List Dn.Obj->Prop)(K2:List Dn.Obj->Prop):(gG (vc (BJ κ) 12) 6 [o7 56 u] (y4 κ a (some o) .ready none) (fun r st''=>match r with| .lit (.bool true)=>tidy (Pr κ).toProgram 7 st'' Q| .lit (.bool false)=>K2 st''|_=>False))=(
 letI z3:=nth a.ts (0+a.i.toNat)
 letI z4:=toInt (ae z3 0)
 letI z5:=toStr (ae z3 1)
 letI z6:=toInt (ae z3 2)
 letI z7:=ai (ae z3 3)
 letI z1:=AV.agg [AV.int z4,AV.str z5,AV.int z6,AV.ad 56 z7]
 letI z2:=fK (bz 46) [(2,AV.ptr 2 0 [] 0),(7,AV.ptr 4 0 [] 0),(32,AV.ar 3 0 a.ts.length),(33,AV.int (↑(a.ts.length):Int)),(34,AV.int a.i),(35,
  AV.bool true),(36,AV.ptr 3 (0+a.i.toNat) [] 0),(37,AV.agg [AV.int z4,AV.str z5,AV.int z6,AV.ad 56 z7]),(38,AV.agg [AV.int z4,AV.str z5,AV.int z6,
  AV.ad 56 z7]),(39,AV.bI 265 [AV.ptr 5 0 [] 0])]
 ∃(e0:List AV),o=AV.ba [AV.agg [AV.int (toInt (ae u 0)),AV.str (toStr (ae u 1)),AV.int (toInt (ae u 2)),AV.ad 56 (ai (ae u 3))]]::e0/\Q [Obj.ext
 (some e0),Obj.box 66 (aq a.r),Obj.box 187 (AV.cu 0),Obj.row 56 a.ts,Obj.box 56 z1,Obj.dead,Dn.Obj.loop (fR Tryz.prog 238 11 LoopState.ready none z2)]/\K2
 [Obj.ext none,Obj.box 66 (aq a.r),Obj.box 187 (AV.cu 0),Obj.row 56 a.ts,Obj.box 56 z1,Obj.dead,Dn.Obj.loop (fR Tryz.prog 238 11 LoopState.done (some
 Code.ret) z2),Obj.box 56 (AV.agg [AV.int (toInt (ae u 0)),AV.str (toStr (ae u 1)),AV.int (toInt (ae u 2)),AV.ad 56 (ai (ae u 3))])]):=by kernel_rfl
theorem k42(κ:Kp)(a:uo)(xs:List AV):(AV.cu 0::fM (ju (ct (pf κ a) [.ptr 5 0 [] 0])) [.ptr 5 0 [] 0],Obj.ext (some xs)::fZ (ju (ct (pf κ a) [.ptr 5 0 [] 0])) (gE (pf κ a) (ct (pf κ a) [.ptr 5 0 [] 0])))=([.cu 0, .ptr 1 0 [] 0],[.ext (some xs), .box 56 (CE a)]):=by kernel_rfl
theorem o42(κ:Kp)(a:uo):mV (pf κ a) [.ptr 5 0 [] 0]=true:=by kernel_rfl
noncomputable def I5(κ:Kp):dv:=fun caps st K=>∃a:uo,(caps,st)=([AV.ptr 5 0 [] 0],pf κ a)/\((cM (nth a.ts a.i.toNat)).iS<=100000/\a.xs=oK 56 (nth a.ts a.i.toNat)++a.more)/\
 (K (y4 κ a (some a.more) .ready none)/\∀u:AV,K (y4 κ a none .done (some .ret)++[.box 56 (o7 56 u)]))
theorem Eg(κ:Kp):(I5 κ).iT:=by
 rintro caps st K K' hK ⟨a,h1,h2,h3,h4⟩
 exact⟨a,h1,h2,hK _ h3,fun u=>hK _ (h4 u)⟩
theorem call42(κ:Kp)(args:List AV)(st:List Dn.Obj)(K:AV->List Dn.Obj->Prop)(h:aM M6 zi EK args st K):(BJ κ).call 265 args st K:=h
theorem UO(κ:Kp):kP (BJ κ) 12 265 (I5 κ):=by
 rintro caps st K ⟨a,h1,⟨h3,h4⟩,h5,h6⟩
 obtain⟨rfl,rfl⟩:=Prod.mk.inj h1
 refine⟨oK 56 (nth a.ts a.i.toNat),fun items st'=>(∀x,x∈items->qV 56 x)/\st'=y4 κ a (some (items++a.more)) .ready none,⟨o42 κ a,?_,?_,?_,?_⟩⟩
 ·refine call42 κ _ _ _ ⟨nth a.ts a.i.toNat,?_,h3,fun st' h=>h⟩
  rw[k42,CE,Nat.zero_add];rfl
 ·rw[show(BJ κ).P=Pr κ from rfl,show(pf κ a).length=7 from rfl,Uu]
  exact⟨mo _ _ _ (Nat.lt_succ_self _),by rw[h4];rfl⟩
 ·rintro us rest st' ⟨e1,rfl⟩
  obtain⟨u,hu⟩:=e1 (.ba us) (by simp)
  obtain rfl:=AV.ba.inj hu
  rw[show(BJ κ).P=Pr κ from rfl,show(pf κ a).length=7 from rfl]
  refine Eq.mpr (r42 κ a _ u _ _) ?_
  exact⟨_,rfl,⟨fun x hx=>e1 x (by simp[hx]),rfl⟩,h6 u⟩
 ·rintro st' ⟨_,rfl⟩
  exact h5
noncomputable def uM(κ:Kp):Env:=((BJ κ).addRange 238 11 265 (I5 κ)).dn (fun f=>jM f Nl)
theorem U0(κ:Kp):aB (uM κ):=((U2 κ).addRange (RK κ) (UO κ)).dn _
theorem Q9(κ:Kp):aj (uM κ):=((RK κ).addRange (Eg κ)).dn _
abbrev EH(a:uo):S:=sp 46 [(2, .ptr 2 0 [] 0),(32, .ar 3 0 a.ts.length),(33, .int a.ts.length),(34, .int a.i)] [.ext (some a.xs), .box 66 (aq a.r), .box 187 (.cu 0), .row 56 a.ts]
theorem VU(κ:Kp)(a:uo)(I:Nat->S->Prop)(n:Nat)(K:Exit->S->Prop):(vc (uM κ) 12 238 none 2 (af (Pr κ).toProgram 238 8) (EH a) (bH (uM κ) 238 8 2 I n K))=(
 letI z2:=nth a.ts (0+a.i.toNat)
 letI z3:=a.ts.length
 letI z4:=toInt (ae z2 0)
 letI z5:=toStr (ae z2 1)
 letI z6:=toInt (ae z2 2)
 letI z7:=ai (ae z2 3)
 letI z1:=AV.agg [AV.int z4,AV.str z5,AV.int z6,AV.ad 56 z7]
 aD (decide (a.i<(↑z3:Int))) (a7 (decide ((0:Int)<=a.i)&&decide (a.i<(↑z3:Int))) (∃(e1:uo),([AV.ptr 5 0 [] 0],[Obj.ext (some a.xs),Obj.box 66
 (aq a.r),Obj.box 187 (AV.cu 0),Obj.row 56 a.ts,Obj.box 56 z1,Obj.box 56 z1,Dn.Obj.loop (fR Tryz.prog 238 11 LoopState.ready none (fK (bz 46) [(2,AV.ptr 2
 0 [] 0),(7,AV.ptr 4 0 [] 0),(32,AV.ar 3 0 a.ts.length),(33,AV.int (↑z3:Int)),(34,AV.int a.i),(35,AV.bool true),(36,AV.ptr 3 (0+a.i.toNat) [] 0),
 (37,AV.agg [AV.int z4,AV.str z5,AV.int z6,AV.ad 56 z7]),(38,AV.agg [AV.int z4,AV.str z5,AV.int z6,AV.ad 56 z7]),(39,AV.bI 265 [AV.ptr 5 0 [] 0])]))])
 =([AV.ptr 5 0 [] 0],[Obj.ext (some e1.xs),Obj.box 66 (aq e1.r),Obj.box 187 (AV.cu 0),Obj.row 56 e1.ts,Obj.box 56 (AV.agg [AV.int (toInt (ae (nth e1.ts (0
 +e1.i.toNat)) 0)),AV.str (toStr (ae (nth e1.ts (0+e1.i.toNat)) 1)),AV.int (toInt (ae (nth e1.ts (0+e1.i.toNat)) 2)),AV.ad 56 (ai (ae (nth e1.ts (0+
 e1.i.toNat)) 3))]),Obj.box 56 (AV.agg [AV.int (toInt (ae (nth e1.ts (0+e1.i.toNat)) 0)),AV.str (toStr (ae (nth e1.ts (0+e1.i.toNat)) 1)),AV.int (toInt
 (ae (nth e1.ts (0+e1.i.toNat)) 2)),AV.ad 56 (ai (ae (nth e1.ts (0+e1.i.toNat)) 3))]),Dn.Obj.loop (fR Tryz.prog 238 11 LoopState.ready none (fK (bz 46)
 [(2,AV.ptr 2 0 [] 0),(7,AV.ptr 4 0 [] 0),(32,AV.ar 3 0 e1.ts.length),(33,AV.int (↑(e1.ts.length):Int)),(34,AV.int e1.i),(35,AV.bool true),(36,
 AV.ptr 3 (0+e1.i.toNat) [] 0),(37,AV.agg [AV.int (toInt (ae (nth e1.ts (0+e1.i.toNat)) 0)),AV.str (toStr (ae (nth e1.ts (0+e1.i.toNat)) 1)),AV.int
 (toInt (ae (nth e1.ts (0+e1.i.toNat)) 2)),AV.ad 56 (ai (ae (nth e1.ts (0+e1.i.toNat)) 3))]),(38,AV.agg [AV.int (toInt (ae (nth e1.ts (0+e1.i.toNat))
 0)),AV.str (toStr (ae (nth e1.ts (0+e1.i.toNat)) 1)),AV.int (toInt (ae (nth e1.ts (0+e1.i.toNat)) 2)),AV.ad 56 (ai (ae (nth e1.ts (0+e1.i.toNat))
 3))]),(39,AV.bI 265 [AV.ptr 5 0 [] 0])]))])/\(Tm.iS (cM (nth e1.ts e1.i.toNat))<=100000/\e1.xs=oK 56 (nth e1.ts e1.i.toNat)++e1.more)/\(∃(e0:Nat),
 e0<n/\I e0 (sp 46 [(2,AV.ptr 2 0 [] 0),(32,AV.ar 3 0 a.ts.length),(33,AV.int (↑z3:Int)),(34,AV.int (IntKind.wrap IntKind.i64 (a.i+(1:Int))))]
 [Obj.ext (some e1.more),Obj.box 66 (aq e1.r),Obj.box 187 (AV.cu 0),Obj.row 56 e1.ts]))/\∀(e0:AV),K Exit.ret (sp 46 [] [Obj.ext none,Obj.box 66 (aq
 e1.r)]))) (K (Exit.exit 2) (sp 46 [] [Obj.ext (some a.xs),Obj.box 66 (aq a.r)]))):=by kernel_rfl
def zI(a:uo):Prop:=a.ts.length<=aR/\0<=a.i/\a.i<=a.ts.length/\aX (aa (a.ts.drop a.i.toNat))<=100000/\a.xs=fr 56 (a.ts.drop a.i.toNat)
def Kf(a:uo):Out (Exit×S):= .all (fun _:Bool=>True) fun b=> .aD b (.one (.exit 2,sp 46 [] [.ext (some []), .box 66 (aq a.r)])) (.one (.ret,sp 46 [] [.ext none, .box 66 (aq a.r)]))
theorem VJ(κ:Kp):bh (uM κ) 12 238 8 (aP 2 EH zI Kf):=by
 refine aL (fun a=>a.ts.length - a.i.toNat) ?_
 rintro⟨xs,more,r,bl,m,i⟩ K ⟨h1,h2,h3,h5,h6⟩ ho
 simp only at h1 h2 h3 h5 h6
 rw[show(uM κ).P=Pr κ from rfl]
 refine Eq.mpr (VU κ ⟨xs,more,r,bl,m,i⟩ _ _ K) ?_
 have ho1:=ho true trivial
 have ho2:=ho false trivial
 simp only[Out.run,aD] at ho1 ho2
 simp only[aR] at h1
 simp only[ah,an,aa1,aa3,aa2]
 refine⟨fun hi=>⟨⟨h2,hi⟩,?_⟩,fun hi=>?_⟩
 ·have hc:=tM m i.toNat (by omega)
  rw[tu _ m i.toNat (by omega)] at h6
  rw[aW (n:=i+1) (by omega) (by omega)]
  refine⟨⟨xs,fr 56 (m.drop (i.toNat+1)),r,bl,m,i⟩,rfl,⟨by simp only;omega,h6⟩,⟨_,?_,⟨_,more,r,bl,m,i+1⟩,rfl,⟨by simpa[aR] using h1,by simp only;omega,by simp only;omega,?_,?_⟩,rfl,ho⟩,fun _=>ho2⟩
  ·simp only;omega
  ·simp only[show(i+1).toNat=i.toNat+1 by omega];omega
  ·simp only[show(i+1).toNat=i.toNat+1 by omega]
 ·rw[aa9 (by omega)] at h6
  subst h6
  exact ho1
noncomputable def I0(κ:Kp):Env:=(uM κ).ak 238 8 (aP 2 EH zI Kf)
theorem U1(κ:Kp):aB (I0 κ):=(U0 κ).ak (Q9 κ) (VJ κ)
theorem SA(κ:Kp):aj (I0 κ):=(Q9 κ).ak aF
theorem y42(κ:Kp)(a:cg)(K:AV->List Dn.Obj->Prop):(a9 (I0 κ) 12 238 [.cu 0, .ptr 1 0 [] 0] [.ext (some a.xs), .box 66 (aq a)] K)=(
 letI z1:=Pg.toProgram (Env.P (J1 κ))
 letI z2:=Pg.toProgram (Env.P (uM κ))
 (O6 a.hl=true->af z1 238 3=af z1 238 3/\∃(e2:uo),sp 46 [(2,AV.ptr 2 0 [] 0),(3,AV.ar 3 0 0),(14,AV.ad 72 a.bl),(15,AV.int (↑(a.bl.length):
 Int)),(16,AV.int 0)] [Obj.ext (some a.xs),Obj.box 66 (aq a),Obj.box 187 (AV.cu 0),Obj.row 56 []]=sp 46 [(2,AV.ptr 2 0 [] 0),(3,AV.ar 3 0
 e2.ts.length),(14,AV.ad 72 e2.bl),(15,AV.int (↑(e2.bl.length):Int)),(16,AV.int e2.i)] [Obj.ext (some e2.xs),Obj.box 66 (aq e2.r),Obj.box 187 (AV.cu
 0),Obj.row 56 e2.ts]/\(e2.bl.length<=9223372036854775807/\(0:Int)<=e2.i/\e2.i<=(↑(e2.bl.length):Int)/\List.length (e2.ts++dC (List.drop e2.i.toNat
 e2.bl))<=100000)/\af z2 238 8=af z2 238 8/\∃(e1:uo),sp 46 [(2,AV.ptr 2 0 [] 0),(32,AV.ar 3 0 (List.length (e2.ts++dC (List.drop e2.i.toNat
 e2.bl)))),(33,AV.int (↑(List.length (e2.ts++dC (List.drop e2.i.toNat e2.bl))):Int)),(34,AV.int 0)] [Obj.ext (some e2.xs),Obj.box 66 (aq e2.r),Obj.box
 187 (AV.cu 0),Obj.row 56 (e2.ts++dC (List.drop e2.i.toNat e2.bl))]=sp 46 [(2,AV.ptr 2 0 [] 0),(32,AV.ar 3 0 e1.ts.length),(33,AV.int (↑(e1.ts.length)
 :Int)),(34,AV.int e1.i)] [Obj.ext (some e1.xs),Obj.box 66 (aq e1.r),Obj.box 187 (AV.cu 0),Obj.row 56 e1.ts]/\(e1.ts.length<=9223372036854775807/\(0:
 Int)<=e1.i/\e1.i<=(↑(e1.ts.length):Int)/\aX (aa (List.drop e1.i.toNat e1.ts))<=100000/\e1.xs=fr 56 (List.drop e1.i.toNat e1.ts))/\∀(e0:Bool),True
 ->aD e0 (K (AV.ba []) [Obj.ext (some []),Obj.box 66 (aq e1.r)]) (K (AV.ba []) [Obj.ext none,Obj.box 66 (aq e1.r)]))/\a7 (decide ((0+a.hl.length+1)*57<=
 70368744177664)) (af z1 238 3=af z1 238 3/\∃(e2:uo),sp 46 [(2,AV.ptr 2 0 [] 0),(3,AV.ar 3 0 (0+a.hl.length)),(14,AV.ad 72 a.bl),(15,AV.int
 (↑(a.bl.length):Int)),(16,AV.int 0)] [Obj.ext (some a.xs),Obj.box 66 (aq a),Obj.box 187 (AV.cu 0),Obj.row 56 ([]++a.hl)]=sp 46 [(2,AV.ptr 2 0 [] 0),
 (3,AV.ar 3 0 e2.ts.length),(14,AV.ad 72 e2.bl),(15,AV.int (↑(e2.bl.length):Int)),(16,AV.int e2.i)] [Obj.ext (some e2.xs),Obj.box 66 (aq e2.r),Obj.box
 187 (AV.cu 0),Obj.row 56 e2.ts]/\(e2.bl.length<=9223372036854775807/\(0:Int)<=e2.i/\e2.i<=(↑(e2.bl.length):Int)/\List.length (e2.ts++dC (List.drop
 e2.i.toNat e2.bl))<=100000)/\af z2 238 8=af z2 238 8/\∃(e1:uo),sp 46 [(2,AV.ptr 2 0 [] 0),(32,AV.ar 3 0 (List.length (e2.ts++dC (List.drop
 e2.i.toNat e2.bl)))),(33,AV.int (↑(List.length (e2.ts++dC (List.drop e2.i.toNat e2.bl))):Int)),(34,AV.int 0)] [Obj.ext (some e2.xs),Obj.box 66 (aq
 e2.r),Obj.box 187 (AV.cu 0),Obj.row 56 (e2.ts++dC (List.drop e2.i.toNat e2.bl))]=sp 46 [(2,AV.ptr 2 0 [] 0),(32,AV.ar 3 0 e1.ts.length),(33,AV.int
 (↑(e1.ts.length):Int)),(34,AV.int e1.i)] [Obj.ext (some e1.xs),Obj.box 66 (aq e1.r),Obj.box 187 (AV.cu 0),Obj.row 56 e1.ts]/\(e1.ts.length<=
 9223372036854775807/\(0:Int)<=e1.i/\e1.i<=(↑(e1.ts.length):Int)/\aX (aa (List.drop e1.i.toNat e1.ts))<=100000/\e1.xs=fr 56 (List.drop e1.i.toNat
 e1.ts))/\∀(e0:Bool),True->aD e0 (K (AV.ba []) [Obj.ext (some []),Obj.box 66 (aq e1.r)]) (K (AV.ba []) [Obj.ext none,Obj.box 66 (aq e1.r)]))):=by kernel_rfl
def PE(a:cg):List AV×List Dn.Obj:=([.cu 0, .ptr 1 0 [] 0],[.ext (some (fr 56 (bc 56 a.hl a.bl))), .box 66 (aq a)])
def cV(a:cg):Prop:=aX (aa (bc 56 a.hl a.bl))<=100000/\a.bl.length<=100000
def KW(_:cg):Out (AV×List Dn.Obj):= .all (fun st'=>qP st') fun st'=> .one (.ba [],st')
theorem c42(κ:Kp):bq (I0 κ) 12 238 (aM PE cV KW):=by
 refine aZ ?_
 rintro⟨xs,more,rel,hl,bl,line,i⟩ K ⟨h1,h2⟩ ho
 have hn: ∀b,K (.ba []) [.ext none,b]:=fun b=>ho _ trivial
 have h0: ∀b,K (.ba []) [.ext (some []),b]:=fun b=>ho _ trivial
 simp only at h1 h2
 have hl1:=fk (aa (bc 56 hl bl))
 rw[eC] at hl1
 have hle:hl.length<=100000:=by
  have:(bc 56 hl bl).length=hl.length+(dC bl).length:=by simp[bc,dC]
  omega
 refine Eq.mpr (y42 κ ⟨fr 56 (bc 56 hl bl),more,rel,hl,bl,line,i⟩ K) ?_
 have hz: ∀ts:List AV,ts=hl->(ts++dC (List.drop (Int.toNat 0) bl))=bc 56 hl bl:=fun ts h=>by subst h;rfl
 have fin: ∀ts:List AV,ts=hl->∃a:uo,sp 46 [(2, .ptr 2 0 [] 0),(32, .ar 3 0 (ts++dC (List.drop (Int.toNat 0) bl)).length),(33, .int (ts++dC (List.drop (Int.toNat 0) bl)).length),(34, .int 0)] [.ext (some (fr 56 (bc 56 hl bl))), .box 66 (aq ⟨fr 56 (bc 56 hl bl),more,rel,hl,bl,line,i⟩), .box 187 (.cu 0), .row 56 (ts++dC (List.drop (Int.toNat 0) bl))]=EH a/\zI a/\∀y:Bool,True->aD y (K (.ba []) [.ext (some []), .box 66 (aq a.r)]) (K (.ba []) [.ext none, .box 66 (aq a.r)]):=by
  intro ts h
  refine⟨⟨_,[],⟨fr 56 (bc 56 hl bl),more,rel,hl,bl,line,i⟩,bl,ts++dC (List.drop (Int.toNat 0) bl),0⟩,rfl,⟨?_,?_,?_,?_,?_⟩,fun y _=>?_⟩
  ·simp only[hz ts h,aR];omega
  ·simp only;omega
  ·simp only;omega
  ·show aX (aa (List.drop (Int.toNat 0) (ts++dC (List.drop (Int.toNat 0) bl))))<=100000
   rw[hz ts h];exact h1
  ·rw[hz ts h];rfl
  ·cases y
   ·exact hn _
   ·exact h0 _
 refine⟨fun e=>?_,?_⟩
 ·obtain rfl:hl=[]:=by
   cases hl with
   |nil=>rfl
   |cons=>cases e
  refine⟨rfl,⟨_,[],⟨fr 56 (bc 56 [] bl),more,rel,[],bl,line,i⟩,bl,[],0⟩,rfl,⟨by simp only;omega,by simp only;omega,by simp only;omega,?_⟩,rfl,fin [] rfl⟩
  rw[hz [] rfl];exact Nat.le_trans hl1 h1
 ·rw[an,aa1]
  refine⟨by simp only;omega,rfl,⟨_,[],⟨fr 56 (bc 56 hl bl),more,rel,hl,bl,line,i⟩,bl,[]++hl,0⟩,?_,⟨by simp only;omega,by simp only;omega,by simp only;omega,?_⟩,rfl,fin ([]++hl) rfl⟩
  ·rw[Nat.zero_add];rfl
  ·rw[hz ([]++hl) rfl];exact Nat.le_trans hl1 h1
set_option maxRecDepth 20000 in
noncomputable def Oz(κ:Kp):Env:=(I0 κ).ay 238 (aM PE cV KW)
theorem Z7(κ:Kp):aB (Oz κ):=(U1 κ).ay (SA κ) (c42 κ)
theorem Xd(κ:Kp):aj (Oz κ):=(SA κ).ay aJ
def aG(a:cg):Rl:=⟨⟨a.rel,aa a.hl⟩,c6 a.bl⟩
noncomputable abbrev Q8(a:cg)(κ:Kp)(st:LoopState)(p:Option Code):Dn.Obj:=
 .loop (fR (Pr κ).toProgram 124 6 st p (fK (bz 31) [(0,aq a),(1, .ptr 0 0 [] 0),(2, .nil),(3, .ptr 1 0 [] 0),(4, .ptr 3 0 [] 0),(6,aq a),(7, .bool (aK (aG a))),(8, .bool false),(9, .mp 2),(10,aq a),(11, .bI 238 [.ptr 4 0 [] 0])]))
noncomputable abbrev oP(κ:Kp)(a:cg):List Dn.Obj:=[.box 66 (aq a), .box 54 .nil, .map 9 4 [], .box 177 (.mp 2), .box 66 (aq a),Q8 a κ .ready none]
theorem ZC(κ:Kp)(a:cg)(Q:List Dn.Obj->Prop):(tidy (Pr κ).toProgram 6 (dO (oP κ a) (ct (oP κ a) [.ptr 4 0 [] 0])) Q)=(
 Q [Obj.box 66 (aq a),Obj.box 54 (AV.ar 6 0 0),Dn.Obj.map 9 4 [],Obj.box 177 (AV.mp 2),Obj.dead,Dn.Obj.loop (fR Tryz.prog 124 6 LoopState.ready none (fK (bz
 31) [(0,aq a),(1,AV.ptr 0 0 [] 0),(2,AV.nil),(3,AV.ptr 1 0 [] 0),(4,AV.ptr 3 0 [] 0),(6,aq a),(7,AV.bool (aK (aG a))),(8,AV.bool false),(9,
 AV.mp 2),(10,aq a),(11,AV.bI 238 [AV.ptr 4 0 [] 0])])),Obj.row 9 []]):=by kernel_rfl
noncomputable abbrev yO(κ:Kp)(a:cg)(vs:List ByteArray)(es:List (Value×AV)):List Dn.Obj:=[.box 66 (aq a), .box 54 (.ar 6 0 vs.length), .map 9 4 es, .box 177 (.mp 2), .dead,Q8 a κ .ready none, .row 9 (strs vs)]
theorem r12(κ:Kp)(a:cg)(vs:List ByteArray)(es:List (Value×AV))(u:AV)(Q:List Dn.Obj->Prop)(K2:List Dn.Obj->Prop):(gG (vc (Oz κ) 12) 5 [o7 56 u] (yO κ a vs es) (fun r st''=>match r with| .lit (.bool true)=>tidy (Pr κ).toProgram 6 st'' Q| .lit (.bool false)=>K2 st''|_=>False))=(
 letI z1:=fR Tryz.prog 124 6 LoopState.ready none (fK (bz 31) [(0,aq a),(1,AV.ptr 0 0 [] 0),(2,AV.nil),(3,AV.ptr 1 0 [] 0),(4,AV.ptr 3 0 [] 0),(6,aq
  a),(7,AV.bool (aK (aG a))),(8,AV.bool false),(9,AV.mp 2),(10,aq a),(11,AV.bI 238 [AV.ptr 4 0 [] 0])])
 letI z2:=Q [Obj.box 66 (aq a),Obj.box 54 (AV.ar 6 0 vs.length),Dn.Obj.map 9 4 es,Obj.box 177 (AV.mp 2),Obj.dead,Dn.Obj.loop z1,Obj.row 9 (strs vs)]
 letI z3:=Value.string (toStr (ae u 1))
 aD (toInt (ae u 0) != (1:Int)) z2 (aD (Dn.toBool (dh es z3 (AV.bool false))) z2 (a7 (decide ((vs.length+1+1)*17<=70368744177664)) (Q [Obj.box 66 (aq
 a),Obj.box 54 (AV.ar 6 0 (vs.length+1)),Dn.Obj.map 9 4 (eM es z3 (AV.bool true)),Obj.box 177 (AV.mp 2),Obj.dead,Dn.Obj.loop z1,Obj.row 9 (List.take
 vs.length (strs vs)++[AV.str (toStr (ae u 1))])])))):=by kernel_rfl
theorem k12(κ:Kp)(a:cg)(xs:List AV):(AV.cu 0::fM (ju (ct (oP κ a) [.ptr 4 0 [] 0])) [.ptr 4 0 [] 0],Obj.ext (some xs)::fZ (ju (ct (oP κ a) [.ptr 4 0 [] 0])) (gE (oP κ a) (ct (oP κ a) [.ptr 4 0 [] 0])))=([.cu 0, .ptr 1 0 [] 0],[.ext (some xs), .box 66 (aq a)]):=by kernel_rfl
theorem o12(κ:Kp)(a:cg):mV (oP κ a) [.ptr 4 0 [] 0]=true:=by kernel_rfl
noncomputable def Kb(κ:Kp):dv:=fun caps st K=>∃a:cg,(caps,st)=([AV.ptr 4 0 [] 0],oP κ a)/\cV a/\K (yO κ a (my [] (fc (aG a))) (bM (my [] (fc (aG a)))))
theorem CI(κ:Kp):(Kb κ).iT:=by
 rintro caps st K K' hK ⟨a,h1,h2,h3⟩
 exact⟨a,h1,h2,hK _ h3⟩
theorem call12(κ:Kp)(args:List AV)(st:List Dn.Obj)(K:AV->List Dn.Obj->Prop)(h:aM PE cV KW args st K):(Oz κ).call 238 args st K:=h
theorem V6(κ:Kp):kP (Oz κ) 12 238 (Kb κ):=by
 rintro caps st K ⟨a,h1,h3,h5⟩
 obtain⟨rfl,rfl⟩:=Prod.mk.inj h1
 have hv:=ig 56 a.rel a.hl a.bl
 rw[←sj 56] at hv
 have hb:(fc (aG a)).length<=100000:=by
  have h6:=cr (aa (bc 56 a.hl a.bl))
  rw[ig 56 a.rel a.hl a.bl] at h6
  exact Nat.le_trans h6 h3.1
 have hd:=kt (fc (aG a)) []
 refine⟨fr 56 (bc 56 a.hl a.bl),fun items st'=>∃vs,(∀x,x∈items->qV 56 x)/\st'=yO κ a vs (bM vs)/\vs++my vs (items.flatMap vX)=my [] (fc (aG a)),⟨o12 κ a,?_,?_,?_,?_⟩⟩
 ·refine call12 κ _ _ _ ⟨a,?_,h3,fun st' h=>h⟩
  rw[k12];rfl
 ·rw[show(Oz κ).P=Pr κ from rfl,show(oP κ a).length=6 from rfl,ZC]
  exact⟨[],Ax _ _,rfl,by rw[hv];rfl⟩
 ·rintro us rest st' ⟨vs,e1,rfl,e3⟩
  obtain⟨u,hu⟩:=e1 (.ba us) (by simp)
  obtain rfl:=AV.ba.inj hu
  rw[show(Oz κ).P=Pr κ from rfl,show(oP κ a).length=6 from rfl]
  refine Eq.mpr (r12 κ a vs _ u _ _) ?_
  have e1': ∀x,x∈rest->qV 56 x:=fun x hx=>e1 x (by simp[hx])
  have hi:vX (.ba [o7 56 u])=bif decide (toInt (ae u 0)=1) then[toStr (ae u 1)] else[]:=rfl
  rw[List.flatMap_cons,hi] at e3
  have hin:Dn.toBool (dh (bM vs) (.string (toStr (ae u 1))) (.lit (.bool false)))=vs.contains (toStr (ae u 1)):=oG _ _
  rw[hin]
  simp only[ah,an,bne_iff_ne,bne_eq_false_iff_eq,aa1]
  refine⟨fun e=>⟨vs,e1',rfl,?_⟩,fun e=>⟨fun e4=>⟨vs,e1',rfl,?_⟩,fun e4=>⟨?_,vs++[toStr (ae u 1)],e1',?_,?_⟩⟩⟩
  ·rw[aa5 e] at e3;exact e3
  ·rw[aa7 e,aa8,List.singleton_append,my,e4] at e3;exact e3
  ·have:=congrArg List.length e3
   rw[ab9] at this;omega
  ·rw[NK,←aU vs,List.take_length]
   simp only[yO,gR,aU,ab9,List.length_cons,List.length_nil]
   rfl
  ·rw[aa7 e,aa8,List.singleton_append,my,e4,aa6] at e3
   simpa using e3
 ·rintro st' ⟨vs,_,rfl,e3⟩
  have e4:vs=my [] (fc (aG a)):=by simpa[my] using e3
  rw[e4];exact h5
noncomputable def Jz(κ:Kp):Env:=((Oz κ).addRange 124 6 238 (Kb κ)).dn (fun f=>jM f Nl)
theorem V7(κ:Kp):aB (Jz κ):=((Z7 κ).addRange (Xd κ) (V6 κ)).dn _
theorem Ta(κ:Kp):aj (Jz κ):=((Xd κ).addRange (CI κ)).dn _
theorem Zm(κ:Kp)(a:cg)(K:AV->List Dn.Obj->Prop):(a9 (Jz κ) 12 124 [aq a] [] K)=(
 letI z1:=AV.agg [AV.agg [AV.str a.rel,AV.ad 56 a.hl],AV.ad 72 a.bl,AV.int a.line]
 a7 (decide (a.hl.length<=9223372036854775807)&&decide (a.bl.length<=9223372036854775807)) (aD (!aK {head:={rel:=a.rel,l:=aa a.hl},body:=c6 a.bl}) (K AV.nil []) (∃(e0:cg),([AV.ptr 4 0 [] 0],[Obj.box 66 z1,Obj.box 54 AV.nil,Dn.Obj.map 9 4 [],Obj.box 177 (AV.mp 2),Obj.box 66 z1,Dn.Obj.loop (fR Tryz.prog 124 6 LoopState.ready none (fK (bz 31) [(0,AV.agg [AV.agg [AV.str a.rel,AV.ad 56 a.hl],AV.ad 72 a.bl,AV.int a.line]),(1,AV.ptr 0 0 [] 0),(2,AV.nil),(3,AV.ptr 1 0 [] 0),(4,AV.ptr 3 0 [] 0),(6,AV.agg [AV.agg [AV.str a.rel,AV.ad 56 a.hl],AV.ad 72 a.bl,AV.int a.line]),(7,AV.lit (Value.bool (aK {head:={rel:=a.rel,l:=aa a.hl},body:=c6 a.bl}))),(8,AV.bool false),(9,AV.mp 2),(10,AV.agg [AV.agg [AV.str a.rel,AV.ad 56 a.hl],AV.ad 72 a.bl,AV.int a.line]),(11,AV.bI 238 [AV.ptr 4 0 [] 0])]))])=([AV.ptr 4 0 [] 0],[Obj.box 66 (AV.agg [AV.agg [AV.str e0.rel,AV.ad 56 e0.hl],AV.ad 72 e0.bl,AV.int e0.line]),Obj.box 54 AV.nil,Dn.Obj.map 9 4 [],Obj.box 177 (AV.mp 2),Obj.box 66 (AV.agg [AV.agg [AV.str e0.rel,AV.ad 56 e0.hl],AV.ad 72 e0.bl,AV.int e0.line]),Dn.Obj.loop (fR Tryz.prog 124 6 LoopState.ready none (fK (bz 31) [(0,AV.agg [AV.agg [AV.str e0.rel,AV.ad 56 e0.hl],AV.ad 72 e0.bl,AV.int e0.line]),(1,AV.ptr 0 0 [] 0),(2,AV.nil),(3,AV.ptr 1 0 [] 0),(4,AV.ptr 3 0 [] 0),(6,AV.agg [AV.agg [AV.str e0.rel,AV.ad 56 e0.hl],AV.ad 72 e0.bl,AV.int e0.line]),(7,AV.bool (aK (aG e0))),(8,AV.bool false),(9,AV.mp 2),(10,AV.agg [AV.agg [AV.str e0.rel,AV.ad 56 e0.hl],AV.ad 72 e0.bl,AV.int e0.line]),(11,AV.bI 238 [AV.ptr 4 0 [] 0])]))])/\(aX (aa (bc 56 e0.hl e0.bl))<=100000/\e0.bl.length<=100000)/\K (AV.ar 0 0 (List.length (my [] (fc (aG e0))))) [Obj.row 9 (strs (my [] (fc (aG e0))))]))):=by kernel_rfl
def TV(a:cg):List AV×List Dn.Obj:=([aq a],[])
def Kg(a:cg):Prop:=aK (aG a)=true/\cV a
def Kj(a:cg):Out (AV×List Dn.Obj):= .one (.ar 0 0 (cP (aG a)).length,[.row 9 (strs (cP (aG a)))])
theorem c12(κ:Kp):bq (Jz κ) 12 124 (aM TV Kg Kj):=by
 refine aZ ?_
 rintro⟨xs,more,rel,hl,bl,line,i⟩ K ⟨h0,h1,h2⟩ ho
 refine Eq.mpr (Zm κ ⟨xs,more,rel,hl,bl,line,i⟩ K) ?_
 have hr:aK ⟨⟨rel,aa hl⟩,c6 bl⟩=true:=h0
 simp only at h1 h2
 have hl1:=fk (aa (bc 56 hl bl))
 rw[eC] at hl1
 have hle:hl.length<=100000:=by
  have:(bc 56 hl bl).length=hl.length+(dC bl).length:=by simp[bc,dC]
  omega
 simp only[hr,an,ah,aa2,aa1]
 refine⟨⟨by omega,by omega⟩,(fun e=>nomatch e),fun _=>⟨⟨xs,more,rel,hl,bl,line,i⟩,?_,⟨h1,h2⟩,?_⟩⟩
 ·rw[show aK (aG ⟨xs,more,rel,hl,bl,line,i⟩)=true from h0]
 ·simp only[Kj,Out.run,cP,h0,aa8] at ho
  exact ho
set_option maxRecDepth 20000 in
noncomputable def Ks(κ:Kp):Env:=(Jz κ).ay 124 (aM TV Kg Kj)
theorem e12(κ:Kp):aB (Ks κ):=(V7 κ).ay (Ta κ) (c12 κ)
theorem X6(κ:Kp):aj (Ks κ):=(Ta κ).ay aJ
theorem nR: ∀l m:List Tm,aX (l++m)=aX l+aX m
 |[],m=>by simp[aX]
 |t::l,m=>by simp only[List.cons_append,aX,nR l m];omega
theorem ou{a:cg}(h:cV a):aX (aa a.hl)<=100000:=by
 have:=h.1
 unfold bc aa at this
 rw[List.map_append,nR] at this
 unfold aa;omega
theorem Ep: ∀(l:List AV) (x:AV),x∈l->iJ (cE x)<=aX (aa (dC l))
 |[],_,h=>by simp at h
 | y::l,x,h=>by
  have e:aX (aa (dC (y::l)))=iJ (cE y)+aX (aa (dC l)):=by
   unfold dC aa
   rw[List.flatMap_cons,List.map_append,nR,List.map_append,nR]
   simp only[iJ,cE,Df,aa,ac1,ac2,pV]
  rw[e]
  rcases List.mem_cons.1 h with rfl|h
  ·omega
  ·have:=Ep l x h;omega
theorem kJ{a:cg}(h:cV a){i:Nat}(hi:i<a.bl.length):iJ (cE (nth a.bl i))<=100000:=by
 have h1:=h.1
 have e:bc 56 a.hl a.bl=a.hl++dC a.bl:=rfl
 rw[e] at h1
 unfold aa at h1
 rw[List.map_append,nR] at h1
 have:=Ep a.bl (nth a.bl i) (by rw[bg _ _ hi];exact List.getElem_mem hi)
 unfold aa at this;omega
theorem j8(l:List AV){i:Nat}(hi:i<l.length):dJ (c6 l) i=cE (nth l i):=by
 unfold dJ c6
 rw[List.getD_eq_getElem?_getD,List.getElem?_map,ab7 hi,bg l i hi];rfl
def rS(x:AV):LA:=⟨toInt (ae x 0),toStr (ae (ae x 1) 0),ai (ae (ae x 1) 1),toInt (ae (ae x 2) 0),toStr (ae (ae x 2) 1),toInt (ae (ae x 2) 2),ai (ae (ae x 2) 3),toInt (ae (ae x 3) 0),toStr (ae (ae x 3) 1),toInt (ae (ae x 3) 2),ai (ae (ae x 3) 3)⟩
theorem ee(x:AV):(rS x).lt=cE x:=by rw[lt_eq];rfl
structure QT where
 a:cg
 k:Int
 i:Int
 vs:List ByteArray
abbrev Od(a:QT):S:=sp 53 [(1, .int a.k),(2, .ptr 0 0 [] 0),(5, .ptr 1 0 [] 0),(17, .ad 72 a.a.bl),(18, .int a.a.bl.length),(19, .int a.i)] [.box 66 (aq a.a), .box 178 (.mp 2), .map 9 4 (bM a.vs)]
theorem x39(κ:Kp)(a:cg)(k i:Int)(es:List (Value×AV))(I:Nat->S->Prop)(n:Nat)(K:Exit->S->Prop):(vc (Ks κ) 12 188 none 0 (af (Pr κ).toProgram 188 4) (sp 53 [(1, .int k),(2, .ptr 0 0 [] 0),(5, .ptr 1 0 [] 0),(17, .ad 72 a.bl),(18, .int a.bl.length),(19, .int i)] [.box 66 (aq a), .box 178 (.mp 2), .map 9 4 es]) (bH (Ks κ) 188 4 0 I n K))=(
 letI z3:=nth a.bl i.toNat
 letI z4:=IntKind.wrap IntKind.i64 (i+(1:Int))
 letI z5:=a.bl.length
 letI z1:=∃(e2:List AV),([AV.ad 56 [AV.agg [AV.int (toInt (ae (ae z3 2) 0)),AV.str (toStr (ae (ae z3 2) 1)),AV.int (toInt (ae (ae z3 2) 2)),AV.ad 56 (ai
  (ae (ae z3 2) 3))]]],aI)=([AV.ad 56 e2],aI)/\bC e2/\∃(e1:List AV×List (Value×AV)),([AV.mp 0,AV.ad 9 (List.take (List.length (aw (aa e2)))
  (List.drop 0 (strs (aw (aa e2)))))],[Dn.Obj.map 9 4 es])=([AV.mp 0,AV.ad 9 e1.1],[Dn.Obj.map 9 4 e1.2])/\bj e1/\∃(e0:Nat),e0<n/\I e0 (sp 53 [(1,
  AV.int k),(2,AV.ptr 0 0 [] 0),(5,AV.ptr 1 0 [] 0),(17,AV.ad 72 a.bl),(18,AV.int (↑z5:Int)),(19,AV.int z4)] [Obj.box 66 (aq a),Obj.box 178 (AV.mp
  2),Dn.Obj.map 9 4 (fm e1.2 e1.1)])
 letI z2:=∃(e2:LA),([AV.agg [AV.int (toInt (ae z3 0)),AV.agg [AV.str (toStr (ae (ae z3 1) 0)),AV.ad 56 (ai (ae (ae z3 1) 1))],AV.agg [AV.int (toInt (ae
  (ae z3 2) 0)),AV.str (toStr (ae (ae z3 2) 1)),AV.int (toInt (ae (ae z3 2) 2)),AV.ad 56 (ai (ae (ae z3 2) 3))],AV.agg [AV.int (toInt (ae (ae z3 3) 0)),
  AV.str (toStr (ae (ae z3 3) 1)),AV.int (toInt (ae (ae z3 3) 2)),AV.ad 56 (ai (ae (ae z3 3) 3))]]],aI)=([AV.agg [AV.int e2.op,AV.agg [AV.str e2.s,AV.ad 56
  e2.l],AV.agg [AV.int e2.o1,AV.str e2.s1,AV.int e2.n1,AV.ad 56 e2.l1],AV.agg [AV.int e2.o2,AV.str e2.s2,AV.int e2.n2,AV.ad 56 e2.l2]]],aI)/\fQ e2/\∃
  (e1:List AV×List (Value×AV)),([AV.mp 0,AV.ad 9 (List.take (List.length (eb (LA.lt e2))) (List.drop 0 (strs (eb (LA.lt e2)))))],[Dn.Obj.map 9 4 es])=
  ([AV.mp 0,AV.ad 9 e1.1],[Dn.Obj.map 9 4 e1.2])/\bj e1/\∃(e0:Nat),e0<n/\I e0 (sp 53 [(1,AV.int k),(2,AV.ptr 0 0 [] 0),(5,AV.ptr 1 0 [] 0),(17,
  AV.ad 72 a.bl),(18,AV.int (↑z5:Int)),(19,AV.int z4)] [Obj.box 66 (aq a),Obj.box 178 (AV.mp 2),Dn.Obj.map 9 4 (fm e1.2 e1.1)])
 aD (decide (i<(↑z5:Int))) (a7 (decide ((0:Int)<=i)&&decide (i<(↑z5:Int))) (aD (i==k) (z1/\z1/\z1) (z2/\z2))) (K (Exit.exit 0) (sp 53 [(1,
 AV.int k),(2,AV.ptr 0 0 [] 0),(5,AV.ptr 1 0 [] 0)] [Obj.box 66 (aq a),Obj.box 178 (AV.mp 2),Dn.Obj.map 9 4 es]))):=by kernel_rfl
def Et(a:QT):Prop:=cV a.a/\0<=a.k/\0<=a.i/\a.i<=a.a.bl.length
def nL(a:QT):List ByteArray:=a.vs++Cl a.k.toNat (c6 (a.a.bl.drop a.i.toNat)) a.i.toNat
def ub(a:QT):Out (Exit×S):= .one (.exit 0,sp 53 [(1, .int a.k),(2, .ptr 0 0 [] 0),(5, .ptr 1 0 [] 0)] [.box 66 (aq a.a), .box 178 (.mp 2), .map 9 4 (bM (nL a))])
theorem l39(κ:Kp):bh (Ks κ) 12 188 4 (aP 0 Od Et ub):=by
 refine aL (fun a=>a.a.bl.length - a.i.toNat) ?_
 rintro⟨a,k,i,vs⟩ K ⟨h1,h2,h3,h4⟩ ho
 simp only at h1 h2 h3 h4
 rw[show(Ks κ).P=Pr κ from rfl]
 refine Eq.mpr (x39 κ a k i (bM vs) _ _ K) ?_
 simp only[and_self]
 have hl:=h1.2
 simp only[ub,nL,Out.run] at ho
 simp only[ah,an,aa1,aa3,aa2,beq_iff_eq,beq_eq_false_iff_ne]
 refine⟨fun hi=>⟨⟨h3,hi⟩,?_⟩,fun hi=>?_⟩
 ·have hlit:=kJ h1 (i:=i.toNat) (by omega)
  rw[na a.bl i.toNat (by omega),Cl] at ho
  rw[aW (n:=i+1) (by omega) (by omega)]
  refine⟨fun e=>?_,fun e=>?_⟩
  ·subst e
   rw[Nat.beq_refl,aa8,←List.append_assoc] at ho
   have ht:aa [o7 56 (ae (nth a.bl i.toNat) 2)]=[(cE (nth a.bl i.toNat)).x]:=by
    simp only[aa,ac1,ac2,pV];rfl
   have hc:aX [(cE (nth a.bl i.toNat)).x]<=100000:=by
    have:iJ (cE (nth a.bl i.toNat))=aX [(cE (nth a.bl i.toNat)).x,(cE (nth a.bl i.toNat)).y]+aX (cE (nth a.bl i.toNat)).a.l:=rfl
    simp only[aX] at this⊢;omega
   have hv:=cr [(cE (nth a.bl i.toNat)).x]
   refine⟨[o7 56 (ae (nth a.bl i.toNat) 2)],rfl,by simp only[bC,ht];exact hc,⟨strs (aw [(cE (nth a.bl i.toNat)).x]),bM vs⟩,?_,?_,_,?_,⟨a,i,i+1,vs++aw [(cE (nth a.bl i.toNat)).x]⟩,?_,⟨h1,h2,by simp only;omega,by simp only;omega⟩,rfl,?_⟩
   ·simp only[ab1,cQ,ht]
   ·simp only[bj,aU,aR];omega
   ·simp only;omega
   ·simp only[lH]
   ·simp only[ub,nL,Out.run,show(i+1).toNat=i.toNat+1 by omega]
    exact ho
  ·rw[rN (show i.toNat≠k.toNat by omega),aa6,←List.append_assoc] at ho
   have hv:=cr [(cE (nth a.bl i.toNat)).x,(cE (nth a.bl i.toNat)).y]
   have hv2:=cr (cE (nth a.bl i.toNat)).a.l
   have hlen:(eb (cE (nth a.bl i.toNat))).length<=100000:=by
    simp only[eb,iJ,ab9] at hlit⊢;omega
   refine⟨rS (nth a.bl i.toNat),rfl,by rw[fQ,ee];exact hlit,⟨strs (eb (cE (nth a.bl i.toNat))),bM vs⟩,?_,?_,_,?_,⟨a,k,i+1,vs++eb (cE (nth a.bl i.toNat))⟩,?_,⟨h1,h2,by simp only;omega,by simp only;omega⟩,rfl,?_⟩
   ·simp only[ab1,cQ,ee]
   ·simp only[bj,aU,aR];omega
   ·simp only;omega
   ·simp only[lH]
   ·simp only[ub,nL,Out.run,show(i+1).toNat=i.toNat+1 by omega]
    exact ho
 ·rw[aa9 (by omega)] at ho
  simpa[c6,Cl] using ho
noncomputable def mS(κ:Kp):Env:=(Ks κ).ak 188 4 (aP 0 Od Et ub)
theorem Qz(κ:Kp):aB (mS κ):=(e12 κ).ak (X6 κ) (l39 κ)
theorem JC(κ:Kp):aj (mS κ):=(X6 κ).ak aF
def dx(fA:List (Value×AV))(fx:List (Value×AV))(s:ByteArray):Bool:=lB fA s&&lB fx s
structure DO where
 vs:List ByteArray
 i:Int
 fA:List (Value×AV)
 fx:List (Value×AV)
abbrev Aj(R:List AV)(fA:List (Value×AV))(fx:List (Value×AV)):List Dn.Obj:=[.row 9 R, .box 178 (.mp 2), .map 9 4 fA, .box 178 (.mp 4), .map 9 4 fx]
abbrev NG:AV:= .bI 237 [.ptr 1 0 [] 0, .ptr 3 0 [] 0]
abbrev GY(a:DO):S:=sp 19 [(0, .ar 0 0 (strs a.vs).length),(1,NG),(7, .int (strs a.vs).length),(8, .int a.i)] (Aj (strs a.vs) a.fA a.fx)
theorem xFO(κ:Kp)(a:DO)(I:Nat->S->Prop)(n:Nat)(K:Exit->S->Prop):(vc (mS κ) 12 190 none 5 (af (Pr κ).toProgram 190 2) (GY a) (bH (mS κ) 190 2 5 I n K))=(
 letI z1:=K Exit.ret (sp 19 [(4,AV.int a.i)] [Obj.row 9 (strs a.vs),Obj.box 178 (AV.mp 2),Dn.Obj.map 9 4 a.fA,Obj.box 178 (AV.mp 4),Dn.Obj.map 9 4 a.fx])
 letI z2:=List.length (strs a.vs)
 letI z3:=Value.string (toStr (nth (strs a.vs) (0+a.i.toNat)))
 aD (decide (a.i<(↑z2:Int))) (a7 (decide ((0:Int)<=a.i)&&decide (a.i<(↑z2:Int))) (aD (!Dn.toBool (dh a.fA z3 (AV.bool false))) z1 (aD (!Dn.toBool
 (dh a.fx z3 (AV.bool false))) z1 (∃(e0:Nat),e0<n/\I e0 (sp 19 [(0,AV.ar 0 0 z2),(1,AV.bI 237 [AV.ptr 1 0 [] 0,AV.ptr 3 0 [] 0]),(7,AV.int (↑z2:
 Int)),(8,AV.int (IntKind.wrap IntKind.i64 (a.i+(1:Int))))] [Obj.row 9 (strs a.vs),Obj.box 178 (AV.mp 2),Dn.Obj.map 9 4 a.fA,Obj.box 178 (AV.mp 4),
 Dn.Obj.map 9 4 a.fx]))))) (K (Exit.exit 0) (sp 19 [] [Obj.row 9 (strs a.vs),Obj.box 178 (AV.mp 2),Dn.Obj.map 9 4 a.fA,Obj.box 178 (AV.mp 4),Dn.Obj.map 9 4
 a.fx]))):=by kernel_rfl
def Ec(a:DO):Prop:=a.vs.length<=aR/\0<=a.i/\a.i<=a.vs.length/\∀s,s∈a.vs.take a.i.toNat->dx a.fA a.fx s=true
def Ce(a:DO):Out (Exit×S):=
 .aD (a.vs.all (dx a.fA a.fx)) (.one (.exit 0,sp 19 [] (Aj (strs a.vs) a.fA a.fx)))
  (.all (fun j:Int=>vg (dx a.fA a.fx) a.vs j) fun j=> .one (.ret,sp 19 [(4, .int j)] (Aj (strs a.vs) a.fA a.fx)))
theorem lFO(κ:Kp):bh (mS κ) 12 190 2 (aP 5 GY Ec Ce):=by
 refine aL (fun a=>a.vs.length - a.i.toNat) ?_
 rintro⟨vs,i,fA,fx⟩ K ⟨h1,h2,h3,h4⟩ ho
 simp only at h1 h2 h3 h4
 rw[show(mS κ).P=Pr κ from rfl]
 refine Eq.mpr (xFO κ ⟨vs,i,fA,fx⟩ _ _ K) ?_
 simp only[aR] at h1
 simp only[Ce,Out.run,ah] at ho
 have hl:=aU vs
 simp only[aU,Nat.zero_add]
 have fin:i<vs.length->∀(hi:i.toNat<vs.length),(dx fA fx vs[i.toNat]=false->K .ret (sp 19 [(4, .int i)] (Aj (strs vs) fA fx)))/\
   (dx fA fx vs[i.toNat]=true->∃m,m<vs.length - i.toNat/\fe GY Ec Ce (fun a=>a.vs.length - a.i.toNat) K m (GY ⟨vs,i+1,fA,fx⟩)):=by
  intro hi0 hi
  refine⟨fun e=>ho.2 ?_ i ⟨h2,hi,h4,e⟩,fun e=>⟨_,?_,⟨vs,i+1,fA,fx⟩,rfl,⟨by simpa[aR] using h1,by simp only;omega,by simp only;omega,?_⟩,rfl,?_⟩⟩
  ·rw[Bool.eq_false_iff]
   intro hall
   rw[List.all_eq_true.1 hall _ (List.getElem_mem hi)] at e
   cases e
  ·simp only;omega
  ·intro s hs
   simp only at hs
   rw[show(i+1).toNat=i.toNat+1 by omega,List.take_succ_eq_append_getElem hi,List.mem_append,List.mem_singleton] at hs
   rcases hs with hs|hs
   ·exact h4 s hs
   ·rw[hs];exact e
  ·simp only[Ce,Out.run,ah]
   exact ho
 simp only[ah,an,aa1,aa3,aa2,Bool.not_eq_true',ab3]
 refine⟨fun hi=>⟨⟨h2,hi⟩,?_⟩,fun hi=>?_⟩
 ·have hi':i.toNat<vs.length:=by omega
  have hn:toStr (nth (strs vs) i.toNat)=vs[i.toNat]:=by rw[tq vs _ hi'];rfl
  rw[aW (n:=i+1) (by omega) (by omega),hn]
  have hf:=fin hi hi'
  simp only[GY,aU] at hf
  exact⟨fun e=>hf.1 (by unfold dx lB;rw[e];rfl),fun e=>⟨fun e2=>hf.1 (by unfold dx lB;rw[e,e2];rfl),fun e2=>hf.2 (by unfold dx lB;rw[e,e2];rfl)⟩⟩
 ·refine ho.1 (List.all_eq_true.2 fun s hs=>h4 s ?_)
  rw[List.take_of_length_le (by omega)];exact hs
noncomputable def NI(κ:Kp):Env:=(mS κ).ak 190 2 (aP 5 GY Ec Ce)
theorem Z3(κ:Kp):aB (NI κ):=(Qz κ).ak (JC κ) (lFO κ)
theorem XK(κ:Kp):aj (NI κ):=(JC κ).ak aF
structure GO where
 R:List AV
 i:Int
 j:Int
 fA:List (Value×AV)
 fx:List (Value×AV)
 P:List ByteArray
 ws:List ByteArray
abbrev AF(a:GO):S:=sp 42 [(0, .ar 0 0 a.R.length),(1,NG),(5, .int a.i),(6, .int a.j)] (Aj a.R a.fA a.fx)
theorem Zv(κ:Kp)(a:GO)(I:Nat->S->Prop)(n:Nat)(K:Exit->S->Prop):(vc (NI κ) 12 123 none 5 (af (Pr κ).toProgram 123 5) (AF a) (bH (NI κ) 123 5 5 I n K))=(
 letI z2:=toStr (nth a.R (0+a.j.toNat))
 letI z3:=IntKind.wrap IntKind.i64 (a.j+(1:Int))
 letI z1:=∃(e0:Nat),e0<n/\I e0 (sp 42 [(0,AV.ar 0 0 a.R.length),(1,AV.bI 237 [AV.ptr 1 0 [] 0,AV.ptr 3 0 [] 0]),(5,AV.int a.i),(6,AV.int z3)]
  [Obj.row 9 a.R,Obj.box 178 (AV.mp 2),Dn.Obj.map 9 4 a.fA,Obj.box 178 (AV.mp 4),Dn.Obj.map 9 4 a.fx])
 letI z4:=a.j<(↑(a.R.length):Int)
 aD (decide z4) (a7 (decide ((0:Int)<=a.j)&&decide z4) (aD (!Dn.toBool (dh a.fA (Value.string z2) (AV.bool false))) z1 (aD (!!Dn.toBool (dh a.fx
 (Value.string z2) (AV.bool false))) (a7 (decide ((0:Int)<=a.i)&&decide (a.i<(↑(a.R.length):Int))) (∃(e0:Nat),e0<n/\I e0 (sp 42 [(0,AV.ar 0 0
 a.R.length),(1,AV.bI 237 [AV.ptr 1 0 [] 0,AV.ptr 3 0 [] 0]),(5,AV.int (IntKind.wrap IntKind.i64 (a.i+(1:Int)))),(6,AV.int z3)] [Obj.row 9 (b8 a.R (0
 +a.i.toNat) (AV.str z2)),Obj.box 178 (AV.mp 2),Dn.Obj.map 9 4 a.fA,Obj.box 178 (AV.mp 4),Dn.Obj.map 9 4 a.fx]))) z1))) (K (Exit.exit 0) (sp 42 [(0,AV.ar 0
 0 a.R.length),(5,AV.int a.i)] [Obj.row 9 a.R,Obj.box 178 (AV.mp 2),Dn.Obj.map 9 4 a.fA,Obj.box 178 (AV.mp 4),Dn.Obj.map 9 4 a.fx]))):=by kernel_rfl
def yl(a:GO):Prop:=a.R.length<=aR/\0<=a.i/\a.i<a.j/\a.j<=a.R.length/\a.R.take a.i.toNat=strs a.P/\a.R.drop a.j.toNat=strs a.ws
def Bx(a:GO):Out (Exit×S):= .all (fun R:List AV=>R.length=a.R.length/\R.take (a.P++a.ws.filter (dx a.fA a.fx)).length=strs (a.P++a.ws.filter (dx a.fA a.fx)))
 fun R=> .one (.exit 0,sp 42 [(0, .ar 0 0 a.R.length),(5, .int (a.P++a.ws.filter (dx a.fA a.fx)).length)] (Aj R a.fA a.fx))
theorem Y3(κ:Kp):bh (NI κ) 12 123 5 (aP 5 AF yl Bx):=by
 refine aL (fun a=>a.R.length - a.j.toNat) ?_
 rintro⟨R,i,j,fA,fx,P,ws⟩ K ⟨h1,h2,h3,h4,h5,h6⟩ ho
 simp only at h1 h2 h3 h4 h5 h6
 rw[show(NI κ).P=Pr κ from rfl]
 refine Eq.mpr (Zv κ ⟨R,i,j,fA,fx,P,ws⟩ _ _ K) ?_
 simp only[aR] at h1
 simp only[Bx,Out.run] at ho
 simp only[Nat.zero_add]
 have hP:P.length=i.toNat:=by
  have:=congrArg List.length h5
  rw[List.length_take,aU] at this;omega
 have fin: ∀(s:ByteArray) (l:List ByteArray),ws=s::l->j<R.length->nth R j.toNat= .lit (.string s)->
   (dx fA fx s=false->∃m,m<R.length - j.toNat/\fe AF yl Bx (fun a=>a.R.length - a.j.toNat) K m (AF ⟨R,i,j+1,fA,fx,P,l⟩))/\
   (dx fA fx s=true->∃m,m<R.length - j.toNat/\fe AF yl Bx (fun a=>a.R.length - a.j.toNat) K m (AF ⟨b8 R i.toNat (.lit (.string s)),i+1,j+1,fA,fx,P++[s],l⟩)):=by
  rintro s l rfl hj hn
  obtain⟨_,_,h7⟩:=jo (l:=strs l) h6
  refine⟨fun e=>⟨_,?_,_,rfl,⟨by simpa[aR] using h1,h2,by simp only;omega,by simp only;omega,h5,?_⟩,rfl,?_⟩,fun e=>⟨_,?_,_,rfl,⟨by simpa[aR,gp] using h1,by simp only;omega,by simp only;omega,by simp only[gp];omega,?_,?_⟩,rfl,?_⟩⟩
  ·simp only;omega
  ·simp only[show(j+1).toNat=j.toNat+1 by omega];exact h7
  ·intro y hy
   have:=ho y
   simp only[List.filter_cons,e,Bool.false_eq_true,if_false] at hy this⊢
   exact this hy
  ·simp only[gp];omega
  ·simp only[show(i+1).toNat=i.toNat+1 by omega]
   rw[rj _ _ _ (by omega),h5,gR];rfl
  ·simp only[show(j+1).toNat=j.toNat+1 by omega]
   rw[rI _ _ _ _ (by omega)];exact h7
  ·intro y hy
   have:=ho y
   simp only[List.filter_cons,e,if_true,gp,List.append_assoc,List.singleton_append] at hy this⊢
   exact this hy
 simp only[ah,an,aa1,aa3,aa2,Bool.not_eq_true',ab3]
 refine⟨fun hj=>⟨⟨by omega,hj⟩,?_⟩,fun hj=>?_⟩
 ·cases ws with
  |nil=>
   have:=congrArg List.length h6
   rw[List.length_drop,aU] at this
   simp at this;omega
  |cons s l=>
   obtain⟨_,hn,_⟩:=jo (l:=strs l) h6
   have hn':toStr (nth R j.toNat)=s:=by rw[hn];rfl
   have hf:=fin s l rfl hj hn
   simp only[AF,gp] at hf
   rw[aW (n:=i+1) (by omega) (by omega),aW (n:=j+1) (by omega) (by omega),hn']
   exact⟨fun e=>hf.1 (by unfold dx lB;rw[e];rfl),fun e=>⟨fun e2=>⟨⟨by omega,by omega⟩,hf.2 (by unfold dx lB;rw[e,e2];rfl)⟩,fun e2=>hf.1 (by unfold dx lB;rw[e,e2];rfl)⟩⟩
 ·have hw:ws=[]:=by
   have:=congrArg List.length h6
   rw[List.length_drop,aU] at this
   cases ws with
   |nil=>rfl
   |cons=>simp at this;omega
  subst hw
  have:=ho R ⟨rfl,by simp only[List.filter_nil,List.append_nil,hP];exact h5⟩
  simp only[List.filter_nil,List.append_nil,hP,Int.toNat_of_nonneg h2] at this
  exact this
noncomputable def T8(κ:Kp):Env:=(NI κ).ak 123 5 (aP 5 AF yl Bx)
theorem eGO(κ:Kp):aB (T8 κ):=(Z3 κ).ak (XK κ) (Y3 κ)
theorem mGO(κ:Kp):aj (T8 κ):=(XK κ).ak aF
theorem yGO(κ:Kp)(a:DO)(K:AV->List Dn.Obj->Prop):(a9 (T8 κ) 12 123 [.ar 0 0 (strs a.vs).length,NG] (Aj (strs a.vs) a.fA a.fx) K)=(
 letI z1:=List.length (strs a.vs)
 letI z2:=Pg.toProgram (Env.P (mS κ))
 letI z3:=Pg.toProgram (Env.P (NI κ))
 af z2 190 2=af z2 190 2/\∃(e3:DO),sp 19 [(0,AV.ar 0 0 z1),(1,AV.bI 237 [AV.ptr 1 0 [] 0,AV.ptr 3 0 [] 0]),(7,AV.int (↑z1:Int)),(8,AV.int 0)] [Obj.row 9 (strs a.vs),Obj.box 178 (AV.mp 2),Dn.Obj.map 9 4 a.fA,Obj.box 178 (AV.mp 4),Dn.Obj.map 9 4 a.fx]=sp 19 [(0,AV.ar 0 0 (List.length (strs e3.vs))),(1,AV.bI 237 [AV.ptr 1 0 [] 0,AV.ptr 3 0 [] 0]),(7,AV.int (↑(List.length (strs e3.vs)):Int)),(8,AV.int e3.i)] [Obj.row 9 (strs e3.vs),Obj.box 178 (AV.mp 2),Dn.Obj.map 9 4 e3.fA,Obj.box 178 (AV.mp 4),Dn.Obj.map 9 4 e3.fx]/\(e3.vs.length<=9223372036854775807/\(0:Int)<=e3.i/\e3.i<=(↑(e3.vs.length):Int)/\∀(e0:ByteArray),List.Mem e0 (List.take e3.i.toNat e3.vs)->dx e3.fA e3.fx e0=true)/\aD (List.all e3.vs (dx e3.fA e3.fx)) (K (AV.ad 9 (List.take z1 (List.drop 0 (strs e3.vs)))) [Obj.l4 9 (strs e3.vs),Obj.box 178 (AV.mp 2),Dn.Obj.map 9 4 e3.fA,Obj.box 178 (AV.mp 4),Dn.Obj.map 9 4 e3.fx]) (∀(e2:Int),((0:Int)<=e2/\∃(e1:e2.toNat<e3.vs.length),(∀(e0:ByteArray),List.Mem e0 (List.take e2.toNat e3.vs)->dx e3.fA e3.fx e0=true)/\dx e3.fA e3.fx e3.vs[e2.toNat]=false)->aD (e2==(-1:Int)) (K (AV.ad 9 (List.take z1 (List.drop 0 (strs e3.vs)))) [Obj.l4 9 (strs e3.vs),Obj.box 178 (AV.mp 2),Dn.Obj.map 9 4 e3.fA,Obj.box 178 (AV.mp 4),Dn.Obj.map 9 4 e3.fx]) (af z3 123 5=af z3 123 5/\∃(e1:GO),sp 42 [(0,AV.ar 0 0 z1),(1,AV.bI 237 [AV.ptr 1 0 [] 0,AV.ptr 3 0 [] 0]),(5,AV.int e2),(6,AV.int (IntKind.wrap IntKind.i64 (e2+(1:Int))))] [Obj.row 9 (strs e3.vs),Obj.box 178 (AV.mp 2),Dn.Obj.map 9 4 e3.fA,Obj.box 178 (AV.mp 4),Dn.Obj.map 9 4 e3.fx]=sp 42 [(0,AV.ar 0 0 e1.R.length),(1,AV.bI 237 [AV.ptr 1 0 [] 0,AV.ptr 3 0 [] 0]),(5,AV.int e1.i),(6,AV.int e1.j)] [Obj.row 9 e1.R,Obj.box 178 (AV.mp 2),Dn.Obj.map 9 4 e1.fA,Obj.box 178 (AV.mp 4),Dn.Obj.map 9 4 e1.fx]/\(e1.R.length<=9223372036854775807/\(0:Int)<=e1.i/\e1.i<e1.j/\e1.j<=(↑(e1.R.length):Int)/\List.take e1.i.toNat e1.R=strs e1.P/\List.drop e1.j.toNat e1.R=strs e1.ws)/\∀(e0:List AV),e0.length=e1.R.length/\List.take (List.length (e1.P++List.filter (dx e1.fA e1.fx) e1.ws)) e0=strs (e1.P++List.filter (dx e1.fA e1.fx) e1.ws)->a7 (true&&decide ((↑(List.length (e1.P++List.filter (dx e1.fA e1.fx) e1.ws)):Int)<=(↑(e1.R.length):Int))&&decide ((↑(e1.R.length):Int)<=(↑(e1.R.length):Int))) (a7 (true&&decide ((↑(List.length (e1.P++List.filter (dx e1.fA e1.fx) e1.ws)):Int)<=(↑(e1.R.length):Int))) (K (AV.ad 9 (List.take (Int.toNat ((↑(List.length (e1.P++List.filter (dx e1.fA e1.fx) e1.ws)):Int) - (0:Int))) (List.drop 0 (dH e0 (0+Int.toNat (↑(List.length (e1.P++List.filter (dx e1.fA e1.fx) e1.ws)):Int)) (Int.toNat ((↑(e1.R.length):Int) - (↑(List.length (e1.P++List.filter (dx e1.fA e1.fx) e1.ws)):Int))) (AV.str {data:= #[]}))))) [Obj.l4 9 (dH e0 (0+Int.toNat (↑(List.length (e1.P++List.filter (dx e1.fA e1.fx) e1.ws)):Int)) (Int.toNat ((↑(e1.R.length):Int) - (↑(List.length (e1.P++List.filter (dx e1.fA e1.fx) e1.ws)):Int))) (AV.str {data:= #[]})),Obj.box 178 (AV.mp 2),Dn.Obj.map 9 4 e1.fA,Obj.box 178 (AV.mp 4),Dn.Obj.map 9 4 e1.fx]))))):=by kernel_rfl
def FL(a:DO):List AV×List Dn.Obj:=([.ar 0 0 a.vs.length,NG],Aj (strs a.vs) a.fA a.fx)
def jZ(a:DO):Prop:=a.vs.length<=aR
def CF(a:DO):Out (AV×List Dn.Obj):= .all (fun _:List AV=>True) fun R=> .one (.ad 9 (strs (a.vs.filter (dx a.fA a.fx))),[.l4 9 R, .box 178 (.mp 2), .map 9 4 a.fA, .box 178 (.mp 4), .map 9 4 a.fx])
theorem U4(κ:Kp):bq (T8 κ) 12 123 (aM FL jZ CF):=by
 refine aZ ?_
 rintro⟨vs,i,fA,fx⟩ K h1 ho
 simp only[jZ] at h1
 simp only[FL]
 rw[←aU vs]
 refine Eq.mpr (yGO κ ⟨vs,i,fA,fx⟩ K) ?_
 refine⟨rfl,⟨vs,0,fA,fx⟩,rfl,⟨h1,by simp only;omega,by simp only;omega,fun s hs=>nomatch hs⟩,?_⟩
 rw[ah]
 refine⟨fun e=>?_,fun e y hy=>?_⟩
 ·have hf:vs.filter (dx fA fx)=vs:=List.filter_eq_self.2 (List.all_eq_true.1 e)
  have:=ho (strs vs) trivial
  simp only[hf] at this
  rw[ab1,List.take_length]
  exact this
 ·have hF:=pU hy
  obtain⟨h0,h2,h3,h4⟩:=hy
  simp only at h0 h2
  simp only[aR] at h1
  rw[ah,beq_iff_eq,beq_eq_false_iff_ne]
  refine⟨fun e2=>by omega,fun _=>⟨rfl,⟨strs vs,y,y+1,fA,fx,vs.take y.toNat,vs.drop (y.toNat+1)⟩,?_,⟨by simp only[aU];omega,h0,by simp only;omega,by simp only[aU];omega,?_,?_⟩,?_⟩⟩
  ·rw[aW (n:=y+1) (by omega) (by omega)]
  ·simp only[strs,List.map_take]
  ·simp only[strs,List.map_drop,show(y+1).toNat=y.toNat+1 by omega]
  ·rintro R ⟨r1,r2⟩
   simp only at r1 r2
   rw[←hF] at r2⊢
   have hle:(vs.filter (dx fA fx)).length<=vs.length:=List.length_filter_le _ _
   rw[an,an]
   refine⟨by simp[aU,hle],by simp[aU,hle],?_⟩
   have:=ho (dH R (0+Int.toNat ((vs.filter (dx fA fx)).length:Int)) (Int.toNat (((strs vs).length:Int) - ((vs.filter (dx fA fx)).length:Int))) (.lit (.string (ByteArray.mk #[])))) trivial
   simp only[Int.toNat_natCast,Nat.zero_add,Int.sub_zero,ab1,nW,r2] at this⊢
   exact this
theorem Uv(κ:Kp): ∀args st K,aM FL jZ CF args st K->dp (Pr κ) 123 args st K:=fun args st K h=>il (eGO κ) (mGO κ) (U4 κ args st K h)
noncomputable def Lf(κ:Kp):Env:=(mS κ).ay 123 (aM FL jZ CF)
theorem Vi(κ:Kp):aB (Lf κ):=(Qz κ).iz (Uv κ)
theorem Tg(κ:Kp):aj (Lf κ):=(JC κ).ay aJ
theorem y39(κ:Kp)(a:cg)(k:Int)(K:AV->List Dn.Obj->Prop):(a9 (Lf κ) 12 188 [aq a, .int k] [] K)=(
 letI z2:=Pg.toProgram (Env.P (Ks κ))
 letI z1:=∃(e7:List AV),([AV.ad 56 a.hl],aI)=([AV.ad 56 e7],aI)/\bC e7/\∃(e6:List AV×List (Value×AV)),([AV.mp 0,AV.ad 9 (List.take
  (List.length (aw (aa e7))) (List.drop 0 (strs (aw (aa e7)))))],[Dn.Obj.map 9 4 []])=([AV.mp 0,AV.ad 9 e6.1],[Dn.Obj.map 9 4 e6.2])/\bj e6/\af z2 188 4=
  af z2 188 4/\∃(e5:QT),sp 53 [(1,AV.int k),(2,AV.ptr 0 0 [] 0),(5,AV.ptr 1 0 [] 0),(17,AV.ad 72 a.bl),(18,AV.int (↑(a.bl.length):Int)),(19,
  AV.int 0)] [Obj.box 66 (aq a),Obj.box 178 (AV.mp 2),Dn.Obj.map 9 4 (fm e6.2 e6.1)]=sp 53 [(1,AV.int e5.k),(2,AV.ptr 0 0 [] 0),(5,AV.ptr 1 0 [] 0),(17,
  AV.ad 72 e5.a.bl),(18,AV.int (↑(List.length e5.a.bl):Int)),(19,AV.int e5.i)] [Obj.box 66 (aq e5.a),Obj.box 178 (AV.mp 2),Dn.Obj.map 9 4 (bM e5.vs)]/\
  ((aX (aa (bc 56 e5.a.hl e5.a.bl))<=100000/\List.length e5.a.bl<=100000)/\(0:Int)<=e5.k/\(0:Int)<=e5.i/\e5.i<=(↑(List.length e5.a.bl):Int))/\a7
  (decide ((0:Int)<=e5.k)&&decide (e5.k<(↑(List.length e5.a.bl):Int))) ((∃(e4:List AV),([AV.ad 56 (ai (ae (ae (nth e5.a.bl e5.k.toNat) 1) 1))],aI)=
  ([AV.ad 56 e4],aI)/\bC e4/\∃(e3:List AV×List (Value×AV)),([AV.mp 0,AV.ad 9 (List.take (List.length (aw (aa e4))) (List.drop 0 (strs (aw (aa
  e4)))))],[Dn.Obj.map 9 4 []])=([AV.mp 0,AV.ad 9 e3.1],[Dn.Obj.map 9 4 e3.2])/\bj e3/\∃(e2:cg),([aq e5.a],aI)=([aq e2],aI)/\(aK (aG e2)=true/\
  aX (aa (bc 56 e2.hl e2.bl))<=100000/\e2.bl.length<=100000)/\∃(e1:DO),([AV.ar 0 0 (List.length (cP (aG e2))),AV.bI 237 [AV.ptr 1 0 [] 0,AV.ptr 3 0 []
  0]],[Obj.row 9 (strs (cP (aG e2))),Obj.box 178 (AV.mp 2),Dn.Obj.map 9 4 (fm e3.2 e3.1),Obj.box 178 (AV.mp 4),Dn.Obj.map 9 4 (bM (nL e5))])=([AV.ar 0 0
  e1.vs.length,AV.bI 237 [AV.ptr 1 0 [] 0,AV.ptr 3 0 [] 0]],[Obj.row 9 (strs e1.vs),Obj.box 178 (AV.mp 2),Dn.Obj.map 9 4 e1.fA,Obj.box 178 (AV.mp 4),
  Dn.Obj.map 9 4 e1.fx])/\jZ e1/\∀(e0:List AV),True->K (AV.ad 9 (strs (List.filter (dx e1.fA e1.fx) e1.vs))) [])/\∃(e4:List AV),([AV.ad 56 (ai (ae (ae
  (nth e5.a.bl e5.k.toNat) 1) 1))],aI)=([AV.ad 56 e4],aI)/\bC e4/\∃(e3:List AV×List (Value×AV)),([AV.mp 0,AV.ad 9 (List.take (List.length (aw (aa
  e4))) (List.drop 0 (strs (aw (aa e4)))))],[Dn.Obj.map 9 4 []])=([AV.mp 0,AV.ad 9 e3.1],[Dn.Obj.map 9 4 e3.2])/\bj e3/\∃(e2:cg),([aq e5.a],aI)=([aq
  e2],aI)/\(aK (aG e2)=true/\aX (aa (bc 56 e2.hl e2.bl))<=100000/\e2.bl.length<=100000)/\∃(e1:DO),([AV.ar 0 0 (List.length (cP (aG e2))),AV.bI 237
  [AV.ptr 1 0 [] 0,AV.ptr 3 0 [] 0]],[Obj.row 9 (strs (cP (aG e2))),Obj.box 178 (AV.mp 2),Dn.Obj.map 9 4 (fm e3.2 e3.1),Obj.box 178 (AV.mp 4),Dn.Obj.map 9 4
  (bM (nL e5))])=([AV.ar 0 0 e1.vs.length,AV.bI 237 [AV.ptr 1 0 [] 0,AV.ptr 3 0 [] 0]],[Obj.row 9 (strs e1.vs),Obj.box 178 (AV.mp 2),Dn.Obj.map 9 4 e1.fA,
  Obj.box 178 (AV.mp 4),Dn.Obj.map 9 4 e1.fx])/\jZ e1/\∀(e0:List AV),True->K (AV.ad 9 (strs (List.filter (dx e1.fA e1.fx) e1.vs))) [])
 z1/\z1):=by kernel_rfl
def LK(a:cg×Int):List AV×List Dn.Obj:=([aq a.1, .int a.2],[])
def zr(a:cg×Int):Prop:=aK (aG a.1)=true/\cV a.1/\0<=a.2/\a.2<a.1.bl.length
def OL(a:cg×Int):Out (AV×List Dn.Obj):= .one (.ad 9 (strs (dX (aG a.1) a.2.toNat)),[])
theorem c39(κ:Kp):bq (Lf κ) 12 188 (aM LK zr OL):=by
 refine aZ ?_
 rintro⟨a,k⟩ K ⟨h1,h2,h3,h4⟩ ho
 refine Eq.mpr (y39 κ a k K) ?_
 simp only at h1 h2 h3 h4
 have hc:=ou h2
 have hv:=cr (aa a.hl)
 have hk:k.toNat<a.bl.length:=by omega
 have hlit:=kJ h2 hk
 simp only[and_self]
 refine⟨a.hl,rfl,hc,⟨strs (aw (aa a.hl)),[]⟩,?_,?_,trivial,⟨a,k,0,aw (aa a.hl)⟩,rfl,⟨h2,h3,by simp only;omega,by simp only;omega⟩,?_⟩
 ·simp only[ab1,cQ]
 ·simp only[bj,aU,aR];omega
 rw[an,aa2,aa1,aa1]
 have hin:aw (aa (ai (ae (ae (nth a.bl k.toNat) 1) 1)))=aw (dJ (aG a).body k.toNat).a.l:=by
  rw[show(aG a).body=c6 a.bl from rfl,j8 _ hk,lt_eq]
 have hcl:aX (aa (ai (ae (ae (nth a.bl k.toNat) 1) 1)))<=100000:=by
  rw[lt_eq] at hlit
  simp only[iJ] at hlit;omega
 have hvl:=cr (aa (ai (ae (ae (nth a.bl k.toNat) 1) 1)))
 refine⟨⟨h3,h4⟩,_,rfl,hcl,⟨strs (aw (aa (ai (ae (ae (nth a.bl k.toNat) 1) 1)))),[]⟩,?_,?_,a,rfl,⟨h1,h2⟩,⟨cP (aG a),0,fm [] (strs (aw (aa (ai (ae (ae (nth a.bl k.toNat) 1) 1))))),bM (nL ⟨a,k,0,aw (aa a.hl)⟩)⟩,rfl,?_,?_⟩
 ·simp only[ab1,cQ]
 ·simp only[bj,aU,aR];omega
 ·have h5:(fc (aG a)).length<=100000:=by
   have h6:=cr (aa (bc 56 a.hl a.bl))
   rw[ig 56 a.rel a.hl a.bl] at h6
   exact Nat.le_trans h6 h2.1
  have h7:=kt (fc (aG a)) []
  simp only[jZ,cP,h1,aa8,aR];omega
 ·intro R _
  have hk2:(fun s=>dx (fm [] (strs (aw (aa (ai (ae (ae (nth a.bl k.toNat) 1) 1)))))) (bM (nL ⟨a,k,0,aw (aa a.hl)⟩)) s)=fun v=>(aw (dJ (aG a).body k.toNat).a.l).contains v&&(NT (aG a) k.toNat).contains v:=by
   funext s
   unfold dx
   rw[oG,hin]
   congr 1
   exact oG _ s
  have hk3:List.filter (dx (fm [] (strs (aw (aa (ai (ae (ae (nth a.bl k.toNat) 1) 1)))))) (bM (nL ⟨a,k,0,aw (aa a.hl)⟩))) (cP (aG a))=dX (aG a) k.toNat:=by
   unfold dX
   exact congrFun (congrArg _ hk2) _
  simp only[hk3]
  exact ho
noncomputable def MN(κ:Kp):Env:=(Lf κ).ay 188 (aM LK zr OL)
theorem e39(κ:Kp):aB (MN κ):=(Vi κ).ay (Tg κ) (c39 κ)
theorem X2(κ:Kp):aj (MN κ):=(Tg κ).ay aJ
end Go.Proofs.YthaiinlfnommnaaGreatDoor
