import Derived.Test.YthaiinlfnommnaaGreatDoorDbM2
import Derived.Test.YthaiinlfnommnaaGreatDoorDbM1
namespace Go.Proofs.YthaiinlfnommnaaGreatDoor
open Go Go.Dn Go.Rl Go.Proofs
attribute [local irreducible] ba vc
set_option maxRecDepth 20000
structure EO where
 xs:List AV
 more:List AV
 t:AV
 m:List AV
 i:Int
abbrev Hw(a:EO):AV:=pg 56 (nth a.m a.i.toNat)
def Oe:List Nat:=[229,265,238]
def Nv(a:AV):List AV×List Dn.Obj:=([.cD 0, .ptr 1 0 [] 0],[.ext (some (oY 56 a)), .box 56 (pg 56 a)])
def Q6(n:Nat)(a:AV):Prop:=(cR a).iZ=n/\n<=100000
def Fj(_:AV):Out (AV×List Dn.Obj):= .all (fun st'=>qH st') fun st'=> .one (.bh [],st')
def LQ(n:Nat):dr:=aL Nv (Q6 n) Fj
noncomputable def Cs(κ:Kp)(r:Nat):Env:=(VQ κ).aw 265 fun args st K=>∃m,m<r/\LQ m args st K
noncomputable abbrev Tv(a:EO)(κ:Kp)(st:LoopState)(p:Option Code):Dn.Obj:=
 .loop (gh (Pr κ).toProgram 265 6 st p (fV (bF 25) [(2, .ptr 2 0 [] 0),(4, .ptr 3 0 [] 0),(11, .ad 56 a.m),(12, .int a.m.length),(13, .int a.i),(14, .bool true),
  (15, .jO 56 (nth a.m a.i.toNat)),(16,Hw a),(17,Hw a),(18, .bL 265 [.ptr 4 0 [] 0])]))
noncomputable abbrev pA(κ:Kp)(a:EO):List Dn.Obj:=[.ext (some a.xs), .box 56 (pg 56 a.t), .box 187 (.cD 0), .box 56 (Hw a), .box 56 (Hw a),Tv a κ .ready none]
noncomputable abbrev Ag(κ:Kp)(a:EO)(o:Option (List AV))(st:LoopState)(p:Option Code):List Dn.Obj:=[.ext o, .box 56 (pg 56 a.t), .box 187 (.cD 0), .box 56 (Hw a), .dead,Tv a κ st p]
theorem s56(κ:Kp)(a:EO)(Q:List Dn.Obj->Prop):(tidy (Pr κ).toProgram 6 (dT (pA κ a) (cy (pA κ a) [.ptr 4 0 [] 0])) Q)=(
 letI z1:=nth a.m a.i.toNat
 letI z2:=toInt (ae z1 0)
 letI z3:=toStr (ae z1 1)
 letI z4:=toInt (ae z1 2)
 letI z5:=ai (ae z1 3)
 Q [Obj.ext (some a.xs),Obj.box 56 (AV.agg [AV.int (toInt (ae a.t 0)),AV.str (toStr (ae a.t 1)),AV.int (toInt (ae a.t 2)),AV.ad 56 (ai (ae a.t 3))]),Obj.box
 187 (AV.cD 0),Obj.box 56 (AV.agg [AV.int z2,AV.str z3,AV.int z4,AV.ad 56 z5]),Obj.dead,Dn.Obj.loop (gh Tryz.prog 265 6 LoopState.ready none (fV (bF 25)
 [(2,AV.ptr 2 0 [] 0),(4,AV.ptr 3 0 [] 0),(11,AV.ad 56 a.m),(12,AV.int (↑(a.m.length):Int)),(13,AV.int a.i),(14,AV.bool true),(15,AV.jO 56 z1),
 (16,AV.agg [AV.int z2,AV.str z3,AV.int z4,AV.ad 56 z5]),(17,AV.agg [AV.int z2,AV.str z3,AV.int z4,AV.ad 56 z5]),(18,AV.bL 265 [AV.ptr 4 0 [] 0])]))]):=by kernel_rfl
theorem r56(κ:Kp)(r:Nat)(a:EO)(o:List AV)(u:AV)(Q:List Dn.Obj->Prop)(K2:List Dn.Obj->Prop):(gT (vc (Cs κ r) 12) 5 [pg 56 u] (Ag κ a (some o) .ready none) (fun r st''=>match r with| .lit (.bool true)=>tidy (Pr κ).toProgram 6 st'' Q| .lit (.bool false)=>K2 st''|_=>False))=(
 letI z3:=nth a.m a.i.toNat
 letI z4:=AV.agg [AV.int (toInt (ae a.t 0)),AV.str (toStr (ae a.t 1)),AV.int (toInt (ae a.t 2)),AV.ad 56 (ai (ae a.t 3))]
 letI z5:=toInt (ae z3 0)
 letI z6:=toStr (ae z3 1)
 letI z7:=toInt (ae z3 2)
 letI z8:=ai (ae z3 3)
 letI z1:=AV.agg [AV.int z5,AV.str z6,AV.int z7,AV.ad 56 z8]
 letI z2:=fV (bF 25) [(2,AV.ptr 2 0 [] 0),(4,AV.ptr 3 0 [] 0),(11,AV.ad 56 a.m),(12,AV.int (↑(a.m.length):Int)),(13,AV.int a.i),(14,AV.bool true),
  (15,AV.jO 56 z3),(16,AV.agg [AV.int z5,AV.str z6,AV.int z7,AV.ad 56 z8]),(17,AV.agg [AV.int z5,AV.str z6,AV.int z7,AV.ad 56 z8]),(18,AV.bL 265
  [AV.ptr 4 0 [] 0])]
 ∃(e0:List AV),o=AV.bh [AV.agg [AV.int (toInt (ae u 0)),AV.str (toStr (ae u 1)),AV.int (toInt (ae u 2)),AV.ad 56 (ai (ae u 3))]]::e0/\Q [Obj.ext
 (some e0),Obj.box 56 z4,Obj.box 187 (AV.cD 0),Obj.box 56 z1,Obj.dead,Dn.Obj.loop (gh Tryz.prog 265 6 LoopState.ready none z2)]/\K2 [Obj.ext none,Obj.box
 56 z4,Obj.box 187 (AV.cD 0),Obj.box 56 z1,Obj.dead,Dn.Obj.loop (gh Tryz.prog 265 6 LoopState.done (some Code.ret) z2),Obj.box 56 (AV.agg [AV.int (toInt (ae
 u 0)),AV.str (toStr (ae u 1)),AV.int (toInt (ae u 2)),AV.ad 56 (ai (ae u 3))])]):=by kernel_rfl
theorem k56(κ:Kp)(a:EO)(xs:List AV):(AV.cD 0::fS (jH (cy (pA κ a) [.ptr 4 0 [] 0])) [.ptr 4 0 [] 0],Obj.ext (some xs)::gq (jH (cy (pA κ a) [.ptr 4 0 [] 0])) (gR (pA κ a) (cy (pA κ a) [.ptr 4 0 [] 0])))=([.cD 0, .ptr 1 0 [] 0],[.ext (some xs), .box 56 (Hw a)]):=by kernel_rfl
theorem o56(κ:Kp)(a:EO):nB (pA κ a) [.ptr 4 0 [] 0]=true:=by kernel_rfl
noncomputable def Mb(κ:Kp)(r:Nat):dB:=fun caps st K=>∃a:EO,(caps,st)=([AV.ptr 4 0 [] 0],pA κ a)/\((cR (nth a.m a.i.toNat)).iZ<r/\(cR (nth a.m a.i.toNat)).iZ<=100000/\a.xs=oY 56 (nth a.m a.i.toNat)++a.more)/\
 (K (Ag κ a (some a.more) .ready none)/\∀u:AV,K (Ag κ a none .done (some .ret)++[.box 56 (pg 56 u)]))
theorem EM(κ:Kp)(r:Nat):(Mb κ r).jf:=by
 rintro caps st K K' hK ⟨a,h1,h2,h3,h4⟩
 exact⟨a,h1,h2,hK _ h3,fun u=>hK _ (h4 u)⟩
theorem OF(κ:Kp)(r:Nat)(args:List AV)(st:List Dn.Obj)(K:AV->List Dn.Obj->Prop)(h: ∃m,m<r/\LQ m args st K):(Cs κ r).call 265 args st K:=h
theorem W1(κ:Kp)(r:Nat):ll (Cs κ r) 12 265 (Mb κ r):=by
 rintro caps st K ⟨a,h1,⟨h2,h3,h4⟩,h5,h6⟩
 obtain⟨rfl,rfl⟩:=Prod.mk.inj h1
 refine⟨oY 56 (nth a.m a.i.toNat),fun items st'=>(∀x,x∈items->rk 56 x)/\st'=Ag κ a (some (items++a.more)) .ready none,⟨o56 κ a,?_,?_,?_,?_⟩⟩
 ·refine OF κ r _ _ _ ⟨_,h2,nth a.m a.i.toNat,?_,⟨rfl,h3⟩,fun st' h=>h⟩
  rw[k56];rfl
 ·rw[show(Cs κ r).P=Pr κ from rfl,show(pA κ a).length=6 from rfl,s56]
  exact⟨mV _ _ _ (Nat.lt_succ_self _),by rw[h4];rfl⟩
 ·rintro us rest st' ⟨e1,rfl⟩
  obtain⟨u,hu⟩:=e1 (.bh us) (by simp)
  obtain rfl:=AV.bh.inj hu
  rw[show(Cs κ r).P=Pr κ from rfl,show(pA κ a).length=6 from rfl]
  refine Eq.mpr (r56 κ r a _ u _ _) ?_
  exact⟨_,rfl,⟨fun x hx=>e1 x (by simp[hx]),rfl⟩,h6 u⟩
 ·rintro st' ⟨_,rfl⟩
  exact h5
noncomputable def y3(κ:Kp)(r:Nat):Env:=((Cs κ r).addRange 265 6 265 (Mb κ r)).dv (fun f=>jk f Oe)
theorem UB(κ:Kp)(r:Nat):aj (Cs κ r):=(Z6 κ).aw (fun _ _ _ _ hK ⟨m,h1,h2⟩=>⟨m,h1,aJ _ _ _ _ hK h2⟩)
theorem x56(κ:Kp)(r:Nat)(a:EO)(I:Nat->S->Prop)(n:Nat)(K:Exit->S->Prop):(vc (y3 κ r) 12 265 none 2 (af (Pr κ).toProgram 265 3) (sp 25 [(2, .ptr 2 0 [] 0),(11, .ad 56 a.m),(12, .int a.m.length),(13, .int a.i)] [.ext (some a.xs), .box 56 (pg 56 a.t), .box 187 (.cD 0)]) (bJ (y3 κ r) 265 3 2 I n K))=(
 letI z2:=nth a.m a.i.toNat
 letI z3:=AV.agg [AV.int (toInt (ae a.t 0)),AV.str (toStr (ae a.t 1)),AV.int (toInt (ae a.t 2)),AV.ad 56 (ai (ae a.t 3))]
 letI z4:=a.i<(↑(a.m.length):Int)
 letI z5:=toInt (ae z2 0)
 letI z6:=toStr (ae z2 1)
 letI z7:=toInt (ae z2 2)
 letI z8:=ai (ae z2 3)
 letI z1:=AV.agg [AV.int z5,AV.str z6,AV.int z7,AV.ad 56 z8]
 aD (decide z4) (a7 (decide ((0:Int)<=a.i)&&decide z4) (∃(e1:EO),([AV.ptr 4 0 [] 0],[Obj.ext (some a.xs),Obj.box 56 z3,Obj.box 187 (AV.cD 0),Obj.box
 56 z1,Obj.box 56 z1,Dn.Obj.loop (gh Tryz.prog 265 6 LoopState.ready none (fV (bF 25) [(2,AV.ptr 2 0 [] 0),(4,AV.ptr 3 0 [] 0),(11,AV.ad 56 a.m),(12,
 AV.int (↑(a.m.length):Int)),(13,AV.int a.i),(14,AV.bool true),(15,AV.jO 56 z2),(16,AV.agg [AV.int z5,AV.str z6,AV.int z7,AV.ad 56 z8]),(17,AV.agg
 [AV.int z5,AV.str z6,AV.int z7,AV.ad 56 z8]),(18,AV.bL 265 [AV.ptr 4 0 [] 0])]))])=([AV.ptr 4 0 [] 0],[Obj.ext (some e1.xs),Obj.box 56 (AV.agg [AV.int
 (toInt (ae e1.t 0)),AV.str (toStr (ae e1.t 1)),AV.int (toInt (ae e1.t 2)),AV.ad 56 (ai (ae e1.t 3))]),Obj.box 187 (AV.cD 0),Obj.box 56 (AV.agg [AV.int
 (toInt (ae (nth e1.m e1.i.toNat) 0)),AV.str (toStr (ae (nth e1.m e1.i.toNat) 1)),AV.int (toInt (ae (nth e1.m e1.i.toNat) 2)),AV.ad 56 (ai (ae (nth e1.m
 e1.i.toNat) 3))]),Obj.box 56 (AV.agg [AV.int (toInt (ae (nth e1.m e1.i.toNat) 0)),AV.str (toStr (ae (nth e1.m e1.i.toNat) 1)),AV.int (toInt (ae (nth e1.m
 e1.i.toNat) 2)),AV.ad 56 (ai (ae (nth e1.m e1.i.toNat) 3))]),Dn.Obj.loop (gh Tryz.prog 265 6 LoopState.ready none (fV (bF 25) [(2,AV.ptr 2 0 [] 0),(4,
 AV.ptr 3 0 [] 0),(11,AV.ad 56 e1.m),(12,AV.int (↑(e1.m.length):Int)),(13,AV.int e1.i),(14,AV.bool true),(15,AV.jO 56 (nth e1.m e1.i.toNat)),(16,
 AV.agg [AV.int (toInt (ae (nth e1.m e1.i.toNat) 0)),AV.str (toStr (ae (nth e1.m e1.i.toNat) 1)),AV.int (toInt (ae (nth e1.m e1.i.toNat) 2)),AV.ad 56 (ai (ae
 (nth e1.m e1.i.toNat) 3))]),(17,AV.agg [AV.int (toInt (ae (nth e1.m e1.i.toNat) 0)),AV.str (toStr (ae (nth e1.m e1.i.toNat) 1)),AV.int (toInt (ae (nth e1.m
 e1.i.toNat) 2)),AV.ad 56 (ai (ae (nth e1.m e1.i.toNat) 3))]),(18,AV.bL 265 [AV.ptr 4 0 [] 0])]))])/\(Tm.iZ (cR (nth e1.m e1.i.toNat))<r/\Tm.iZ (cR (nth
 e1.m e1.i.toNat))<=100000/\e1.xs=oY 56 (nth e1.m e1.i.toNat)++e1.more)/\(∃(e0:Nat),e0<n/\I e0 (sp 25 [(2,AV.ptr 2 0 [] 0),(11,AV.ad 56 a.m),
 (12,AV.int (↑(a.m.length):Int)),(13,AV.int (IntKind.wrap IntKind.i64 (a.i+(1:Int))))] [Obj.ext (some e1.more),Obj.box 56 (AV.agg [AV.int (toInt (ae
 e1.t 0)),AV.str (toStr (ae e1.t 1)),AV.int (toInt (ae e1.t 2)),AV.ad 56 (ai (ae e1.t 3))]),Obj.box 187 (AV.cD 0)]))/\∀(e0:AV),K Exit.ret (sp 25 []
 [Obj.ext none,Obj.box 56 (AV.agg [AV.int (toInt (ae e1.t 0)),AV.str (toStr (ae e1.t 1)),AV.int (toInt (ae e1.t 2)),AV.ad 56 (ai (ae e1.t 3))])]))) (K
 (Exit.exit 0) (sp 25 [] [Obj.ext (some a.xs),Obj.box 56 z3]))):=by kernel_rfl
abbrev P7(a:EO):S:=sp 25 [(2, .ptr 2 0 [] 0),(11, .ad 56 a.m),(12, .int a.m.length),(13, .int a.i)] [.ext (some a.xs), .box 56 (pg 56 a.t), .box 187 (.cD 0)]
def GC(r:Nat)(a:EO):Prop:=a.m.length<=aR/\0<=a.i/\a.i<=a.m.length/\aZ (aa (a.m.drop a.i.toNat))<r/\aZ (aa (a.m.drop a.i.toNat))<=100000/\a.xs=fG 56 (a.m.drop a.i.toNat)
def Kc(a:EO):Out (Exit×S):= .all (fun _:Bool=>True) fun b=> .aD b (.one (.exit 0,sp 25 [] [.ext (some []), .box 56 (pg 56 a.t)])) (.one (.ret,sp 25 [] [.ext none, .box 56 (pg 56 a.t)]))
theorem ve(l:List AV)(i:Nat)(h:i<l.length):aZ (aa (l.drop i))=(cR (nth l i)).iZ+aZ (aa (l.drop (i+1))):=by
 rw[eH l i h,aZ]
theorem l56(κ:Kp)(r:Nat):bj (y3 κ r) 12 265 3 (aO 2 P7 (GC r) Kc):=by
 refine aK (fun a=>a.m.length - a.i.toNat) ?_
 rintro⟨xs,more,t,m,i⟩ K ⟨h1,h2,h3,h4,h5,h6⟩ ho
 simp only at h1 h2 h3 h4 h5 h6
 rw[show(y3 κ r).P=Pr κ from rfl]
 refine Eq.mpr (x56 κ r ⟨xs,more,t,m,i⟩ _ _ K) ?_
 have ho1:=ho true trivial
 have ho2:=ho false trivial
 simp only[Out.run,aD] at ho1 ho2
 simp only[aR] at h1
 simp only[ah,an,aa1,aa3,aa2]
 refine⟨fun hi=>⟨⟨h2,hi⟩,?_⟩,fun hi=>?_⟩
 ·have hc:=ve m i.toNat (by omega)
  rw[vR _ m i.toNat (by omega)] at h6
  rw[aV (n:=i+1) (by omega) (by omega)]
  refine⟨⟨xs,fG 56 (m.drop (i.toNat+1)),t,m,i⟩,rfl,⟨by simp only;omega,by simp only;omega,h6⟩,⟨_,?_,⟨_,more,t,m,i+1⟩,rfl,⟨by simpa[aR] using h1,by simp only;omega,by simp only;omega,?_,?_,?_⟩,rfl,ho⟩,fun _=>ho2⟩
  ·simp only;omega
  ·simp only[show(i+1).toNat=i.toNat+1 by omega];omega
  ·simp only[show(i+1).toNat=i.toNat+1 by omega];omega
  ·simp only[show(i+1).toNat=i.toNat+1 by omega]
 ·rw[aa9 (by omega)] at h6
  subst h6
  exact ho1
noncomputable def Hz(κ:Kp)(r:Nat):Env:=(y3 κ r).ak 265 3 (aO 2 P7 (GC r) Kc)
theorem y56(κ:Kp)(r:Nat)(t:AV)(xs:List AV)(K:AV->List Dn.Obj->Prop):(ba (Hz κ r) 12 265 [.cD 0, .ptr 1 0 [] 0] [.ext (some xs), .box 56 (pg 56 t)] K)=(
 letI z2:=ai (ae t 3)
 letI z1:=AV.agg [AV.int (toInt (ae t 0)),AV.str (toStr (ae t 1)),AV.int (toInt (ae t 2)),AV.ad 56 z2]
 letI z3:=Pg.toProgram (Env.P (y3 κ r))
 ∃(e2:List AV),xs=AV.bh [AV.agg [AV.int (toInt (ae t 0)),AV.str (toStr (ae t 1)),AV.int (toInt (ae t 2)),AV.ad 56 z2]]::e2/\(af z3 265 3=af z3 265
 3/\∃(e1:EO),sp 25 [(2,AV.ptr 2 0 [] 0),(11,AV.ad 56 z2),(12,AV.int (↑(List.length z2):Int)),(13,AV.int 0)] [Obj.ext (some e2),Obj.box 56 z1,
 Obj.box 187 (AV.cD 0)]=sp 25 [(2,AV.ptr 2 0 [] 0),(11,AV.ad 56 e1.m),(12,AV.int (↑(e1.m.length):Int)),(13,AV.int e1.i)] [Obj.ext (some e1.xs),
 Obj.box 56 (AV.agg [AV.int (toInt (ae e1.t 0)),AV.str (toStr (ae e1.t 1)),AV.int (toInt (ae e1.t 2)),AV.ad 56 (ai (ae e1.t 3))]),Obj.box 187 (AV.cD 0)]/\
 (e1.m.length<=9223372036854775807/\(0:Int)<=e1.i/\e1.i<=(↑(e1.m.length):Int)/\aZ (aa (List.drop e1.i.toNat e1.m))<r/\aZ (aa (List.drop e1.i.toNat
 e1.m))<=100000/\e1.xs=fG 56 (List.drop e1.i.toNat e1.m))/\∀(e0:Bool),True->aD e0 (K (AV.bh []) [Obj.ext (some []),Obj.box 56 (AV.agg [AV.int (toInt
 (ae e1.t 0)),AV.str (toStr (ae e1.t 1)),AV.int (toInt (ae e1.t 2)),AV.ad 56 (ai (ae e1.t 3))])]) (K (AV.bh []) [Obj.ext none,Obj.box 56 (AV.agg [AV.int
 (toInt (ae e1.t 0)),AV.str (toStr (ae e1.t 1)),AV.int (toInt (ae e1.t 2)),AV.ad 56 (ai (ae e1.t 3))])]))/\K (AV.bh []) [Obj.ext none,Obj.box 56 z1]):=by kernel_rfl
theorem WS(κ:Kp)(r:Nat)(hp: ∀args st K,(∃m,m<r/\LQ m args st K)->cM (Pr κ) 265 args st K):aB (Hz κ r)/\aj (Hz κ r)/\(Hz κ r).P=Pr κ:=
 have h:aB (Cs κ r):=(VR κ).gU hp
 have h2:aB (y3 κ r):=(h.addRange (UB κ r) (W1 κ r)).dv _
 have hm:aj (y3 κ r):=((UB κ r).addRange (EM κ r)).dv _
 ⟨h2.ak hm (l56 κ r),hm.ak aG,rfl⟩
theorem c56(κ:Kp)(r:Nat):bu (Hz κ r) 12 265 (LQ r):=by
 refine aX ?_
 rintro t K ⟨h1,h2⟩ ho
 have hn: ∀b,K (.bh []) [.ext none,b]:=fun b=>ho _ trivial
 have h0: ∀b,K (.bh []) [.ext (some []),b]:=fun b=>ho _ trivial
 refine Eq.mpr (y56 κ r t _ K) ?_
 rw[dh,Tm.iZ] at h1
 have hl:=fy (aa (ai (ae t 3)))
 rw[eM] at hl
 rw[Ap]
 refine⟨_,rfl,⟨rfl,⟨_,[],t,ai (ae t 3),0⟩,rfl,⟨by simp only;omega,by simp only;omega,by simp only;omega,?_,?_,rfl⟩,?_⟩,hn _⟩
 ·simp only[ab8,ab1];omega
 ·simp only[ab8,ab1];omega
 ·intro y _
  cases y
  ·exact hn _
  ·exact h0 _
def yK(a:AV):Prop:=(cR a).iZ<=100000
theorem q56(κ:Kp): ∀args st K,aL Nv yK Fj args st K->cM (Pr κ) 265 args st K:=by
 rintro args st K ⟨l,h1,h2,h3⟩
 exact aB.tu LQ (Hz κ) (WS κ) (c56 κ) (cR l).iZ args st K ⟨l,h1,⟨rfl,h2⟩,h3⟩
noncomputable def I3(κ:Kp):Env:=(VQ κ).aw 265 (aL Nv yK Fj)
theorem e56(κ:Kp):aB (I3 κ):=(VR κ).gU (q56 κ)
theorem YS(κ:Kp):aj (I3 κ):=(Z6 κ).aw aJ
structure tL where
 xs:List AV
 more:List AV
 r:cm
 bl:List AV
 ts:List AV
 i:Int
abbrev DH(a:tL):AV:=pg 56 (nth a.ts (0+a.i.toNat))
abbrev FA(a:tL):S:=sp 46 [(2, .ptr 2 0 [] 0),(3, .aq 3 0 a.ts.length),(14, .ad 72 a.bl),(15, .int a.bl.length),(16, .int a.i)] [.ext (some a.xs), .box 66 (ar a.r), .box 187 (.cD 0), .row 56 a.ts]
theorem WY(κ:Kp)(a:tL)(I:Nat->S->Prop)(n:Nat)(K:Exit->S->Prop):(vc (I3 κ) 12 238 none 2 (af (Pr κ).toProgram 238 3) (FA a) (bJ (I3 κ) 238 3 2 I n K))=(
 letI z1:=nth a.bl a.i.toNat
 letI z2:=a.i<(↑(a.bl.length):Int)
 letI z3:=ae (ae z1 1) 1
 aD (decide z2) (a7 (decide ((0:Int)<=a.i)&&decide z2) (a7 (decide ((a.ts.length+2+1)*57<=70368744177664)) (a7 (decide ((a.ts.length+2+
 List.length (ai z3)+1)*57<=70368744177664)) (∃(e0:Nat),e0<n/\I e0 (sp 46 [(2,AV.ptr 2 0 [] 0),(3,AV.aq 3 0 (a.ts.length+2+List.length (ai
 z3))),(14,AV.ad 72 a.bl),(15,AV.int (↑(a.bl.length):Int)),(16,AV.int (IntKind.wrap IntKind.i64 (a.i+(1:Int))))] [Obj.ext (some a.xs),Obj.box 66 (ar
 a.r),Obj.box 187 (AV.cD 0),Obj.row 56 (List.take (a.ts.length+2) (List.take a.ts.length a.ts++[AV.agg [AV.int (toInt (ae (ae z1 2) 0)),AV.str (toStr (ae
 (ae z1 2) 1)),AV.int (toInt (ae (ae z1 2) 2)),AV.ad 56 (ai (ae (ae z1 2) 3))],AV.agg [AV.int (toInt (ae (ae z1 3) 0)),AV.str (toStr (ae (ae z1 3) 1)),
 AV.int (toInt (ae (ae z1 3) 2)),AV.ad 56 (ai (ae (ae z1 3) 3))]])++ai z3)]))))) (K (Exit.exit 0) (sp 46 [(2,AV.ptr 2 0 [] 0),(3,AV.aq 3 0 a.ts.length)]
 [Obj.ext (some a.xs),Obj.box 66 (ar a.r),Obj.box 187 (AV.cD 0),Obj.row 56 a.ts]))):=by kernel_rfl
def dK(l:List AV):List AV:=l.flatMap fun a=>[pg 56 (ae a 2),pg 56 (ae a 3)]++ai (ae (ae a 1) 1)
def GU(a:tL):Prop:=a.bl.length<=aR/\0<=a.i/\a.i<=a.bl.length/\(a.ts++dK (a.bl.drop a.i.toNat)).length<=100000
def zB(a:tL):Out (Exit×S):= .one (.exit 0,sp 46 [(2, .ptr 2 0 [] 0),(3, .aq 3 0 (a.ts++dK (a.bl.drop a.i.toNat)).length)] [.ext (some a.xs), .box 66 (ar a.r), .box 187 (.cD 0), .row 56 (a.ts++dK (a.bl.drop a.i.toNat))])
theorem Da(l:List AV)(i:Nat)(h:i<l.length):dK (l.drop i)=[pg 56 (ae (nth l i) 2),pg 56 (ae (nth l i) 3)]++ai (ae (ae (nth l i) 1) 1)++dK (l.drop (i+1)):=by
 rw[ab2 h,bf l i h];rfl
theorem W8(κ:Kp):bj (I3 κ) 12 238 3 (aO 2 FA GU zB):=by
 refine aK (fun a=>a.bl.length - a.i.toNat) ?_
 rintro⟨xs,more,r,bl,ts,i⟩ K ⟨h1,h2,h3,h4⟩ ho
 simp only at h1 h2 h3 h4
 rw[show(I3 κ).P=Pr κ from rfl]
 refine Eq.mpr (WY κ ⟨xs,more,r,bl,ts,i⟩ _ _ K) ?_
 simp only[and_self]
 simp only[zB,Out.run] at ho
 simp only[aR] at h1
 simp only[ah,an,aa1,aa3,aa2]
 refine⟨fun hi=>⟨⟨h2,hi⟩,?_⟩,fun hi=>?_⟩
 ·have hp:=Da bl i.toNat (by omega)
  rw[hp] at h4 ho
  rw[aV (n:=i+1) (by omega) (by omega)]
  simp only[ab9,List.length_cons,List.length_nil] at h4
  refine⟨by omega,by omega,_,?_,⟨xs,more,r,bl,ts++([pg 56 (ae (nth bl i.toNat) 2),pg 56 (ae (nth bl i.toNat) 3)]++ai (ae (ae (nth bl i.toNat) 1) 1)),i+1⟩,?_,⟨by simpa[aR] using h1,by simp only;omega,by simp only;omega,?_⟩,rfl,?_⟩
  ·simp only;omega
  ·simp only[FA,ab9,List.length_cons,List.length_nil,List.take_length]
   rw[List.take_of_length_le (by simp),show ts.length+2+(ai (ae (ae (nth bl i.toNat) 1) 1)).length=ts.length+(0+1+1+(ai (ae (ae (nth bl i.toNat) 1) 1)).length) by omega,List.append_assoc]
   rfl
  ·simp only[ab9,List.length_cons,List.length_nil,show(i+1).toNat=i.toNat+1 by omega];omega
  ·simp only[zB,Out.run,show(i+1).toNat=i.toNat+1 by omega]
   simpa only[List.append_assoc] using ho
 ·rw[aa9 (by omega)] at ho
  simpa[dK] using ho
noncomputable def A4(κ:Kp):Env:=(I3 κ).ak 238 3 (aO 2 FA GU zB)
theorem XV(κ:Kp):aB (A4 κ):=(e56 κ).ak (YS κ) (W8 κ)
theorem SM(κ:Kp):aj (A4 κ):=(YS κ).ak aG
noncomputable abbrev UZ(a:tL)(κ:Kp)(st:LoopState)(p:Option Code):Dn.Obj:=
 .loop (gh (Pr κ).toProgram 238 11 st p (fV (bF 46) [(2, .ptr 2 0 [] 0),(7, .ptr 4 0 [] 0),(32, .aq 3 0 a.ts.length),(33, .int a.ts.length),(34, .int a.i),(35, .bool true),
  (36, .ptr 3 (0+a.i.toNat) [] 0),(37,DH a),(38,DH a),(39, .bL 265 [.ptr 5 0 [] 0])]))
noncomputable abbrev o7(κ:Kp)(a:tL):List Dn.Obj:=[.ext (some a.xs), .box 66 (ar a.r), .box 187 (.cD 0), .row 56 a.ts, .box 56 (DH a), .box 56 (DH a),UZ a κ .ready none]
noncomputable abbrev zX(κ:Kp)(a:tL)(o:Option (List AV))(st:LoopState)(p:Option Code):List Dn.Obj:=[.ext o, .box 66 (ar a.r), .box 187 (.cD 0), .row 56 a.ts, .box 56 (DH a), .dead,UZ a κ st p]
theorem Xi(κ:Kp)(a:tL)(Q:List Dn.Obj->Prop):(tidy (Pr κ).toProgram 7 (dT (o7 κ a) (cy (o7 κ a) [.ptr 5 0 [] 0])) Q)=(
 letI z1:=nth a.ts (0+a.i.toNat)
 letI z2:=toInt (ae z1 0)
 letI z3:=toStr (ae z1 1)
 letI z4:=toInt (ae z1 2)
 letI z5:=ai (ae z1 3)
 Q [Obj.ext (some a.xs),Obj.box 66 (ar a.r),Obj.box 187 (AV.cD 0),Obj.row 56 a.ts,Obj.box 56 (AV.agg [AV.int z2,AV.str z3,AV.int z4,AV.ad 56 z5]),
 Obj.dead,Dn.Obj.loop (gh Tryz.prog 238 11 LoopState.ready none (fV (bF 46) [(2,AV.ptr 2 0 [] 0),(7,AV.ptr 4 0 [] 0),(32,AV.aq 3 0 a.ts.length),(33,
 AV.int (↑(a.ts.length):Int)),(34,AV.int a.i),(35,AV.bool true),(36,AV.ptr 3 (0+a.i.toNat) [] 0),(37,AV.agg [AV.int z2,AV.str z3,AV.int z4,AV.ad
 56 z5]),(38,AV.agg [AV.int z2,AV.str z3,AV.int z4,AV.ad 56 z5]),(39,AV.bL 265 [AV.ptr 5 0 [] 0])]))]):=by kernel_rfl
theorem r42(κ:Kp)(a:tL)(o:List AV)(u:AV)(Q:List Dn.Obj->Prop)(K2:List Dn.Obj->Prop):(gT (vc (A4 κ) 12) 6 [pg 56 u] (zX κ a (some o) .ready none) (fun r st''=>match r with| .lit (.bool true)=>tidy (Pr κ).toProgram 7 st'' Q| .lit (.bool false)=>K2 st''|_=>False))=(
 letI z3:=nth a.ts (0+a.i.toNat)
 letI z4:=toInt (ae z3 0)
 letI z5:=toStr (ae z3 1)
 letI z6:=toInt (ae z3 2)
 letI z7:=ai (ae z3 3)
 letI z1:=AV.agg [AV.int z4,AV.str z5,AV.int z6,AV.ad 56 z7]
 letI z2:=fV (bF 46) [(2,AV.ptr 2 0 [] 0),(7,AV.ptr 4 0 [] 0),(32,AV.aq 3 0 a.ts.length),(33,AV.int (↑(a.ts.length):Int)),(34,AV.int a.i),(35,
  AV.bool true),(36,AV.ptr 3 (0+a.i.toNat) [] 0),(37,AV.agg [AV.int z4,AV.str z5,AV.int z6,AV.ad 56 z7]),(38,AV.agg [AV.int z4,AV.str z5,AV.int z6,
  AV.ad 56 z7]),(39,AV.bL 265 [AV.ptr 5 0 [] 0])]
 ∃(e0:List AV),o=AV.bh [AV.agg [AV.int (toInt (ae u 0)),AV.str (toStr (ae u 1)),AV.int (toInt (ae u 2)),AV.ad 56 (ai (ae u 3))]]::e0/\Q [Obj.ext
 (some e0),Obj.box 66 (ar a.r),Obj.box 187 (AV.cD 0),Obj.row 56 a.ts,Obj.box 56 z1,Obj.dead,Dn.Obj.loop (gh Tryz.prog 238 11 LoopState.ready none z2)]/\K2
 [Obj.ext none,Obj.box 66 (ar a.r),Obj.box 187 (AV.cD 0),Obj.row 56 a.ts,Obj.box 56 z1,Obj.dead,Dn.Obj.loop (gh Tryz.prog 238 11 LoopState.done (some
 Code.ret) z2),Obj.box 56 (AV.agg [AV.int (toInt (ae u 0)),AV.str (toStr (ae u 1)),AV.int (toInt (ae u 2)),AV.ad 56 (ai (ae u 3))])]):=by kernel_rfl
theorem k42(κ:Kp)(a:tL)(xs:List AV):(AV.cD 0::fS (jH (cy (o7 κ a) [.ptr 5 0 [] 0])) [.ptr 5 0 [] 0],Obj.ext (some xs)::gq (jH (cy (o7 κ a) [.ptr 5 0 [] 0])) (gR (o7 κ a) (cy (o7 κ a) [.ptr 5 0 [] 0])))=([.cD 0, .ptr 1 0 [] 0],[.ext (some xs), .box 56 (DH a)]):=by kernel_rfl
theorem o42(κ:Kp)(a:tL):nB (o7 κ a) [.ptr 5 0 [] 0]=true:=by kernel_rfl
noncomputable def KH(κ:Kp):dB:=fun caps st K=>∃a:tL,(caps,st)=([AV.ptr 5 0 [] 0],o7 κ a)/\((cR (nth a.ts a.i.toNat)).iZ<=100000/\a.xs=oY 56 (nth a.ts a.i.toNat)++a.more)/\
 (K (zX κ a (some a.more) .ready none)/\∀u:AV,K (zX κ a none .done (some .ret)++[.box 56 (pg 56 u)]))
theorem Et(κ:Kp):(KH κ).jf:=by
 rintro caps st K K' hK ⟨a,h1,h2,h3,h4⟩
 exact⟨a,h1,h2,hK _ h3,fun u=>hK _ (h4 u)⟩
theorem call42(κ:Kp)(args:List AV)(st:List Dn.Obj)(K:AV->List Dn.Obj->Prop)(h:aL Nv yK Fj args st K):(A4 κ).call 265 args st K:=h
theorem XN(κ:Kp):ll (A4 κ) 12 265 (KH κ):=by
 rintro caps st K ⟨a,h1,⟨h3,h4⟩,h5,h6⟩
 obtain⟨rfl,rfl⟩:=Prod.mk.inj h1
 refine⟨oY 56 (nth a.ts a.i.toNat),fun items st'=>(∀x,x∈items->rk 56 x)/\st'=zX κ a (some (items++a.more)) .ready none,⟨o42 κ a,?_,?_,?_,?_⟩⟩
 ·refine call42 κ _ _ _ ⟨nth a.ts a.i.toNat,?_,h3,fun st' h=>h⟩
  rw[k42,DH,Nat.zero_add];rfl
 ·rw[show(A4 κ).P=Pr κ from rfl,show(o7 κ a).length=7 from rfl,Xi]
  exact⟨mV _ _ _ (Nat.lt_succ_self _),by rw[h4];rfl⟩
 ·rintro us rest st' ⟨e1,rfl⟩
  obtain⟨u,hu⟩:=e1 (.bh us) (by simp)
  obtain rfl:=AV.bh.inj hu
  rw[show(A4 κ).P=Pr κ from rfl,show(o7 κ a).length=7 from rfl]
  refine Eq.mpr (r42 κ a _ u _ _) ?_
  exact⟨_,rfl,⟨fun x hx=>e1 x (by simp[hx]),rfl⟩,h6 u⟩
 ·rintro st' ⟨_,rfl⟩
  exact h5
noncomputable def vo(κ:Kp):Env:=((A4 κ).addRange 238 11 265 (KH κ)).dv (fun f=>jk f Oe)
theorem Wz(κ:Kp):aB (vo κ):=((XV κ).addRange (SM κ) (XN κ)).dv _
theorem SI(κ:Kp):aj (vo κ):=((SM κ).addRange (Et κ)).dv _
abbrev Fi(a:tL):S:=sp 46 [(2, .ptr 2 0 [] 0),(32, .aq 3 0 a.ts.length),(33, .int a.ts.length),(34, .int a.i)] [.ext (some a.xs), .box 66 (ar a.r), .box 187 (.cD 0), .row 56 a.ts]
theorem X9(κ:Kp)(a:tL)(I:Nat->S->Prop)(n:Nat)(K:Exit->S->Prop):(vc (vo κ) 12 238 none 2 (af (Pr κ).toProgram 238 8) (Fi a) (bJ (vo κ) 238 8 2 I n K))=(
 letI z2:=nth a.ts (0+a.i.toNat)
 letI z3:=a.ts.length
 letI z4:=toInt (ae z2 0)
 letI z5:=toStr (ae z2 1)
 letI z6:=toInt (ae z2 2)
 letI z7:=ai (ae z2 3)
 letI z1:=AV.agg [AV.int z4,AV.str z5,AV.int z6,AV.ad 56 z7]
 aD (decide (a.i<(↑z3:Int))) (a7 (decide ((0:Int)<=a.i)&&decide (a.i<(↑z3:Int))) (∃(e1:tL),([AV.ptr 5 0 [] 0],[Obj.ext (some a.xs),Obj.box 66
 (ar a.r),Obj.box 187 (AV.cD 0),Obj.row 56 a.ts,Obj.box 56 z1,Obj.box 56 z1,Dn.Obj.loop (gh Tryz.prog 238 11 LoopState.ready none (fV (bF 46) [(2,AV.ptr 2
 0 [] 0),(7,AV.ptr 4 0 [] 0),(32,AV.aq 3 0 a.ts.length),(33,AV.int (↑z3:Int)),(34,AV.int a.i),(35,AV.bool true),(36,AV.ptr 3 (0+a.i.toNat) [] 0),
 (37,AV.agg [AV.int z4,AV.str z5,AV.int z6,AV.ad 56 z7]),(38,AV.agg [AV.int z4,AV.str z5,AV.int z6,AV.ad 56 z7]),(39,AV.bL 265 [AV.ptr 5 0 [] 0])]))])
 =([AV.ptr 5 0 [] 0],[Obj.ext (some e1.xs),Obj.box 66 (ar e1.r),Obj.box 187 (AV.cD 0),Obj.row 56 e1.ts,Obj.box 56 (AV.agg [AV.int (toInt (ae (nth e1.ts (0
 +e1.i.toNat)) 0)),AV.str (toStr (ae (nth e1.ts (0+e1.i.toNat)) 1)),AV.int (toInt (ae (nth e1.ts (0+e1.i.toNat)) 2)),AV.ad 56 (ai (ae (nth e1.ts (0+
 e1.i.toNat)) 3))]),Obj.box 56 (AV.agg [AV.int (toInt (ae (nth e1.ts (0+e1.i.toNat)) 0)),AV.str (toStr (ae (nth e1.ts (0+e1.i.toNat)) 1)),AV.int (toInt
 (ae (nth e1.ts (0+e1.i.toNat)) 2)),AV.ad 56 (ai (ae (nth e1.ts (0+e1.i.toNat)) 3))]),Dn.Obj.loop (gh Tryz.prog 238 11 LoopState.ready none (fV (bF 46)
 [(2,AV.ptr 2 0 [] 0),(7,AV.ptr 4 0 [] 0),(32,AV.aq 3 0 e1.ts.length),(33,AV.int (↑(e1.ts.length):Int)),(34,AV.int e1.i),(35,AV.bool true),(36,
 AV.ptr 3 (0+e1.i.toNat) [] 0),(37,AV.agg [AV.int (toInt (ae (nth e1.ts (0+e1.i.toNat)) 0)),AV.str (toStr (ae (nth e1.ts (0+e1.i.toNat)) 1)),AV.int
 (toInt (ae (nth e1.ts (0+e1.i.toNat)) 2)),AV.ad 56 (ai (ae (nth e1.ts (0+e1.i.toNat)) 3))]),(38,AV.agg [AV.int (toInt (ae (nth e1.ts (0+e1.i.toNat))
 0)),AV.str (toStr (ae (nth e1.ts (0+e1.i.toNat)) 1)),AV.int (toInt (ae (nth e1.ts (0+e1.i.toNat)) 2)),AV.ad 56 (ai (ae (nth e1.ts (0+e1.i.toNat))
 3))]),(39,AV.bL 265 [AV.ptr 5 0 [] 0])]))])/\(Tm.iZ (cR (nth e1.ts e1.i.toNat))<=100000/\e1.xs=oY 56 (nth e1.ts e1.i.toNat)++e1.more)/\(∃(e0:Nat),
 e0<n/\I e0 (sp 46 [(2,AV.ptr 2 0 [] 0),(32,AV.aq 3 0 a.ts.length),(33,AV.int (↑z3:Int)),(34,AV.int (IntKind.wrap IntKind.i64 (a.i+(1:Int))))]
 [Obj.ext (some e1.more),Obj.box 66 (ar e1.r),Obj.box 187 (AV.cD 0),Obj.row 56 e1.ts]))/\∀(e0:AV),K Exit.ret (sp 46 [] [Obj.ext none,Obj.box 66 (ar
 e1.r)]))) (K (Exit.exit 2) (sp 46 [] [Obj.ext (some a.xs),Obj.box 66 (ar a.r)]))):=by kernel_rfl
def AG(a:tL):Prop:=a.ts.length<=aR/\0<=a.i/\a.i<=a.ts.length/\aZ (aa (a.ts.drop a.i.toNat))<=100000/\a.xs=fG 56 (a.ts.drop a.i.toNat)
def Mx(a:tL):Out (Exit×S):= .all (fun _:Bool=>True) fun b=> .aD b (.one (.exit 2,sp 46 [] [.ext (some []), .box 66 (ar a.r)])) (.one (.ret,sp 46 [] [.ext none, .box 66 (ar a.r)]))
theorem WI(κ:Kp):bj (vo κ) 12 238 8 (aO 2 Fi AG Mx):=by
 refine aK (fun a=>a.ts.length - a.i.toNat) ?_
 rintro⟨xs,more,r,bl,m,i⟩ K ⟨h1,h2,h3,h5,h6⟩ ho
 simp only at h1 h2 h3 h5 h6
 rw[show(vo κ).P=Pr κ from rfl]
 refine Eq.mpr (X9 κ ⟨xs,more,r,bl,m,i⟩ _ _ K) ?_
 have ho1:=ho true trivial
 have ho2:=ho false trivial
 simp only[Out.run,aD] at ho1 ho2
 simp only[aR] at h1
 simp only[ah,an,aa1,aa3,aa2]
 refine⟨fun hi=>⟨⟨h2,hi⟩,?_⟩,fun hi=>?_⟩
 ·have hc:=ve m i.toNat (by omega)
  rw[vR _ m i.toNat (by omega)] at h6
  rw[aV (n:=i+1) (by omega) (by omega)]
  refine⟨⟨xs,fG 56 (m.drop (i.toNat+1)),r,bl,m,i⟩,rfl,⟨by simp only;omega,h6⟩,⟨_,?_,⟨_,more,r,bl,m,i+1⟩,rfl,⟨by simpa[aR] using h1,by simp only;omega,by simp only;omega,?_,?_⟩,rfl,ho⟩,fun _=>ho2⟩
  ·simp only;omega
  ·simp only[show(i+1).toNat=i.toNat+1 by omega];omega
  ·simp only[show(i+1).toNat=i.toNat+1 by omega]
 ·rw[aa9 (by omega)] at h6
  subst h6
  exact ho1
noncomputable def JA(κ:Kp):Env:=(vo κ).ak 238 8 (aO 2 Fi AG Mx)
theorem XM(κ:Kp):aB (JA κ):=(Wz κ).ak (SI κ) (WI κ)
theorem S1(κ:Kp):aj (JA κ):=(SI κ).ak aG
theorem y42(κ:Kp)(a:cm)(K:AV->List Dn.Obj->Prop):(ba (JA κ) 12 238 [.cD 0, .ptr 1 0 [] 0] [.ext (some a.xs), .box 66 (ar a)] K)=(
 letI z1:=Pg.toProgram (Env.P (I3 κ))
 letI z2:=Pg.toProgram (Env.P (vo κ))
 (RH a.hl=true->af z1 238 3=af z1 238 3/\∃(e2:tL),sp 46 [(2,AV.ptr 2 0 [] 0),(3,AV.aq 3 0 0),(14,AV.ad 72 a.bl),(15,AV.int (↑(a.bl.length):
 Int)),(16,AV.int 0)] [Obj.ext (some a.xs),Obj.box 66 (ar a),Obj.box 187 (AV.cD 0),Obj.row 56 []]=sp 46 [(2,AV.ptr 2 0 [] 0),(3,AV.aq 3 0
 e2.ts.length),(14,AV.ad 72 e2.bl),(15,AV.int (↑(e2.bl.length):Int)),(16,AV.int e2.i)] [Obj.ext (some e2.xs),Obj.box 66 (ar e2.r),Obj.box 187 (AV.cD
 0),Obj.row 56 e2.ts]/\(e2.bl.length<=9223372036854775807/\(0:Int)<=e2.i/\e2.i<=(↑(e2.bl.length):Int)/\List.length (e2.ts++dK (List.drop e2.i.toNat
 e2.bl))<=100000)/\af z2 238 8=af z2 238 8/\∃(e1:tL),sp 46 [(2,AV.ptr 2 0 [] 0),(32,AV.aq 3 0 (List.length (e2.ts++dK (List.drop e2.i.toNat
 e2.bl)))),(33,AV.int (↑(List.length (e2.ts++dK (List.drop e2.i.toNat e2.bl))):Int)),(34,AV.int 0)] [Obj.ext (some e2.xs),Obj.box 66 (ar e2.r),Obj.box
 187 (AV.cD 0),Obj.row 56 (e2.ts++dK (List.drop e2.i.toNat e2.bl))]=sp 46 [(2,AV.ptr 2 0 [] 0),(32,AV.aq 3 0 e1.ts.length),(33,AV.int (↑(e1.ts.length)
 :Int)),(34,AV.int e1.i)] [Obj.ext (some e1.xs),Obj.box 66 (ar e1.r),Obj.box 187 (AV.cD 0),Obj.row 56 e1.ts]/\(e1.ts.length<=9223372036854775807/\(0:
 Int)<=e1.i/\e1.i<=(↑(e1.ts.length):Int)/\aZ (aa (List.drop e1.i.toNat e1.ts))<=100000/\e1.xs=fG 56 (List.drop e1.i.toNat e1.ts))/\∀(e0:Bool),True
 ->aD e0 (K (AV.bh []) [Obj.ext (some []),Obj.box 66 (ar e1.r)]) (K (AV.bh []) [Obj.ext none,Obj.box 66 (ar e1.r)]))/\a7 (decide ((0+a.hl.length+1)*57<=
 70368744177664)) (af z1 238 3=af z1 238 3/\∃(e2:tL),sp 46 [(2,AV.ptr 2 0 [] 0),(3,AV.aq 3 0 (0+a.hl.length)),(14,AV.ad 72 a.bl),(15,AV.int
 (↑(a.bl.length):Int)),(16,AV.int 0)] [Obj.ext (some a.xs),Obj.box 66 (ar a),Obj.box 187 (AV.cD 0),Obj.row 56 ([]++a.hl)]=sp 46 [(2,AV.ptr 2 0 [] 0),
 (3,AV.aq 3 0 e2.ts.length),(14,AV.ad 72 e2.bl),(15,AV.int (↑(e2.bl.length):Int)),(16,AV.int e2.i)] [Obj.ext (some e2.xs),Obj.box 66 (ar e2.r),Obj.box
 187 (AV.cD 0),Obj.row 56 e2.ts]/\(e2.bl.length<=9223372036854775807/\(0:Int)<=e2.i/\e2.i<=(↑(e2.bl.length):Int)/\List.length (e2.ts++dK (List.drop
 e2.i.toNat e2.bl))<=100000)/\af z2 238 8=af z2 238 8/\∃(e1:tL),sp 46 [(2,AV.ptr 2 0 [] 0),(32,AV.aq 3 0 (List.length (e2.ts++dK (List.drop
 e2.i.toNat e2.bl)))),(33,AV.int (↑(List.length (e2.ts++dK (List.drop e2.i.toNat e2.bl))):Int)),(34,AV.int 0)] [Obj.ext (some e2.xs),Obj.box 66 (ar
 e2.r),Obj.box 187 (AV.cD 0),Obj.row 56 (e2.ts++dK (List.drop e2.i.toNat e2.bl))]=sp 46 [(2,AV.ptr 2 0 [] 0),(32,AV.aq 3 0 e1.ts.length),(33,AV.int
 (↑(e1.ts.length):Int)),(34,AV.int e1.i)] [Obj.ext (some e1.xs),Obj.box 66 (ar e1.r),Obj.box 187 (AV.cD 0),Obj.row 56 e1.ts]/\(e1.ts.length<=
 9223372036854775807/\(0:Int)<=e1.i/\e1.i<=(↑(e1.ts.length):Int)/\aZ (aa (List.drop e1.i.toNat e1.ts))<=100000/\e1.xs=fG 56 (List.drop e1.i.toNat
 e1.ts))/\∀(e0:Bool),True->aD e0 (K (AV.bh []) [Obj.ext (some []),Obj.box 66 (ar e1.r)]) (K (AV.bh []) [Obj.ext none,Obj.box 66 (ar e1.r)]))):=by kernel_rfl
def RK(a:cm):List AV×List Dn.Obj:=([.cD 0, .ptr 1 0 [] 0],[.ext (some (fG 56 (bk 56 a.hl a.bl))), .box 66 (ar a)])
def de(a:cm):Prop:=aZ (aa (bk 56 a.hl a.bl))<=100000/\a.bl.length<=100000
def Mp(_:cm):Out (AV×List Dn.Obj):= .all (fun st'=>qH st') fun st'=> .one (.bh [],st')
theorem c42(κ:Kp):bu (JA κ) 12 238 (aL RK de Mp):=by
 refine aX ?_
 rintro⟨xs,more,rel,hl,bl,line,i⟩ K ⟨h1,h2⟩ ho
 have hn: ∀b,K (.bh []) [.ext none,b]:=fun b=>ho _ trivial
 have h0: ∀b,K (.bh []) [.ext (some []),b]:=fun b=>ho _ trivial
 simp only at h1 h2
 have hl1:=fy (aa (bk 56 hl bl))
 rw[eM] at hl1
 have hle:hl.length<=100000:=by
  have:(bk 56 hl bl).length=hl.length+(dK bl).length:=by simp[bk,dK]
  omega
 refine Eq.mpr (y42 κ ⟨fG 56 (bk 56 hl bl),more,rel,hl,bl,line,i⟩ K) ?_
 have hz: ∀ts:List AV,ts=hl->(ts++dK (List.drop (Int.toNat 0) bl))=bk 56 hl bl:=fun ts h=>by subst h;rfl
 have fin: ∀ts:List AV,ts=hl->∃a:tL,sp 46 [(2, .ptr 2 0 [] 0),(32, .aq 3 0 (ts++dK (List.drop (Int.toNat 0) bl)).length),(33, .int (ts++dK (List.drop (Int.toNat 0) bl)).length),(34, .int 0)] [.ext (some (fG 56 (bk 56 hl bl))), .box 66 (ar ⟨fG 56 (bk 56 hl bl),more,rel,hl,bl,line,i⟩), .box 187 (.cD 0), .row 56 (ts++dK (List.drop (Int.toNat 0) bl))]=Fi a/\AG a/\∀y:Bool,True->aD y (K (.bh []) [.ext (some []), .box 66 (ar a.r)]) (K (.bh []) [.ext none, .box 66 (ar a.r)]):=by
  intro ts h
  refine⟨⟨_,[],⟨fG 56 (bk 56 hl bl),more,rel,hl,bl,line,i⟩,bl,ts++dK (List.drop (Int.toNat 0) bl),0⟩,rfl,⟨?_,?_,?_,?_,?_⟩,fun y _=>?_⟩
  ·simp only[hz ts h,aR];omega
  ·simp only;omega
  ·simp only;omega
  ·show aZ (aa (List.drop (Int.toNat 0) (ts++dK (List.drop (Int.toNat 0) bl))))<=100000
   rw[hz ts h];exact h1
  ·rw[hz ts h];rfl
  ·cases y
   ·exact hn _
   ·exact h0 _
 refine⟨fun e=>?_,?_⟩
 ·obtain rfl:hl=[]:=by
   cases hl with
   |nil=>rfl
   |cons=>cases e
  refine⟨rfl,⟨_,[],⟨fG 56 (bk 56 [] bl),more,rel,[],bl,line,i⟩,bl,[],0⟩,rfl,⟨by simp only;omega,by simp only;omega,by simp only;omega,?_⟩,rfl,fin [] rfl⟩
  rw[hz [] rfl];exact Nat.le_trans hl1 h1
 ·rw[an,aa1]
  refine⟨by simp only;omega,rfl,⟨_,[],⟨fG 56 (bk 56 hl bl),more,rel,hl,bl,line,i⟩,bl,[]++hl,0⟩,?_,⟨by simp only;omega,by simp only;omega,by simp only;omega,?_⟩,rfl,fin ([]++hl) rfl⟩
  ·rw[Nat.zero_add];rfl
  ·rw[hz ([]++hl) rfl];exact Nat.le_trans hl1 h1
set_option maxRecDepth 20000 in
noncomputable def O5(κ:Kp):Env:=(JA κ).aw 238 (aL RK de Mp)
theorem e42(κ:Kp):aB (O5 κ):=(XM κ).aw (S1 κ) (c42 κ)
theorem YU(κ:Kp):aj (O5 κ):=(S1 κ).aw aJ
def aF(a:cm):Rl:=⟨⟨a.rel,aa a.hl⟩,dg a.bl⟩
noncomputable abbrev Uh(a:cm)(κ:Kp)(st:LoopState)(p:Option Code):Dn.Obj:=
 .loop (gh (Pr κ).toProgram 124 6 st p (fV (bF 31) [(0,ar a),(1, .ptr 0 0 [] 0),(2, .nil),(3, .ptr 1 0 [] 0),(4, .ptr 3 0 [] 0),(6,ar a),(7, .bool (aM (aF a))),(8, .bool false),(9, .mp 2),(10,ar a),(11, .bL 238 [.ptr 4 0 [] 0])]))
noncomputable abbrev o8(κ:Kp)(a:cm):List Dn.Obj:=[.box 66 (ar a), .box 54 .nil, .map 9 4 [], .box 177 (.mp 2), .box 66 (ar a),Uh a κ .ready none]
theorem s12(κ:Kp)(a:cm)(Q:List Dn.Obj->Prop):(tidy (Pr κ).toProgram 6 (dT (o8 κ a) (cy (o8 κ a) [.ptr 4 0 [] 0])) Q)=(
 Q [Obj.box 66 (ar a),Obj.box 54 (AV.aq 6 0 0),Dn.Obj.map 9 4 [],Obj.box 177 (AV.mp 2),Obj.dead,Dn.Obj.loop (gh Tryz.prog 124 6 LoopState.ready none (fV (bF
 31) [(0,ar a),(1,AV.ptr 0 0 [] 0),(2,AV.nil),(3,AV.ptr 1 0 [] 0),(4,AV.ptr 3 0 [] 0),(6,ar a),(7,AV.bool (aM (aF a))),(8,AV.bool false),(9,
 AV.mp 2),(10,ar a),(11,AV.bL 238 [AV.ptr 4 0 [] 0])])),Obj.row 9 []]):=by kernel_rfl
noncomputable abbrev za(κ:Kp)(a:cm)(vs:List ByteArray)(es:List (Value×AV)):List Dn.Obj:=[.box 66 (ar a), .box 54 (.aq 6 0 vs.length), .map 9 4 es, .box 177 (.mp 2), .dead,Uh a κ .ready none, .row 9 (strs vs)]
theorem r12(κ:Kp)(a:cm)(vs:List ByteArray)(es:List (Value×AV))(u:AV)(Q:List Dn.Obj->Prop)(K2:List Dn.Obj->Prop):(gT (vc (O5 κ) 12) 5 [pg 56 u] (za κ a vs es) (fun r st''=>match r with| .lit (.bool true)=>tidy (Pr κ).toProgram 6 st'' Q| .lit (.bool false)=>K2 st''|_=>False))=(
 letI z1:=gh Tryz.prog 124 6 LoopState.ready none (fV (bF 31) [(0,ar a),(1,AV.ptr 0 0 [] 0),(2,AV.nil),(3,AV.ptr 1 0 [] 0),(4,AV.ptr 3 0 [] 0),(6,ar
  a),(7,AV.bool (aM (aF a))),(8,AV.bool false),(9,AV.mp 2),(10,ar a),(11,AV.bL 238 [AV.ptr 4 0 [] 0])])
 letI z2:=Q [Obj.box 66 (ar a),Obj.box 54 (AV.aq 6 0 vs.length),Dn.Obj.map 9 4 es,Obj.box 177 (AV.mp 2),Obj.dead,Dn.Obj.loop z1,Obj.row 9 (strs vs)]
 letI z3:=Value.string (toStr (ae u 1))
 aD (toInt (ae u 0) != (1:Int)) z2 (aD (Dn.toBool (dp es z3 (AV.bool false))) z2 (a7 (decide ((vs.length+1+1)*17<=70368744177664)) (Q [Obj.box 66 (ar
 a),Obj.box 54 (AV.aq 6 0 (vs.length+1)),Dn.Obj.map 9 4 (eR es z3 (AV.bool true)),Obj.box 177 (AV.mp 2),Obj.dead,Dn.Obj.loop z1,Obj.row 9 (List.take
 vs.length (strs vs)++[AV.str (toStr (ae u 1))])])))):=by kernel_rfl
theorem k12(κ:Kp)(a:cm)(xs:List AV):(AV.cD 0::fS (jH (cy (o8 κ a) [.ptr 4 0 [] 0])) [.ptr 4 0 [] 0],Obj.ext (some xs)::gq (jH (cy (o8 κ a) [.ptr 4 0 [] 0])) (gR (o8 κ a) (cy (o8 κ a) [.ptr 4 0 [] 0])))=([.cD 0, .ptr 1 0 [] 0],[.ext (some xs), .box 66 (ar a)]):=by kernel_rfl
theorem o12(κ:Kp)(a:cm):nB (o8 κ a) [.ptr 4 0 [] 0]=true:=by kernel_rfl
noncomputable def Kj(κ:Kp):dB:=fun caps st K=>∃a:cm,(caps,st)=([AV.ptr 4 0 [] 0],o8 κ a)/\de a/\K (za κ a (mG [] (fo (aF a))) (bQ (mG [] (fo (aF a)))))
theorem Em(κ:Kp):(Kj κ).jf:=by
 rintro caps st K K' hK ⟨a,h1,h2,h3⟩
 exact⟨a,h1,h2,hK _ h3⟩
theorem call12(κ:Kp)(args:List AV)(st:List Dn.Obj)(K:AV->List Dn.Obj->Prop)(h:aL RK de Mp args st K):(O5 κ).call 238 args st K:=h
theorem XL(κ:Kp):ll (O5 κ) 12 238 (Kj κ):=by
 rintro caps st K ⟨a,h1,h3,h5⟩
 obtain⟨rfl,rfl⟩:=Prod.mk.inj h1
 have hv:=iG 56 a.rel a.hl a.bl
 rw[←sL 56] at hv
 have hb:(fo (aF a)).length<=100000:=by
  have h6:=cx (aa (bk 56 a.hl a.bl))
  rw[iG 56 a.rel a.hl a.bl] at h6
  exact Nat.le_trans h6 h3.1
 have hd:=kz (fo (aF a)) []
 refine⟨fG 56 (bk 56 a.hl a.bl),fun items st'=>∃vs,(∀x,x∈items->rk 56 x)/\st'=za κ a vs (bQ vs)/\vs++mG vs (items.flatMap tZ)=mG [] (fo (aF a)),⟨o12 κ a,?_,?_,?_,?_⟩⟩
 ·refine call12 κ _ _ _ ⟨a,?_,h3,fun st' h=>h⟩
  rw[k12];rfl
 ·rw[show(O5 κ).P=Pr κ from rfl,show(o8 κ a).length=6 from rfl,s12]
  exact⟨[],BS _ _,rfl,by rw[hv];rfl⟩
 ·rintro us rest st' ⟨vs,e1,rfl,e3⟩
  obtain⟨u,hu⟩:=e1 (.bh us) (by simp)
  obtain rfl:=AV.bh.inj hu
  rw[show(O5 κ).P=Pr κ from rfl,show(o8 κ a).length=6 from rfl]
  refine Eq.mpr (r12 κ a vs _ u _ _) ?_
  have e1': ∀x,x∈rest->rk 56 x:=fun x hx=>e1 x (by simp[hx])
  have hi:tZ (.bh [pg 56 u])=bif decide (toInt (ae u 0)=1) then[toStr (ae u 1)] else[]:=rfl
  rw[List.flatMap_cons,hi] at e3
  have hin:Dn.toBool (dp (bQ vs) (.string (toStr (ae u 1))) (.lit (.bool false)))=vs.contains (toStr (ae u 1)):=oS _ _
  rw[hin]
  simp only[ah,an,bne_iff_ne,bne_eq_false_iff_eq,aa1]
  refine⟨fun e=>⟨vs,e1',rfl,?_⟩,fun e=>⟨fun e4=>⟨vs,e1',rfl,?_⟩,fun e4=>⟨?_,vs++[toStr (ae u 1)],e1',?_,?_⟩⟩⟩
  ·rw[aa5 e] at e3;exact e3
  ·rw[aa7 e,aa8,List.singleton_append,mG,e4] at e3;exact e3
  ·have:=congrArg List.length e3
   rw[ab9] at this;omega
  ·rw[NK,←aW vs,List.take_length]
   simp only[za,ij,aW,ab9,List.length_cons,List.length_nil]
   rfl
  ·rw[aa7 e,aa8,List.singleton_append,mG,e4,aa6] at e3
   simpa using e3
 ·rintro st' ⟨vs,_,rfl,e3⟩
  have e4:vs=mG [] (fo (aF a)):=by simpa[mG] using e3
  rw[e4];exact h5
noncomputable def L0(κ:Kp):Env:=((O5 κ).addRange 124 6 238 (Kj κ)).dv (fun f=>jk f Oe)
theorem X2(κ:Kp):aB (L0 κ):=((e42 κ).addRange (YU κ) (XL κ)).dv _
theorem SC(κ:Kp):aj (L0 κ):=((YU κ).addRange (Em κ)).dv _
theorem y12(κ:Kp)(a:cm)(K:AV->List Dn.Obj->Prop):(ba (L0 κ) 12 124 [ar a] [] K)=(
 letI z1:=AV.agg [AV.agg [AV.str a.rel,AV.ad 56 a.hl],AV.ad 72 a.bl,AV.int a.line]
 a7 (decide (a.hl.length<=9223372036854775807)&&decide (a.bl.length<=9223372036854775807)) (aD (!aM {head:={rel:=a.rel,l:=aa a.hl},body:=dg a.bl}) (K AV.nil []) (∃(e0:cm),([AV.ptr 4 0 [] 0],[Obj.box 66 z1,Obj.box 54 AV.nil,Dn.Obj.map 9 4 [],Obj.box 177 (AV.mp 2),Obj.box 66 z1,Dn.Obj.loop (gh Tryz.prog 124 6 LoopState.ready none (fV (bF 31) [(0,AV.agg [AV.agg [AV.str a.rel,AV.ad 56 a.hl],AV.ad 72 a.bl,AV.int a.line]),(1,AV.ptr 0 0 [] 0),(2,AV.nil),(3,AV.ptr 1 0 [] 0),(4,AV.ptr 3 0 [] 0),(6,AV.agg [AV.agg [AV.str a.rel,AV.ad 56 a.hl],AV.ad 72 a.bl,AV.int a.line]),(7,AV.lit (Value.bool (aM {head:={rel:=a.rel,l:=aa a.hl},body:=dg a.bl}))),(8,AV.bool false),(9,AV.mp 2),(10,AV.agg [AV.agg [AV.str a.rel,AV.ad 56 a.hl],AV.ad 72 a.bl,AV.int a.line]),(11,AV.bL 238 [AV.ptr 4 0 [] 0])]))])=([AV.ptr 4 0 [] 0],[Obj.box 66 (AV.agg [AV.agg [AV.str e0.rel,AV.ad 56 e0.hl],AV.ad 72 e0.bl,AV.int e0.line]),Obj.box 54 AV.nil,Dn.Obj.map 9 4 [],Obj.box 177 (AV.mp 2),Obj.box 66 (AV.agg [AV.agg [AV.str e0.rel,AV.ad 56 e0.hl],AV.ad 72 e0.bl,AV.int e0.line]),Dn.Obj.loop (gh Tryz.prog 124 6 LoopState.ready none (fV (bF 31) [(0,AV.agg [AV.agg [AV.str e0.rel,AV.ad 56 e0.hl],AV.ad 72 e0.bl,AV.int e0.line]),(1,AV.ptr 0 0 [] 0),(2,AV.nil),(3,AV.ptr 1 0 [] 0),(4,AV.ptr 3 0 [] 0),(6,AV.agg [AV.agg [AV.str e0.rel,AV.ad 56 e0.hl],AV.ad 72 e0.bl,AV.int e0.line]),(7,AV.bool (aM (aF e0))),(8,AV.bool false),(9,AV.mp 2),(10,AV.agg [AV.agg [AV.str e0.rel,AV.ad 56 e0.hl],AV.ad 72 e0.bl,AV.int e0.line]),(11,AV.bL 238 [AV.ptr 4 0 [] 0])]))])/\(aZ (aa (bk 56 e0.hl e0.bl))<=100000/\e0.bl.length<=100000)/\K (AV.aq 0 0 (List.length (mG [] (fo (aF e0))))) [Obj.row 9 (strs (mG [] (fo (aF e0))))]))):=by kernel_rfl
def UF(a:cm):List AV×List Dn.Obj:=([ar a],[])
def KZ(a:cm):Prop:=aM (aF a)=true/\de a
def I9(a:cm):Out (AV×List Dn.Obj):= .one (.aq 0 0 (cW (aF a)).length,[.row 9 (strs (cW (aF a)))])
theorem c12(κ:Kp):bu (L0 κ) 12 124 (aL UF KZ I9):=by
 refine aX ?_
 rintro⟨xs,more,rel,hl,bl,line,i⟩ K ⟨h0,h1,h2⟩ ho
 refine Eq.mpr (y12 κ ⟨xs,more,rel,hl,bl,line,i⟩ K) ?_
 have hr:aM ⟨⟨rel,aa hl⟩,dg bl⟩=true:=h0
 simp only at h1 h2
 have hl1:=fy (aa (bk 56 hl bl))
 rw[eM] at hl1
 have hle:hl.length<=100000:=by
  have:(bk 56 hl bl).length=hl.length+(dK bl).length:=by simp[bk,dK]
  omega
 simp only[hr,an,ah,aa2,aa1]
 refine⟨⟨by omega,by omega⟩,(fun e=>nomatch e),fun _=>⟨⟨xs,more,rel,hl,bl,line,i⟩,?_,⟨h1,h2⟩,?_⟩⟩
 ·rw[show aM (aF ⟨xs,more,rel,hl,bl,line,i⟩)=true from h0]
 ·simp only[I9,Out.run,cW,h0,aa8] at ho
  exact ho
set_option maxRecDepth 20000 in
noncomputable def JV(κ:Kp):Env:=(L0 κ).aw 124 (aL UF KZ I9)
theorem e12(κ:Kp):aB (JV κ):=(X2 κ).aw (SC κ) (c12 κ)
theorem Zd(κ:Kp):aj (JV κ):=(SC κ).aw aJ
theorem om: ∀l m:List Tm,aZ (l++m)=aZ l+aZ m
 |[],m=>by simp[aZ]
 |t::l,m=>by simp only[List.cons_append,aZ,om l m];omega
theorem oP{a:cm}(h:de a):aZ (aa a.hl)<=100000:=by
 have:=h.1
 unfold bk aa at this
 rw[List.map_append,om] at this
 unfold aa;omega
theorem FM: ∀(l:List AV) (x:AV),x∈l->iX (cE x)<=aZ (aa (dK l))
 |[],_,h=>by simp at h
 | y::l,x,h=>by
  have e:aZ (aa (dK (y::l)))=iX (cE y)+aZ (aa (dK l)):=by
   unfold dK aa
   rw[List.flatMap_cons,List.map_append,om,List.map_append,om]
   simp only[iX,cE,D3,aa,ac1,ac2,qW]
  rw[e]
  rcases List.mem_cons.1 h with rfl|h
  ·omega
  ·have:=FM l x h;omega
theorem kD{a:cm}(h:de a){i:Nat}(hi:i<a.bl.length):iX (cE (nth a.bl i))<=100000:=by
 have h1:=h.1
 have e:bk 56 a.hl a.bl=a.hl++dK a.bl:=rfl
 rw[e] at h1
 unfold aa at h1
 rw[List.map_append,om] at h1
 have:=FM a.bl (nth a.bl i) (by rw[bf _ _ hi];exact List.getElem_mem hi)
 unfold aa at this;omega
theorem km(l:List AV){i:Nat}(hi:i<l.length):dP (dg l) i=cE (nth l i):=by
 unfold dP dg
 rw[List.getD_eq_getElem?_getD,List.getElem?_map,ab7 hi,bf l i hi];rfl
def rR(x:AV):LA:=⟨toInt (ae x 0),toStr (ae (ae x 1) 0),ai (ae (ae x 1) 1),toInt (ae (ae x 2) 0),toStr (ae (ae x 2) 1),toInt (ae (ae x 2) 2),ai (ae (ae x 2) 3),toInt (ae (ae x 3) 0),toStr (ae (ae x 3) 1),toInt (ae (ae x 3) 2),ai (ae (ae x 3) 3)⟩
theorem eC(x:AV):(rR x).lt=cE x:=by rw[lt_eq];rfl
structure Sj where
 a:cm
 k:Int
 i:Int
 vs:List ByteArray
abbrev PE(a:Sj):S:=sp 53 [(1, .int a.k),(2, .ptr 0 0 [] 0),(5, .ptr 1 0 [] 0),(17, .ad 72 a.a.bl),(18, .int a.a.bl.length),(19, .int a.i)] [.box 66 (ar a.a), .box 178 (.mp 2), .map 9 4 (bQ a.vs)]
theorem x39(κ:Kp)(a:cm)(k i:Int)(es:List (Value×AV))(I:Nat->S->Prop)(n:Nat)(K:Exit->S->Prop):(vc (JV κ) 12 188 none 0 (af (Pr κ).toProgram 188 4) (sp 53 [(1, .int k),(2, .ptr 0 0 [] 0),(5, .ptr 1 0 [] 0),(17, .ad 72 a.bl),(18, .int a.bl.length),(19, .int i)] [.box 66 (ar a), .box 178 (.mp 2), .map 9 4 es]) (bJ (JV κ) 188 4 0 I n K))=(
 letI z3:=nth a.bl i.toNat
 letI z4:=IntKind.wrap IntKind.i64 (i+(1:Int))
 letI z5:=a.bl.length
 letI z1:=∃(e2:List AV),([AV.ad 56 [AV.agg [AV.int (toInt (ae (ae z3 2) 0)),AV.str (toStr (ae (ae z3 2) 1)),AV.int (toInt (ae (ae z3 2) 2)),AV.ad 56 (ai
  (ae (ae z3 2) 3))]]],aI)=([AV.ad 56 e2],aI)/\bG e2/\∃(e1:List AV×List (Value×AV)),([AV.mp 0,AV.ad 9 (List.take (List.length (ay (aa e2)))
  (List.drop 0 (strs (ay (aa e2)))))],[Dn.Obj.map 9 4 es])=([AV.mp 0,AV.ad 9 e1.1],[Dn.Obj.map 9 4 e1.2])/\bq e1/\∃(e0:Nat),e0<n/\I e0 (sp 53 [(1,
  AV.int k),(2,AV.ptr 0 0 [] 0),(5,AV.ptr 1 0 [] 0),(17,AV.ad 72 a.bl),(18,AV.int (↑z5:Int)),(19,AV.int z4)] [Obj.box 66 (ar a),Obj.box 178 (AV.mp
  2),Dn.Obj.map 9 4 (fx e1.2 e1.1)])
 letI z2:=∃(e2:LA),([AV.agg [AV.int (toInt (ae z3 0)),AV.agg [AV.str (toStr (ae (ae z3 1) 0)),AV.ad 56 (ai (ae (ae z3 1) 1))],AV.agg [AV.int (toInt (ae
  (ae z3 2) 0)),AV.str (toStr (ae (ae z3 2) 1)),AV.int (toInt (ae (ae z3 2) 2)),AV.ad 56 (ai (ae (ae z3 2) 3))],AV.agg [AV.int (toInt (ae (ae z3 3) 0)),
  AV.str (toStr (ae (ae z3 3) 1)),AV.int (toInt (ae (ae z3 3) 2)),AV.ad 56 (ai (ae (ae z3 3) 3))]]],aI)=([AV.agg [AV.int e2.op,AV.agg [AV.str e2.s,AV.ad 56
  e2.l],AV.agg [AV.int e2.o1,AV.str e2.s1,AV.int e2.n1,AV.ad 56 e2.l1],AV.agg [AV.int e2.o2,AV.str e2.s2,AV.int e2.n2,AV.ad 56 e2.l2]]],aI)/\gg e2/\∃
  (e1:List AV×List (Value×AV)),([AV.mp 0,AV.ad 9 (List.take (List.length (eh (LA.lt e2))) (List.drop 0 (strs (eh (LA.lt e2)))))],[Dn.Obj.map 9 4 es])=
  ([AV.mp 0,AV.ad 9 e1.1],[Dn.Obj.map 9 4 e1.2])/\bq e1/\∃(e0:Nat),e0<n/\I e0 (sp 53 [(1,AV.int k),(2,AV.ptr 0 0 [] 0),(5,AV.ptr 1 0 [] 0),(17,
  AV.ad 72 a.bl),(18,AV.int (↑z5:Int)),(19,AV.int z4)] [Obj.box 66 (ar a),Obj.box 178 (AV.mp 2),Dn.Obj.map 9 4 (fx e1.2 e1.1)])
 aD (decide (i<(↑z5:Int))) (a7 (decide ((0:Int)<=i)&&decide (i<(↑z5:Int))) (aD (i==k) (z1/\z1/\z1) (z2/\z2))) (K (Exit.exit 0) (sp 53 [(1,
 AV.int k),(2,AV.ptr 0 0 [] 0),(5,AV.ptr 1 0 [] 0)] [Obj.box 66 (ar a),Obj.box 178 (AV.mp 2),Dn.Obj.map 9 4 es]))):=by kernel_rfl
def Fq(a:Sj):Prop:=de a.a/\0<=a.k/\0<=a.i/\a.i<=a.a.bl.length
def n6(a:Sj):List ByteArray:=a.vs++Bq a.k.toNat (dg (a.a.bl.drop a.i.toNat)) a.i.toNat
def uc(a:Sj):Out (Exit×S):= .one (.exit 0,sp 53 [(1, .int a.k),(2, .ptr 0 0 [] 0),(5, .ptr 1 0 [] 0)] [.box 66 (ar a.a), .box 178 (.mp 2), .map 9 4 (bQ (n6 a))])
theorem l39(κ:Kp):bj (JV κ) 12 188 4 (aO 0 PE Fq uc):=by
 refine aK (fun a=>a.a.bl.length - a.i.toNat) ?_
 rintro⟨a,k,i,vs⟩ K ⟨h1,h2,h3,h4⟩ ho
 simp only at h1 h2 h3 h4
 rw[show(JV κ).P=Pr κ from rfl]
 refine Eq.mpr (x39 κ a k i (bQ vs) _ _ K) ?_
 simp only[and_self]
 have hl:=h1.2
 simp only[uc,n6,Out.run] at ho
 simp only[ah,an,aa1,aa3,aa2,beq_iff_eq,beq_eq_false_iff_ne]
 refine⟨fun hi=>⟨⟨h3,hi⟩,?_⟩,fun hi=>?_⟩
 ·have hlit:=kD h1 (i:=i.toNat) (by omega)
  rw[nT a.bl i.toNat (by omega),Bq] at ho
  rw[aV (n:=i+1) (by omega) (by omega)]
  refine⟨fun e=>?_,fun e=>?_⟩
  ·subst e
   rw[Nat.beq_refl,aa8,←List.append_assoc] at ho
   have ht:aa [pg 56 (ae (nth a.bl i.toNat) 2)]=[(cE (nth a.bl i.toNat)).x]:=by
    simp only[aa,ac1,ac2,qW];rfl
   have hc:aZ [(cE (nth a.bl i.toNat)).x]<=100000:=by
    have:iX (cE (nth a.bl i.toNat))=aZ [(cE (nth a.bl i.toNat)).x,(cE (nth a.bl i.toNat)).y]+aZ (cE (nth a.bl i.toNat)).a.l:=rfl
    simp only[aZ] at this⊢;omega
   have hv:=cx [(cE (nth a.bl i.toNat)).x]
   refine⟨[pg 56 (ae (nth a.bl i.toNat) 2)],rfl,by simp only[bG,ht];exact hc,⟨strs (ay [(cE (nth a.bl i.toNat)).x]),bQ vs⟩,?_,?_,_,?_,⟨a,i,i+1,vs++ay [(cE (nth a.bl i.toNat)).x]⟩,?_,⟨h1,h2,by simp only;omega,by simp only;omega⟩,rfl,?_⟩
   ·simp only[ab1,cX,ht]
   ·simp only[bq,aW,aR];omega
   ·simp only;omega
   ·simp only[l9]
   ·simp only[uc,n6,Out.run,show(i+1).toNat=i.toNat+1 by omega]
    exact ho
  ·rw[rQ (show i.toNat≠k.toNat by omega),aa6,←List.append_assoc] at ho
   have hv:=cx [(cE (nth a.bl i.toNat)).x,(cE (nth a.bl i.toNat)).y]
   have hv2:=cx (cE (nth a.bl i.toNat)).a.l
   have hlen:(eh (cE (nth a.bl i.toNat))).length<=100000:=by
    simp only[eh,iX,ab9] at hlit⊢;omega
   refine⟨rR (nth a.bl i.toNat),rfl,by rw[gg,eC];exact hlit,⟨strs (eh (cE (nth a.bl i.toNat))),bQ vs⟩,?_,?_,_,?_,⟨a,k,i+1,vs++eh (cE (nth a.bl i.toNat))⟩,?_,⟨h1,h2,by simp only;omega,by simp only;omega⟩,rfl,?_⟩
   ·simp only[ab1,cX,eC]
   ·simp only[bq,aW,aR];omega
   ·simp only;omega
   ·simp only[l9]
   ·simp only[uc,n6,Out.run,show(i+1).toNat=i.toNat+1 by omega]
    exact ho
 ·rw[aa9 (by omega)] at ho
  simpa[dg,Bq] using ho
noncomputable def oh(κ:Kp):Env:=(JV κ).ak 188 4 (aO 0 PE Fq uc)
theorem Qv(κ:Kp):aB (oh κ):=(e12 κ).ak (Zd κ) (l39 κ)
theorem KN(κ:Kp):aj (oh κ):=(Zd κ).ak aG
def dD(fN:List (Value×AV))(fK:List (Value×AV))(s:ByteArray):Bool:=lJ fN s&&lJ fK s
structure DO where
 vs:List ByteArray
 i:Int
 fN:List (Value×AV)
 fK:List (Value×AV)
abbrev Bd(R:List AV)(fN:List (Value×AV))(fK:List (Value×AV)):List Dn.Obj:=[.row 9 R, .box 178 (.mp 2), .map 9 4 fN, .box 178 (.mp 4), .map 9 4 fK]
abbrev M1:AV:= .bL 237 [.ptr 1 0 [] 0, .ptr 3 0 [] 0]
abbrev Ht(a:DO):S:=sp 19 [(0, .aq 0 0 (strs a.vs).length),(1,M1),(7, .int (strs a.vs).length),(8, .int a.i)] (Bd (strs a.vs) a.fN a.fK)
theorem xFO(κ:Kp)(a:DO)(I:Nat->S->Prop)(n:Nat)(K:Exit->S->Prop):(vc (oh κ) 12 190 none 5 (af (Pr κ).toProgram 190 2) (Ht a) (bJ (oh κ) 190 2 5 I n K))=(
 letI z1:=K Exit.ret (sp 19 [(4,AV.int a.i)] [Obj.row 9 (strs a.vs),Obj.box 178 (AV.mp 2),Dn.Obj.map 9 4 a.fN,Obj.box 178 (AV.mp 4),Dn.Obj.map 9 4 a.fK])
 letI z2:=List.length (strs a.vs)
 letI z3:=Value.string (toStr (nth (strs a.vs) (0+a.i.toNat)))
 aD (decide (a.i<(↑z2:Int))) (a7 (decide ((0:Int)<=a.i)&&decide (a.i<(↑z2:Int))) (aD (!Dn.toBool (dp a.fN z3 (AV.bool false))) z1 (aD (!Dn.toBool
 (dp a.fK z3 (AV.bool false))) z1 (∃(e0:Nat),e0<n/\I e0 (sp 19 [(0,AV.aq 0 0 z2),(1,AV.bL 237 [AV.ptr 1 0 [] 0,AV.ptr 3 0 [] 0]),(7,AV.int (↑z2:
 Int)),(8,AV.int (IntKind.wrap IntKind.i64 (a.i+(1:Int))))] [Obj.row 9 (strs a.vs),Obj.box 178 (AV.mp 2),Dn.Obj.map 9 4 a.fN,Obj.box 178 (AV.mp 4),
 Dn.Obj.map 9 4 a.fK]))))) (K (Exit.exit 0) (sp 19 [] [Obj.row 9 (strs a.vs),Obj.box 178 (AV.mp 2),Dn.Obj.map 9 4 a.fN,Obj.box 178 (AV.mp 4),Dn.Obj.map 9 4
 a.fK]))):=by kernel_rfl
def EL(a:DO):Prop:=a.vs.length<=aR/\0<=a.i/\a.i<=a.vs.length/\∀s,s∈a.vs.take a.i.toNat->dD a.fN a.fK s=true
def Cn(a:DO):Out (Exit×S):=
 .aD (a.vs.all (dD a.fN a.fK)) (.one (.exit 0,sp 19 [] (Bd (strs a.vs) a.fN a.fK)))
  (.all (fun j:Int=>u5 (dD a.fN a.fK) a.vs j) fun j=> .one (.ret,sp 19 [(4, .int j)] (Bd (strs a.vs) a.fN a.fK)))
theorem lFO(κ:Kp):bj (oh κ) 12 190 2 (aO 5 Ht EL Cn):=by
 refine aK (fun a=>a.vs.length - a.i.toNat) ?_
 rintro⟨vs,i,fN,fK⟩ K ⟨h1,h2,h3,h4⟩ ho
 simp only at h1 h2 h3 h4
 rw[show(oh κ).P=Pr κ from rfl]
 refine Eq.mpr (xFO κ ⟨vs,i,fN,fK⟩ _ _ K) ?_
 simp only[aR] at h1
 simp only[Cn,Out.run,ah] at ho
 have hl:=aW vs
 simp only[aW,Nat.zero_add]
 have fin:i<vs.length->∀(hi:i.toNat<vs.length),(dD fN fK vs[i.toNat]=false->K .ret (sp 19 [(4, .int i)] (Bd (strs vs) fN fK)))/\
   (dD fN fK vs[i.toNat]=true->∃m,m<vs.length - i.toNat/\fm Ht EL Cn (fun a=>a.vs.length - a.i.toNat) K m (Ht ⟨vs,i+1,fN,fK⟩)):=by
  intro hi0 hi
  refine⟨fun e=>ho.2 ?_ i ⟨h2,hi,h4,e⟩,fun e=>⟨_,?_,⟨vs,i+1,fN,fK⟩,rfl,⟨by simpa[aR] using h1,by simp only;omega,by simp only;omega,?_⟩,rfl,?_⟩⟩
  ·rw[Bool.eq_false_iff]
   intro hall
   rw[List.all_eq_true.1 hall _ (List.getElem_mem hi)] at e
   cases e
  ·simp only;omega
  ·intro s hs
   simp only at hs
   rw[show(i+1).toNat=i.toNat+1 by omega,List.take_succ_eq_append_getElem hi,List.mem_append,List.mem_singleton] at hs
   rcases hs with hs|hs
   ·exact h4 s hs
   ·rw[hs];exact e
  ·simp only[Cn,Out.run,ah]
   exact ho
 simp only[ah,an,aa1,aa3,aa2,Bool.not_eq_true',ab3]
 refine⟨fun hi=>⟨⟨h2,hi⟩,?_⟩,fun hi=>?_⟩
 ·have hi':i.toNat<vs.length:=by omega
  have hn:toStr (nth (strs vs) i.toNat)=vs[i.toNat]:=by rw[vG vs _ hi'];rfl
  rw[aV (n:=i+1) (by omega) (by omega),hn]
  have hf:=fin hi hi'
  simp only[Ht,aW] at hf
  exact⟨fun e=>hf.1 (by unfold dD lJ;rw[e];rfl),fun e=>⟨fun e2=>hf.1 (by unfold dD lJ;rw[e,e2];rfl),fun e2=>hf.2 (by unfold dD lJ;rw[e,e2];rfl)⟩⟩
 ·refine ho.1 (List.all_eq_true.2 fun s hs=>h4 s ?_)
  rw[List.take_of_length_le (by omega)];exact hs
noncomputable def MV(κ:Kp):Env:=(oh κ).ak 190 2 (aO 5 Ht EL Cn)
theorem eFO(κ:Kp):aB (MV κ):=(Qv κ).ak (KN κ) (lFO κ)
theorem ZF(κ:Kp):aj (MV κ):=(KN κ).ak aG
structure GO where
 R:List AV
 i:Int
 j:Int
 fN:List (Value×AV)
 fK:List (Value×AV)
 P:List ByteArray
 ws:List ByteArray
abbrev Be(a:GO):S:=sp 42 [(0, .aq 0 0 a.R.length),(1,M1),(5, .int a.i),(6, .int a.j)] (Bd a.R a.fN a.fK)
theorem xGO(κ:Kp)(a:GO)(I:Nat->S->Prop)(n:Nat)(K:Exit->S->Prop):(vc (MV κ) 12 123 none 5 (af (Pr κ).toProgram 123 5) (Be a) (bJ (MV κ) 123 5 5 I n K))=(
 letI z2:=toStr (nth a.R (0+a.j.toNat))
 letI z3:=IntKind.wrap IntKind.i64 (a.j+(1:Int))
 letI z1:=∃(e0:Nat),e0<n/\I e0 (sp 42 [(0,AV.aq 0 0 a.R.length),(1,AV.bL 237 [AV.ptr 1 0 [] 0,AV.ptr 3 0 [] 0]),(5,AV.int a.i),(6,AV.int z3)]
  [Obj.row 9 a.R,Obj.box 178 (AV.mp 2),Dn.Obj.map 9 4 a.fN,Obj.box 178 (AV.mp 4),Dn.Obj.map 9 4 a.fK])
 letI z4:=a.j<(↑(a.R.length):Int)
 aD (decide z4) (a7 (decide ((0:Int)<=a.j)&&decide z4) (aD (!Dn.toBool (dp a.fN (Value.string z2) (AV.bool false))) z1 (aD (!!Dn.toBool (dp a.fK
 (Value.string z2) (AV.bool false))) (a7 (decide ((0:Int)<=a.i)&&decide (a.i<(↑(a.R.length):Int))) (∃(e0:Nat),e0<n/\I e0 (sp 42 [(0,AV.aq 0 0
 a.R.length),(1,AV.bL 237 [AV.ptr 1 0 [] 0,AV.ptr 3 0 [] 0]),(5,AV.int (IntKind.wrap IntKind.i64 (a.i+(1:Int)))),(6,AV.int z3)] [Obj.row 9 (cg a.R (0
 +a.i.toNat) (AV.str z2)),Obj.box 178 (AV.mp 2),Dn.Obj.map 9 4 a.fN,Obj.box 178 (AV.mp 4),Dn.Obj.map 9 4 a.fK]))) z1))) (K (Exit.exit 0) (sp 42 [(0,AV.aq 0
 0 a.R.length),(5,AV.int a.i)] [Obj.row 9 a.R,Obj.box 178 (AV.mp 2),Dn.Obj.map 9 4 a.fN,Obj.box 178 (AV.mp 4),Dn.Obj.map 9 4 a.fK]))):=by kernel_rfl
def zu(a:GO):Prop:=a.R.length<=aR/\0<=a.i/\a.i<a.j/\a.j<=a.R.length/\a.R.take a.i.toNat=strs a.P/\a.R.drop a.j.toNat=strs a.ws
def BL(a:GO):Out (Exit×S):= .all (fun R:List AV=>R.length=a.R.length/\R.take (a.P++a.ws.filter (dD a.fN a.fK)).length=strs (a.P++a.ws.filter (dD a.fN a.fK)))
 fun R=> .one (.exit 0,sp 42 [(0, .aq 0 0 a.R.length),(5, .int (a.P++a.ws.filter (dD a.fN a.fK)).length)] (Bd R a.fN a.fK))
theorem lGO(κ:Kp):bj (MV κ) 12 123 5 (aO 5 Be zu BL):=by
 refine aK (fun a=>a.R.length - a.j.toNat) ?_
 rintro⟨R,i,j,fN,fK,P,ws⟩ K ⟨h1,h2,h3,h4,h5,h6⟩ ho
 simp only at h1 h2 h3 h4 h5 h6
 rw[show(MV κ).P=Pr κ from rfl]
 refine Eq.mpr (xGO κ ⟨R,i,j,fN,fK,P,ws⟩ _ _ K) ?_
 simp only[aR] at h1
 simp only[BL,Out.run] at ho
 simp only[Nat.zero_add]
 have hP:P.length=i.toNat:=by
  have:=congrArg List.length h5
  rw[List.length_take,aW] at this;omega
 have fin: ∀(s:ByteArray) (l:List ByteArray),ws=s::l->j<R.length->nth R j.toNat= .lit (.string s)->
   (dD fN fK s=false->∃m,m<R.length - j.toNat/\fm Be zu BL (fun a=>a.R.length - a.j.toNat) K m (Be ⟨R,i,j+1,fN,fK,P,l⟩))/\
   (dD fN fK s=true->∃m,m<R.length - j.toNat/\fm Be zu BL (fun a=>a.R.length - a.j.toNat) K m (Be ⟨cg R i.toNat (.lit (.string s)),i+1,j+1,fN,fK,P++[s],l⟩)):=by
  rintro s l rfl hj hn
  obtain⟨_,_,h7⟩:=jA (l:=strs l) h6
  refine⟨fun e=>⟨_,?_,_,rfl,⟨by simpa[aR] using h1,h2,by simp only;omega,by simp only;omega,h5,?_⟩,rfl,?_⟩,fun e=>⟨_,?_,_,rfl,⟨by simpa[aR,gp] using h1,by simp only;omega,by simp only;omega,by simp only[gp];omega,?_,?_⟩,rfl,?_⟩⟩
  ·simp only;omega
  ·simp only[show(j+1).toNat=j.toNat+1 by omega];exact h7
  ·intro y hy
   have:=ho y
   simp only[List.filter_cons,e,Bool.false_eq_true,if_false] at hy this⊢
   exact this hy
  ·simp only[gp];omega
  ·simp only[show(i+1).toNat=i.toNat+1 by omega]
   rw[r6 _ _ _ (by omega),h5,ij];rfl
  ·simp only[show(j+1).toNat=j.toNat+1 by omega]
   rw[rA _ _ _ _ (by omega)];exact h7
  ·intro y hy
   have:=ho y
   simp only[List.filter_cons,e,if_true,gp,List.append_assoc,List.singleton_append] at hy this⊢
   exact this hy
 simp only[ah,an,aa1,aa3,aa2,Bool.not_eq_true',ab3]
 refine⟨fun hj=>⟨⟨by omega,hj⟩,?_⟩,fun hj=>?_⟩
 ·cases ws with
  |nil=>
   have:=congrArg List.length h6
   rw[List.length_drop,aW] at this
   simp at this;omega
  |cons s l=>
   obtain⟨_,hn,_⟩:=jA (l:=strs l) h6
   have hn':toStr (nth R j.toNat)=s:=by rw[hn];rfl
   have hf:=fin s l rfl hj hn
   simp only[Be,gp] at hf
   rw[aV (n:=i+1) (by omega) (by omega),aV (n:=j+1) (by omega) (by omega),hn']
   exact⟨fun e=>hf.1 (by unfold dD lJ;rw[e];rfl),fun e=>⟨fun e2=>⟨⟨by omega,by omega⟩,hf.2 (by unfold dD lJ;rw[e,e2];rfl)⟩,fun e2=>hf.1 (by unfold dD lJ;rw[e,e2];rfl)⟩⟩
 ·have hw:ws=[]:=by
   have:=congrArg List.length h6
   rw[List.length_drop,aW] at this
   cases ws with
   |nil=>rfl
   |cons=>simp at this;omega
  subst hw
  have:=ho R ⟨rfl,by simp only[List.filter_nil,List.append_nil,hP];exact h5⟩
  simp only[List.filter_nil,List.append_nil,hP,Int.toNat_of_nonneg h2] at this
  exact this
noncomputable def VO(κ:Kp):Env:=(MV κ).ak 123 5 (aO 5 Be zu BL)
theorem eGO(κ:Kp):aB (VO κ):=(eFO κ).ak (ZF κ) (lGO κ)
theorem mGO(κ:Kp):aj (VO κ):=(ZF κ).ak aG
theorem yGO(κ:Kp)(a:DO)(K:AV->List Dn.Obj->Prop):(ba (VO κ) 12 123 [.aq 0 0 (strs a.vs).length,M1] (Bd (strs a.vs) a.fN a.fK) K)=(
 letI z1:=List.length (strs a.vs)
 letI z2:=Pg.toProgram (Env.P (oh κ))
 letI z3:=Pg.toProgram (Env.P (MV κ))
 af z2 190 2=af z2 190 2/\∃(e3:DO),sp 19 [(0,AV.aq 0 0 z1),(1,AV.bL 237 [AV.ptr 1 0 [] 0,AV.ptr 3 0 [] 0]),(7,AV.int (↑z1:Int)),(8,AV.int 0)] [Obj.row 9 (strs a.vs),Obj.box 178 (AV.mp 2),Dn.Obj.map 9 4 a.fN,Obj.box 178 (AV.mp 4),Dn.Obj.map 9 4 a.fK]=sp 19 [(0,AV.aq 0 0 (List.length (strs e3.vs))),(1,AV.bL 237 [AV.ptr 1 0 [] 0,AV.ptr 3 0 [] 0]),(7,AV.int (↑(List.length (strs e3.vs)):Int)),(8,AV.int e3.i)] [Obj.row 9 (strs e3.vs),Obj.box 178 (AV.mp 2),Dn.Obj.map 9 4 e3.fN,Obj.box 178 (AV.mp 4),Dn.Obj.map 9 4 e3.fK]/\(e3.vs.length<=9223372036854775807/\(0:Int)<=e3.i/\e3.i<=(↑(e3.vs.length):Int)/\∀(e0:ByteArray),List.Mem e0 (List.take e3.i.toNat e3.vs)->dD e3.fN e3.fK e0=true)/\aD (List.all e3.vs (dD e3.fN e3.fK)) (K (AV.ad 9 (List.take z1 (List.drop 0 (strs e3.vs)))) [Obj.me 9 (strs e3.vs),Obj.box 178 (AV.mp 2),Dn.Obj.map 9 4 e3.fN,Obj.box 178 (AV.mp 4),Dn.Obj.map 9 4 e3.fK]) (∀(e2:Int),((0:Int)<=e2/\∃(e1:e2.toNat<e3.vs.length),(∀(e0:ByteArray),List.Mem e0 (List.take e2.toNat e3.vs)->dD e3.fN e3.fK e0=true)/\dD e3.fN e3.fK e3.vs[e2.toNat]=false)->aD (e2==(-1:Int)) (K (AV.ad 9 (List.take z1 (List.drop 0 (strs e3.vs)))) [Obj.me 9 (strs e3.vs),Obj.box 178 (AV.mp 2),Dn.Obj.map 9 4 e3.fN,Obj.box 178 (AV.mp 4),Dn.Obj.map 9 4 e3.fK]) (af z3 123 5=af z3 123 5/\∃(e1:GO),sp 42 [(0,AV.aq 0 0 z1),(1,AV.bL 237 [AV.ptr 1 0 [] 0,AV.ptr 3 0 [] 0]),(5,AV.int e2),(6,AV.int (IntKind.wrap IntKind.i64 (e2+(1:Int))))] [Obj.row 9 (strs e3.vs),Obj.box 178 (AV.mp 2),Dn.Obj.map 9 4 e3.fN,Obj.box 178 (AV.mp 4),Dn.Obj.map 9 4 e3.fK]=sp 42 [(0,AV.aq 0 0 e1.R.length),(1,AV.bL 237 [AV.ptr 1 0 [] 0,AV.ptr 3 0 [] 0]),(5,AV.int e1.i),(6,AV.int e1.j)] [Obj.row 9 e1.R,Obj.box 178 (AV.mp 2),Dn.Obj.map 9 4 e1.fN,Obj.box 178 (AV.mp 4),Dn.Obj.map 9 4 e1.fK]/\(e1.R.length<=9223372036854775807/\(0:Int)<=e1.i/\e1.i<e1.j/\e1.j<=(↑(e1.R.length):Int)/\List.take e1.i.toNat e1.R=strs e1.P/\List.drop e1.j.toNat e1.R=strs e1.ws)/\∀(e0:List AV),e0.length=e1.R.length/\List.take (List.length (e1.P++List.filter (dD e1.fN e1.fK) e1.ws)) e0=strs (e1.P++List.filter (dD e1.fN e1.fK) e1.ws)->a7 (true&&decide ((↑(List.length (e1.P++List.filter (dD e1.fN e1.fK) e1.ws)):Int)<=(↑(e1.R.length):Int))&&decide ((↑(e1.R.length):Int)<=(↑(e1.R.length):Int))) (a7 (true&&decide ((↑(List.length (e1.P++List.filter (dD e1.fN e1.fK) e1.ws)):Int)<=(↑(e1.R.length):Int))) (K (AV.ad 9 (List.take (Int.toNat ((↑(List.length (e1.P++List.filter (dD e1.fN e1.fK) e1.ws)):Int) - (0:Int))) (List.drop 0 (dN e0 (0+Int.toNat (↑(List.length (e1.P++List.filter (dD e1.fN e1.fK) e1.ws)):Int)) (Int.toNat ((↑(e1.R.length):Int) - (↑(List.length (e1.P++List.filter (dD e1.fN e1.fK) e1.ws)):Int))) (AV.str {data:= #[]}))))) [Obj.me 9 (dN e0 (0+Int.toNat (↑(List.length (e1.P++List.filter (dD e1.fN e1.fK) e1.ws)):Int)) (Int.toNat ((↑(e1.R.length):Int) - (↑(List.length (e1.P++List.filter (dD e1.fN e1.fK) e1.ws)):Int))) (AV.str {data:= #[]})),Obj.box 178 (AV.mp 2),Dn.Obj.map 9 4 e1.fN,Obj.box 178 (AV.mp 4),Dn.Obj.map 9 4 e1.fK]))))):=by kernel_rfl
def FK(a:DO):List AV×List Dn.Obj:=([.aq 0 0 a.vs.length,M1],Bd (strs a.vs) a.fN a.fK)
def j8(a:DO):Prop:=a.vs.length<=aR
def Ek(a:DO):Out (AV×List Dn.Obj):= .all (fun _:List AV=>True) fun R=> .one (.ad 9 (strs (a.vs.filter (dD a.fN a.fK))),[.me 9 R, .box 178 (.mp 2), .map 9 4 a.fN, .box 178 (.mp 4), .map 9 4 a.fK])
theorem Yg(κ:Kp):bu (VO κ) 12 123 (aL FK j8 Ek):=by
 refine aX ?_
 rintro⟨vs,i,fN,fK⟩ K h1 ho
 simp only[j8] at h1
 simp only[FK]
 rw[←aW vs]
 refine Eq.mpr (yGO κ ⟨vs,i,fN,fK⟩ K) ?_
 refine⟨rfl,⟨vs,0,fN,fK⟩,rfl,⟨h1,by simp only;omega,by simp only;omega,fun s hs=>nomatch hs⟩,?_⟩
 rw[ah]
 refine⟨fun e=>?_,fun e y hy=>?_⟩
 ·have hf:vs.filter (dD fN fK)=vs:=List.filter_eq_self.2 (List.all_eq_true.1 e)
  have:=ho (strs vs) trivial
  simp only[hf] at this
  rw[ab1,List.take_length]
  exact this
 ·have hF:=qt hy
  obtain⟨h0,h2,h3,h4⟩:=hy
  simp only at h0 h2
  simp only[aR] at h1
  rw[ah,beq_iff_eq,beq_eq_false_iff_ne]
  refine⟨fun e2=>by omega,fun _=>⟨rfl,⟨strs vs,y,y+1,fN,fK,vs.take y.toNat,vs.drop (y.toNat+1)⟩,?_,⟨by simp only[aW];omega,h0,by simp only;omega,by simp only[aW];omega,?_,?_⟩,?_⟩⟩
  ·rw[aV (n:=y+1) (by omega) (by omega)]
  ·simp only[strs,List.map_take]
  ·simp only[strs,List.map_drop,show(y+1).toNat=y.toNat+1 by omega]
  ·rintro R ⟨r1,r2⟩
   simp only at r1 r2
   rw[←hF] at r2⊢
   have hle:(vs.filter (dD fN fK)).length<=vs.length:=List.length_filter_le _ _
   rw[an,an]
   refine⟨by simp[aW,hle],by simp[aW,hle],?_⟩
   have:=ho (dN R (0+Int.toNat ((vs.filter (dD fN fK)).length:Int)) (Int.toNat (((strs vs).length:Int) - ((vs.filter (dD fN fK)).length:Int))) (.lit (.string (ByteArray.mk #[])))) trivial
   simp only[Int.toNat_natCast,Nat.zero_add,Int.sub_zero,ab1,oe,r2] at this⊢
   exact this
theorem WD(κ:Kp): ∀args st K,aL FK j8 Ek args st K->cM (Pr κ) 123 args st K:=fun args st K h=>iB (eGO κ) (mGO κ) (Yg κ args st K h)
noncomputable def Mj(κ:Kp):Env:=(oh κ).aw 123 (aL FK j8 Ek)
theorem W3(κ:Kp):aB (Mj κ):=(Qv κ).gU (WD κ)
theorem U6(κ:Kp):aj (Mj κ):=(KN κ).aw aJ
theorem y39(κ:Kp)(a:cm)(k:Int)(K:AV->List Dn.Obj->Prop):(ba (Mj κ) 12 188 [ar a, .int k] [] K)=(
 letI z2:=Pg.toProgram (Env.P (JV κ))
 letI z1:=∃(e7:List AV),([AV.ad 56 a.hl],aI)=([AV.ad 56 e7],aI)/\bG e7/\∃(e6:List AV×List (Value×AV)),([AV.mp 0,AV.ad 9 (List.take
  (List.length (ay (aa e7))) (List.drop 0 (strs (ay (aa e7)))))],[Dn.Obj.map 9 4 []])=([AV.mp 0,AV.ad 9 e6.1],[Dn.Obj.map 9 4 e6.2])/\bq e6/\af z2 188 4=
  af z2 188 4/\∃(e5:Sj),sp 53 [(1,AV.int k),(2,AV.ptr 0 0 [] 0),(5,AV.ptr 1 0 [] 0),(17,AV.ad 72 a.bl),(18,AV.int (↑(a.bl.length):Int)),(19,
  AV.int 0)] [Obj.box 66 (ar a),Obj.box 178 (AV.mp 2),Dn.Obj.map 9 4 (fx e6.2 e6.1)]=sp 53 [(1,AV.int e5.k),(2,AV.ptr 0 0 [] 0),(5,AV.ptr 1 0 [] 0),(17,
  AV.ad 72 e5.a.bl),(18,AV.int (↑(List.length e5.a.bl):Int)),(19,AV.int e5.i)] [Obj.box 66 (ar e5.a),Obj.box 178 (AV.mp 2),Dn.Obj.map 9 4 (bQ e5.vs)]/\
  ((aZ (aa (bk 56 e5.a.hl e5.a.bl))<=100000/\List.length e5.a.bl<=100000)/\(0:Int)<=e5.k/\(0:Int)<=e5.i/\e5.i<=(↑(List.length e5.a.bl):Int))/\a7
  (decide ((0:Int)<=e5.k)&&decide (e5.k<(↑(List.length e5.a.bl):Int))) ((∃(e4:List AV),([AV.ad 56 (ai (ae (ae (nth e5.a.bl e5.k.toNat) 1) 1))],aI)=
  ([AV.ad 56 e4],aI)/\bG e4/\∃(e3:List AV×List (Value×AV)),([AV.mp 0,AV.ad 9 (List.take (List.length (ay (aa e4))) (List.drop 0 (strs (ay (aa
  e4)))))],[Dn.Obj.map 9 4 []])=([AV.mp 0,AV.ad 9 e3.1],[Dn.Obj.map 9 4 e3.2])/\bq e3/\∃(e2:cm),([ar e5.a],aI)=([ar e2],aI)/\(aM (aF e2)=true/\
  aZ (aa (bk 56 e2.hl e2.bl))<=100000/\e2.bl.length<=100000)/\∃(e1:DO),([AV.aq 0 0 (List.length (cW (aF e2))),AV.bL 237 [AV.ptr 1 0 [] 0,AV.ptr 3 0 []
  0]],[Obj.row 9 (strs (cW (aF e2))),Obj.box 178 (AV.mp 2),Dn.Obj.map 9 4 (fx e3.2 e3.1),Obj.box 178 (AV.mp 4),Dn.Obj.map 9 4 (bQ (n6 e5))])=([AV.aq 0 0
  e1.vs.length,AV.bL 237 [AV.ptr 1 0 [] 0,AV.ptr 3 0 [] 0]],[Obj.row 9 (strs e1.vs),Obj.box 178 (AV.mp 2),Dn.Obj.map 9 4 e1.fN,Obj.box 178 (AV.mp 4),
  Dn.Obj.map 9 4 e1.fK])/\j8 e1/\∀(e0:List AV),True->K (AV.ad 9 (strs (List.filter (dD e1.fN e1.fK) e1.vs))) [])/\∃(e4:List AV),([AV.ad 56 (ai (ae (ae
  (nth e5.a.bl e5.k.toNat) 1) 1))],aI)=([AV.ad 56 e4],aI)/\bG e4/\∃(e3:List AV×List (Value×AV)),([AV.mp 0,AV.ad 9 (List.take (List.length (ay (aa
  e4))) (List.drop 0 (strs (ay (aa e4)))))],[Dn.Obj.map 9 4 []])=([AV.mp 0,AV.ad 9 e3.1],[Dn.Obj.map 9 4 e3.2])/\bq e3/\∃(e2:cm),([ar e5.a],aI)=([ar
  e2],aI)/\(aM (aF e2)=true/\aZ (aa (bk 56 e2.hl e2.bl))<=100000/\e2.bl.length<=100000)/\∃(e1:DO),([AV.aq 0 0 (List.length (cW (aF e2))),AV.bL 237
  [AV.ptr 1 0 [] 0,AV.ptr 3 0 [] 0]],[Obj.row 9 (strs (cW (aF e2))),Obj.box 178 (AV.mp 2),Dn.Obj.map 9 4 (fx e3.2 e3.1),Obj.box 178 (AV.mp 4),Dn.Obj.map 9 4
  (bQ (n6 e5))])=([AV.aq 0 0 e1.vs.length,AV.bL 237 [AV.ptr 1 0 [] 0,AV.ptr 3 0 [] 0]],[Obj.row 9 (strs e1.vs),Obj.box 178 (AV.mp 2),Dn.Obj.map 9 4 e1.fN,
  Obj.box 178 (AV.mp 4),Dn.Obj.map 9 4 e1.fK])/\j8 e1/\∀(e0:List AV),True->K (AV.ad 9 (strs (List.filter (dD e1.fN e1.fK) e1.vs))) [])
 z1/\z1):=by kernel_rfl
def OX(a:cm×Int):List AV×List Dn.Obj:=([ar a.1, .int a.2],[])
def AM(a:cm×Int):Prop:=aM (aF a.1)=true/\de a.1/\0<=a.2/\a.2<a.1.bl.length
def Pw(a:cm×Int):Out (AV×List Dn.Obj):= .one (.ad 9 (strs (ee (aF a.1) a.2.toNat)),[])
theorem c39(κ:Kp):bu (Mj κ) 12 188 (aL OX AM Pw):=by
 refine aX ?_
 rintro⟨a,k⟩ K ⟨h1,h2,h3,h4⟩ ho
 refine Eq.mpr (y39 κ a k K) ?_
 simp only at h1 h2 h3 h4
 have hc:=oP h2
 have hv:=cx (aa a.hl)
 have hk:k.toNat<a.bl.length:=by omega
 have hlit:=kD h2 hk
 simp only[and_self]
 refine⟨a.hl,rfl,hc,⟨strs (ay (aa a.hl)),[]⟩,?_,?_,trivial,⟨a,k,0,ay (aa a.hl)⟩,rfl,⟨h2,h3,by simp only;omega,by simp only;omega⟩,?_⟩
 ·simp only[ab1,cX]
 ·simp only[bq,aW,aR];omega
 rw[an,aa2,aa1,aa1]
 have hin:ay (aa (ai (ae (ae (nth a.bl k.toNat) 1) 1)))=ay (dP (aF a).body k.toNat).a.l:=by
  rw[show(aF a).body=dg a.bl from rfl,km _ hk,lt_eq]
 have hcl:aZ (aa (ai (ae (ae (nth a.bl k.toNat) 1) 1)))<=100000:=by
  rw[lt_eq] at hlit
  simp only[iX] at hlit;omega
 have hvl:=cx (aa (ai (ae (ae (nth a.bl k.toNat) 1) 1)))
 refine⟨⟨h3,h4⟩,_,rfl,hcl,⟨strs (ay (aa (ai (ae (ae (nth a.bl k.toNat) 1) 1)))),[]⟩,?_,?_,a,rfl,⟨h1,h2⟩,⟨cW (aF a),0,fx [] (strs (ay (aa (ai (ae (ae (nth a.bl k.toNat) 1) 1))))),bQ (n6 ⟨a,k,0,ay (aa a.hl)⟩)⟩,rfl,?_,?_⟩
 ·simp only[ab1,cX]
 ·simp only[bq,aW,aR];omega
 ·have h5:(fo (aF a)).length<=100000:=by
   have h6:=cx (aa (bk 56 a.hl a.bl))
   rw[iG 56 a.rel a.hl a.bl] at h6
   exact Nat.le_trans h6 h2.1
  have h7:=kz (fo (aF a)) []
  simp only[j8,cW,h1,aa8,aR];omega
 ·intro R _
  have hk2:(fun s=>dD (fx [] (strs (ay (aa (ai (ae (ae (nth a.bl k.toNat) 1) 1)))))) (bQ (n6 ⟨a,k,0,ay (aa a.hl)⟩)) s)=fun v=>(ay (dP (aF a).body k.toNat).a.l).contains v&&(P0 (aF a) k.toNat).contains v:=by
   funext s
   unfold dD
   rw[oS,hin]
   congr 1
   exact oS _ s
  have hk3:List.filter (dD (fx [] (strs (ay (aa (ai (ae (ae (nth a.bl k.toNat) 1) 1)))))) (bQ (n6 ⟨a,k,0,ay (aa a.hl)⟩))) (cW (aF a))=ee (aF a) k.toNat:=by
   unfold ee
   exact congrFun (congrArg _ hk2) _
  simp only[hk3]
  exact ho
noncomputable def MH(κ:Kp):Env:=(Mj κ).aw 188 (aL OX AM Pw)
theorem e39(κ:Kp):aB (MH κ):=(W3 κ).aw (U6 κ) (c39 κ)
theorem Zs(κ:Kp):aj (MH κ):=(U6 κ).aw aJ
end Go.Proofs.YthaiinlfnommnaaGreatDoor
