import Derived.Test.YtdpmikfheebicaaGreatDoorDqM2
import Derived.Test.YtdpmikfheebicaaGreatDoorDqM1
namespace Go.Proofs.YtdpmikfheebicaaGreatDoor
open Go Go.Dn Go.Rl Go.Proofs
attribute [local irreducible] bg vc
set_option maxRecDepth 20000
structure Cm where
 xs:List AV
 more:List AV
 t:AV
 m:List AV
 i:Int
abbrev Fx(a:Cm):AV:=oJ 52 (nth a.m a.i.toNat)
def Km:List Nat:=[120,170,158]
def LO(a:AV):List AV×List Dn.Obj:=([.cx 0, .ptr 1 0 [] 0],[.ext (some (oc 52 a)), .box 52 (oJ 52 a)])
def NL(n:Nat)(a:AV):Prop:=(cG a).oT=n/\n<=100000
def EY(_:AV):Out (AV×List Dn.Obj):= .all (fun st'=>wD st') fun st'=> .one (.bp [],st')
def JL(n:Nat):cX:=aZ LO (NL n) EY
noncomputable def Ac(κ:Kp)(r:Nat):Env:=(Q4 κ).aw 170 fun args st K=>∃m,m<r/\JL m args st K
noncomputable abbrev OL(a:Cm)(κ:Kp)(st:LoopState)(p:Option Code):Dn.Obj:=
 .loop (il (Pr κ).toProgram 170 6 st p (ie (bK 25) [(2, .ptr 2 0 [] 0),(4, .ptr 3 0 [] 0),(11, .ae 52 a.m),(12, .int a.m.length),(13, .int a.i),(14, .bool true),
  (15, .jc 52 (nth a.m a.i.toNat)),(16,Fx a),(17,Fx a),(18, .bP 170 [.ptr 4 0 [] 0])]))
noncomputable abbrev om(κ:Kp)(a:Cm):List Dn.Obj:=[.ext (some a.xs), .box 52 (oJ 52 a.t), .box 178 (.cx 0), .box 52 (Fx a), .box 52 (Fx a),OL a κ .ready none]
noncomputable abbrev x9(κ:Kp)(a:Cm)(o:Option (List AV))(st:LoopState)(p:Option Code):List Dn.Obj:=[.ext o, .box 52 (oJ 52 a.t), .box 178 (.cx 0), .box 52 (Fx a), .dead,OL a κ st p]
theorem X8(κ:Kp)(a:Cm)(Q:List Dn.Obj->Prop):(tidy (Pr κ).toProgram 6 (dY (om κ a) (du (om κ a) [.ptr 4 0 [] 0])) Q)=(
 letI z1:=nth a.m a.i.toNat
 letI z2:=toInt (ad z1 0)
 letI z3:=toStr (ad z1 1)
 letI z4:=toInt (ad z1 2)
 letI z5:=ah (ad z1 3)
 Q [Obj.ext (some a.xs),Obj.box 52 (AV.agg [AV.int (toInt (ad a.t 0)),AV.str (toStr (ad a.t 1)),AV.int (toInt (ad a.t 2)),AV.ae 52 (ah (ad a.t 3))]),Obj.box
 178 (AV.cx 0),Obj.box 52 (AV.agg [AV.int z2,AV.str z3,AV.int z4,AV.ae 52 z5]),Obj.dead,Dn.Obj.loop (il Tryz.prog 170 6 LoopState.ready none (ie (bK 25)
 [(2,AV.ptr 2 0 [] 0),(4,AV.ptr 3 0 [] 0),(11,AV.ae 52 a.m),(12,AV.int (↑(a.m.length):Int)),(13,AV.int a.i),(14,AV.bool true),(15,AV.jc 52 z1),
 (16,AV.agg [AV.int z2,AV.str z3,AV.int z4,AV.ae 52 z5]),(17,AV.agg [AV.int z2,AV.str z3,AV.int z4,AV.ae 52 z5]),(18,AV.bP 170 [AV.ptr 4 0 [] 0])]))]):=by kernel_rfl
theorem Y5(κ:Kp)(r:Nat)(a:Cm)(o:List AV)(u:AV)(Q:List Dn.Obj->Prop)(K2:List Dn.Obj->Prop):(jf (vc (Ac κ r) 12) 5 [oJ 52 u] (x9 κ a (some o) .ready none) (fun r st''=>match r with| .lit (.bool true)=>tidy (Pr κ).toProgram 6 st'' Q| .lit (.bool false)=>K2 st''|_=>False))=(
 letI z3:=nth a.m a.i.toNat
 letI z4:=AV.agg [AV.int (toInt (ad a.t 0)),AV.str (toStr (ad a.t 1)),AV.int (toInt (ad a.t 2)),AV.ae 52 (ah (ad a.t 3))]
 letI z5:=toInt (ad z3 0)
 letI z6:=toStr (ad z3 1)
 letI z7:=toInt (ad z3 2)
 letI z8:=ah (ad z3 3)
 letI z1:=AV.agg [AV.int z5,AV.str z6,AV.int z7,AV.ae 52 z8]
 letI z2:=ie (bK 25) [(2,AV.ptr 2 0 [] 0),(4,AV.ptr 3 0 [] 0),(11,AV.ae 52 a.m),(12,AV.int (↑(a.m.length):Int)),(13,AV.int a.i),(14,AV.bool true),
  (15,AV.jc 52 z3),(16,AV.agg [AV.int z5,AV.str z6,AV.int z7,AV.ae 52 z8]),(17,AV.agg [AV.int z5,AV.str z6,AV.int z7,AV.ae 52 z8]),(18,AV.bP 170
  [AV.ptr 4 0 [] 0])]
 ∃(e0:List AV),o=AV.bp [AV.agg [AV.int (toInt (ad u 0)),AV.str (toStr (ad u 1)),AV.int (toInt (ad u 2)),AV.ae 52 (ah (ad u 3))]]::e0/\Q [Obj.ext
 (some e0),Obj.box 52 z4,Obj.box 178 (AV.cx 0),Obj.box 52 z1,Obj.dead,Dn.Obj.loop (il Tryz.prog 170 6 LoopState.ready none z2)]/\K2 [Obj.ext none,Obj.box
 52 z4,Obj.box 178 (AV.cx 0),Obj.box 52 z1,Obj.dead,Dn.Obj.loop (il Tryz.prog 170 6 LoopState.done (some Code.ret) z2),Obj.box 52 (AV.agg [AV.int (toInt (ad
 u 0)),AV.str (toStr (ad u 1)),AV.int (toInt (ad u 2)),AV.ae 52 (ah (ad u 3))])]):=by kernel_rfl
theorem k56(κ:Kp)(a:Cm)(xs:List AV):(AV.cx 0::fB (lj (du (om κ a) [.ptr 4 0 [] 0])) [.ptr 4 0 [] 0],Obj.ext (some xs)::gJ (lj (du (om κ a) [.ptr 4 0 [] 0])) (gQ (om κ a) (du (om κ a) [.ptr 4 0 [] 0])))=([.cx 0, .ptr 1 0 [] 0],[.ext (some xs), .box 52 (Fx a)]):=by kernel_rfl
theorem Zf(κ:Kp)(a:Cm):rH (om κ a) [.ptr 4 0 [] 0]=true:=by kernel_rfl
noncomputable def JA(κ:Kp)(r:Nat):eM:=fun caps st K=>∃a:Cm,(caps,st)=([AV.ptr 4 0 [] 0],om κ a)/\((cG (nth a.m a.i.toNat)).oT<r/\(cG (nth a.m a.i.toNat)).oT<=100000/\a.xs=oc 52 (nth a.m a.i.toNat)++a.more)/\
 (K (x9 κ a (some a.more) .ready none)/\∀u:AV,K (x9 κ a none .done (some .ret)++[.box 52 (oJ 52 u)]))
theorem CE(κ:Kp)(r:Nat):(JA κ r).jI:=by
 rintro caps st K K' hK ⟨a,h1,h2,h3,h4⟩
 exact⟨a,h1,h2,hK _ h3,fun u=>hK _ (h4 u)⟩
theorem Ku(κ:Kp)(r:Nat)(args:List AV)(st:List Dn.Obj)(K:AV->List Dn.Obj->Prop)(h: ∃m,m<r/\JL m args st K):(Ac κ r).call 170 args st K:=h
theorem SC(κ:Kp)(r:Nat):nT (Ac κ r) 12 170 (JA κ r):=by
 rintro caps st K ⟨a,h1,⟨h2,h3,h4⟩,h5,h6⟩
 obtain⟨rfl,rfl⟩:=Prod.mk.inj h1
 refine⟨oc 52 (nth a.m a.i.toNat),fun items st'=>(∀x,x∈items->qF 52 x)/\st'=x9 κ a (some (items++a.more)) .ready none,⟨Zf κ a,?_,?_,?_,?_⟩⟩
 ·refine Ku κ r _ _ _ ⟨_,h2,nth a.m a.i.toNat,?_,⟨rfl,h3⟩,fun st' h=>h⟩
  rw[k56];rfl
 ·rw[show(Ac κ r).P=Pr κ from rfl,show(om κ a).length=6 from rfl,X8]
  exact⟨lO _ _ _ (Nat.lt_succ_self _),by rw[h4];rfl⟩
 ·rintro us rest st' ⟨e1,rfl⟩
  obtain⟨u,hu⟩:=e1 (.bp us) (by simp)
  obtain rfl:=AV.bp.inj hu
  rw[show(Ac κ r).P=Pr κ from rfl,show(om κ a).length=6 from rfl]
  refine Eq.mpr (Y5 κ r a _ u _ _) ?_
  exact⟨_,rfl,⟨fun x hx=>e1 x (by simp[hx]),rfl⟩,h6 u⟩
 ·rintro st' ⟨_,rfl⟩
  exact h5
noncomputable def yp(κ:Kp)(r:Nat):Env:=((Ac κ r).addRange 170 6 170 (JA κ r)).dM (fun f=>kh f Km)
theorem PB(κ:Kp)(r:Nat):ai (Ac κ r):=(S6 κ).aw (fun _ _ _ _ hK ⟨m,h1,h2⟩=>⟨m,h1,aI _ _ _ _ hK h2⟩)
theorem Xt(κ:Kp)(r:Nat)(a:Cm)(I:Nat->S->Prop)(n:Nat)(K:Exit->S->Prop):(vc (yp κ r) 12 170 none 2 (ag (Pr κ).toProgram 170 3) (sp 25 [(2, .ptr 2 0 [] 0),(11, .ae 52 a.m),(12, .int a.m.length),(13, .int a.i)] [.ext (some a.xs), .box 52 (oJ 52 a.t), .box 178 (.cx 0)]) (bI (yp κ r) 170 3 2 I n K))=(
 letI z2:=nth a.m a.i.toNat
 letI z3:=AV.agg [AV.int (toInt (ad a.t 0)),AV.str (toStr (ad a.t 1)),AV.int (toInt (ad a.t 2)),AV.ae 52 (ah (ad a.t 3))]
 letI z4:=a.i<(↑(a.m.length):Int)
 letI z5:=toInt (ad z2 0)
 letI z6:=toStr (ad z2 1)
 letI z7:=toInt (ad z2 2)
 letI z8:=ah (ad z2 3)
 letI z1:=AV.agg [AV.int z5,AV.str z6,AV.int z7,AV.ae 52 z8]
 ax (decide z4) (aO (decide ((0:Int)<=a.i)&&decide z4) (∃(e1:Cm),([AV.ptr 4 0 [] 0],[Obj.ext (some a.xs),Obj.box 52 z3,Obj.box 178 (AV.cx 0),Obj.box
 52 z1,Obj.box 52 z1,Dn.Obj.loop (il Tryz.prog 170 6 LoopState.ready none (ie (bK 25) [(2,AV.ptr 2 0 [] 0),(4,AV.ptr 3 0 [] 0),(11,AV.ae 52 a.m),(12,
 AV.int (↑(a.m.length):Int)),(13,AV.int a.i),(14,AV.bool true),(15,AV.jc 52 z2),(16,AV.agg [AV.int z5,AV.str z6,AV.int z7,AV.ae 52 z8]),(17,AV.agg
 [AV.int z5,AV.str z6,AV.int z7,AV.ae 52 z8]),(18,AV.bP 170 [AV.ptr 4 0 [] 0])]))])=([AV.ptr 4 0 [] 0],[Obj.ext (some e1.xs),Obj.box 52 (AV.agg [AV.int
 (toInt (ad e1.t 0)),AV.str (toStr (ad e1.t 1)),AV.int (toInt (ad e1.t 2)),AV.ae 52 (ah (ad e1.t 3))]),Obj.box 178 (AV.cx 0),Obj.box 52 (AV.agg [AV.int
 (toInt (ad (nth e1.m e1.i.toNat) 0)),AV.str (toStr (ad (nth e1.m e1.i.toNat) 1)),AV.int (toInt (ad (nth e1.m e1.i.toNat) 2)),AV.ae 52 (ah (ad (nth e1.m
 e1.i.toNat) 3))]),Obj.box 52 (AV.agg [AV.int (toInt (ad (nth e1.m e1.i.toNat) 0)),AV.str (toStr (ad (nth e1.m e1.i.toNat) 1)),AV.int (toInt (ad (nth e1.m
 e1.i.toNat) 2)),AV.ae 52 (ah (ad (nth e1.m e1.i.toNat) 3))]),Dn.Obj.loop (il Tryz.prog 170 6 LoopState.ready none (ie (bK 25) [(2,AV.ptr 2 0 [] 0),(4,
 AV.ptr 3 0 [] 0),(11,AV.ae 52 e1.m),(12,AV.int (↑(e1.m.length):Int)),(13,AV.int e1.i),(14,AV.bool true),(15,AV.jc 52 (nth e1.m e1.i.toNat)),(16,
 AV.agg [AV.int (toInt (ad (nth e1.m e1.i.toNat) 0)),AV.str (toStr (ad (nth e1.m e1.i.toNat) 1)),AV.int (toInt (ad (nth e1.m e1.i.toNat) 2)),AV.ae 52 (ah (ad
 (nth e1.m e1.i.toNat) 3))]),(17,AV.agg [AV.int (toInt (ad (nth e1.m e1.i.toNat) 0)),AV.str (toStr (ad (nth e1.m e1.i.toNat) 1)),AV.int (toInt (ad (nth e1.m
 e1.i.toNat) 2)),AV.ae 52 (ah (ad (nth e1.m e1.i.toNat) 3))]),(18,AV.bP 170 [AV.ptr 4 0 [] 0])]))])/\(Tm.oT (cG (nth e1.m e1.i.toNat))<r/\Tm.oT (cG (nth
 e1.m e1.i.toNat))<=100000/\e1.xs=oc 52 (nth e1.m e1.i.toNat)++e1.more)/\(∃(e0:Nat),e0<n/\I e0 (sp 25 [(2,AV.ptr 2 0 [] 0),(11,AV.ae 52 a.m),
 (12,AV.int (↑(a.m.length):Int)),(13,AV.int (IntKind.wrap IntKind.i64 (a.i+(1:Int))))] [Obj.ext (some e1.more),Obj.box 52 (AV.agg [AV.int (toInt (ad
 e1.t 0)),AV.str (toStr (ad e1.t 1)),AV.int (toInt (ad e1.t 2)),AV.ae 52 (ah (ad e1.t 3))]),Obj.box 178 (AV.cx 0)]))/\∀(e0:AV),K Exit.ret (sp 25 []
 [Obj.ext none,Obj.box 52 (AV.agg [AV.int (toInt (ad e1.t 0)),AV.str (toStr (ad e1.t 1)),AV.int (toInt (ad e1.t 2)),AV.ae 52 (ah (ad e1.t 3))])]))) (K
 (Exit.exit 0) (sp 25 [] [Obj.ext (some a.xs),Obj.box 52 z3]))):=by kernel_rfl
abbrev Mm(a:Cm):S:=sp 25 [(2, .ptr 2 0 [] 0),(11, .ae 52 a.m),(12, .int a.m.length),(13, .int a.i)] [.ext (some a.xs), .box 52 (oJ 52 a.t), .box 178 (.cx 0)]
def Ds(r:Nat)(a:Cm):Prop:=a.m.length<=aP/\0<=a.i/\a.i<=a.m.length/\aM (aa (a.m.drop a.i.toNat))<r/\aM (aa (a.m.drop a.i.toNat))<=100000/\a.xs=eS 52 (a.m.drop a.i.toNat)
def GS(a:Cm):Out (Exit×S):= .all (fun _:Bool=>True) fun b=> .ax b (.one (.exit 0,sp 25 [] [.ext (some []), .box 52 (oJ 52 a.t)])) (.one (.ret,sp 25 [] [.ext none, .box 52 (oJ 52 a.t)]))
theorem s6(l:List AV)(i:Nat)(h:i<l.length):aM (aa (l.drop i))=(cG (nth l i)).oT+aM (aa (l.drop (i+1))):=by
 rw[dS l i h,aM]
theorem l56(κ:Kp)(r:Nat):bn (yp κ r) 12 170 3 (aQ 2 Mm (Ds r) GS):=by
 refine aR (fun a=>a.m.length - a.i.toNat) ?_
 rintro⟨xs,more,t,m,i⟩ K ⟨h1,h2,h3,h4,h5,h6⟩ ho
 simp only at h1 h2 h3 h4 h5 h6
 rw[show(yp κ r).P=Pr κ from rfl]
 refine Eq.mpr (Xt κ r ⟨xs,more,t,m,i⟩ _ _ K) ?_
 have ho1:=ho true trivial
 have ho2:=ho false trivial
 simp only[Out.run,ax] at ho1 ho2
 simp only[aP] at h1
 simp only[af,au,aa0,aa2,aa1]
 refine⟨fun hi=>⟨⟨h2,hi⟩,?_⟩,fun hi=>?_⟩
 ·have hc:=s6 m i.toNat (by omega)
  rw[tC _ m i.toNat (by omega)] at h6
  rw[a5 (n:=i+1) (by omega) (by omega)]
  refine⟨⟨xs,eS 52 (m.drop (i.toNat+1)),t,m,i⟩,rfl,⟨by simp only;omega,by simp only;omega,h6⟩,⟨_,?_,⟨_,more,t,m,i+1⟩,rfl,⟨by simpa[aP] using h1,by simp only;omega,by simp only;omega,?_,?_,?_⟩,rfl,ho⟩,fun _=>ho2⟩
  ·simp only;omega
  ·simp only[show(i+1).toNat=i.toNat+1 by omega];omega
  ·simp only[show(i+1).toNat=i.toNat+1 by omega];omega
  ·simp only[show(i+1).toNat=i.toNat+1 by omega]
 ·rw[aa8 (by omega)] at h6
  subst h6
  exact ho1
noncomputable def FQ(κ:Kp)(r:Nat):Env:=(yp κ r).aj 170 3 (aQ 2 Mm (Ds r) GS)
theorem V5(κ:Kp)(r:Nat)(t:AV)(xs:List AV)(K:AV->List Dn.Obj->Prop):(bg (FQ κ r) 12 170 [.cx 0, .ptr 1 0 [] 0] [.ext (some xs), .box 52 (oJ 52 t)] K)=(
 letI z2:=ah (ad t 3)
 letI z1:=AV.agg [AV.int (toInt (ad t 0)),AV.str (toStr (ad t 1)),AV.int (toInt (ad t 2)),AV.ae 52 z2]
 letI z3:=Pg.toProgram (Env.P (yp κ r))
 ∃(e2:List AV),xs=AV.bp [AV.agg [AV.int (toInt (ad t 0)),AV.str (toStr (ad t 1)),AV.int (toInt (ad t 2)),AV.ae 52 z2]]::e2/\(ag z3 170 3=ag z3 170
 3/\∃(e1:Cm),sp 25 [(2,AV.ptr 2 0 [] 0),(11,AV.ae 52 z2),(12,AV.int (↑(List.length z2):Int)),(13,AV.int 0)] [Obj.ext (some e2),Obj.box 52 z1,
 Obj.box 178 (AV.cx 0)]=sp 25 [(2,AV.ptr 2 0 [] 0),(11,AV.ae 52 e1.m),(12,AV.int (↑(e1.m.length):Int)),(13,AV.int e1.i)] [Obj.ext (some e1.xs),
 Obj.box 52 (AV.agg [AV.int (toInt (ad e1.t 0)),AV.str (toStr (ad e1.t 1)),AV.int (toInt (ad e1.t 2)),AV.ae 52 (ah (ad e1.t 3))]),Obj.box 178 (AV.cx 0)]/\
 (e1.m.length<=9223372036854775807/\(0:Int)<=e1.i/\e1.i<=(↑(e1.m.length):Int)/\aM (aa (List.drop e1.i.toNat e1.m))<r/\aM (aa (List.drop e1.i.toNat
 e1.m))<=100000/\e1.xs=eS 52 (List.drop e1.i.toNat e1.m))/\∀(e0:Bool),True->ax e0 (K (AV.bp []) [Obj.ext (some []),Obj.box 52 (AV.agg [AV.int (toInt
 (ad e1.t 0)),AV.str (toStr (ad e1.t 1)),AV.int (toInt (ad e1.t 2)),AV.ae 52 (ah (ad e1.t 3))])]) (K (AV.bp []) [Obj.ext none,Obj.box 52 (AV.agg [AV.int
 (toInt (ad e1.t 0)),AV.str (toStr (ad e1.t 1)),AV.int (toInt (ad e1.t 2)),AV.ae 52 (ah (ad e1.t 3))])]))/\K (AV.bp []) [Obj.ext none,Obj.box 52 z1]):=by kernel_rfl
theorem RV(κ:Kp)(r:Nat)(hp: ∀args st K,(∃m,m<r/\JL m args st K)->dj (Pr κ) 170 args st K):aC (FQ κ r)/\ai (FQ κ r)/\(FQ κ r).P=Pr κ:=
 have h:aC (Ac κ r):=(Q7 κ).me hp
 have h2:aC (yp κ r):=(h.addRange (PB κ r) (SC κ r)).dM _
 have hm:ai (yp κ r):=((PB κ r).addRange (CE κ r)).dM _
 ⟨h2.aj hm (l56 κ r),hm.aj aG,rfl⟩
theorem c56(κ:Kp)(r:Nat):bz (FQ κ r) 12 170 (JL r):=by
 refine bh ?_
 rintro t K ⟨h1,h2⟩ ho
 have hn: ∀b,K (.bp []) [.ext none,b]:=fun b=>ho _ trivial
 have h0: ∀b,K (.bp []) [.ext (some []),b]:=fun b=>ho _ trivial
 refine Eq.mpr (V5 κ r t _ K) ?_
 rw[cE,Tm.oT] at h1
 have hl:=fJ (aa (ah (ad t 3)))
 rw[eY] at hl
 rw[yC]
 refine⟨_,rfl,⟨rfl,⟨_,[],t,ah (ad t 3),0⟩,rfl,⟨by simp only;omega,by simp only;omega,by simp only;omega,?_,?_,rfl⟩,?_⟩,hn _⟩
 ·simp only[ab7,ab0];omega
 ·simp only[ab7,ab0];omega
 ·intro y _
  cases y
  ·exact hn _
  ·exact h0 _
def xF(a:AV):Prop:=(cG a).oT<=100000
theorem Zw(κ:Kp): ∀args st K,aZ LO xF EY args st K->dj (Pr κ) 170 args st K:=by
 rintro args st K ⟨l,h1,h2,h3⟩
 exact aC.x0 JL (FQ κ) (RV κ) (c56 κ) (cG l).oT args st K ⟨l,h1,⟨rfl,h2⟩,h3⟩
noncomputable def GW(κ:Kp):Env:=(Q4 κ).aw 170 (aZ LO xF EY)
theorem XI(κ:Kp):aC (GW κ):=(Q7 κ).me (Zw κ)
theorem Ug(κ:Kp):ai (GW κ):=(S6 κ).aw aI
structure uQ where
 xs:List AV
 more:List AV
 r:ba
 bl:List AV
 ts:List AV
 i:Int
abbrev BP(a:uQ):AV:=oJ 52 (nth a.ts (0+a.i.toNat))
abbrev Ex(a:uQ):S:=sp 46 [(2, .ptr 2 0 [] 0),(3, .az 3 0 a.ts.length),(14, .ae 55 a.bl),(15, .int a.bl.length),(16, .int a.i)] [.ext (some a.xs), .box 41 (an a.r), .box 178 (.cx 0), .row 52 a.ts]
theorem Re(κ:Kp)(a:uQ)(I:Nat->S->Prop)(n:Nat)(K:Exit->S->Prop):(vc (GW κ) 12 158 none 2 (ag (Pr κ).toProgram 158 3) (Ex a) (bI (GW κ) 158 3 2 I n K))=(
 letI z1:=nth a.bl a.i.toNat
 letI z2:=a.i<(↑(a.bl.length):Int)
 letI z3:=ad (ad z1 1) 1
 ax (decide z2) (aO (decide ((0:Int)<=a.i)&&decide z2) (aO (decide ((a.ts.length+2+1)*57<=70368744177664)) (aO (decide ((a.ts.length+2+
 List.length (ah z3)+1)*57<=70368744177664)) (∃(e0:Nat),e0<n/\I e0 (sp 46 [(2,AV.ptr 2 0 [] 0),(3,AV.az 3 0 (a.ts.length+2+List.length (ah
 z3))),(14,AV.ae 55 a.bl),(15,AV.int (↑(a.bl.length):Int)),(16,AV.int (IntKind.wrap IntKind.i64 (a.i+(1:Int))))] [Obj.ext (some a.xs),Obj.box 41 (an
 a.r),Obj.box 178 (AV.cx 0),Obj.row 52 (List.take (a.ts.length+2) (List.take a.ts.length a.ts++[AV.agg [AV.int (toInt (ad (ad z1 2) 0)),AV.str (toStr (ad
 (ad z1 2) 1)),AV.int (toInt (ad (ad z1 2) 2)),AV.ae 52 (ah (ad (ad z1 2) 3))],AV.agg [AV.int (toInt (ad (ad z1 3) 0)),AV.str (toStr (ad (ad z1 3) 1)),
 AV.int (toInt (ad (ad z1 3) 2)),AV.ae 52 (ah (ad (ad z1 3) 3))]])++ah z3)]))))) (K (Exit.exit 0) (sp 46 [(2,AV.ptr 2 0 [] 0),(3,AV.az 3 0 a.ts.length)]
 [Obj.ext (some a.xs),Obj.box 41 (an a.r),Obj.box 178 (AV.cx 0),Obj.row 52 a.ts]))):=by kernel_rfl
def di(l:List AV):List AV:=l.flatMap fun a=>[oJ 52 (ad a 2),oJ 52 (ad a 3)]++ah (ad (ad a 1) 1)
def EX(a:uQ):Prop:=a.bl.length<=aP/\0<=a.i/\a.i<=a.bl.length/\(a.ts++di (a.bl.drop a.i.toNat)).length<=100000
def y3(a:uQ):Out (Exit×S):= .one (.exit 0,sp 46 [(2, .ptr 2 0 [] 0),(3, .az 3 0 (a.ts++di (a.bl.drop a.i.toNat)).length)] [.ext (some a.xs), .box 41 (an a.r), .box 178 (.cx 0), .row 52 (a.ts++di (a.bl.drop a.i.toNat))])
theorem Cl(l:List AV)(i:Nat)(h:i<l.length):di (l.drop i)=[oJ 52 (ad (nth l i) 2),oJ 52 (ad (nth l i) 3)]++ah (ad (ad (nth l i) 1) 1)++di (l.drop (i+1)):=by
 rw[ab1 h,a8 l i h];rfl
theorem Rm(κ:Kp):bn (GW κ) 12 158 3 (aQ 2 Ex EX y3):=by
 refine aR (fun a=>a.bl.length - a.i.toNat) ?_
 rintro⟨xs,more,r,bl,ts,i⟩ K ⟨h1,h2,h3,h4⟩ ho
 simp only at h1 h2 h3 h4
 rw[show(GW κ).P=Pr κ from rfl]
 refine Eq.mpr (Re κ ⟨xs,more,r,bl,ts,i⟩ _ _ K) ?_
 simp only[and_self]
 simp only[y3,Out.run] at ho
 simp only[aP] at h1
 simp only[af,au,aa0,aa2,aa1]
 refine⟨fun hi=>⟨⟨h2,hi⟩,?_⟩,fun hi=>?_⟩
 ·have hp:=Cl bl i.toNat (by omega)
  rw[hp] at h4 ho
  rw[a5 (n:=i+1) (by omega) (by omega)]
  simp only[ab8,List.length_cons,List.length_nil] at h4
  refine⟨by omega,by omega,_,?_,⟨xs,more,r,bl,ts++([oJ 52 (ad (nth bl i.toNat) 2),oJ 52 (ad (nth bl i.toNat) 3)]++ah (ad (ad (nth bl i.toNat) 1) 1)),i+1⟩,?_,⟨by simpa[aP] using h1,by simp only;omega,by simp only;omega,?_⟩,rfl,?_⟩
  ·simp only;omega
  ·simp only[Ex,ab8,List.length_cons,List.length_nil,List.take_length]
   rw[List.take_of_length_le (by simp),show ts.length+2+(ah (ad (ad (nth bl i.toNat) 1) 1)).length=ts.length+(0+1+1+(ah (ad (ad (nth bl i.toNat) 1) 1)).length) by omega,List.append_assoc]
   rfl
  ·simp only[ab8,List.length_cons,List.length_nil,show(i+1).toNat=i.toNat+1 by omega];omega
  ·simp only[y3,Out.run,show(i+1).toNat=i.toNat+1 by omega]
   simpa only[List.append_assoc] using ho
 ·rw[aa8 (by omega)] at ho
  simpa[di] using ho
noncomputable def A7(κ:Kp):Env:=(GW κ).aj 158 3 (aQ 2 Ex EX y3)
theorem R9(κ:Kp):aC (A7 κ):=(XI κ).aj (Ug κ) (Rm κ)
theorem OI(κ:Kp):ai (A7 κ):=(Ug κ).aj aG
noncomputable abbrev P4(a:uQ)(κ:Kp)(st:LoopState)(p:Option Code):Dn.Obj:=
 .loop (il (Pr κ).toProgram 158 11 st p (ie (bK 46) [(2, .ptr 2 0 [] 0),(7, .ptr 4 0 [] 0),(32, .az 3 0 a.ts.length),(33, .int a.ts.length),(34, .int a.i),(35, .bool true),
  (36, .ptr 3 (0+a.i.toNat) [] 0),(37,BP a),(38,BP a),(39, .bP 170 [.ptr 5 0 [] 0])]))
noncomputable abbrev ot(κ:Kp)(a:uQ):List Dn.Obj:=[.ext (some a.xs), .box 41 (an a.r), .box 178 (.cx 0), .row 52 a.ts, .box 52 (BP a), .box 52 (BP a),P4 a κ .ready none]
noncomputable abbrev xW(κ:Kp)(a:uQ)(o:Option (List AV))(st:LoopState)(p:Option Code):List Dn.Obj:=[.ext o, .box 41 (an a.r), .box 178 (.cx 0), .row 52 a.ts, .box 52 (BP a), .dead,P4 a κ st p]
theorem R0(κ:Kp)(a:uQ)(Q:List Dn.Obj->Prop):(tidy (Pr κ).toProgram 7 (dY (ot κ a) (du (ot κ a) [.ptr 5 0 [] 0])) Q)=(
 letI z1:=nth a.ts (0+a.i.toNat)
 letI z2:=toInt (ad z1 0)
 letI z3:=toStr (ad z1 1)
 letI z4:=toInt (ad z1 2)
 letI z5:=ah (ad z1 3)
 Q [Obj.ext (some a.xs),Obj.box 41 (an a.r),Obj.box 178 (AV.cx 0),Obj.row 52 a.ts,Obj.box 52 (AV.agg [AV.int z2,AV.str z3,AV.int z4,AV.ae 52 z5]),
 Obj.dead,Dn.Obj.loop (il Tryz.prog 158 11 LoopState.ready none (ie (bK 46) [(2,AV.ptr 2 0 [] 0),(7,AV.ptr 4 0 [] 0),(32,AV.az 3 0 a.ts.length),(33,
 AV.int (↑(a.ts.length):Int)),(34,AV.int a.i),(35,AV.bool true),(36,AV.ptr 3 (0+a.i.toNat) [] 0),(37,AV.agg [AV.int z2,AV.str z3,AV.int z4,AV.ae
 52 z5]),(38,AV.agg [AV.int z2,AV.str z3,AV.int z4,AV.ae 52 z5]),(39,AV.bP 170 [AV.ptr 5 0 [] 0])]))]):=by kernel_rfl
theorem Vl(κ:Kp)(a:uQ)(o:List AV)(u:AV)(Q:List Dn.Obj->Prop)(K2:List Dn.Obj->Prop):(jf (vc (A7 κ) 12) 6 [oJ 52 u] (xW κ a (some o) .ready none) (fun r st''=>match r with| .lit (.bool true)=>tidy (Pr κ).toProgram 7 st'' Q| .lit (.bool false)=>K2 st''|_=>False))=(
 letI z3:=nth a.ts (0+a.i.toNat)
 letI z4:=toInt (ad z3 0)
 letI z5:=toStr (ad z3 1)
 letI z6:=toInt (ad z3 2)
 letI z7:=ah (ad z3 3)
 letI z1:=AV.agg [AV.int z4,AV.str z5,AV.int z6,AV.ae 52 z7]
 letI z2:=ie (bK 46) [(2,AV.ptr 2 0 [] 0),(7,AV.ptr 4 0 [] 0),(32,AV.az 3 0 a.ts.length),(33,AV.int (↑(a.ts.length):Int)),(34,AV.int a.i),(35,
  AV.bool true),(36,AV.ptr 3 (0+a.i.toNat) [] 0),(37,AV.agg [AV.int z4,AV.str z5,AV.int z6,AV.ae 52 z7]),(38,AV.agg [AV.int z4,AV.str z5,AV.int z6,
  AV.ae 52 z7]),(39,AV.bP 170 [AV.ptr 5 0 [] 0])]
 ∃(e0:List AV),o=AV.bp [AV.agg [AV.int (toInt (ad u 0)),AV.str (toStr (ad u 1)),AV.int (toInt (ad u 2)),AV.ae 52 (ah (ad u 3))]]::e0/\Q [Obj.ext
 (some e0),Obj.box 41 (an a.r),Obj.box 178 (AV.cx 0),Obj.row 52 a.ts,Obj.box 52 z1,Obj.dead,Dn.Obj.loop (il Tryz.prog 158 11 LoopState.ready none z2)]/\K2
 [Obj.ext none,Obj.box 41 (an a.r),Obj.box 178 (AV.cx 0),Obj.row 52 a.ts,Obj.box 52 z1,Obj.dead,Dn.Obj.loop (il Tryz.prog 158 11 LoopState.done (some
 Code.ret) z2),Obj.box 52 (AV.agg [AV.int (toInt (ad u 0)),AV.str (toStr (ad u 1)),AV.int (toInt (ad u 2)),AV.ae 52 (ah (ad u 3))])]):=by kernel_rfl
theorem k42(κ:Kp)(a:uQ)(xs:List AV):(AV.cx 0::fB (lj (du (ot κ a) [.ptr 5 0 [] 0])) [.ptr 5 0 [] 0],Obj.ext (some xs)::gJ (lj (du (ot κ a) [.ptr 5 0 [] 0])) (gQ (ot κ a) (du (ot κ a) [.ptr 5 0 [] 0])))=([.cx 0, .ptr 1 0 [] 0],[.ext (some xs), .box 52 (BP a)]):=by kernel_rfl
theorem V9(κ:Kp)(a:uQ):rH (ot κ a) [.ptr 5 0 [] 0]=true:=by kernel_rfl
noncomputable def GN(κ:Kp):eM:=fun caps st K=>∃a:uQ,(caps,st)=([AV.ptr 5 0 [] 0],ot κ a)/\((cG (nth a.ts a.i.toNat)).oT<=100000/\a.xs=oc 52 (nth a.ts a.i.toNat)++a.more)/\
 (K (xW κ a (some a.more) .ready none)/\∀u:AV,K (xW κ a none .done (some .ret)++[.box 52 (oJ 52 u)]))
theorem B3(κ:Kp):(GN κ).jI:=by
 rintro caps st K K' hK ⟨a,h1,h2,h3,h4⟩
 exact⟨a,h1,h2,hK _ h3,fun u=>hK _ (h4 u)⟩
theorem call42(κ:Kp)(args:List AV)(st:List Dn.Obj)(K:AV->List Dn.Obj->Prop)(h:aZ LO xF EY args st K):(A7 κ).call 170 args st K:=h
theorem Rt(κ:Kp):nT (A7 κ) 12 170 (GN κ):=by
 rintro caps st K ⟨a,h1,⟨h3,h4⟩,h5,h6⟩
 obtain⟨rfl,rfl⟩:=Prod.mk.inj h1
 refine⟨oc 52 (nth a.ts a.i.toNat),fun items st'=>(∀x,x∈items->qF 52 x)/\st'=xW κ a (some (items++a.more)) .ready none,⟨V9 κ a,?_,?_,?_,?_⟩⟩
 ·refine call42 κ _ _ _ ⟨nth a.ts a.i.toNat,?_,h3,fun st' h=>h⟩
  rw[k42,BP,Nat.zero_add];rfl
 ·rw[show(A7 κ).P=Pr κ from rfl,show(ot κ a).length=7 from rfl,R0]
  exact⟨lO _ _ _ (Nat.lt_succ_self _),by rw[h4];rfl⟩
 ·rintro us rest st' ⟨e1,rfl⟩
  obtain⟨u,hu⟩:=e1 (.bp us) (by simp)
  obtain rfl:=AV.bp.inj hu
  rw[show(A7 κ).P=Pr κ from rfl,show(ot κ a).length=7 from rfl]
  refine Eq.mpr (Vl κ a _ u _ _) ?_
  exact⟨_,rfl,⟨fun x hx=>e1 x (by simp[hx]),rfl⟩,h6 u⟩
 ·rintro st' ⟨_,rfl⟩
  exact h5
noncomputable def tW(κ:Kp):Env:=((A7 κ).addRange 158 11 170 (GN κ)).dM (fun f=>kh f Km)
theorem Sb(κ:Kp):aC (tW κ):=((R9 κ).addRange (OI κ) (Rt κ)).dM _
theorem OA(κ:Kp):ai (tW κ):=((OI κ).addRange (B3 κ)).dM _
abbrev D5(a:uQ):S:=sp 46 [(2, .ptr 2 0 [] 0),(32, .az 3 0 a.ts.length),(33, .int a.ts.length),(34, .int a.i)] [.ext (some a.xs), .box 41 (an a.r), .box 178 (.cx 0), .row 52 a.ts]
theorem RM(κ:Kp)(a:uQ)(I:Nat->S->Prop)(n:Nat)(K:Exit->S->Prop):(vc (tW κ) 12 158 none 2 (ag (Pr κ).toProgram 158 8) (D5 a) (bI (tW κ) 158 8 2 I n K))=(
 letI z2:=nth a.ts (0+a.i.toNat)
 letI z3:=a.ts.length
 letI z4:=toInt (ad z2 0)
 letI z5:=toStr (ad z2 1)
 letI z6:=toInt (ad z2 2)
 letI z7:=ah (ad z2 3)
 letI z1:=AV.agg [AV.int z4,AV.str z5,AV.int z6,AV.ae 52 z7]
 ax (decide (a.i<(↑z3:Int))) (aO (decide ((0:Int)<=a.i)&&decide (a.i<(↑z3:Int))) (∃(e1:uQ),([AV.ptr 5 0 [] 0],[Obj.ext (some a.xs),Obj.box 41
 (an a.r),Obj.box 178 (AV.cx 0),Obj.row 52 a.ts,Obj.box 52 z1,Obj.box 52 z1,Dn.Obj.loop (il Tryz.prog 158 11 LoopState.ready none (ie (bK 46) [(2,AV.ptr 2
 0 [] 0),(7,AV.ptr 4 0 [] 0),(32,AV.az 3 0 a.ts.length),(33,AV.int (↑z3:Int)),(34,AV.int a.i),(35,AV.bool true),(36,AV.ptr 3 (0+a.i.toNat) [] 0),
 (37,AV.agg [AV.int z4,AV.str z5,AV.int z6,AV.ae 52 z7]),(38,AV.agg [AV.int z4,AV.str z5,AV.int z6,AV.ae 52 z7]),(39,AV.bP 170 [AV.ptr 5 0 [] 0])]))])
 =([AV.ptr 5 0 [] 0],[Obj.ext (some e1.xs),Obj.box 41 (an e1.r),Obj.box 178 (AV.cx 0),Obj.row 52 e1.ts,Obj.box 52 (AV.agg [AV.int (toInt (ad (nth e1.ts (0
 +e1.i.toNat)) 0)),AV.str (toStr (ad (nth e1.ts (0+e1.i.toNat)) 1)),AV.int (toInt (ad (nth e1.ts (0+e1.i.toNat)) 2)),AV.ae 52 (ah (ad (nth e1.ts (0+
 e1.i.toNat)) 3))]),Obj.box 52 (AV.agg [AV.int (toInt (ad (nth e1.ts (0+e1.i.toNat)) 0)),AV.str (toStr (ad (nth e1.ts (0+e1.i.toNat)) 1)),AV.int (toInt
 (ad (nth e1.ts (0+e1.i.toNat)) 2)),AV.ae 52 (ah (ad (nth e1.ts (0+e1.i.toNat)) 3))]),Dn.Obj.loop (il Tryz.prog 158 11 LoopState.ready none (ie (bK 46)
 [(2,AV.ptr 2 0 [] 0),(7,AV.ptr 4 0 [] 0),(32,AV.az 3 0 e1.ts.length),(33,AV.int (↑(e1.ts.length):Int)),(34,AV.int e1.i),(35,AV.bool true),(36,
 AV.ptr 3 (0+e1.i.toNat) [] 0),(37,AV.agg [AV.int (toInt (ad (nth e1.ts (0+e1.i.toNat)) 0)),AV.str (toStr (ad (nth e1.ts (0+e1.i.toNat)) 1)),AV.int
 (toInt (ad (nth e1.ts (0+e1.i.toNat)) 2)),AV.ae 52 (ah (ad (nth e1.ts (0+e1.i.toNat)) 3))]),(38,AV.agg [AV.int (toInt (ad (nth e1.ts (0+e1.i.toNat))
 0)),AV.str (toStr (ad (nth e1.ts (0+e1.i.toNat)) 1)),AV.int (toInt (ad (nth e1.ts (0+e1.i.toNat)) 2)),AV.ae 52 (ah (ad (nth e1.ts (0+e1.i.toNat))
 3))]),(39,AV.bP 170 [AV.ptr 5 0 [] 0])]))])/\(Tm.oT (cG (nth e1.ts e1.i.toNat))<=100000/\e1.xs=oc 52 (nth e1.ts e1.i.toNat)++e1.more)/\(∃(e0:Nat),
 e0<n/\I e0 (sp 46 [(2,AV.ptr 2 0 [] 0),(32,AV.az 3 0 a.ts.length),(33,AV.int (↑z3:Int)),(34,AV.int (IntKind.wrap IntKind.i64 (a.i+(1:Int))))]
 [Obj.ext (some e1.more),Obj.box 41 (an e1.r),Obj.box 178 (AV.cx 0),Obj.row 52 e1.ts]))/\∀(e0:AV),K Exit.ret (sp 46 [] [Obj.ext none,Obj.box 41 (an
 e1.r)]))) (K (Exit.exit 2) (sp 46 [] [Obj.ext (some a.xs),Obj.box 41 (an a.r)]))):=by kernel_rfl
def x7(a:uQ):Prop:=a.ts.length<=aP/\0<=a.i/\a.i<=a.ts.length/\aM (aa (a.ts.drop a.i.toNat))<=100000/\a.xs=eS 52 (a.ts.drop a.i.toNat)
def Hz(a:uQ):Out (Exit×S):= .all (fun _:Bool=>True) fun b=> .ax b (.one (.exit 2,sp 46 [] [.ext (some []), .box 41 (an a.r)])) (.one (.ret,sp 46 [] [.ext none, .box 41 (an a.r)]))
theorem RP(κ:Kp):bn (tW κ) 12 158 8 (aQ 2 D5 x7 Hz):=by
 refine aR (fun a=>a.ts.length - a.i.toNat) ?_
 rintro⟨xs,more,r,bl,m,i⟩ K ⟨h1,h2,h3,h5,h6⟩ ho
 simp only at h1 h2 h3 h5 h6
 rw[show(tW κ).P=Pr κ from rfl]
 refine Eq.mpr (RM κ ⟨xs,more,r,bl,m,i⟩ _ _ K) ?_
 have ho1:=ho true trivial
 have ho2:=ho false trivial
 simp only[Out.run,ax] at ho1 ho2
 simp only[aP] at h1
 simp only[af,au,aa0,aa2,aa1]
 refine⟨fun hi=>⟨⟨h2,hi⟩,?_⟩,fun hi=>?_⟩
 ·have hc:=s6 m i.toNat (by omega)
  rw[tC _ m i.toNat (by omega)] at h6
  rw[a5 (n:=i+1) (by omega) (by omega)]
  refine⟨⟨xs,eS 52 (m.drop (i.toNat+1)),r,bl,m,i⟩,rfl,⟨by simp only;omega,h6⟩,⟨_,?_,⟨_,more,r,bl,m,i+1⟩,rfl,⟨by simpa[aP] using h1,by simp only;omega,by simp only;omega,?_,?_⟩,rfl,ho⟩,fun _=>ho2⟩
  ·simp only;omega
  ·simp only[show(i+1).toNat=i.toNat+1 by omega];omega
  ·simp only[show(i+1).toNat=i.toNat+1 by omega]
 ·rw[aa8 (by omega)] at h6
  subst h6
  exact ho1
noncomputable def H8(κ:Kp):Env:=(tW κ).aj 158 8 (aQ 2 D5 x7 Hz)
theorem RJ(κ:Kp):aC (H8 κ):=(Sb κ).aj (OA κ) (RP κ)
theorem Qr(κ:Kp):ai (H8 κ):=(OA κ).aj aG
theorem Vp(κ:Kp)(a:ba)(K:AV->List Dn.Obj->Prop):(bg (H8 κ) 12 158 [.cx 0, .ptr 1 0 [] 0] [.ext (some a.xs), .box 41 (an a)] K)=(
 letI z1:=Pg.toProgram (Env.P (GW κ))
 letI z2:=Pg.toProgram (Env.P (tW κ))
 (M3 a.hl=true->ag z1 158 3=ag z1 158 3/\∃(e2:uQ),sp 46 [(2,AV.ptr 2 0 [] 0),(3,AV.az 3 0 0),(14,AV.ae 55 a.bl),(15,AV.int (↑(a.bl.length):
 Int)),(16,AV.int 0)] [Obj.ext (some a.xs),Obj.box 41 (an a),Obj.box 178 (AV.cx 0),Obj.row 52 []]=sp 46 [(2,AV.ptr 2 0 [] 0),(3,AV.az 3 0
 e2.ts.length),(14,AV.ae 55 e2.bl),(15,AV.int (↑(e2.bl.length):Int)),(16,AV.int e2.i)] [Obj.ext (some e2.xs),Obj.box 41 (an e2.r),Obj.box 178 (AV.cx
 0),Obj.row 52 e2.ts]/\(e2.bl.length<=9223372036854775807/\(0:Int)<=e2.i/\e2.i<=(↑(e2.bl.length):Int)/\List.length (e2.ts++di (List.drop e2.i.toNat
 e2.bl))<=100000)/\ag z2 158 8=ag z2 158 8/\∃(e1:uQ),sp 46 [(2,AV.ptr 2 0 [] 0),(32,AV.az 3 0 (List.length (e2.ts++di (List.drop e2.i.toNat
 e2.bl)))),(33,AV.int (↑(List.length (e2.ts++di (List.drop e2.i.toNat e2.bl))):Int)),(34,AV.int 0)] [Obj.ext (some e2.xs),Obj.box 41 (an e2.r),Obj.box
 178 (AV.cx 0),Obj.row 52 (e2.ts++di (List.drop e2.i.toNat e2.bl))]=sp 46 [(2,AV.ptr 2 0 [] 0),(32,AV.az 3 0 e1.ts.length),(33,AV.int (↑(e1.ts.length)
 :Int)),(34,AV.int e1.i)] [Obj.ext (some e1.xs),Obj.box 41 (an e1.r),Obj.box 178 (AV.cx 0),Obj.row 52 e1.ts]/\(e1.ts.length<=9223372036854775807/\(0:
 Int)<=e1.i/\e1.i<=(↑(e1.ts.length):Int)/\aM (aa (List.drop e1.i.toNat e1.ts))<=100000/\e1.xs=eS 52 (List.drop e1.i.toNat e1.ts))/\∀(e0:Bool),True
 ->ax e0 (K (AV.bp []) [Obj.ext (some []),Obj.box 41 (an e1.r)]) (K (AV.bp []) [Obj.ext none,Obj.box 41 (an e1.r)]))/\aO (decide ((0+a.hl.length+1)*57<=
 70368744177664)) (ag z1 158 3=ag z1 158 3/\∃(e2:uQ),sp 46 [(2,AV.ptr 2 0 [] 0),(3,AV.az 3 0 (0+a.hl.length)),(14,AV.ae 55 a.bl),(15,AV.int
 (↑(a.bl.length):Int)),(16,AV.int 0)] [Obj.ext (some a.xs),Obj.box 41 (an a),Obj.box 178 (AV.cx 0),Obj.row 52 ([]++a.hl)]=sp 46 [(2,AV.ptr 2 0 [] 0),
 (3,AV.az 3 0 e2.ts.length),(14,AV.ae 55 e2.bl),(15,AV.int (↑(e2.bl.length):Int)),(16,AV.int e2.i)] [Obj.ext (some e2.xs),Obj.box 41 (an e2.r),Obj.box
 178 (AV.cx 0),Obj.row 52 e2.ts]/\(e2.bl.length<=9223372036854775807/\(0:Int)<=e2.i/\e2.i<=(↑(e2.bl.length):Int)/\List.length (e2.ts++di (List.drop
 e2.i.toNat e2.bl))<=100000)/\ag z2 158 8=ag z2 158 8/\∃(e1:uQ),sp 46 [(2,AV.ptr 2 0 [] 0),(32,AV.az 3 0 (List.length (e2.ts++di (List.drop
 e2.i.toNat e2.bl)))),(33,AV.int (↑(List.length (e2.ts++di (List.drop e2.i.toNat e2.bl))):Int)),(34,AV.int 0)] [Obj.ext (some e2.xs),Obj.box 41 (an
 e2.r),Obj.box 178 (AV.cx 0),Obj.row 52 (e2.ts++di (List.drop e2.i.toNat e2.bl))]=sp 46 [(2,AV.ptr 2 0 [] 0),(32,AV.az 3 0 e1.ts.length),(33,AV.int
 (↑(e1.ts.length):Int)),(34,AV.int e1.i)] [Obj.ext (some e1.xs),Obj.box 41 (an e1.r),Obj.box 178 (AV.cx 0),Obj.row 52 e1.ts]/\(e1.ts.length<=
 9223372036854775807/\(0:Int)<=e1.i/\e1.i<=(↑(e1.ts.length):Int)/\aM (aa (List.drop e1.i.toNat e1.ts))<=100000/\e1.xs=eS 52 (List.drop e1.i.toNat
 e1.ts))/\∀(e0:Bool),True->ax e0 (K (AV.bp []) [Obj.ext (some []),Obj.box 41 (an e1.r)]) (K (AV.bp []) [Obj.ext none,Obj.box 41 (an e1.r)]))):=by kernel_rfl
def No(a:ba):List AV×List Dn.Obj:=([.cx 0, .ptr 1 0 [] 0],[.ext (some (eS 52 (aH 52 a.hl a.bl))), .box 41 (an a)])
def dr(a:ba):Prop:=aM (aa (aH 52 a.hl a.bl))<=100000/\a.bl.length<=100000
def Jx(_:ba):Out (AV×List Dn.Obj):= .all (fun st'=>wD st') fun st'=> .one (.bp [],st')
theorem WC(κ:Kp):bz (H8 κ) 12 158 (aZ No dr Jx):=by
 refine bh ?_
 rintro⟨xs,more,rel,hl,bl,line,i⟩ K ⟨h1,h2⟩ ho
 have hn: ∀b,K (.bp []) [.ext none,b]:=fun b=>ho _ trivial
 have h0: ∀b,K (.bp []) [.ext (some []),b]:=fun b=>ho _ trivial
 simp only at h1 h2
 have hl1:=fJ (aa (aH 52 hl bl))
 rw[eY] at hl1
 have hle:hl.length<=100000:=by
  have:(aH 52 hl bl).length=hl.length+(di bl).length:=by simp[aH,di]
  omega
 refine Eq.mpr (Vp κ ⟨eS 52 (aH 52 hl bl),more,rel,hl,bl,line,i⟩ K) ?_
 have hz: ∀ts:List AV,ts=hl->(ts++di (List.drop (Int.toNat 0) bl))=aH 52 hl bl:=fun ts h=>by subst h;rfl
 have fin: ∀ts:List AV,ts=hl->∃a:uQ,sp 46 [(2, .ptr 2 0 [] 0),(32, .az 3 0 (ts++di (List.drop (Int.toNat 0) bl)).length),(33, .int (ts++di (List.drop (Int.toNat 0) bl)).length),(34, .int 0)] [.ext (some (eS 52 (aH 52 hl bl))), .box 41 (an ⟨eS 52 (aH 52 hl bl),more,rel,hl,bl,line,i⟩), .box 178 (.cx 0), .row 52 (ts++di (List.drop (Int.toNat 0) bl))]=D5 a/\x7 a/\∀y:Bool,True->ax y (K (.bp []) [.ext (some []), .box 41 (an a.r)]) (K (.bp []) [.ext none, .box 41 (an a.r)]):=by
  intro ts h
  refine⟨⟨_,[],⟨eS 52 (aH 52 hl bl),more,rel,hl,bl,line,i⟩,bl,ts++di (List.drop (Int.toNat 0) bl),0⟩,rfl,⟨?_,?_,?_,?_,?_⟩,fun y _=>?_⟩
  ·simp only[hz ts h,aP];omega
  ·simp only;omega
  ·simp only;omega
  ·show aM (aa (List.drop (Int.toNat 0) (ts++di (List.drop (Int.toNat 0) bl))))<=100000
   rw[hz ts h];exact h1
  ·rw[hz ts h];rfl
  ·cases y
   ·exact hn _
   ·exact h0 _
 refine⟨fun e=>?_,?_⟩
 ·obtain rfl:hl=[]:=by
   cases hl with
   |nil=>rfl
   |cons=>cases e
  refine⟨rfl,⟨_,[],⟨eS 52 (aH 52 [] bl),more,rel,[],bl,line,i⟩,bl,[],0⟩,rfl,⟨by simp only;omega,by simp only;omega,by simp only;omega,?_⟩,rfl,fin [] rfl⟩
  rw[hz [] rfl];exact Nat.le_trans hl1 h1
 ·rw[au,aa0]
  refine⟨by simp only;omega,rfl,⟨_,[],⟨eS 52 (aH 52 hl bl),more,rel,hl,bl,line,i⟩,bl,[]++hl,0⟩,?_,⟨by simp only;omega,by simp only;omega,by simp only;omega,?_⟩,rfl,fin ([]++hl) rfl⟩
  ·rw[Nat.zero_add];rfl
  ·rw[hz ([]++hl) rfl];exact Nat.le_trans hl1 h1
set_option maxRecDepth 20000 in
noncomputable def Mi(κ:Kp):Env:=(H8 κ).aw 158 (aZ No dr Jx)
theorem YN(κ:Kp):aC (Mi κ):=(RJ κ).aw (Qr κ) (WC κ)
theorem UB(κ:Kp):ai (Mi κ):=(Qr κ).aw aI
def aJ(a:ba):Rl:=⟨⟨a.rel,aa a.hl⟩,cC a.bl⟩
noncomputable abbrev PN(a:ba)(κ:Kp)(st:LoopState)(p:Option Code):Dn.Obj:=
 .loop (il (Pr κ).toProgram 97 6 st p (ie (bK 31) [(0,an a),(1, .ptr 0 0 [] 0),(2, .nil),(3, .ptr 1 0 [] 0),(4, .ptr 3 0 [] 0),(6,an a),(7, .bool (aU (aJ a))),(8, .bool false),(9, .mp 2),(10,an a),(11, .bP 158 [.ptr 4 0 [] 0])]))
noncomputable abbrev oj(κ:Kp)(a:ba):List Dn.Obj:=[.box 41 (an a), .box 60 .nil, .map 9 4 [], .box 113 (.mp 2), .box 41 (an a),PN a κ .ready none]
theorem VD(κ:Kp)(a:ba)(Q:List Dn.Obj->Prop):(tidy (Pr κ).toProgram 6 (dY (oj κ a) (du (oj κ a) [.ptr 4 0 [] 0])) Q)=(
 Q [Obj.box 41 (an a),Obj.box 60 (AV.az 6 0 0),Dn.Obj.map 9 4 [],Obj.box 113 (AV.mp 2),Obj.dead,Dn.Obj.loop (il Tryz.prog 97 6 LoopState.ready none (ie (bK
 31) [(0,an a),(1,AV.ptr 0 0 [] 0),(2,AV.nil),(3,AV.ptr 1 0 [] 0),(4,AV.ptr 3 0 [] 0),(6,an a),(7,AV.bool (aU (aJ a))),(8,AV.bool false),(9,
 AV.mp 2),(10,an a),(11,AV.bP 158 [AV.ptr 4 0 [] 0])])),Obj.row 9 []]):=by kernel_rfl
noncomputable abbrev yM(κ:Kp)(a:ba)(vs:List ByteArray)(es:List (Value×AV)):List Dn.Obj:=[.box 41 (an a), .box 60 (.az 6 0 vs.length), .map 9 4 es, .box 113 (.mp 2), .dead,PN a κ .ready none, .row 9 (strs vs)]
theorem WT(κ:Kp)(a:ba)(vs:List ByteArray)(es:List (Value×AV))(u:AV)(Q:List Dn.Obj->Prop)(K2:List Dn.Obj->Prop):(jf (vc (Mi κ) 12) 5 [oJ 52 u] (yM κ a vs es) (fun r st''=>match r with| .lit (.bool true)=>tidy (Pr κ).toProgram 6 st'' Q| .lit (.bool false)=>K2 st''|_=>False))=(
 letI z1:=il Tryz.prog 97 6 LoopState.ready none (ie (bK 31) [(0,an a),(1,AV.ptr 0 0 [] 0),(2,AV.nil),(3,AV.ptr 1 0 [] 0),(4,AV.ptr 3 0 [] 0),(6,an
  a),(7,AV.bool (aU (aJ a))),(8,AV.bool false),(9,AV.mp 2),(10,an a),(11,AV.bP 158 [AV.ptr 4 0 [] 0])])
 letI z2:=Q [Obj.box 41 (an a),Obj.box 60 (AV.az 6 0 vs.length),Dn.Obj.map 9 4 es,Obj.box 113 (AV.mp 2),Obj.dead,Dn.Obj.loop z1,Obj.row 9 (strs vs)]
 letI z3:=Value.string (toStr (ad u 1))
 ax (toInt (ad u 0) != (1:Int)) z2 (ax (Dn.toBool (cM es z3 (AV.bool false))) z2 (aO (decide ((vs.length+1+1)*17<=70368744177664)) (Q [Obj.box 41 (an
 a),Obj.box 60 (AV.az 6 0 (vs.length+1)),Dn.Obj.map 9 4 (eh es z3 (AV.bool true)),Obj.box 113 (AV.mp 2),Obj.dead,Dn.Obj.loop z1,Obj.row 9 (List.take
 vs.length (strs vs)++[AV.str (toStr (ad u 1))])])))):=by kernel_rfl
theorem Yl(κ:Kp)(a:ba)(xs:List AV):(AV.cx 0::fB (lj (du (oj κ a) [.ptr 4 0 [] 0])) [.ptr 4 0 [] 0],Obj.ext (some xs)::gJ (lj (du (oj κ a) [.ptr 4 0 [] 0])) (gQ (oj κ a) (du (oj κ a) [.ptr 4 0 [] 0])))=([.cx 0, .ptr 1 0 [] 0],[.ext (some xs), .box 41 (an a)]):=by kernel_rfl
theorem YM(κ:Kp)(a:ba):rH (oj κ a) [.ptr 4 0 [] 0]=true:=by kernel_rfl
noncomputable def JJ(κ:Kp):eM:=fun caps st K=>∃a:ba,(caps,st)=([AV.ptr 4 0 [] 0],oj κ a)/\dr a/\K (yM κ a (l4 [] (eT (aJ a))) (bL (l4 [] (eT (aJ a)))))
theorem Bm(κ:Kp):(JJ κ).jI:=by
 rintro caps st K K' hK ⟨a,h1,h2,h3⟩
 exact⟨a,h1,h2,hK _ h3⟩
theorem call12(κ:Kp)(args:List AV)(st:List Dn.Obj)(K:AV->List Dn.Obj->Prop)(h:aZ No dr Jx args st K):(Mi κ).call 158 args st K:=h
theorem SI(κ:Kp):nT (Mi κ) 12 158 (JJ κ):=by
 rintro caps st K ⟨a,h1,h3,h5⟩
 obtain⟨rfl,rfl⟩:=Prod.mk.inj h1
 have hv:=iS 52 a.rel a.hl a.bl
 rw[←rJ 52] at hv
 have hb:(eT (aJ a)).length<=100000:=by
  have h6:=b8 (aa (aH 52 a.hl a.bl))
  rw[iS 52 a.rel a.hl a.bl] at h6
  exact Nat.le_trans h6 h3.1
 have hd:=kV (eT (aJ a)) []
 refine⟨eS 52 (aH 52 a.hl a.bl),fun items st'=>∃vs,(∀x,x∈items->qF 52 x)/\st'=yM κ a vs (bL vs)/\vs++l4 vs (items.flatMap uy)=l4 [] (eT (aJ a)),⟨YM κ a,?_,?_,?_,?_⟩⟩
 ·refine call12 κ _ _ _ ⟨a,?_,h3,fun st' h=>h⟩
  rw[Yl];rfl
 ·rw[show(Mi κ).P=Pr κ from rfl,show(oj κ a).length=6 from rfl,VD]
  exact⟨[],zp _ _,rfl,by rw[hv];rfl⟩
 ·rintro us rest st' ⟨vs,e1,rfl,e3⟩
  obtain⟨u,hu⟩:=e1 (.bp us) (by simp)
  obtain rfl:=AV.bp.inj hu
  rw[show(Mi κ).P=Pr κ from rfl,show(oj κ a).length=6 from rfl]
  refine Eq.mpr (WT κ a vs _ u _ _) ?_
  have e1': ∀x,x∈rest->qF 52 x:=fun x hx=>e1 x (by simp[hx])
  have hi:uy (.bp [oJ 52 u])=bif decide (toInt (ad u 0)=1) then[toStr (ad u 1)] else[]:=rfl
  rw[List.flatMap_cons,hi] at e3
  have hin:Dn.toBool (cM (bL vs) (.string (toStr (ad u 1))) (.lit (.bool false)))=vs.contains (toStr (ad u 1)):=pw _ _
  rw[hin]
  simp only[af,au,bne_iff_ne,bne_eq_false_iff_eq,aa0]
  refine⟨fun e=>⟨vs,e1',rfl,?_⟩,fun e=>⟨fun e4=>⟨vs,e1',rfl,?_⟩,fun e4=>⟨?_,vs++[toStr (ad u 1)],e1',?_,?_⟩⟩⟩
  ·rw[aa4 e] at e3;exact e3
  ·rw[aa6 e,aa7,List.singleton_append,l4,e4] at e3;exact e3
  ·have:=congrArg List.length e3
   rw[ab8] at this;omega
  ·rw[K5,←bf vs,List.take_length]
   simp only[yM,iU,bf,ab8,List.length_cons,List.length_nil]
   rfl
  ·rw[aa6 e,aa7,List.singleton_append,l4,e4,aa5] at e3
   simpa using e3
 ·rintro st' ⟨vs,_,rfl,e3⟩
  have e4:vs=l4 [] (eT (aJ a)):=by simpa[l4] using e3
  rw[e4];exact h5
noncomputable def G6(κ:Kp):Env:=((Mi κ).addRange 97 6 158 (JJ κ)).dM (fun f=>kh f Km)
theorem RY(κ:Kp):aC (G6 κ):=((YN κ).addRange (UB κ) (SI κ)).dM _
theorem Pa(κ:Kp):ai (G6 κ):=((UB κ).addRange (Bm κ)).dM _
theorem Ws(κ:Kp)(a:ba)(K:AV->List Dn.Obj->Prop):(bg (G6 κ) 12 97 [an a] [] K)=(
 letI z1:=AV.agg [AV.agg [AV.str a.rel,AV.ae 52 a.hl],AV.ae 55 a.bl,AV.int a.line]
 aO (decide (a.hl.length<=9223372036854775807)&&decide (a.bl.length<=9223372036854775807)) (ax (!aU {head:={rel:=a.rel,l:=aa a.hl},body:=cC a.bl}) (K AV.nil []) (∃(e0:ba),([AV.ptr 4 0 [] 0],[Obj.box 41 z1,Obj.box 60 AV.nil,Dn.Obj.map 9 4 [],Obj.box 113 (AV.mp 2),Obj.box 41 z1,Dn.Obj.loop (il Tryz.prog 97 6 LoopState.ready none (ie (bK 31) [(0,AV.agg [AV.agg [AV.str a.rel,AV.ae 52 a.hl],AV.ae 55 a.bl,AV.int a.line]),(1,AV.ptr 0 0 [] 0),(2,AV.nil),(3,AV.ptr 1 0 [] 0),(4,AV.ptr 3 0 [] 0),(6,AV.agg [AV.agg [AV.str a.rel,AV.ae 52 a.hl],AV.ae 55 a.bl,AV.int a.line]),(7,AV.lit (Value.bool (aU {head:={rel:=a.rel,l:=aa a.hl},body:=cC a.bl}))),(8,AV.bool false),(9,AV.mp 2),(10,AV.agg [AV.agg [AV.str a.rel,AV.ae 52 a.hl],AV.ae 55 a.bl,AV.int a.line]),(11,AV.bP 158 [AV.ptr 4 0 [] 0])]))])=([AV.ptr 4 0 [] 0],[Obj.box 41 (AV.agg [AV.agg [AV.str e0.rel,AV.ae 52 e0.hl],AV.ae 55 e0.bl,AV.int e0.line]),Obj.box 60 AV.nil,Dn.Obj.map 9 4 [],Obj.box 113 (AV.mp 2),Obj.box 41 (AV.agg [AV.agg [AV.str e0.rel,AV.ae 52 e0.hl],AV.ae 55 e0.bl,AV.int e0.line]),Dn.Obj.loop (il Tryz.prog 97 6 LoopState.ready none (ie (bK 31) [(0,AV.agg [AV.agg [AV.str e0.rel,AV.ae 52 e0.hl],AV.ae 55 e0.bl,AV.int e0.line]),(1,AV.ptr 0 0 [] 0),(2,AV.nil),(3,AV.ptr 1 0 [] 0),(4,AV.ptr 3 0 [] 0),(6,AV.agg [AV.agg [AV.str e0.rel,AV.ae 52 e0.hl],AV.ae 55 e0.bl,AV.int e0.line]),(7,AV.bool (aU (aJ e0))),(8,AV.bool false),(9,AV.mp 2),(10,AV.agg [AV.agg [AV.str e0.rel,AV.ae 52 e0.hl],AV.ae 55 e0.bl,AV.int e0.line]),(11,AV.bP 158 [AV.ptr 4 0 [] 0])]))])/\(aM (aa (aH 52 e0.hl e0.bl))<=100000/\e0.bl.length<=100000)/\K (AV.az 0 0 (List.length (l4 [] (eT (aJ e0))))) [Obj.row 9 (strs (l4 [] (eT (aJ e0))))]))):=by kernel_rfl
def P7(a:ba):List AV×List Dn.Obj:=([an a],[])
def JQ(a:ba):Prop:=aU (aJ a)=true/\dr a
def Iu(a:ba):Out (AV×List Dn.Obj):= .one (.az 0 0 (c6 (aJ a)).length,[.row 9 (strs (c6 (aJ a)))])
theorem WL(κ:Kp):bz (G6 κ) 12 97 (aZ P7 JQ Iu):=by
 refine bh ?_
 rintro⟨xs,more,rel,hl,bl,line,i⟩ K ⟨h0,h1,h2⟩ ho
 refine Eq.mpr (Ws κ ⟨xs,more,rel,hl,bl,line,i⟩ K) ?_
 have hr:aU ⟨⟨rel,aa hl⟩,cC bl⟩=true:=h0
 simp only at h1 h2
 have hl1:=fJ (aa (aH 52 hl bl))
 rw[eY] at hl1
 have hle:hl.length<=100000:=by
  have:(aH 52 hl bl).length=hl.length+(di bl).length:=by simp[aH,di]
  omega
 simp only[hr,au,af,aa1,aa0]
 refine⟨⟨by omega,by omega⟩,(fun e=>nomatch e),fun _=>⟨⟨xs,more,rel,hl,bl,line,i⟩,?_,⟨h1,h2⟩,?_⟩⟩
 ·rw[show aU (aJ ⟨xs,more,rel,hl,bl,line,i⟩)=true from h0]
 ·simp only[Iu,Out.run,c6,h0,aa7] at ho
  exact ho
set_option maxRecDepth 20000 in
noncomputable def Jy(κ:Kp):Env:=(G6 κ).aw 97 (aZ P7 JQ Iu)
theorem Xd(κ:Kp):aC (Jy κ):=(RY κ).aw (Pa κ) (WL κ)
theorem U5(κ:Kp):ai (Jy κ):=(Pa κ).aw aI
theorem mO: ∀l m:List Tm,aM (l++m)=aM l+aM m
 |[],m=>by simp[aM]
 |t::l,m=>by simp only[List.cons_append,aM,mO l m];omega
theorem oa{a:ba}(h:dr a):aM (aa a.hl)<=100000:=by
 have:=h.1
 unfold aH aa at this
 rw[List.map_append,mO] at this
 unfold aa;omega
theorem EK: ∀(l:List AV) (x:AV),x∈l->iR (cm x)<=aM (aa (di l))
 |[],_,h=>by simp at h
 | y::l,x,h=>by
  have e:aM (aa (di (y::l)))=iR (cm y)+aM (aa (di l)):=by
   unfold di aa
   rw[List.flatMap_cons,List.map_append,mO,List.map_append,mO]
   simp only[iR,cm,Ca,aa,ac0,List.map_nil,pS]
  rw[e]
  rcases List.mem_cons.1 h with rfl|h
  ·omega
  ·have:=EK l x h;omega
theorem j8{a:ba}(h:dr a){i:Nat}(hi:i<a.bl.length):iR (cm (nth a.bl i))<=100000:=by
 have h1:=h.1
 have e:aH 52 a.hl a.bl=a.hl++di a.bl:=rfl
 rw[e] at h1
 unfold aa at h1
 rw[List.map_append,mO] at h1
 have:=EK a.bl (nth a.bl i) (by rw[a8 _ _ hi];exact List.getElem_mem hi)
 unfold aa at this;omega
theorem jL(l:List AV){i:Nat}(hi:i<l.length):dq (cC l) i=cm (nth l i):=by
 unfold dq cC
 rw[List.getD_eq_getElem?_getD,List.getElem?_map,ab6 hi,a8 l i hi];rfl
def qM(x:AV):LA:=⟨toInt (ad x 0),toStr (ad (ad x 1) 0),ah (ad (ad x 1) 1),toInt (ad (ad x 2) 0),toStr (ad (ad x 2) 1),toInt (ad (ad x 2) 2),ah (ad (ad x 2) 3),toInt (ad (ad x 3) 0),toStr (ad (ad x 3) 1),toInt (ad (ad x 3) 2),ah (ad (ad x 3) 3)⟩
theorem dO(x:AV):(qM x).lt=cm x:=by rw[lt_eq];rfl
structure Oa where
 a:ba
 k:Int
 i:Int
 vs:List ByteArray
abbrev My(a:Oa):S:=sp 53 [(1, .int a.k),(2, .ptr 0 0 [] 0),(5, .ptr 1 0 [] 0),(17, .ae 55 a.a.bl),(18, .int a.a.bl.length),(19, .int a.i)] [.box 41 (an a.a), .box 114 (.mp 2), .map 9 4 (bL a.vs)]
theorem Zm(κ:Kp)(a:ba)(k i:Int)(es:List (Value×AV))(I:Nat->S->Prop)(n:Nat)(K:Exit->S->Prop):(vc (Jy κ) 12 127 none 0 (ag (Pr κ).toProgram 127 4) (sp 53 [(1, .int k),(2, .ptr 0 0 [] 0),(5, .ptr 1 0 [] 0),(17, .ae 55 a.bl),(18, .int a.bl.length),(19, .int i)] [.box 41 (an a), .box 114 (.mp 2), .map 9 4 es]) (bI (Jy κ) 127 4 0 I n K))=(
 letI z3:=nth a.bl i.toNat
 letI z4:=IntKind.wrap IntKind.i64 (i+(1:Int))
 letI z5:=a.bl.length
 letI z1:=∃(e2:List AV),([AV.ae 52 [AV.agg [AV.int (toInt (ad (ad z3 2) 0)),AV.str (toStr (ad (ad z3 2) 1)),AV.int (toInt (ad (ad z3 2) 2)),AV.ae 52 (ah
  (ad (ad z3 2) 3))]]],aB)=([AV.ae 52 e2],aB)/\bu e2/\∃(e1:List AV×List (Value×AV)),([AV.mp 0,AV.ae 9 (List.take (List.length (aq (aa e2)))
  (List.drop 0 (strs (aq (aa e2)))))],[Dn.Obj.map 9 4 es])=([AV.mp 0,AV.ae 9 e1.1],[Dn.Obj.map 9 4 e1.2])/\bd e1/\∃(e0:Nat),e0<n/\I e0 (sp 53 [(1,
  AV.int k),(2,AV.ptr 0 0 [] 0),(5,AV.ptr 1 0 [] 0),(17,AV.ae 55 a.bl),(18,AV.int (↑z5:Int)),(19,AV.int z4)] [Obj.box 41 (an a),Obj.box 114 (AV.mp
  2),Dn.Obj.map 9 4 (fc e1.2 e1.1)])
 letI z2:=∃(e2:LA),([AV.agg [AV.int (toInt (ad z3 0)),AV.agg [AV.str (toStr (ad (ad z3 1) 0)),AV.ae 52 (ah (ad (ad z3 1) 1))],AV.agg [AV.int (toInt (ad
  (ad z3 2) 0)),AV.str (toStr (ad (ad z3 2) 1)),AV.int (toInt (ad (ad z3 2) 2)),AV.ae 52 (ah (ad (ad z3 2) 3))],AV.agg [AV.int (toInt (ad (ad z3 3) 0)),
  AV.str (toStr (ad (ad z3 3) 1)),AV.int (toInt (ad (ad z3 3) 2)),AV.ae 52 (ah (ad (ad z3 3) 3))]]],aB)=([AV.agg [AV.int e2.op,AV.agg [AV.str e2.s,AV.ae 52
  e2.l],AV.agg [AV.int e2.o1,AV.str e2.s1,AV.int e2.n1,AV.ae 52 e2.l1],AV.agg [AV.int e2.o2,AV.str e2.s2,AV.int e2.n2,AV.ae 52 e2.l2]]],aB)/\fp e2/\∃
  (e1:List AV×List (Value×AV)),([AV.mp 0,AV.ae 9 (List.take (List.length (dJ (LA.lt e2))) (List.drop 0 (strs (dJ (LA.lt e2)))))],[Dn.Obj.map 9 4 es])=
  ([AV.mp 0,AV.ae 9 e1.1],[Dn.Obj.map 9 4 e1.2])/\bd e1/\∃(e0:Nat),e0<n/\I e0 (sp 53 [(1,AV.int k),(2,AV.ptr 0 0 [] 0),(5,AV.ptr 1 0 [] 0),(17,
  AV.ae 55 a.bl),(18,AV.int (↑z5:Int)),(19,AV.int z4)] [Obj.box 41 (an a),Obj.box 114 (AV.mp 2),Dn.Obj.map 9 4 (fc e1.2 e1.1)])
 ax (decide (i<(↑z5:Int))) (aO (decide ((0:Int)<=i)&&decide (i<(↑z5:Int))) (ax (i==k) (z1/\z1/\z1) (z2/\z2))) (K (Exit.exit 0) (sp 53 [(1,
 AV.int k),(2,AV.ptr 0 0 [] 0),(5,AV.ptr 1 0 [] 0)] [Obj.box 41 (an a),Obj.box 114 (AV.mp 2),Dn.Obj.map 9 4 es]))):=by kernel_rfl
def DR(a:Oa):Prop:=dr a.a/\0<=a.k/\0<=a.i/\a.i<=a.a.bl.length
def mX(a:Oa):List ByteArray:=a.vs++AL a.k.toNat (cC (a.a.bl.drop a.i.toNat)) a.i.toNat
def uI(a:Oa):Out (Exit×S):= .one (.exit 0,sp 53 [(1, .int a.k),(2, .ptr 0 0 [] 0),(5, .ptr 1 0 [] 0)] [.box 41 (an a.a), .box 114 (.mp 2), .map 9 4 (bL (mX a))])
theorem Zv(κ:Kp):bn (Jy κ) 12 127 4 (aQ 0 My DR uI):=by
 refine aR (fun a=>a.a.bl.length - a.i.toNat) ?_
 rintro⟨a,k,i,vs⟩ K ⟨h1,h2,h3,h4⟩ ho
 simp only at h1 h2 h3 h4
 rw[show(Jy κ).P=Pr κ from rfl]
 refine Eq.mpr (Zm κ a k i (bL vs) _ _ K) ?_
 simp only[and_self]
 have hl:=h1.2
 simp only[uI,mX,Out.run] at ho
 simp only[af,au,aa0,aa2,aa1,beq_iff_eq,beq_eq_false_iff_ne]
 refine⟨fun hi=>⟨⟨h3,hi⟩,?_⟩,fun hi=>?_⟩
 ·have hlit:=j8 h1 (i:=i.toNat) (by omega)
  rw[nj a.bl i.toNat (by omega),AL] at ho
  rw[a5 (n:=i+1) (by omega) (by omega)]
  refine⟨fun e=>?_,fun e=>?_⟩
  ·subst e
   rw[Nat.beq_refl,aa7,←List.append_assoc] at ho
   have ht:aa [oJ 52 (ad (nth a.bl i.toNat) 2)]=[(cm (nth a.bl i.toNat)).x]:=by
    simp only[aa,ac0,List.map_nil,pS];rfl
   have hc:aM [(cm (nth a.bl i.toNat)).x]<=100000:=by
    have:iR (cm (nth a.bl i.toNat))=aM [(cm (nth a.bl i.toNat)).x,(cm (nth a.bl i.toNat)).y]+aM (cm (nth a.bl i.toNat)).a.l:=rfl
    simp only[aM] at this⊢;omega
   have hv:=b8 [(cm (nth a.bl i.toNat)).x]
   refine⟨[oJ 52 (ad (nth a.bl i.toNat) 2)],rfl,by simp only[bu,ht];exact hc,⟨strs (aq [(cm (nth a.bl i.toNat)).x]),bL vs⟩,?_,?_,_,?_,⟨a,i,i+1,vs++aq [(cm (nth a.bl i.toNat)).x]⟩,?_,⟨h1,h2,by simp only;omega,by simp only;omega⟩,rfl,?_⟩
   ·simp only[ab0,ct,ht]
   ·simp only[bd,bf,aP];omega
   ·simp only;omega
   ·simp only[mE]
   ·simp only[uI,mX,Out.run,show(i+1).toNat=i.toNat+1 by omega]
    exact ho
  ·rw[rn (show i.toNat≠k.toNat by omega),aa5,←List.append_assoc] at ho
   have hv:=b8 [(cm (nth a.bl i.toNat)).x,(cm (nth a.bl i.toNat)).y]
   have hv2:=b8 (cm (nth a.bl i.toNat)).a.l
   have hlen:(dJ (cm (nth a.bl i.toNat))).length<=100000:=by
    simp only[dJ,iR,ab8] at hlit⊢;omega
   refine⟨qM (nth a.bl i.toNat),rfl,by rw[fp,dO];exact hlit,⟨strs (dJ (cm (nth a.bl i.toNat))),bL vs⟩,?_,?_,_,?_,⟨a,k,i+1,vs++dJ (cm (nth a.bl i.toNat))⟩,?_,⟨h1,h2,by simp only;omega,by simp only;omega⟩,rfl,?_⟩
   ·simp only[ab0,ct,dO]
   ·simp only[bd,bf,aP];omega
   ·simp only;omega
   ·simp only[mE]
   ·simp only[uI,mX,Out.run,show(i+1).toNat=i.toNat+1 by omega]
    exact ho
 ·rw[aa8 (by omega)] at ho
  simpa[cC,AL] using ho
noncomputable def vD(κ:Kp):Env:=(Jy κ).aj 127 4 (aQ 0 My DR uI)
theorem P9(κ:Kp):aC (vD κ):=(Xd κ).aj (U5 κ) (Zv κ)
theorem NB(κ:Kp):ai (vD κ):=(U5 κ).aj aG
def c9(eW:List (Value×AV))(eZ:List (Value×AV))(s:ByteArray):Bool:=sE eW s&&sE eZ s
structure DO where
 vs:List ByteArray
 i:Int
 eW:List (Value×AV)
 eZ:List (Value×AV)
abbrev Ae(R:List AV)(eW:List (Value×AV))(eZ:List (Value×AV)):List Dn.Obj:=[.row 9 R, .box 114 (.mp 2), .map 9 4 eW, .box 114 (.mp 4), .map 9 4 eZ]
abbrev KZ:AV:= .bP 154 [.ptr 1 0 [] 0, .ptr 3 0 [] 0]
abbrev Gd(a:DO):S:=sp 19 [(0, .az 0 0 (strs a.vs).length),(1,KZ),(7, .int (strs a.vs).length),(8, .int a.i)] (Ae (strs a.vs) a.eW a.eZ)
theorem Xn(κ:Kp)(a:DO)(I:Nat->S->Prop)(n:Nat)(K:Exit->S->Prop):(vc (vD κ) 12 155 none 5 (ag (Pr κ).toProgram 155 2) (Gd a) (bI (vD κ) 155 2 5 I n K))=(
 letI z1:=K Exit.ret (sp 19 [(4,AV.int a.i)] [Obj.row 9 (strs a.vs),Obj.box 114 (AV.mp 2),Dn.Obj.map 9 4 a.eW,Obj.box 114 (AV.mp 4),Dn.Obj.map 9 4 a.eZ])
 letI z2:=List.length (strs a.vs)
 letI z3:=Value.string (toStr (nth (strs a.vs) (0+a.i.toNat)))
 ax (decide (a.i<(↑z2:Int))) (aO (decide ((0:Int)<=a.i)&&decide (a.i<(↑z2:Int))) (ax (!Dn.toBool (cM a.eW z3 (AV.bool false))) z1 (ax (!Dn.toBool
 (cM a.eZ z3 (AV.bool false))) z1 (∃(e0:Nat),e0<n/\I e0 (sp 19 [(0,AV.az 0 0 z2),(1,AV.bP 154 [AV.ptr 1 0 [] 0,AV.ptr 3 0 [] 0]),(7,AV.int (↑z2:
 Int)),(8,AV.int (IntKind.wrap IntKind.i64 (a.i+(1:Int))))] [Obj.row 9 (strs a.vs),Obj.box 114 (AV.mp 2),Dn.Obj.map 9 4 a.eW,Obj.box 114 (AV.mp 4),
 Dn.Obj.map 9 4 a.eZ]))))) (K (Exit.exit 0) (sp 19 [] [Obj.row 9 (strs a.vs),Obj.box 114 (AV.mp 2),Dn.Obj.map 9 4 a.eW,Obj.box 114 (AV.mp 4),Dn.Obj.map 9 4
 a.eZ]))):=by kernel_rfl
def BO(a:DO):Prop:=a.vs.length<=aP/\0<=a.i/\a.i<=a.vs.length/\∀s,s∈a.vs.take a.i.toNat->c9 a.eW a.eZ s=true
def AU(a:DO):Out (Exit×S):=
 .ax (a.vs.all (c9 a.eW a.eZ)) (.one (.exit 0,sp 19 [] (Ae (strs a.vs) a.eW a.eZ)))
  (.all (fun j:Int=>zg (c9 a.eW a.eZ) a.vs j) fun j=> .one (.ret,sp 19 [(4, .int j)] (Ae (strs a.vs) a.eW a.eZ)))
theorem Zj(κ:Kp):bn (vD κ) 12 155 2 (aQ 5 Gd BO AU):=by
 refine aR (fun a=>a.vs.length - a.i.toNat) ?_
 rintro⟨vs,i,eW,eZ⟩ K ⟨h1,h2,h3,h4⟩ ho
 simp only at h1 h2 h3 h4
 rw[show(vD κ).P=Pr κ from rfl]
 refine Eq.mpr (Xn κ ⟨vs,i,eW,eZ⟩ _ _ K) ?_
 simp only[aP] at h1
 simp only[AU,Out.run,af] at ho
 have hl:=bf vs
 simp only[bf,Nat.zero_add]
 have fin:i<vs.length->∀(hi:i.toNat<vs.length),(c9 eW eZ vs[i.toNat]=false->K .ret (sp 19 [(4, .int i)] (Ae (strs vs) eW eZ)))/\
   (c9 eW eZ vs[i.toNat]=true->∃m,m<vs.length - i.toNat/\fw Gd BO AU (fun a=>a.vs.length - a.i.toNat) K m (Gd ⟨vs,i+1,eW,eZ⟩)):=by
  intro hi0 hi
  refine⟨fun e=>ho.2 ?_ i ⟨h2,hi,h4,e⟩,fun e=>⟨_,?_,⟨vs,i+1,eW,eZ⟩,rfl,⟨by simpa[aP] using h1,by simp only;omega,by simp only;omega,?_⟩,rfl,?_⟩⟩
  ·rw[Bool.eq_false_iff]
   intro hall
   rw[List.all_eq_true.1 hall _ (List.getElem_mem hi)] at e
   cases e
  ·simp only;omega
  ·intro s hs
   simp only at hs
   rw[show(i+1).toNat=i.toNat+1 by omega,List.take_succ_eq_append_getElem hi,List.mem_append,List.mem_singleton] at hs
   rcases hs with hs|hs
   ·exact h4 s hs
   ·rw[hs];exact e
  ·simp only[AU,Out.run,af]
   exact ho
 simp only[af,au,aa0,aa2,aa1,Bool.not_eq_true',ab2]
 refine⟨fun hi=>⟨⟨h2,hi⟩,?_⟩,fun hi=>?_⟩
 ·have hi':i.toNat<vs.length:=by omega
  have hn:toStr (nth (strs vs) i.toNat)=vs[i.toNat]:=by rw[AB vs _ hi'];rfl
  rw[a5 (n:=i+1) (by omega) (by omega),hn]
  have hf:=fin hi hi'
  simp only[Gd,bf] at hf
  exact⟨fun e=>hf.1 (by unfold c9 sE;rw[e];rfl),fun e=>⟨fun e2=>hf.1 (by unfold c9 sE;rw[e,e2];rfl),fun e2=>hf.2 (by unfold c9 sE;rw[e,e2];rfl)⟩⟩
 ·refine ho.1 (List.all_eq_true.2 fun s hs=>h4 s ?_)
  rw[List.take_of_length_le (by omega)];exact hs
noncomputable def LG(κ:Kp):Env:=(vD κ).aj 155 2 (aQ 5 Gd BO AU)
theorem eFO(κ:Kp):aC (LG κ):=(P9 κ).aj (NB κ) (Zj κ)
theorem TV(κ:Kp):ai (LG κ):=(NB κ).aj aG
structure GO where
 R:List AV
 i:Int
 j:Int
 eW:List (Value×AV)
 eZ:List (Value×AV)
 P:List ByteArray
 ws:List ByteArray
abbrev A5(a:GO):S:=sp 42 [(0, .az 0 0 a.R.length),(1,KZ),(5, .int a.i),(6, .int a.j)] (Ae a.R a.eW a.eZ)
theorem YP(κ:Kp)(a:GO)(I:Nat->S->Prop)(n:Nat)(K:Exit->S->Prop):(vc (LG κ) 12 153 none 5 (ag (Pr κ).toProgram 153 5) (A5 a) (bI (LG κ) 153 5 5 I n K))=(
 letI z2:=toStr (nth a.R (0+a.j.toNat))
 letI z3:=IntKind.wrap IntKind.i64 (a.j+(1:Int))
 letI z1:=∃(e0:Nat),e0<n/\I e0 (sp 42 [(0,AV.az 0 0 a.R.length),(1,AV.bP 154 [AV.ptr 1 0 [] 0,AV.ptr 3 0 [] 0]),(5,AV.int a.i),(6,AV.int z3)]
  [Obj.row 9 a.R,Obj.box 114 (AV.mp 2),Dn.Obj.map 9 4 a.eW,Obj.box 114 (AV.mp 4),Dn.Obj.map 9 4 a.eZ])
 letI z4:=a.j<(↑(a.R.length):Int)
 ax (decide z4) (aO (decide ((0:Int)<=a.j)&&decide z4) (ax (!Dn.toBool (cM a.eW (Value.string z2) (AV.bool false))) z1 (ax (!!Dn.toBool (cM a.eZ
 (Value.string z2) (AV.bool false))) (aO (decide ((0:Int)<=a.i)&&decide (a.i<(↑(a.R.length):Int))) (∃(e0:Nat),e0<n/\I e0 (sp 42 [(0,AV.az 0 0
 a.R.length),(1,AV.bP 154 [AV.ptr 1 0 [] 0,AV.ptr 3 0 [] 0]),(5,AV.int (IntKind.wrap IntKind.i64 (a.i+(1:Int)))),(6,AV.int z3)] [Obj.row 9 (bQ a.R (0
 +a.i.toNat) (AV.str z2)),Obj.box 114 (AV.mp 2),Dn.Obj.map 9 4 a.eW,Obj.box 114 (AV.mp 4),Dn.Obj.map 9 4 a.eZ]))) z1))) (K (Exit.exit 0) (sp 42 [(0,AV.az 0
 0 a.R.length),(5,AV.int a.i)] [Obj.row 9 a.R,Obj.box 114 (AV.mp 2),Dn.Obj.map 9 4 a.eW,Obj.box 114 (AV.mp 4),Dn.Obj.map 9 4 a.eZ]))):=by kernel_rfl
def yb(a:GO):Prop:=a.R.length<=aP/\0<=a.i/\a.i<a.j/\a.j<=a.R.length/\a.R.take a.i.toNat=strs a.P/\a.R.drop a.j.toNat=strs a.ws
def Ap(a:GO):Out (Exit×S):= .all (fun R:List AV=>R.length=a.R.length/\R.take (a.P++a.ws.filter (c9 a.eW a.eZ)).length=strs (a.P++a.ws.filter (c9 a.eW a.eZ)))
 fun R=> .one (.exit 0,sp 42 [(0, .az 0 0 a.R.length),(5, .int (a.P++a.ws.filter (c9 a.eW a.eZ)).length)] (Ae R a.eW a.eZ))
theorem YB(κ:Kp):bn (LG κ) 12 153 5 (aQ 5 A5 yb Ap):=by
 refine aR (fun a=>a.R.length - a.j.toNat) ?_
 rintro⟨R,i,j,eW,eZ,P,ws⟩ K ⟨h1,h2,h3,h4,h5,h6⟩ ho
 simp only at h1 h2 h3 h4 h5 h6
 rw[show(LG κ).P=Pr κ from rfl]
 refine Eq.mpr (YP κ ⟨R,i,j,eW,eZ,P,ws⟩ _ _ K) ?_
 simp only[aP] at h1
 simp only[Ap,Out.run] at ho
 simp only[Nat.zero_add]
 have hP:P.length=i.toNat:=by
  have:=congrArg List.length h5
  rw[List.length_take,bf] at this;omega
 have fin: ∀(s:ByteArray) (l:List ByteArray),ws=s::l->j<R.length->nth R j.toNat= .lit (.string s)->
   (c9 eW eZ s=false->∃m,m<R.length - j.toNat/\fw A5 yb Ap (fun a=>a.R.length - a.j.toNat) K m (A5 ⟨R,i,j+1,eW,eZ,P,l⟩))/\
   (c9 eW eZ s=true->∃m,m<R.length - j.toNat/\fw A5 yb Ap (fun a=>a.R.length - a.j.toNat) K m (A5 ⟨bQ R i.toNat (.lit (.string s)),i+1,j+1,eW,eZ,P++[s],l⟩)):=by
  rintro s l rfl hj hn
  obtain⟨_,_,h7⟩:=ow (l:=strs l) h6
  refine⟨fun e=>⟨_,?_,_,rfl,⟨by simpa[aP] using h1,h2,by simp only;omega,by simp only;omega,h5,?_⟩,rfl,?_⟩,fun e=>⟨_,?_,_,rfl,⟨by simpa[aP,lE] using h1,by simp only;omega,by simp only;omega,by simp only[lE];omega,?_,?_⟩,rfl,?_⟩⟩
  ·simp only;omega
  ·simp only[show(j+1).toNat=j.toNat+1 by omega];exact h7
  ·intro y hy
   have:=ho y
   simp only[List.filter_cons,e,Bool.false_eq_true,if_false] at hy this⊢
   exact this hy
  ·simp only[lE];omega
  ·simp only[show(i+1).toNat=i.toNat+1 by omega]
   rw[wW _ _ _ (by omega),h5,iU];rfl
  ·simp only[show(j+1).toNat=j.toNat+1 by omega]
   rw[vZ _ _ _ _ (by omega)];exact h7
  ·intro y hy
   have:=ho y
   simp only[List.filter_cons,e,if_true,lE,List.append_assoc,List.singleton_append] at hy this⊢
   exact this hy
 simp only[af,au,aa0,aa2,aa1,Bool.not_eq_true',ab2]
 refine⟨fun hj=>⟨⟨by omega,hj⟩,?_⟩,fun hj=>?_⟩
 ·cases ws with
  |nil=>
   have:=congrArg List.length h6
   rw[List.length_drop,bf] at this
   simp at this;omega
  |cons s l=>
   obtain⟨_,hn,_⟩:=ow (l:=strs l) h6
   have hn':toStr (nth R j.toNat)=s:=by rw[hn];rfl
   have hf:=fin s l rfl hj hn
   simp only[A5,lE] at hf
   rw[a5 (n:=i+1) (by omega) (by omega),a5 (n:=j+1) (by omega) (by omega),hn']
   exact⟨fun e=>hf.1 (by unfold c9 sE;rw[e];rfl),fun e=>⟨fun e2=>⟨⟨by omega,by omega⟩,hf.2 (by unfold c9 sE;rw[e,e2];rfl)⟩,fun e2=>hf.1 (by unfold c9 sE;rw[e,e2];rfl)⟩⟩
 ·have hw:ws=[]:=by
   have:=congrArg List.length h6
   rw[List.length_drop,bf] at this
   cases ws with
   |nil=>rfl
   |cons=>simp at this;omega
  subst hw
  have:=ho R ⟨rfl,by simp only[List.filter_nil,List.append_nil,hP];exact h5⟩
  simp only[List.filter_nil,List.append_nil,hP,Int.toNat_of_nonneg h2] at this
  exact this
noncomputable def QS(κ:Kp):Env:=(LG κ).aj 153 5 (aQ 5 A5 yb Ap)
theorem eGO(κ:Kp):aC (QS κ):=(eFO κ).aj (TV κ) (YB κ)
theorem ZR(κ:Kp):ai (QS κ):=(TV κ).aj aG
theorem Yt(κ:Kp)(a:DO)(K:AV->List Dn.Obj->Prop):(bg (QS κ) 12 153 [.az 0 0 (strs a.vs).length,KZ] (Ae (strs a.vs) a.eW a.eZ) K)=(
 letI z1:=List.length (strs a.vs)
 letI z2:=Pg.toProgram (Env.P (vD κ))
 letI z3:=Pg.toProgram (Env.P (LG κ))
 ag z2 155 2=ag z2 155 2/\∃(e3:DO),sp 19 [(0,AV.az 0 0 z1),(1,AV.bP 154 [AV.ptr 1 0 [] 0,AV.ptr 3 0 [] 0]),(7,AV.int (↑z1:Int)),(8,AV.int 0)] [Obj.row 9 (strs a.vs),Obj.box 114 (AV.mp 2),Dn.Obj.map 9 4 a.eW,Obj.box 114 (AV.mp 4),Dn.Obj.map 9 4 a.eZ]=sp 19 [(0,AV.az 0 0 (List.length (strs e3.vs))),(1,AV.bP 154 [AV.ptr 1 0 [] 0,AV.ptr 3 0 [] 0]),(7,AV.int (↑(List.length (strs e3.vs)):Int)),(8,AV.int e3.i)] [Obj.row 9 (strs e3.vs),Obj.box 114 (AV.mp 2),Dn.Obj.map 9 4 e3.eW,Obj.box 114 (AV.mp 4),Dn.Obj.map 9 4 e3.eZ]/\(e3.vs.length<=9223372036854775807/\(0:Int)<=e3.i/\e3.i<=(↑(e3.vs.length):Int)/\∀(e0:ByteArray),List.Mem e0 (List.take e3.i.toNat e3.vs)->c9 e3.eW e3.eZ e0=true)/\ax (List.all e3.vs (c9 e3.eW e3.eZ)) (K (AV.ae 9 (List.take z1 (List.drop 0 (strs e3.vs)))) [Obj.mo 9 (strs e3.vs),Obj.box 114 (AV.mp 2),Dn.Obj.map 9 4 e3.eW,Obj.box 114 (AV.mp 4),Dn.Obj.map 9 4 e3.eZ]) (∀(e2:Int),((0:Int)<=e2/\∃(e1:e2.toNat<e3.vs.length),(∀(e0:ByteArray),List.Mem e0 (List.take e2.toNat e3.vs)->c9 e3.eW e3.eZ e0=true)/\c9 e3.eW e3.eZ e3.vs[e2.toNat]=false)->ax (e2==(-1:Int)) (K (AV.ae 9 (List.take z1 (List.drop 0 (strs e3.vs)))) [Obj.mo 9 (strs e3.vs),Obj.box 114 (AV.mp 2),Dn.Obj.map 9 4 e3.eW,Obj.box 114 (AV.mp 4),Dn.Obj.map 9 4 e3.eZ]) (ag z3 153 5=ag z3 153 5/\∃(e1:GO),sp 42 [(0,AV.az 0 0 z1),(1,AV.bP 154 [AV.ptr 1 0 [] 0,AV.ptr 3 0 [] 0]),(5,AV.int e2),(6,AV.int (IntKind.wrap IntKind.i64 (e2+(1:Int))))] [Obj.row 9 (strs e3.vs),Obj.box 114 (AV.mp 2),Dn.Obj.map 9 4 e3.eW,Obj.box 114 (AV.mp 4),Dn.Obj.map 9 4 e3.eZ]=sp 42 [(0,AV.az 0 0 e1.R.length),(1,AV.bP 154 [AV.ptr 1 0 [] 0,AV.ptr 3 0 [] 0]),(5,AV.int e1.i),(6,AV.int e1.j)] [Obj.row 9 e1.R,Obj.box 114 (AV.mp 2),Dn.Obj.map 9 4 e1.eW,Obj.box 114 (AV.mp 4),Dn.Obj.map 9 4 e1.eZ]/\(e1.R.length<=9223372036854775807/\(0:Int)<=e1.i/\e1.i<e1.j/\e1.j<=(↑(e1.R.length):Int)/\List.take e1.i.toNat e1.R=strs e1.P/\List.drop e1.j.toNat e1.R=strs e1.ws)/\∀(e0:List AV),e0.length=e1.R.length/\List.take (List.length (e1.P++List.filter (c9 e1.eW e1.eZ) e1.ws)) e0=strs (e1.P++List.filter (c9 e1.eW e1.eZ) e1.ws)->aO (true&&decide ((↑(List.length (e1.P++List.filter (c9 e1.eW e1.eZ) e1.ws)):Int)<=(↑(e1.R.length):Int))&&decide ((↑(e1.R.length):Int)<=(↑(e1.R.length):Int))) (aO (true&&decide ((↑(List.length (e1.P++List.filter (c9 e1.eW e1.eZ) e1.ws)):Int)<=(↑(e1.R.length):Int))) (K (AV.ae 9 (List.take (Int.toNat ((↑(List.length (e1.P++List.filter (c9 e1.eW e1.eZ) e1.ws)):Int) - (0:Int))) (List.drop 0 (dI e0 (0+Int.toNat (↑(List.length (e1.P++List.filter (c9 e1.eW e1.eZ) e1.ws)):Int)) (Int.toNat ((↑(e1.R.length):Int) - (↑(List.length (e1.P++List.filter (c9 e1.eW e1.eZ) e1.ws)):Int))) (AV.str {data:= #[]}))))) [Obj.mo 9 (dI e0 (0+Int.toNat (↑(List.length (e1.P++List.filter (c9 e1.eW e1.eZ) e1.ws)):Int)) (Int.toNat ((↑(e1.R.length):Int) - (↑(List.length (e1.P++List.filter (c9 e1.eW e1.eZ) e1.ws)):Int))) (AV.str {data:= #[]})),Obj.box 114 (AV.mp 2),Dn.Obj.map 9 4 e1.eW,Obj.box 114 (AV.mp 4),Dn.Obj.map 9 4 e1.eZ]))))):=by kernel_rfl
def Dh(a:DO):List AV×List Dn.Obj:=([.az 0 0 a.vs.length,KZ],Ae (strs a.vs) a.eW a.eZ)
def jH(a:DO):Prop:=a.vs.length<=aP
def Bj(a:DO):Out (AV×List Dn.Obj):= .all (fun _:List AV=>True) fun R=> .one (.ae 9 (strs (a.vs.filter (c9 a.eW a.eZ))),[.mo 9 R, .box 114 (.mp 2), .map 9 4 a.eW, .box 114 (.mp 4), .map 9 4 a.eZ])
theorem SQ(κ:Kp):bz (QS κ) 12 153 (aZ Dh jH Bj):=by
 refine bh ?_
 rintro⟨vs,i,eW,eZ⟩ K h1 ho
 simp only[jH] at h1
 simp only[Dh]
 rw[←bf vs]
 refine Eq.mpr (Yt κ ⟨vs,i,eW,eZ⟩ K) ?_
 refine⟨rfl,⟨vs,0,eW,eZ⟩,rfl,⟨h1,by simp only;omega,by simp only;omega,fun s hs=>nomatch hs⟩,?_⟩
 rw[af]
 refine⟨fun e=>?_,fun e y hy=>?_⟩
 ·have hf:vs.filter (c9 eW eZ)=vs:=List.filter_eq_self.2 (List.all_eq_true.1 e)
  have:=ho (strs vs) trivial
  simp only[hf] at this
  rw[ab0,List.take_length]
  exact this
 ·have hF:=xv hy
  obtain⟨h0,h2,h3,h4⟩:=hy
  simp only at h0 h2
  simp only[aP] at h1
  rw[af,beq_iff_eq,beq_eq_false_iff_ne]
  refine⟨fun e2=>by omega,fun _=>⟨rfl,⟨strs vs,y,y+1,eW,eZ,vs.take y.toNat,vs.drop (y.toNat+1)⟩,?_,⟨by simp only[bf];omega,h0,by simp only;omega,by simp only[bf];omega,?_,?_⟩,?_⟩⟩
  ·rw[a5 (n:=y+1) (by omega) (by omega)]
  ·simp only[strs,List.map_take]
  ·simp only[strs,List.map_drop,show(y+1).toNat=y.toNat+1 by omega]
  ·rintro R ⟨r1,r2⟩
   simp only at r1 r2
   rw[←hF] at r2⊢
   have hle:(vs.filter (c9 eW eZ)).length<=vs.length:=List.length_filter_le _ _
   rw[au,au]
   refine⟨by simp[bf,hle],by simp[bf,hle],?_⟩
   have:=ho (dI R (0+Int.toNat ((vs.filter (c9 eW eZ)).length:Int)) (Int.toNat (((strs vs).length:Int) - ((vs.filter (c9 eW eZ)).length:Int))) (.lit (.string (ByteArray.mk #[])))) trivial
   simp only[Int.toNat_natCast,Nat.zero_add,Int.sub_zero,ab0,rG,r2] at this⊢
   exact this
theorem RZ(κ:Kp): ∀args st K,aZ Dh jH Bj args st K->dj (Pr κ) 153 args st K:=fun args st K h=>gL (eGO κ) (ZR κ) (SQ κ args st K h)
noncomputable def G9(κ:Kp):Env:=(vD κ).aw 153 (aZ Dh jH Bj)
theorem S4(κ:Kp):aC (G9 κ):=(P9 κ).me (RZ κ)
theorem O9(κ:Kp):ai (G9 κ):=(NB κ).aw aI
theorem Yo(κ:Kp)(a:ba)(k:Int)(K:AV->List Dn.Obj->Prop):(bg (G9 κ) 12 127 [an a, .int k] [] K)=(
 letI z2:=Pg.toProgram (Env.P (Jy κ))
 letI z1:=∃(e7:List AV),([AV.ae 52 a.hl],aB)=([AV.ae 52 e7],aB)/\bu e7/\∃(e6:List AV×List (Value×AV)),([AV.mp 0,AV.ae 9 (List.take
  (List.length (aq (aa e7))) (List.drop 0 (strs (aq (aa e7)))))],[Dn.Obj.map 9 4 []])=([AV.mp 0,AV.ae 9 e6.1],[Dn.Obj.map 9 4 e6.2])/\bd e6/\ag z2 127 4=
  ag z2 127 4/\∃(e5:Oa),sp 53 [(1,AV.int k),(2,AV.ptr 0 0 [] 0),(5,AV.ptr 1 0 [] 0),(17,AV.ae 55 a.bl),(18,AV.int (↑(a.bl.length):Int)),(19,
  AV.int 0)] [Obj.box 41 (an a),Obj.box 114 (AV.mp 2),Dn.Obj.map 9 4 (fc e6.2 e6.1)]=sp 53 [(1,AV.int e5.k),(2,AV.ptr 0 0 [] 0),(5,AV.ptr 1 0 [] 0),(17,
  AV.ae 55 e5.a.bl),(18,AV.int (↑(List.length e5.a.bl):Int)),(19,AV.int e5.i)] [Obj.box 41 (an e5.a),Obj.box 114 (AV.mp 2),Dn.Obj.map 9 4 (bL e5.vs)]/\
  ((aM (aa (aH 52 e5.a.hl e5.a.bl))<=100000/\List.length e5.a.bl<=100000)/\(0:Int)<=e5.k/\(0:Int)<=e5.i/\e5.i<=(↑(List.length e5.a.bl):Int))/\aO
  (decide ((0:Int)<=e5.k)&&decide (e5.k<(↑(List.length e5.a.bl):Int))) ((∃(e4:List AV),([AV.ae 52 (ah (ad (ad (nth e5.a.bl e5.k.toNat) 1) 1))],aB)=
  ([AV.ae 52 e4],aB)/\bu e4/\∃(e3:List AV×List (Value×AV)),([AV.mp 0,AV.ae 9 (List.take (List.length (aq (aa e4))) (List.drop 0 (strs (aq (aa
  e4)))))],[Dn.Obj.map 9 4 []])=([AV.mp 0,AV.ae 9 e3.1],[Dn.Obj.map 9 4 e3.2])/\bd e3/\∃(e2:ba),([an e5.a],aB)=([an e2],aB)/\(aU (aJ e2)=true/\
  aM (aa (aH 52 e2.hl e2.bl))<=100000/\e2.bl.length<=100000)/\∃(e1:DO),([AV.az 0 0 (List.length (c6 (aJ e2))),AV.bP 154 [AV.ptr 1 0 [] 0,AV.ptr 3 0 []
  0]],[Obj.row 9 (strs (c6 (aJ e2))),Obj.box 114 (AV.mp 2),Dn.Obj.map 9 4 (fc e3.2 e3.1),Obj.box 114 (AV.mp 4),Dn.Obj.map 9 4 (bL (mX e5))])=([AV.az 0 0
  e1.vs.length,AV.bP 154 [AV.ptr 1 0 [] 0,AV.ptr 3 0 [] 0]],[Obj.row 9 (strs e1.vs),Obj.box 114 (AV.mp 2),Dn.Obj.map 9 4 e1.eW,Obj.box 114 (AV.mp 4),
  Dn.Obj.map 9 4 e1.eZ])/\jH e1/\∀(e0:List AV),True->K (AV.ae 9 (strs (List.filter (c9 e1.eW e1.eZ) e1.vs))) [])/\∃(e4:List AV),([AV.ae 52 (ah (ad (ad
  (nth e5.a.bl e5.k.toNat) 1) 1))],aB)=([AV.ae 52 e4],aB)/\bu e4/\∃(e3:List AV×List (Value×AV)),([AV.mp 0,AV.ae 9 (List.take (List.length (aq (aa
  e4))) (List.drop 0 (strs (aq (aa e4)))))],[Dn.Obj.map 9 4 []])=([AV.mp 0,AV.ae 9 e3.1],[Dn.Obj.map 9 4 e3.2])/\bd e3/\∃(e2:ba),([an e5.a],aB)=([an
  e2],aB)/\(aU (aJ e2)=true/\aM (aa (aH 52 e2.hl e2.bl))<=100000/\e2.bl.length<=100000)/\∃(e1:DO),([AV.az 0 0 (List.length (c6 (aJ e2))),AV.bP 154
  [AV.ptr 1 0 [] 0,AV.ptr 3 0 [] 0]],[Obj.row 9 (strs (c6 (aJ e2))),Obj.box 114 (AV.mp 2),Dn.Obj.map 9 4 (fc e3.2 e3.1),Obj.box 114 (AV.mp 4),Dn.Obj.map 9 4
  (bL (mX e5))])=([AV.az 0 0 e1.vs.length,AV.bP 154 [AV.ptr 1 0 [] 0,AV.ptr 3 0 [] 0]],[Obj.row 9 (strs e1.vs),Obj.box 114 (AV.mp 2),Dn.Obj.map 9 4 e1.eW,
  Obj.box 114 (AV.mp 4),Dn.Obj.map 9 4 e1.eZ])/\jH e1/\∀(e0:List AV),True->K (AV.ae 9 (strs (List.filter (c9 e1.eW e1.eZ) e1.vs))) [])
 z1/\z1):=by kernel_rfl
def J4(a:ba×Int):List AV×List Dn.Obj:=([an a.1, .int a.2],[])
def yD(a:ba×Int):Prop:=aU (aJ a.1)=true/\dr a.1/\0<=a.2/\a.2<a.1.bl.length
def MH(a:ba×Int):Out (AV×List Dn.Obj):= .one (.ae 9 (strs (dF (aJ a.1) a.2.toNat)),[])
theorem Z2(κ:Kp):bz (G9 κ) 12 127 (aZ J4 yD MH):=by
 refine bh ?_
 rintro⟨a,k⟩ K ⟨h1,h2,h3,h4⟩ ho
 refine Eq.mpr (Yo κ a k K) ?_
 simp only at h1 h2 h3 h4
 have hc:=oa h2
 have hv:=b8 (aa a.hl)
 have hk:k.toNat<a.bl.length:=by omega
 have hlit:=j8 h2 hk
 simp only[and_self]
 refine⟨a.hl,rfl,hc,⟨strs (aq (aa a.hl)),[]⟩,?_,?_,trivial,⟨a,k,0,aq (aa a.hl)⟩,rfl,⟨h2,h3,by simp only;omega,by simp only;omega⟩,?_⟩
 ·simp only[ab0,ct]
 ·simp only[bd,bf,aP];omega
 rw[au,aa1,aa0,aa0]
 have hin:aq (aa (ah (ad (ad (nth a.bl k.toNat) 1) 1)))=aq (dq (aJ a).body k.toNat).a.l:=by
  rw[show(aJ a).body=cC a.bl from rfl,jL _ hk,lt_eq]
 have hcl:aM (aa (ah (ad (ad (nth a.bl k.toNat) 1) 1)))<=100000:=by
  rw[lt_eq] at hlit
  simp only[iR] at hlit;omega
 have hvl:=b8 (aa (ah (ad (ad (nth a.bl k.toNat) 1) 1)))
 refine⟨⟨h3,h4⟩,_,rfl,hcl,⟨strs (aq (aa (ah (ad (ad (nth a.bl k.toNat) 1) 1)))),[]⟩,?_,?_,a,rfl,⟨h1,h2⟩,⟨c6 (aJ a),0,fc [] (strs (aq (aa (ah (ad (ad (nth a.bl k.toNat) 1) 1))))),bL (mX ⟨a,k,0,aq (aa a.hl)⟩)⟩,rfl,?_,?_⟩
 ·simp only[ab0,ct]
 ·simp only[bd,bf,aP];omega
 ·have h5:(eT (aJ a)).length<=100000:=by
   have h6:=b8 (aa (aH 52 a.hl a.bl))
   rw[iS 52 a.rel a.hl a.bl] at h6
   exact Nat.le_trans h6 h2.1
  have h7:=kV (eT (aJ a)) []
  simp only[jH,c6,h1,aa7,aP];omega
 ·intro R _
  have hk2:(fun s=>c9 (fc [] (strs (aq (aa (ah (ad (ad (nth a.bl k.toNat) 1) 1)))))) (bL (mX ⟨a,k,0,aq (aa a.hl)⟩)) s)=fun v=>(aq (dq (aJ a).body k.toNat).a.l).contains v&&(L7 (aJ a) k.toNat).contains v:=by
   funext s
   unfold c9
   rw[pw,hin]
   congr 1
   exact pw _ s
  have hk3:List.filter (c9 (fc [] (strs (aq (aa (ah (ad (ad (nth a.bl k.toNat) 1) 1)))))) (bL (mX ⟨a,k,0,aq (aa a.hl)⟩))) (c6 (aJ a))=dF (aJ a) k.toNat:=by
   unfold dF
   exact congrFun (congrArg _ hk2) _
  simp only[hk3]
  exact ho
noncomputable def LH(κ:Kp):Env:=(G9 κ).aw 127 (aZ J4 yD MH)
theorem Y0(κ:Kp):aC (LH κ):=(S4 κ).aw (O9 κ) (Z2 κ)
theorem UG(κ:Kp):ai (LH κ):=(O9 κ).aw aI
end Go.Proofs.YtdpmikfheebicaaGreatDoor
