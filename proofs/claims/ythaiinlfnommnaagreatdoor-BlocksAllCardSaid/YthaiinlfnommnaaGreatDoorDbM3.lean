import Derived.Test.YthaiinlfnommnaaGreatDoorDbM2
import Derived.Test.YthaiinlfnommnaaGreatDoorDbM1
namespace Go.Proofs.YthaiinlfnommnaaGreatDoor
open Go Go.Dn Go.Rl Go.Proofs
attribute [local irreducible] bf vc
set_option maxRecDepth 20000
structure Fl where
 xs:List AV
 more:List AV
 t:AV
 m:List AV
 i:Int
abbrev IL(a:Fl):AV:=pj 56 (nth a.m a.i.toNat)
def PC:List Nat:=[229,265,238]
def OB(a:AV):List AV×List Dn.Obj:=([.cK 0, .ptr 1 0 [] 0],[.ext (some (o8 56 a)), .box 56 (pj 56 a)])
def QR(n:Nat)(a:AV):Prop:=(cx a).gu=n/\n<=100000
def Fz(_:AV):Out (AV×List Dn.Obj):= .all (fun st'=>qN st') fun st'=> .one (.bp [],st')
def Me(n:Nat):dw:=aR OB (QR n) Fz
noncomputable def B4(κ:Kp)(r:Nat):Env:=(Wa κ).ay 265 fun args st K=>∃m,m<r/\Me m args st K
noncomputable abbrev Un(a:Fl)(κ:Kp)(st:LoopState)(p:Option Code):Dn.Obj:=
 .loop (gj (Pr κ).toProgram 265 6 st p (fU (bJ 25) [(2, .ptr 2 0 [] 0),(4, .ptr 3 0 [] 0),(11, .ad 56 a.m),(12, .int a.m.length),(13, .int a.i),(14, .bool true),
  (15, .jX 56 (nth a.m a.i.toNat)),(16,IL a),(17,IL a),(18, .bQ 265 [.ptr 4 0 [] 0])]))
noncomputable abbrev pG(κ:Kp)(a:Fl):List Dn.Obj:=[.ext (some a.xs), .box 56 (pj 56 a.t), .box 187 (.cK 0), .box 56 (IL a), .box 56 (IL a),Un a κ .ready none]
noncomputable abbrev AN(κ:Kp)(a:Fl)(o:Option (List AV))(st:LoopState)(p:Option Code):List Dn.Obj:=[.ext o, .box 56 (pj 56 a.t), .box 187 (.cK 0), .box 56 (IL a), .dead,Un a κ st p]
theorem s56(κ:Kp)(a:Fl)(Q:List Dn.Obj->Prop):(tidy (Pr κ).toProgram 6 (dY (pG κ a) (cH (pG κ a) [.ptr 4 0 [] 0])) Q)=(
 letI z1:=nth a.m a.i.toNat
 letI z2:=toInt (ae z1 0)
 letI z3:=toStr (ae z1 1)
 letI z4:=toInt (ae z1 2)
 letI z5:=ai (ae z1 3)
 Q [Obj.ext (some a.xs),Obj.box 56 (AV.agg [AV.int (toInt (ae a.t 0)),AV.str (toStr (ae a.t 1)),AV.int (toInt (ae a.t 2)),AV.ad 56 (ai (ae a.t 3))]),Obj.box
 187 (AV.cK 0),Obj.box 56 (AV.agg [AV.int z2,AV.str z3,AV.int z4,AV.ad 56 z5]),Obj.dead,Dn.Obj.loop (gj Tryz.prog 265 6 LoopState.ready none (fU (bJ 25)
 [(2,AV.ptr 2 0 [] 0),(4,AV.ptr 3 0 [] 0),(11,AV.ad 56 a.m),(12,AV.int (↑(a.m.length):Int)),(13,AV.int a.i),(14,AV.bool true),(15,AV.jX 56 z1),
 (16,AV.agg [AV.int z2,AV.str z3,AV.int z4,AV.ad 56 z5]),(17,AV.agg [AV.int z2,AV.str z3,AV.int z4,AV.ad 56 z5]),(18,AV.bQ 265 [AV.ptr 4 0 [] 0])]))]):=by kernel_rfl
theorem r56(κ:Kp)(r:Nat)(a:Fl)(o:List AV)(u:AV)(Q:List Dn.Obj->Prop)(K2:List Dn.Obj->Prop):(gX (vc (B4 κ r) 12) 5 [pj 56 u] (AN κ a (some o) .ready none) (fun r st''=>match r with| .lit (.bool true)=>tidy (Pr κ).toProgram 6 st'' Q| .lit (.bool false)=>K2 st''|_=>False))=(
 letI z3:=nth a.m a.i.toNat
 letI z4:=AV.agg [AV.int (toInt (ae a.t 0)),AV.str (toStr (ae a.t 1)),AV.int (toInt (ae a.t 2)),AV.ad 56 (ai (ae a.t 3))]
 letI z5:=toInt (ae z3 0)
 letI z6:=toStr (ae z3 1)
 letI z7:=toInt (ae z3 2)
 letI z8:=ai (ae z3 3)
 letI z1:=AV.agg [AV.int z5,AV.str z6,AV.int z7,AV.ad 56 z8]
 letI z2:=fU (bJ 25) [(2,AV.ptr 2 0 [] 0),(4,AV.ptr 3 0 [] 0),(11,AV.ad 56 a.m),(12,AV.int (↑(a.m.length):Int)),(13,AV.int a.i),(14,AV.bool true),
  (15,AV.jX 56 z3),(16,AV.agg [AV.int z5,AV.str z6,AV.int z7,AV.ad 56 z8]),(17,AV.agg [AV.int z5,AV.str z6,AV.int z7,AV.ad 56 z8]),(18,AV.bQ 265
  [AV.ptr 4 0 [] 0])]
 ∃(e0:List AV),o=AV.bp [AV.agg [AV.int (toInt (ae u 0)),AV.str (toStr (ae u 1)),AV.int (toInt (ae u 2)),AV.ad 56 (ai (ae u 3))]]::e0/\Q [Obj.ext
 (some e0),Obj.box 56 z4,Obj.box 187 (AV.cK 0),Obj.box 56 z1,Obj.dead,Dn.Obj.loop (gj Tryz.prog 265 6 LoopState.ready none z2)]/\K2 [Obj.ext none,Obj.box
 56 z4,Obj.box 187 (AV.cK 0),Obj.box 56 z1,Obj.dead,Dn.Obj.loop (gj Tryz.prog 265 6 LoopState.done (some Code.ret) z2),Obj.box 56 (AV.agg [AV.int (toInt (ae
 u 0)),AV.str (toStr (ae u 1)),AV.int (toInt (ae u 2)),AV.ad 56 (ai (ae u 3))])]):=by kernel_rfl
theorem k56(κ:Kp)(a:Fl)(xs:List AV):(AV.cK 0::fW (jM (cH (pG κ a) [.ptr 4 0 [] 0])) [.ptr 4 0 [] 0],Obj.ext (some xs)::gH (jM (cH (pG κ a) [.ptr 4 0 [] 0])) (gU (pG κ a) (cH (pG κ a) [.ptr 4 0 [] 0])))=([.cK 0, .ptr 1 0 [] 0],[.ext (some xs), .box 56 (IL a)]):=by kernel_rfl
theorem o56(κ:Kp)(a:Fl):nT (pG κ a) [.ptr 4 0 [] 0]=true:=by kernel_rfl
noncomputable def Lx(κ:Kp)(r:Nat):dG:=fun caps st K=>∃a:Fl,(caps,st)=([AV.ptr 4 0 [] 0],pG κ a)/\((cx (nth a.m a.i.toNat)).gu<r/\(cx (nth a.m a.i.toNat)).gu<=100000/\a.xs=o8 56 (nth a.m a.i.toNat)++a.more)/\
 (K (AN κ a (some a.more) .ready none)/\∀u:AV,K (AN κ a none .done (some .ret)++[.box 56 (pj 56 u)]))
theorem D1(κ:Kp)(r:Nat):(Lx κ r).jk:=by
 rintro caps st K K' hK ⟨a,h1,h2,h3,h4⟩
 exact⟨a,h1,h2,hK _ h3,fun u=>hK _ (h4 u)⟩
theorem Nv(κ:Kp)(r:Nat)(args:List AV)(st:List Dn.Obj)(K:AV->List Dn.Obj->Prop)(h: ∃m,m<r/\Me m args st K):(B4 κ r).call 265 args st K:=h
theorem X5(κ:Kp)(r:Nat):lq (B4 κ r) 12 265 (Lx κ r):=by
 rintro caps st K ⟨a,h1,⟨h2,h3,h4⟩,h5,h6⟩
 obtain⟨rfl,rfl⟩:=Prod.mk.inj h1
 refine⟨o8 56 (nth a.m a.i.toNat),fun items st'=>(∀x,x∈items->sk 56 x)/\st'=AN κ a (some (items++a.more)) .ready none,⟨o56 κ a,?_,?_,?_,?_⟩⟩
 ·refine Nv κ r _ _ _ ⟨_,h2,nth a.m a.i.toNat,?_,⟨rfl,h3⟩,fun st' h=>h⟩
  rw[k56];rfl
 ·rw[show(B4 κ r).P=Pr κ from rfl,show(pG κ a).length=6 from rfl,s56]
  exact⟨nd _ _ _ (Nat.lt_succ_self _),by rw[h4];rfl⟩
 ·rintro us rest st' ⟨e1,rfl⟩
  obtain⟨u,hu⟩:=e1 (.bp us) (by simp)
  obtain rfl:=AV.bp.inj hu
  rw[show(B4 κ r).P=Pr κ from rfl,show(pG κ a).length=6 from rfl]
  refine Eq.mpr (r56 κ r a _ u _ _) ?_
  exact⟨_,rfl,⟨fun x hx=>e1 x (by simp[hx]),rfl⟩,h6 u⟩
 ·rintro st' ⟨_,rfl⟩
  exact h5
noncomputable def zK(κ:Kp)(r:Nat):Env:=((B4 κ r).addRange 265 6 265 (Lx κ r)).dy (fun f=>jH f PC)
theorem UW(κ:Kp)(r:Nat):aj (B4 κ r):=(Z0 κ).ay (fun _ _ _ _ hK ⟨m,h1,h2⟩=>⟨m,h1,aK _ _ _ _ hK h2⟩)
theorem x56(κ:Kp)(r:Nat)(a:Fl)(I:Nat->S->Prop)(n:Nat)(K:Exit->S->Prop):(vc (zK κ r) 12 265 none 2 (ah (Pr κ).toProgram 265 3) (sp 25 [(2, .ptr 2 0 [] 0),(11, .ad 56 a.m),(12, .int a.m.length),(13, .int a.i)] [.ext (some a.xs), .box 56 (pj 56 a.t), .box 187 (.cK 0)]) (bL (zK κ r) 265 3 2 I n K))=(
 letI z2:=nth a.m a.i.toNat
 letI z3:=AV.agg [AV.int (toInt (ae a.t 0)),AV.str (toStr (ae a.t 1)),AV.int (toInt (ae a.t 2)),AV.ad 56 (ai (ae a.t 3))]
 letI z4:=a.i<(↑(a.m.length):Int)
 letI z5:=toInt (ae z2 0)
 letI z6:=toStr (ae z2 1)
 letI z7:=toInt (ae z2 2)
 letI z8:=ai (ae z2 3)
 letI z1:=AV.agg [AV.int z5,AV.str z6,AV.int z7,AV.ad 56 z8]
 aC (decide z4) (ba (decide ((0:Int)<=a.i)&&decide z4) (∃(e1:Fl),([AV.ptr 4 0 [] 0],[Obj.ext (some a.xs),Obj.box 56 z3,Obj.box 187 (AV.cK 0),Obj.box
 56 z1,Obj.box 56 z1,Dn.Obj.loop (gj Tryz.prog 265 6 LoopState.ready none (fU (bJ 25) [(2,AV.ptr 2 0 [] 0),(4,AV.ptr 3 0 [] 0),(11,AV.ad 56 a.m),(12,
 AV.int (↑(a.m.length):Int)),(13,AV.int a.i),(14,AV.bool true),(15,AV.jX 56 z2),(16,AV.agg [AV.int z5,AV.str z6,AV.int z7,AV.ad 56 z8]),(17,AV.agg
 [AV.int z5,AV.str z6,AV.int z7,AV.ad 56 z8]),(18,AV.bQ 265 [AV.ptr 4 0 [] 0])]))])=([AV.ptr 4 0 [] 0],[Obj.ext (some e1.xs),Obj.box 56 (AV.agg [AV.int
 (toInt (ae e1.t 0)),AV.str (toStr (ae e1.t 1)),AV.int (toInt (ae e1.t 2)),AV.ad 56 (ai (ae e1.t 3))]),Obj.box 187 (AV.cK 0),Obj.box 56 (AV.agg [AV.int
 (toInt (ae (nth e1.m e1.i.toNat) 0)),AV.str (toStr (ae (nth e1.m e1.i.toNat) 1)),AV.int (toInt (ae (nth e1.m e1.i.toNat) 2)),AV.ad 56 (ai (ae (nth e1.m
 e1.i.toNat) 3))]),Obj.box 56 (AV.agg [AV.int (toInt (ae (nth e1.m e1.i.toNat) 0)),AV.str (toStr (ae (nth e1.m e1.i.toNat) 1)),AV.int (toInt (ae (nth e1.m
 e1.i.toNat) 2)),AV.ad 56 (ai (ae (nth e1.m e1.i.toNat) 3))]),Dn.Obj.loop (gj Tryz.prog 265 6 LoopState.ready none (fU (bJ 25) [(2,AV.ptr 2 0 [] 0),(4,
 AV.ptr 3 0 [] 0),(11,AV.ad 56 e1.m),(12,AV.int (↑(e1.m.length):Int)),(13,AV.int e1.i),(14,AV.bool true),(15,AV.jX 56 (nth e1.m e1.i.toNat)),(16,
 AV.agg [AV.int (toInt (ae (nth e1.m e1.i.toNat) 0)),AV.str (toStr (ae (nth e1.m e1.i.toNat) 1)),AV.int (toInt (ae (nth e1.m e1.i.toNat) 2)),AV.ad 56 (ai (ae
 (nth e1.m e1.i.toNat) 3))]),(17,AV.agg [AV.int (toInt (ae (nth e1.m e1.i.toNat) 0)),AV.str (toStr (ae (nth e1.m e1.i.toNat) 1)),AV.int (toInt (ae (nth e1.m
 e1.i.toNat) 2)),AV.ad 56 (ai (ae (nth e1.m e1.i.toNat) 3))]),(18,AV.bQ 265 [AV.ptr 4 0 [] 0])]))])/\(Tm.gu (cx (nth e1.m e1.i.toNat))<r/\Tm.gu (cx (nth
 e1.m e1.i.toNat))<=100000/\e1.xs=o8 56 (nth e1.m e1.i.toNat)++e1.more)/\(∃(e0:Nat),e0<n/\I e0 (sp 25 [(2,AV.ptr 2 0 [] 0),(11,AV.ad 56 a.m),
 (12,AV.int (↑(a.m.length):Int)),(13,AV.int (IntKind.wrap IntKind.i64 (a.i+(1:Int))))] [Obj.ext (some e1.more),Obj.box 56 (AV.agg [AV.int (toInt (ae
 e1.t 0)),AV.str (toStr (ae e1.t 1)),AV.int (toInt (ae e1.t 2)),AV.ad 56 (ai (ae e1.t 3))]),Obj.box 187 (AV.cK 0)]))/\∀(e0:AV),K Exit.ret (sp 25 []
 [Obj.ext none,Obj.box 56 (AV.agg [AV.int (toInt (ae e1.t 0)),AV.str (toStr (ae e1.t 1)),AV.int (toInt (ae e1.t 2)),AV.ad 56 (ai (ae e1.t 3))])]))) (K
 (Exit.exit 0) (sp 25 [] [Obj.ext (some a.xs),Obj.box 56 z3]))):=by kernel_rfl
abbrev P7(a:Fl):S:=sp 25 [(2, .ptr 2 0 [] 0),(11, .ad 56 a.m),(12, .int a.m.length),(13, .int a.i)] [.ext (some a.xs), .box 56 (pj 56 a.t), .box 187 (.cK 0)]
def F3(r:Nat)(a:Fl):Prop:=a.m.length<=aM/\0<=a.i/\a.i<=a.m.length/\aO (aa (a.m.drop a.i.toNat))<r/\aO (aa (a.m.drop a.i.toNat))<=100000/\a.xs=fI 56 (a.m.drop a.i.toNat)
def MZ(a:Fl):Out (Exit×S):= .all (fun _:Bool=>True) fun b=> .aC b (.one (.exit 0,sp 25 [] [.ext (some []), .box 56 (pj 56 a.t)])) (.one (.ret,sp 25 [] [.ext none, .box 56 (pj 56 a.t)]))
theorem wb(l:List AV)(i:Nat)(h:i<l.length):aO (aa (l.drop i))=(cx (nth l i)).gu+aO (aa (l.drop (i+1))):=by
 rw[dL l i h,aO]
theorem l56(κ:Kp)(r:Nat):bk (zK κ r) 12 265 3 (aP 2 P7 (F3 r) MZ):=by
 refine aL (fun a=>a.m.length - a.i.toNat) ?_
 rintro⟨xs,more,t,m,i⟩ K ⟨h1,h2,h3,h4,h5,h6⟩ ho
 simp only at h1 h2 h3 h4 h5 h6
 rw[show(zK κ r).P=Pr κ from rfl]
 refine Eq.mpr (x56 κ r ⟨xs,more,t,m,i⟩ _ _ K) ?_
 have ho1:=ho true trivial
 have ho2:=ho false trivial
 simp only[Out.run,aC] at ho1 ho2
 simp only[aM] at h1
 simp only[af,an,aa2,aa4,aa3]
 refine⟨fun hi=>⟨⟨h2,hi⟩,?_⟩,fun hi=>?_⟩
 ·have hc:=wb m i.toNat (by omega)
  rw[vv _ m i.toNat (by omega)] at h6
  rw[aW (n:=i+1) (by omega) (by omega)]
  refine⟨⟨xs,fI 56 (m.drop (i.toNat+1)),t,m,i⟩,rfl,⟨by simp only;omega,by simp only;omega,h6⟩,⟨_,?_,⟨_,more,t,m,i+1⟩,rfl,⟨by simpa[aM] using h1,by simp only;omega,by simp only;omega,?_,?_,?_⟩,rfl,ho⟩,fun _=>ho2⟩
  ·simp only;omega
  ·simp only[show(i+1).toNat=i.toNat+1 by omega];omega
  ·simp only[show(i+1).toNat=i.toNat+1 by omega];omega
  ·simp only[show(i+1).toNat=i.toNat+1 by omega]
 ·rw[ab0 (by omega)] at h6
  subst h6
  exact ho1
noncomputable def HR(κ:Kp)(r:Nat):Env:=(zK κ r).ak 265 3 (aP 2 P7 (F3 r) MZ)
theorem y56(κ:Kp)(r:Nat)(t:AV)(xs:List AV)(K:AV->List Dn.Obj->Prop):(bf (HR κ r) 12 265 [.cK 0, .ptr 1 0 [] 0] [.ext (some xs), .box 56 (pj 56 t)] K)=(
 letI z2:=ai (ae t 3)
 letI z1:=AV.agg [AV.int (toInt (ae t 0)),AV.str (toStr (ae t 1)),AV.int (toInt (ae t 2)),AV.ad 56 z2]
 letI z3:=Pg.toProgram (Env.P (zK κ r))
 ∃(e2:List AV),xs=AV.bp [AV.agg [AV.int (toInt (ae t 0)),AV.str (toStr (ae t 1)),AV.int (toInt (ae t 2)),AV.ad 56 z2]]::e2/\(ah z3 265 3=ah z3 265
 3/\∃(e1:Fl),sp 25 [(2,AV.ptr 2 0 [] 0),(11,AV.ad 56 z2),(12,AV.int (↑(List.length z2):Int)),(13,AV.int 0)] [Obj.ext (some e2),Obj.box 56 z1,
 Obj.box 187 (AV.cK 0)]=sp 25 [(2,AV.ptr 2 0 [] 0),(11,AV.ad 56 e1.m),(12,AV.int (↑(e1.m.length):Int)),(13,AV.int e1.i)] [Obj.ext (some e1.xs),
 Obj.box 56 (AV.agg [AV.int (toInt (ae e1.t 0)),AV.str (toStr (ae e1.t 1)),AV.int (toInt (ae e1.t 2)),AV.ad 56 (ai (ae e1.t 3))]),Obj.box 187 (AV.cK 0)]/\
 (e1.m.length<=9223372036854775807/\(0:Int)<=e1.i/\e1.i<=(↑(e1.m.length):Int)/\aO (aa (List.drop e1.i.toNat e1.m))<r/\aO (aa (List.drop e1.i.toNat
 e1.m))<=100000/\e1.xs=fI 56 (List.drop e1.i.toNat e1.m))/\∀(e0:Bool),True->aC e0 (K (AV.bp []) [Obj.ext (some []),Obj.box 56 (AV.agg [AV.int (toInt
 (ae e1.t 0)),AV.str (toStr (ae e1.t 1)),AV.int (toInt (ae e1.t 2)),AV.ad 56 (ai (ae e1.t 3))])]) (K (AV.bp []) [Obj.ext none,Obj.box 56 (AV.agg [AV.int
 (toInt (ae e1.t 0)),AV.str (toStr (ae e1.t 1)),AV.int (toInt (ae e1.t 2)),AV.ad 56 (ai (ae e1.t 3))])]))/\K (AV.bp []) [Obj.ext none,Obj.box 56 z1]):=by kernel_rfl
theorem XX(κ:Kp)(r:Nat)(hp: ∀args st K,(∃m,m<r/\Me m args st K)->dq (Pr κ) 265 args st K):aD (HR κ r)/\aj (HR κ r)/\(HR κ r).P=Pr κ:=
 have h:aD (B4 κ r):=(V6 κ).iE hp
 have h2:aD (zK κ r):=(h.addRange (UW κ r) (X5 κ r)).dy _
 have hm:aj (zK κ r):=((UW κ r).addRange (D1 κ r)).dy _
 ⟨h2.ak hm (l56 κ r),hm.ak aI,rfl⟩
theorem c56(κ:Kp)(r:Nat):bz (HR κ r) 12 265 (Me r):=by
 refine bg ?_
 rintro t K ⟨h1,h2⟩ ho
 have hn: ∀b,K (.bp []) [.ext none,b]:=fun b=>ho _ trivial
 have h0: ∀b,K (.bp []) [.ext (some []),b]:=fun b=>ho _ trivial
 refine Eq.mpr (y56 κ r t _ K) ?_
 rw[cz,Tm.gu] at h1
 have hl:=eB (aa (ai (ae t 3)))
 rw[dz] at hl
 rw[zZ]
 refine⟨_,rfl,⟨rfl,⟨_,[],t,ai (ae t 3),0⟩,rfl,⟨by simp only;omega,by simp only;omega,by simp only;omega,?_,?_,rfl⟩,?_⟩,hn _⟩
 ·simp only[ab9,ab2];omega
 ·simp only[ab9,ab2];omega
 ·intro y _
  cases y
  ·exact hn _
  ·exact h0 _
def z0(a:AV):Prop:=(cx a).gu<=100000
theorem q56(κ:Kp): ∀args st K,aR OB z0 Fz args st K->dq (Pr κ) 265 args st K:=by
 rintro args st K ⟨l,h1,h2,h3⟩
 exact aD.tO Me (HR κ) (XX κ) (c56 κ) (cx l).gu args st K ⟨l,h1,⟨rfl,h2⟩,h3⟩
noncomputable def L1(κ:Kp):Env:=(Wa κ).ay 265 (aR OB z0 Fz)
theorem e56(κ:Kp):aD (L1 κ):=(V6 κ).iE (q56 κ)
theorem Z6(κ:Kp):aj (L1 κ):=(Z0 κ).ay aK
structure w5 where
 xs:List AV
 more:List AV
 r:cq
 bl:List AV
 ts:List AV
 i:Int
abbrev D3(a:w5):AV:=pj 56 (nth a.ts (0+a.i.toNat))
abbrev Hk(a:w5):S:=sp 46 [(2, .ptr 2 0 [] 0),(3, .ar 3 0 a.ts.length),(14, .ad 72 a.bl),(15, .int a.bl.length),(16, .int a.i)] [.ext (some a.xs), .box 66 (aq a.r), .box 187 (.cK 0), .row 56 a.ts]
theorem YY(κ:Kp)(a:w5)(I:Nat->S->Prop)(n:Nat)(K:Exit->S->Prop):(vc (L1 κ) 12 238 none 2 (ah (Pr κ).toProgram 238 3) (Hk a) (bL (L1 κ) 238 3 2 I n K))=(
 letI z1:=nth a.bl a.i.toNat
 letI z2:=a.i<(↑(a.bl.length):Int)
 letI z3:=ae (ae z1 1) 1
 aC (decide z2) (ba (decide ((0:Int)<=a.i)&&decide z2) (ba (decide ((a.ts.length+2+1)*57<=70368744177664)) (ba (decide ((a.ts.length+2+
 List.length (ai z3)+1)*57<=70368744177664)) (∃(e0:Nat),e0<n/\I e0 (sp 46 [(2,AV.ptr 2 0 [] 0),(3,AV.ar 3 0 (a.ts.length+2+List.length (ai
 z3))),(14,AV.ad 72 a.bl),(15,AV.int (↑(a.bl.length):Int)),(16,AV.int (IntKind.wrap IntKind.i64 (a.i+(1:Int))))] [Obj.ext (some a.xs),Obj.box 66 (aq
 a.r),Obj.box 187 (AV.cK 0),Obj.row 56 (List.take (a.ts.length+2) (List.take a.ts.length a.ts++[AV.agg [AV.int (toInt (ae (ae z1 2) 0)),AV.str (toStr (ae
 (ae z1 2) 1)),AV.int (toInt (ae (ae z1 2) 2)),AV.ad 56 (ai (ae (ae z1 2) 3))],AV.agg [AV.int (toInt (ae (ae z1 3) 0)),AV.str (toStr (ae (ae z1 3) 1)),
 AV.int (toInt (ae (ae z1 3) 2)),AV.ad 56 (ai (ae (ae z1 3) 3))]])++ai z3)]))))) (K (Exit.exit 0) (sp 46 [(2,AV.ptr 2 0 [] 0),(3,AV.ar 3 0 a.ts.length)]
 [Obj.ext (some a.xs),Obj.box 66 (aq a.r),Obj.box 187 (AV.cK 0),Obj.row 56 a.ts]))):=by kernel_rfl
def dJ(l:List AV):List AV:=l.flatMap fun a=>[pj 56 (ae a 2),pj 56 (ae a 3)]++ai (ae (ae a 1) 1)
def Hm(a:w5):Prop:=a.bl.length<=aM/\0<=a.i/\a.i<=a.bl.length/\(a.ts++dJ (a.bl.drop a.i.toNat)).length<=100000
def zg(a:w5):Out (Exit×S):= .one (.exit 0,sp 46 [(2, .ptr 2 0 [] 0),(3, .ar 3 0 (a.ts++dJ (a.bl.drop a.i.toNat)).length)] [.ext (some a.xs), .box 66 (aq a.r), .box 187 (.cK 0), .row 56 (a.ts++dJ (a.bl.drop a.i.toNat))])
theorem Fa(l:List AV)(i:Nat)(h:i<l.length):dJ (l.drop i)=[pj 56 (ae (nth l i) 2),pj 56 (ae (nth l i) 3)]++ai (ae (ae (nth l i) 1) 1)++dJ (l.drop (i+1)):=by
 rw[ab3 h,aZ l i h];rfl
theorem YB(κ:Kp):bk (L1 κ) 12 238 3 (aP 2 Hk Hm zg):=by
 refine aL (fun a=>a.bl.length - a.i.toNat) ?_
 rintro⟨xs,more,r,bl,ts,i⟩ K ⟨h1,h2,h3,h4⟩ ho
 simp only at h1 h2 h3 h4
 rw[show(L1 κ).P=Pr κ from rfl]
 refine Eq.mpr (YY κ ⟨xs,more,r,bl,ts,i⟩ _ _ K) ?_
 simp only[and_self]
 simp only[zg,Out.run] at ho
 simp only[aM] at h1
 simp only[af,an,aa2,aa4,aa3]
 refine⟨fun hi=>⟨⟨h2,hi⟩,?_⟩,fun hi=>?_⟩
 ·have hp:=Fa bl i.toNat (by omega)
  rw[hp] at h4 ho
  rw[aW (n:=i+1) (by omega) (by omega)]
  simp only[ac0,List.length_cons,List.length_nil] at h4
  refine⟨by omega,by omega,_,?_,⟨xs,more,r,bl,ts++([pj 56 (ae (nth bl i.toNat) 2),pj 56 (ae (nth bl i.toNat) 3)]++ai (ae (ae (nth bl i.toNat) 1) 1)),i+1⟩,?_,⟨by simpa[aM] using h1,by simp only;omega,by simp only;omega,?_⟩,rfl,?_⟩
  ·simp only;omega
  ·simp only[Hk,ac0,List.length_cons,List.length_nil,List.take_length]
   rw[List.take_of_length_le (by simp),show ts.length+2+(ai (ae (ae (nth bl i.toNat) 1) 1)).length=ts.length+(0+1+1+(ai (ae (ae (nth bl i.toNat) 1) 1)).length) by omega,List.append_assoc]
   rfl
  ·simp only[ac0,List.length_cons,List.length_nil,show(i+1).toNat=i.toNat+1 by omega];omega
  ·simp only[zg,Out.run,show(i+1).toNat=i.toNat+1 by omega]
   simpa only[List.append_assoc] using ho
 ·rw[ab0 (by omega)] at ho
  simpa[dJ] using ho
noncomputable def C6(κ:Kp):Env:=(L1 κ).ak 238 3 (aP 2 Hk Hm zg)
theorem Xx(κ:Kp):aD (C6 κ):=(e56 κ).ak (Z6 κ) (YB κ)
theorem TS(κ:Kp):aj (C6 κ):=(Z6 κ).ak aI
noncomputable abbrev Uk(a:w5)(κ:Kp)(st:LoopState)(p:Option Code):Dn.Obj:=
 .loop (gj (Pr κ).toProgram 238 11 st p (fU (bJ 46) [(2, .ptr 2 0 [] 0),(7, .ptr 4 0 [] 0),(32, .ar 3 0 a.ts.length),(33, .int a.ts.length),(34, .int a.i),(35, .bool true),
  (36, .ptr 3 (0+a.i.toNat) [] 0),(37,D3 a),(38,D3 a),(39, .bQ 265 [.ptr 5 0 [] 0])]))
noncomputable abbrev pe(κ:Kp)(a:w5):List Dn.Obj:=[.ext (some a.xs), .box 66 (aq a.r), .box 187 (.cK 0), .row 56 a.ts, .box 56 (D3 a), .box 56 (D3 a),Uk a κ .ready none]
noncomputable abbrev As(κ:Kp)(a:w5)(o:Option (List AV))(st:LoopState)(p:Option Code):List Dn.Obj:=[.ext o, .box 66 (aq a.r), .box 187 (.cK 0), .row 56 a.ts, .box 56 (D3 a), .dead,Uk a κ st p]
theorem XZ(κ:Kp)(a:w5)(Q:List Dn.Obj->Prop):(tidy (Pr κ).toProgram 7 (dY (pe κ a) (cH (pe κ a) [.ptr 5 0 [] 0])) Q)=(
 letI z1:=nth a.ts (0+a.i.toNat)
 letI z2:=toInt (ae z1 0)
 letI z3:=toStr (ae z1 1)
 letI z4:=toInt (ae z1 2)
 letI z5:=ai (ae z1 3)
 Q [Obj.ext (some a.xs),Obj.box 66 (aq a.r),Obj.box 187 (AV.cK 0),Obj.row 56 a.ts,Obj.box 56 (AV.agg [AV.int z2,AV.str z3,AV.int z4,AV.ad 56 z5]),
 Obj.dead,Dn.Obj.loop (gj Tryz.prog 238 11 LoopState.ready none (fU (bJ 46) [(2,AV.ptr 2 0 [] 0),(7,AV.ptr 4 0 [] 0),(32,AV.ar 3 0 a.ts.length),(33,
 AV.int (↑(a.ts.length):Int)),(34,AV.int a.i),(35,AV.bool true),(36,AV.ptr 3 (0+a.i.toNat) [] 0),(37,AV.agg [AV.int z2,AV.str z3,AV.int z4,AV.ad
 56 z5]),(38,AV.agg [AV.int z2,AV.str z3,AV.int z4,AV.ad 56 z5]),(39,AV.bQ 265 [AV.ptr 5 0 [] 0])]))]):=by kernel_rfl
theorem r42(κ:Kp)(a:w5)(o:List AV)(u:AV)(Q:List Dn.Obj->Prop)(K2:List Dn.Obj->Prop):(gX (vc (C6 κ) 12) 6 [pj 56 u] (As κ a (some o) .ready none) (fun r st''=>match r with| .lit (.bool true)=>tidy (Pr κ).toProgram 7 st'' Q| .lit (.bool false)=>K2 st''|_=>False))=(
 letI z3:=nth a.ts (0+a.i.toNat)
 letI z4:=toInt (ae z3 0)
 letI z5:=toStr (ae z3 1)
 letI z6:=toInt (ae z3 2)
 letI z7:=ai (ae z3 3)
 letI z1:=AV.agg [AV.int z4,AV.str z5,AV.int z6,AV.ad 56 z7]
 letI z2:=fU (bJ 46) [(2,AV.ptr 2 0 [] 0),(7,AV.ptr 4 0 [] 0),(32,AV.ar 3 0 a.ts.length),(33,AV.int (↑(a.ts.length):Int)),(34,AV.int a.i),(35,
  AV.bool true),(36,AV.ptr 3 (0+a.i.toNat) [] 0),(37,AV.agg [AV.int z4,AV.str z5,AV.int z6,AV.ad 56 z7]),(38,AV.agg [AV.int z4,AV.str z5,AV.int z6,
  AV.ad 56 z7]),(39,AV.bQ 265 [AV.ptr 5 0 [] 0])]
 ∃(e0:List AV),o=AV.bp [AV.agg [AV.int (toInt (ae u 0)),AV.str (toStr (ae u 1)),AV.int (toInt (ae u 2)),AV.ad 56 (ai (ae u 3))]]::e0/\Q [Obj.ext
 (some e0),Obj.box 66 (aq a.r),Obj.box 187 (AV.cK 0),Obj.row 56 a.ts,Obj.box 56 z1,Obj.dead,Dn.Obj.loop (gj Tryz.prog 238 11 LoopState.ready none z2)]/\K2
 [Obj.ext none,Obj.box 66 (aq a.r),Obj.box 187 (AV.cK 0),Obj.row 56 a.ts,Obj.box 56 z1,Obj.dead,Dn.Obj.loop (gj Tryz.prog 238 11 LoopState.done (some
 Code.ret) z2),Obj.box 56 (AV.agg [AV.int (toInt (ae u 0)),AV.str (toStr (ae u 1)),AV.int (toInt (ae u 2)),AV.ad 56 (ai (ae u 3))])]):=by kernel_rfl
theorem k42(κ:Kp)(a:w5)(xs:List AV):(AV.cK 0::fW (jM (cH (pe κ a) [.ptr 5 0 [] 0])) [.ptr 5 0 [] 0],Obj.ext (some xs)::gH (jM (cH (pe κ a) [.ptr 5 0 [] 0])) (gU (pe κ a) (cH (pe κ a) [.ptr 5 0 [] 0])))=([.cK 0, .ptr 1 0 [] 0],[.ext (some xs), .box 56 (D3 a)]):=by kernel_rfl
theorem o42(κ:Kp)(a:w5):nT (pe κ a) [.ptr 5 0 [] 0]=true:=by kernel_rfl
noncomputable def M8(κ:Kp):dG:=fun caps st K=>∃a:w5,(caps,st)=([AV.ptr 5 0 [] 0],pe κ a)/\((cx (nth a.ts a.i.toNat)).gu<=100000/\a.xs=o8 56 (nth a.ts a.i.toNat)++a.more)/\
 (K (As κ a (some a.more) .ready none)/\∀u:AV,K (As κ a none .done (some .ret)++[.box 56 (pj 56 u)]))
theorem DF(κ:Kp):(M8 κ).jk:=by
 rintro caps st K K' hK ⟨a,h1,h2,h3,h4⟩
 exact⟨a,h1,h2,hK _ h3,fun u=>hK _ (h4 u)⟩
theorem call42(κ:Kp)(args:List AV)(st:List Dn.Obj)(K:AV->List Dn.Obj->Prop)(h:aR OB z0 Fz args st K):(C6 κ).call 265 args st K:=h
theorem WU(κ:Kp):lq (C6 κ) 12 265 (M8 κ):=by
 rintro caps st K ⟨a,h1,⟨h3,h4⟩,h5,h6⟩
 obtain⟨rfl,rfl⟩:=Prod.mk.inj h1
 refine⟨o8 56 (nth a.ts a.i.toNat),fun items st'=>(∀x,x∈items->sk 56 x)/\st'=As κ a (some (items++a.more)) .ready none,⟨o42 κ a,?_,?_,?_,?_⟩⟩
 ·refine call42 κ _ _ _ ⟨nth a.ts a.i.toNat,?_,h3,fun st' h=>h⟩
  rw[k42,D3,Nat.zero_add];rfl
 ·rw[show(C6 κ).P=Pr κ from rfl,show(pe κ a).length=7 from rfl,XZ]
  exact⟨nd _ _ _ (Nat.lt_succ_self _),by rw[h4];rfl⟩
 ·rintro us rest st' ⟨e1,rfl⟩
  obtain⟨u,hu⟩:=e1 (.bp us) (by simp)
  obtain rfl:=AV.bp.inj hu
  rw[show(C6 κ).P=Pr κ from rfl,show(pe κ a).length=7 from rfl]
  refine Eq.mpr (r42 κ a _ u _ _) ?_
  exact⟨_,rfl,⟨fun x hx=>e1 x (by simp[hx]),rfl⟩,h6 u⟩
 ·rintro st' ⟨_,rfl⟩
  exact h5
noncomputable def wh(κ:Kp):Env:=((C6 κ).addRange 238 11 265 (M8 κ)).dy (fun f=>jH f PC)
theorem YO(κ:Kp):aD (wh κ):=((Xx κ).addRange (TS κ) (WU κ)).dy _
theorem TN(κ:Kp):aj (wh κ):=((TS κ).addRange (DF κ)).dy _
abbrev HC(a:w5):S:=sp 46 [(2, .ptr 2 0 [] 0),(32, .ar 3 0 a.ts.length),(33, .int a.ts.length),(34, .int a.i)] [.ext (some a.xs), .box 66 (aq a.r), .box 187 (.cK 0), .row 56 a.ts]
theorem Xt(κ:Kp)(a:w5)(I:Nat->S->Prop)(n:Nat)(K:Exit->S->Prop):(vc (wh κ) 12 238 none 2 (ah (Pr κ).toProgram 238 8) (HC a) (bL (wh κ) 238 8 2 I n K))=(
 letI z2:=nth a.ts (0+a.i.toNat)
 letI z3:=a.ts.length
 letI z4:=toInt (ae z2 0)
 letI z5:=toStr (ae z2 1)
 letI z6:=toInt (ae z2 2)
 letI z7:=ai (ae z2 3)
 letI z1:=AV.agg [AV.int z4,AV.str z5,AV.int z6,AV.ad 56 z7]
 aC (decide (a.i<(↑z3:Int))) (ba (decide ((0:Int)<=a.i)&&decide (a.i<(↑z3:Int))) (∃(e1:w5),([AV.ptr 5 0 [] 0],[Obj.ext (some a.xs),Obj.box 66
 (aq a.r),Obj.box 187 (AV.cK 0),Obj.row 56 a.ts,Obj.box 56 z1,Obj.box 56 z1,Dn.Obj.loop (gj Tryz.prog 238 11 LoopState.ready none (fU (bJ 46) [(2,AV.ptr 2
 0 [] 0),(7,AV.ptr 4 0 [] 0),(32,AV.ar 3 0 a.ts.length),(33,AV.int (↑z3:Int)),(34,AV.int a.i),(35,AV.bool true),(36,AV.ptr 3 (0+a.i.toNat) [] 0),
 (37,AV.agg [AV.int z4,AV.str z5,AV.int z6,AV.ad 56 z7]),(38,AV.agg [AV.int z4,AV.str z5,AV.int z6,AV.ad 56 z7]),(39,AV.bQ 265 [AV.ptr 5 0 [] 0])]))])
 =([AV.ptr 5 0 [] 0],[Obj.ext (some e1.xs),Obj.box 66 (aq e1.r),Obj.box 187 (AV.cK 0),Obj.row 56 e1.ts,Obj.box 56 (AV.agg [AV.int (toInt (ae (nth e1.ts (0
 +e1.i.toNat)) 0)),AV.str (toStr (ae (nth e1.ts (0+e1.i.toNat)) 1)),AV.int (toInt (ae (nth e1.ts (0+e1.i.toNat)) 2)),AV.ad 56 (ai (ae (nth e1.ts (0+
 e1.i.toNat)) 3))]),Obj.box 56 (AV.agg [AV.int (toInt (ae (nth e1.ts (0+e1.i.toNat)) 0)),AV.str (toStr (ae (nth e1.ts (0+e1.i.toNat)) 1)),AV.int (toInt
 (ae (nth e1.ts (0+e1.i.toNat)) 2)),AV.ad 56 (ai (ae (nth e1.ts (0+e1.i.toNat)) 3))]),Dn.Obj.loop (gj Tryz.prog 238 11 LoopState.ready none (fU (bJ 46)
 [(2,AV.ptr 2 0 [] 0),(7,AV.ptr 4 0 [] 0),(32,AV.ar 3 0 e1.ts.length),(33,AV.int (↑(e1.ts.length):Int)),(34,AV.int e1.i),(35,AV.bool true),(36,
 AV.ptr 3 (0+e1.i.toNat) [] 0),(37,AV.agg [AV.int (toInt (ae (nth e1.ts (0+e1.i.toNat)) 0)),AV.str (toStr (ae (nth e1.ts (0+e1.i.toNat)) 1)),AV.int
 (toInt (ae (nth e1.ts (0+e1.i.toNat)) 2)),AV.ad 56 (ai (ae (nth e1.ts (0+e1.i.toNat)) 3))]),(38,AV.agg [AV.int (toInt (ae (nth e1.ts (0+e1.i.toNat))
 0)),AV.str (toStr (ae (nth e1.ts (0+e1.i.toNat)) 1)),AV.int (toInt (ae (nth e1.ts (0+e1.i.toNat)) 2)),AV.ad 56 (ai (ae (nth e1.ts (0+e1.i.toNat))
 3))]),(39,AV.bQ 265 [AV.ptr 5 0 [] 0])]))])/\(Tm.gu (cx (nth e1.ts e1.i.toNat))<=100000/\e1.xs=o8 56 (nth e1.ts e1.i.toNat)++e1.more)/\(∃(e0:Nat),
 e0<n/\I e0 (sp 46 [(2,AV.ptr 2 0 [] 0),(32,AV.ar 3 0 a.ts.length),(33,AV.int (↑z3:Int)),(34,AV.int (IntKind.wrap IntKind.i64 (a.i+(1:Int))))]
 [Obj.ext (some e1.more),Obj.box 66 (aq e1.r),Obj.box 187 (AV.cK 0),Obj.row 56 e1.ts]))/\∀(e0:AV),K Exit.ret (sp 46 [] [Obj.ext none,Obj.box 66 (aq
 e1.r)]))) (K (Exit.exit 2) (sp 46 [] [Obj.ext (some a.xs),Obj.box 66 (aq a.r)]))):=by kernel_rfl
def zF(a:w5):Prop:=a.ts.length<=aM/\0<=a.i/\a.i<=a.ts.length/\aO (aa (a.ts.drop a.i.toNat))<=100000/\a.xs=fI 56 (a.ts.drop a.i.toNat)
def Mm(a:w5):Out (Exit×S):= .all (fun _:Bool=>True) fun b=> .aC b (.one (.exit 2,sp 46 [] [.ext (some []), .box 66 (aq a.r)])) (.one (.ret,sp 46 [] [.ext none, .box 66 (aq a.r)]))
theorem W0(κ:Kp):bk (wh κ) 12 238 8 (aP 2 HC zF Mm):=by
 refine aL (fun a=>a.ts.length - a.i.toNat) ?_
 rintro⟨xs,more,r,bl,m,i⟩ K ⟨h1,h2,h3,h5,h6⟩ ho
 simp only at h1 h2 h3 h5 h6
 rw[show(wh κ).P=Pr κ from rfl]
 refine Eq.mpr (Xt κ ⟨xs,more,r,bl,m,i⟩ _ _ K) ?_
 have ho1:=ho true trivial
 have ho2:=ho false trivial
 simp only[Out.run,aC] at ho1 ho2
 simp only[aM] at h1
 simp only[af,an,aa2,aa4,aa3]
 refine⟨fun hi=>⟨⟨h2,hi⟩,?_⟩,fun hi=>?_⟩
 ·have hc:=wb m i.toNat (by omega)
  rw[vv _ m i.toNat (by omega)] at h6
  rw[aW (n:=i+1) (by omega) (by omega)]
  refine⟨⟨xs,fI 56 (m.drop (i.toNat+1)),r,bl,m,i⟩,rfl,⟨by simp only;omega,h6⟩,⟨_,?_,⟨_,more,r,bl,m,i+1⟩,rfl,⟨by simpa[aM] using h1,by simp only;omega,by simp only;omega,?_,?_⟩,rfl,ho⟩,fun _=>ho2⟩
  ·simp only;omega
  ·simp only[show(i+1).toNat=i.toNat+1 by omega];omega
  ·simp only[show(i+1).toNat=i.toNat+1 by omega]
 ·rw[ab0 (by omega)] at h6
  subst h6
  exact ho1
noncomputable def KG(κ:Kp):Env:=(wh κ).ak 238 8 (aP 2 HC zF Mm)
theorem YF(κ:Kp):aD (KG κ):=(YO κ).ak (TN κ) (W0 κ)
theorem UB(κ:Kp):aj (KG κ):=(TN κ).ak aI
theorem y42(κ:Kp)(a:cq)(K:AV->List Dn.Obj->Prop):(bf (KG κ) 12 238 [.cK 0, .ptr 1 0 [] 0] [.ext (some a.xs), .box 66 (aq a)] K)=(
 letI z1:=Pg.toProgram (Env.P (L1 κ))
 letI z2:=Pg.toProgram (Env.P (wh κ))
 (RW a.hl=true->ah z1 238 3=ah z1 238 3/\∃(e2:w5),sp 46 [(2,AV.ptr 2 0 [] 0),(3,AV.ar 3 0 0),(14,AV.ad 72 a.bl),(15,AV.int (↑(a.bl.length):
 Int)),(16,AV.int 0)] [Obj.ext (some a.xs),Obj.box 66 (aq a),Obj.box 187 (AV.cK 0),Obj.row 56 []]=sp 46 [(2,AV.ptr 2 0 [] 0),(3,AV.ar 3 0
 e2.ts.length),(14,AV.ad 72 e2.bl),(15,AV.int (↑(e2.bl.length):Int)),(16,AV.int e2.i)] [Obj.ext (some e2.xs),Obj.box 66 (aq e2.r),Obj.box 187 (AV.cK
 0),Obj.row 56 e2.ts]/\(e2.bl.length<=9223372036854775807/\(0:Int)<=e2.i/\e2.i<=(↑(e2.bl.length):Int)/\List.length (e2.ts++dJ (List.drop e2.i.toNat
 e2.bl))<=100000)/\ah z2 238 8=ah z2 238 8/\∃(e1:w5),sp 46 [(2,AV.ptr 2 0 [] 0),(32,AV.ar 3 0 (List.length (e2.ts++dJ (List.drop e2.i.toNat
 e2.bl)))),(33,AV.int (↑(List.length (e2.ts++dJ (List.drop e2.i.toNat e2.bl))):Int)),(34,AV.int 0)] [Obj.ext (some e2.xs),Obj.box 66 (aq e2.r),Obj.box
 187 (AV.cK 0),Obj.row 56 (e2.ts++dJ (List.drop e2.i.toNat e2.bl))]=sp 46 [(2,AV.ptr 2 0 [] 0),(32,AV.ar 3 0 e1.ts.length),(33,AV.int (↑(e1.ts.length)
 :Int)),(34,AV.int e1.i)] [Obj.ext (some e1.xs),Obj.box 66 (aq e1.r),Obj.box 187 (AV.cK 0),Obj.row 56 e1.ts]/\(e1.ts.length<=9223372036854775807/\(0:
 Int)<=e1.i/\e1.i<=(↑(e1.ts.length):Int)/\aO (aa (List.drop e1.i.toNat e1.ts))<=100000/\e1.xs=fI 56 (List.drop e1.i.toNat e1.ts))/\∀(e0:Bool),True
 ->aC e0 (K (AV.bp []) [Obj.ext (some []),Obj.box 66 (aq e1.r)]) (K (AV.bp []) [Obj.ext none,Obj.box 66 (aq e1.r)]))/\ba (decide ((0+a.hl.length+1)*57<=
 70368744177664)) (ah z1 238 3=ah z1 238 3/\∃(e2:w5),sp 46 [(2,AV.ptr 2 0 [] 0),(3,AV.ar 3 0 (0+a.hl.length)),(14,AV.ad 72 a.bl),(15,AV.int
 (↑(a.bl.length):Int)),(16,AV.int 0)] [Obj.ext (some a.xs),Obj.box 66 (aq a),Obj.box 187 (AV.cK 0),Obj.row 56 ([]++a.hl)]=sp 46 [(2,AV.ptr 2 0 [] 0),
 (3,AV.ar 3 0 e2.ts.length),(14,AV.ad 72 e2.bl),(15,AV.int (↑(e2.bl.length):Int)),(16,AV.int e2.i)] [Obj.ext (some e2.xs),Obj.box 66 (aq e2.r),Obj.box
 187 (AV.cK 0),Obj.row 56 e2.ts]/\(e2.bl.length<=9223372036854775807/\(0:Int)<=e2.i/\e2.i<=(↑(e2.bl.length):Int)/\List.length (e2.ts++dJ (List.drop
 e2.i.toNat e2.bl))<=100000)/\ah z2 238 8=ah z2 238 8/\∃(e1:w5),sp 46 [(2,AV.ptr 2 0 [] 0),(32,AV.ar 3 0 (List.length (e2.ts++dJ (List.drop
 e2.i.toNat e2.bl)))),(33,AV.int (↑(List.length (e2.ts++dJ (List.drop e2.i.toNat e2.bl))):Int)),(34,AV.int 0)] [Obj.ext (some e2.xs),Obj.box 66 (aq
 e2.r),Obj.box 187 (AV.cK 0),Obj.row 56 (e2.ts++dJ (List.drop e2.i.toNat e2.bl))]=sp 46 [(2,AV.ptr 2 0 [] 0),(32,AV.ar 3 0 e1.ts.length),(33,AV.int
 (↑(e1.ts.length):Int)),(34,AV.int e1.i)] [Obj.ext (some e1.xs),Obj.box 66 (aq e1.r),Obj.box 187 (AV.cK 0),Obj.row 56 e1.ts]/\(e1.ts.length<=
 9223372036854775807/\(0:Int)<=e1.i/\e1.i<=(↑(e1.ts.length):Int)/\aO (aa (List.drop e1.i.toNat e1.ts))<=100000/\e1.xs=fI 56 (List.drop e1.i.toNat
 e1.ts))/\∀(e0:Bool),True->aC e0 (K (AV.bp []) [Obj.ext (some []),Obj.box 66 (aq e1.r)]) (K (AV.bp []) [Obj.ext none,Obj.box 66 (aq e1.r)]))):=by kernel_rfl
def Rb(a:cq):List AV×List Dn.Obj:=([.cK 0, .ptr 1 0 [] 0],[.ext (some (fI 56 (bn 56 a.hl a.bl))), .box 66 (aq a)])
def df(a:cq):Prop:=aO (aa (bn 56 a.hl a.bl))<=100000/\a.bl.length<=100000
def Kn(_:cq):Out (AV×List Dn.Obj):= .all (fun st'=>qN st') fun st'=> .one (.bp [],st')
theorem c42(κ:Kp):bz (KG κ) 12 238 (aR Rb df Kn):=by
 refine bg ?_
 rintro⟨xs,more,rel,hl,bl,line,i⟩ K ⟨h1,h2⟩ ho
 have hn: ∀b,K (.bp []) [.ext none,b]:=fun b=>ho _ trivial
 have h0: ∀b,K (.bp []) [.ext (some []),b]:=fun b=>ho _ trivial
 simp only at h1 h2
 have hl1:=eB (aa (bn 56 hl bl))
 rw[dz] at hl1
 have hle:hl.length<=100000:=by
  have:(bn 56 hl bl).length=hl.length+(dJ bl).length:=by simp[bn,dJ]
  omega
 refine Eq.mpr (y42 κ ⟨fI 56 (bn 56 hl bl),more,rel,hl,bl,line,i⟩ K) ?_
 have hz: ∀ts:List AV,ts=hl->(ts++dJ (List.drop (Int.toNat 0) bl))=bn 56 hl bl:=fun ts h=>by subst h;rfl
 have fin: ∀ts:List AV,ts=hl->∃a:w5,sp 46 [(2, .ptr 2 0 [] 0),(32, .ar 3 0 (ts++dJ (List.drop (Int.toNat 0) bl)).length),(33, .int (ts++dJ (List.drop (Int.toNat 0) bl)).length),(34, .int 0)] [.ext (some (fI 56 (bn 56 hl bl))), .box 66 (aq ⟨fI 56 (bn 56 hl bl),more,rel,hl,bl,line,i⟩), .box 187 (.cK 0), .row 56 (ts++dJ (List.drop (Int.toNat 0) bl))]=HC a/\zF a/\∀y:Bool,True->aC y (K (.bp []) [.ext (some []), .box 66 (aq a.r)]) (K (.bp []) [.ext none, .box 66 (aq a.r)]):=by
  intro ts h
  refine⟨⟨_,[],⟨fI 56 (bn 56 hl bl),more,rel,hl,bl,line,i⟩,bl,ts++dJ (List.drop (Int.toNat 0) bl),0⟩,rfl,⟨?_,?_,?_,?_,?_⟩,fun y _=>?_⟩
  ·simp only[hz ts h,aM];omega
  ·simp only;omega
  ·simp only;omega
  ·show aO (aa (List.drop (Int.toNat 0) (ts++dJ (List.drop (Int.toNat 0) bl))))<=100000
   rw[hz ts h];exact h1
  ·rw[hz ts h];rfl
  ·cases y
   ·exact hn _
   ·exact h0 _
 refine⟨fun e=>?_,?_⟩
 ·obtain rfl:hl=[]:=by
   cases hl with
   |nil=>rfl
   |cons=>cases e
  refine⟨rfl,⟨_,[],⟨fI 56 (bn 56 [] bl),more,rel,[],bl,line,i⟩,bl,[],0⟩,rfl,⟨by simp only;omega,by simp only;omega,by simp only;omega,?_⟩,rfl,fin [] rfl⟩
  rw[hz [] rfl];exact Nat.le_trans hl1 h1
 ·rw[an,aa2]
  refine⟨by simp only;omega,rfl,⟨_,[],⟨fI 56 (bn 56 hl bl),more,rel,hl,bl,line,i⟩,bl,[]++hl,0⟩,?_,⟨by simp only;omega,by simp only;omega,by simp only;omega,?_⟩,rfl,fin ([]++hl) rfl⟩
  ·rw[Nat.zero_add];rfl
  ·rw[hz ([]++hl) rfl];exact Nat.le_trans hl1 h1
set_option maxRecDepth 20000 in
noncomputable def P0(κ:Kp):Env:=(KG κ).ay 238 (aR Rb df Kn)
theorem e42(κ:Kp):aD (P0 κ):=(YF κ).ay (UB κ) (c42 κ)
theorem Zr(κ:Kp):aj (P0 κ):=(UB κ).ay aK
def aH(a:cq):Rl:=⟨⟨a.rel,aa a.hl⟩,di a.bl⟩
noncomputable abbrev UR(a:cq)(κ:Kp)(st:LoopState)(p:Option Code):Dn.Obj:=
 .loop (gj (Pr κ).toProgram 124 6 st p (fU (bJ 31) [(0,aq a),(1, .ptr 0 0 [] 0),(2, .nil),(3, .ptr 1 0 [] 0),(4, .ptr 3 0 [] 0),(6,aq a),(7, .bool (aQ (aH a))),(8, .bool false),(9, .mp 2),(10,aq a),(11, .bQ 238 [.ptr 4 0 [] 0])]))
noncomputable abbrev pc(κ:Kp)(a:cq):List Dn.Obj:=[.box 66 (aq a), .box 54 .nil, .map 9 4 [], .box 177 (.mp 2), .box 66 (aq a),UR a κ .ready none]
theorem s12(κ:Kp)(a:cq)(Q:List Dn.Obj->Prop):(tidy (Pr κ).toProgram 6 (dY (pc κ a) (cH (pc κ a) [.ptr 4 0 [] 0])) Q)=(
 Q [Obj.box 66 (aq a),Obj.box 54 (AV.ar 6 0 0),Dn.Obj.map 9 4 [],Obj.box 177 (AV.mp 2),Obj.dead,Dn.Obj.loop (gj Tryz.prog 124 6 LoopState.ready none (fU (bJ
 31) [(0,aq a),(1,AV.ptr 0 0 [] 0),(2,AV.nil),(3,AV.ptr 1 0 [] 0),(4,AV.ptr 3 0 [] 0),(6,aq a),(7,AV.bool (aQ (aH a))),(8,AV.bool false),(9,
 AV.mp 2),(10,aq a),(11,AV.bQ 238 [AV.ptr 4 0 [] 0])])),Obj.row 9 []]):=by kernel_rfl
noncomputable abbrev yU(κ:Kp)(a:cq)(vs:List ByteArray)(es:List (Value×AV)):List Dn.Obj:=[.box 66 (aq a), .box 54 (.ar 6 0 vs.length), .map 9 4 es, .box 177 (.mp 2), .dead,UR a κ .ready none, .row 9 (strs vs)]
theorem r12(κ:Kp)(a:cq)(vs:List ByteArray)(es:List (Value×AV))(u:AV)(Q:List Dn.Obj->Prop)(K2:List Dn.Obj->Prop):(gX (vc (P0 κ) 12) 5 [pj 56 u] (yU κ a vs es) (fun r st''=>match r with| .lit (.bool true)=>tidy (Pr κ).toProgram 6 st'' Q| .lit (.bool false)=>K2 st''|_=>False))=(
 letI z1:=gj Tryz.prog 124 6 LoopState.ready none (fU (bJ 31) [(0,aq a),(1,AV.ptr 0 0 [] 0),(2,AV.nil),(3,AV.ptr 1 0 [] 0),(4,AV.ptr 3 0 [] 0),(6,aq
  a),(7,AV.bool (aQ (aH a))),(8,AV.bool false),(9,AV.mp 2),(10,aq a),(11,AV.bQ 238 [AV.ptr 4 0 [] 0])])
 letI z2:=Q [Obj.box 66 (aq a),Obj.box 54 (AV.ar 6 0 vs.length),Dn.Obj.map 9 4 es,Obj.box 177 (AV.mp 2),Obj.dead,Dn.Obj.loop z1,Obj.row 9 (strs vs)]
 letI z3:=Value.string (toStr (ae u 1))
 aC (toInt (ae u 0) != (1:Int)) z2 (aC (Dn.toBool (dt es z3 (AV.bool false))) z2 (ba (decide ((vs.length+1+1)*17<=70368744177664)) (Q [Obj.box 66 (aq
 a),Obj.box 54 (AV.ar 6 0 (vs.length+1)),Dn.Obj.map 9 4 (ff es z3 (AV.bool true)),Obj.box 177 (AV.mp 2),Obj.dead,Dn.Obj.loop z1,Obj.row 9 (List.take
 vs.length (strs vs)++[AV.str (toStr (ae u 1))])])))):=by kernel_rfl
theorem k12(κ:Kp)(a:cq)(xs:List AV):(AV.cK 0::fW (jM (cH (pc κ a) [.ptr 4 0 [] 0])) [.ptr 4 0 [] 0],Obj.ext (some xs)::gH (jM (cH (pc κ a) [.ptr 4 0 [] 0])) (gU (pc κ a) (cH (pc κ a) [.ptr 4 0 [] 0])))=([.cK 0, .ptr 1 0 [] 0],[.ext (some xs), .box 66 (aq a)]):=by kernel_rfl
theorem o12(κ:Kp)(a:cq):nT (pc κ a) [.ptr 4 0 [] 0]=true:=by kernel_rfl
noncomputable def Mg(κ:Kp):dG:=fun caps st K=>∃a:cq,(caps,st)=([AV.ptr 4 0 [] 0],pc κ a)/\df a/\K (yU κ a (nk [] (fw (aH a))) (b7 (nk [] (fw (aH a)))))
theorem E3(κ:Kp):(Mg κ).jk:=by
 rintro caps st K K' hK ⟨a,h1,h2,h3⟩
 exact⟨a,h1,h2,hK _ h3⟩
theorem call12(κ:Kp)(args:List AV)(st:List Dn.Obj)(K:AV->List Dn.Obj->Prop)(h:aR Rb df Kn args st K):(P0 κ).call 238 args st K:=h
theorem Ys(κ:Kp):lq (P0 κ) 12 238 (Mg κ):=by
 rintro caps st K ⟨a,h1,h3,h5⟩
 obtain⟨rfl,rfl⟩:=Prod.mk.inj h1
 have hv:=iJ 56 a.rel a.hl a.bl
 rw[←sW 56] at hv
 have hb:(fw (aH a)).length<=100000:=by
  have h6:=cF (aa (bn 56 a.hl a.bl))
  rw[iJ 56 a.rel a.hl a.bl] at h6
  exact Nat.le_trans h6 h3.1
 have hd:=lg (fw (aH a)) []
 refine⟨fI 56 (bn 56 a.hl a.bl),fun items st'=>∃vs,(∀x,x∈items->sk 56 x)/\st'=yU κ a vs (b7 vs)/\vs++nk vs (items.flatMap wB)=nk [] (fw (aH a)),⟨o12 κ a,?_,?_,?_,?_⟩⟩
 ·refine call12 κ _ _ _ ⟨a,?_,h3,fun st' h=>h⟩
  rw[k12];rfl
 ·rw[show(P0 κ).P=Pr κ from rfl,show(pc κ a).length=6 from rfl,s12]
  exact⟨[],Df _ _,rfl,by rw[hv];rfl⟩
 ·rintro us rest st' ⟨vs,e1,rfl,e3⟩
  obtain⟨u,hu⟩:=e1 (.bp us) (by simp)
  obtain rfl:=AV.bp.inj hu
  rw[show(P0 κ).P=Pr κ from rfl,show(pc κ a).length=6 from rfl]
  refine Eq.mpr (r12 κ a vs _ u _ _) ?_
  have e1': ∀x,x∈rest->sk 56 x:=fun x hx=>e1 x (by simp[hx])
  have hi:wB (.bp [pj 56 u])=bif decide (toInt (ae u 0)=1) then[toStr (ae u 1)] else[]:=rfl
  rw[List.flatMap_cons,hi] at e3
  have hin:Dn.toBool (dt (b7 vs) (.string (toStr (ae u 1))) (.lit (.bool false)))=vs.contains (toStr (ae u 1)):=oW _ _
  rw[hin]
  simp only[af,an,bne_iff_ne,bne_eq_false_iff_eq,aa2]
  refine⟨fun e=>⟨vs,e1',rfl,?_⟩,fun e=>⟨fun e4=>⟨vs,e1',rfl,?_⟩,fun e4=>⟨?_,vs++[toStr (ae u 1)],e1',?_,?_⟩⟩⟩
  ·rw[aa6 e] at e3;exact e3
  ·rw[aa8 e,aa9,List.singleton_append,nk,e4] at e3;exact e3
  ·have:=congrArg List.length e3
   rw[ac0] at this;omega
  ·rw[Ps,←aX vs,List.take_length]
   simp only[yU,iu,aX,ac0,List.length_cons,List.length_nil]
   rfl
  ·rw[aa8 e,aa9,List.singleton_append,nk,e4,aa7] at e3
   simpa using e3
 ·rintro st' ⟨vs,_,rfl,e3⟩
  have e4:vs=nk [] (fw (aH a)):=by simpa[nk] using e3
  rw[e4];exact h5
noncomputable def MP(κ:Kp):Env:=((P0 κ).addRange 124 6 238 (Mg κ)).dy (fun f=>jH f PC)
theorem WD(κ:Kp):aD (MP κ):=((e42 κ).addRange (Zr κ) (Ys κ)).dy _
theorem Vb(κ:Kp):aj (MP κ):=((Zr κ).addRange (E3 κ)).dy _
theorem y12(κ:Kp)(a:cq)(K:AV->List Dn.Obj->Prop):(bf (MP κ) 12 124 [aq a] [] K)=(
 letI z1:=AV.agg [AV.agg [AV.str a.rel,AV.ad 56 a.hl],AV.ad 72 a.bl,AV.int a.line]
 ba (decide (a.hl.length<=9223372036854775807)&&decide (a.bl.length<=9223372036854775807)) (aC (!aQ {head:={rel:=a.rel,l:=aa a.hl},body:=di a.bl}) (K AV.nil []) (∃(e0:cq),([AV.ptr 4 0 [] 0],[Obj.box 66 z1,Obj.box 54 AV.nil,Dn.Obj.map 9 4 [],Obj.box 177 (AV.mp 2),Obj.box 66 z1,Dn.Obj.loop (gj Tryz.prog 124 6 LoopState.ready none (fU (bJ 31) [(0,AV.agg [AV.agg [AV.str a.rel,AV.ad 56 a.hl],AV.ad 72 a.bl,AV.int a.line]),(1,AV.ptr 0 0 [] 0),(2,AV.nil),(3,AV.ptr 1 0 [] 0),(4,AV.ptr 3 0 [] 0),(6,AV.agg [AV.agg [AV.str a.rel,AV.ad 56 a.hl],AV.ad 72 a.bl,AV.int a.line]),(7,AV.lit (Value.bool (aQ {head:={rel:=a.rel,l:=aa a.hl},body:=di a.bl}))),(8,AV.bool false),(9,AV.mp 2),(10,AV.agg [AV.agg [AV.str a.rel,AV.ad 56 a.hl],AV.ad 72 a.bl,AV.int a.line]),(11,AV.bQ 238 [AV.ptr 4 0 [] 0])]))])=([AV.ptr 4 0 [] 0],[Obj.box 66 (AV.agg [AV.agg [AV.str e0.rel,AV.ad 56 e0.hl],AV.ad 72 e0.bl,AV.int e0.line]),Obj.box 54 AV.nil,Dn.Obj.map 9 4 [],Obj.box 177 (AV.mp 2),Obj.box 66 (AV.agg [AV.agg [AV.str e0.rel,AV.ad 56 e0.hl],AV.ad 72 e0.bl,AV.int e0.line]),Dn.Obj.loop (gj Tryz.prog 124 6 LoopState.ready none (fU (bJ 31) [(0,AV.agg [AV.agg [AV.str e0.rel,AV.ad 56 e0.hl],AV.ad 72 e0.bl,AV.int e0.line]),(1,AV.ptr 0 0 [] 0),(2,AV.nil),(3,AV.ptr 1 0 [] 0),(4,AV.ptr 3 0 [] 0),(6,AV.agg [AV.agg [AV.str e0.rel,AV.ad 56 e0.hl],AV.ad 72 e0.bl,AV.int e0.line]),(7,AV.bool (aQ (aH e0))),(8,AV.bool false),(9,AV.mp 2),(10,AV.agg [AV.agg [AV.str e0.rel,AV.ad 56 e0.hl],AV.ad 72 e0.bl,AV.int e0.line]),(11,AV.bQ 238 [AV.ptr 4 0 [] 0])]))])/\(aO (aa (bn 56 e0.hl e0.bl))<=100000/\e0.bl.length<=100000)/\K (AV.ar 0 0 (List.length (nk [] (fw (aH e0))))) [Obj.row 9 (strs (nk [] (fw (aH e0))))]))):=by kernel_rfl
def Ua(a:cq):List AV×List Dn.Obj:=([aq a],[])
def M3(a:cq):Prop:=aQ (aH a)=true/\df a
def L4(a:cq):Out (AV×List Dn.Obj):= .one (.ar 0 0 (dc (aH a)).length,[.row 9 (strs (dc (aH a)))])
theorem c12(κ:Kp):bz (MP κ) 12 124 (aR Ua M3 L4):=by
 refine bg ?_
 rintro⟨xs,more,rel,hl,bl,line,i⟩ K ⟨h0,h1,h2⟩ ho
 refine Eq.mpr (y12 κ ⟨xs,more,rel,hl,bl,line,i⟩ K) ?_
 have hr:aQ ⟨⟨rel,aa hl⟩,di bl⟩=true:=h0
 simp only at h1 h2
 have hl1:=eB (aa (bn 56 hl bl))
 rw[dz] at hl1
 have hle:hl.length<=100000:=by
  have:(bn 56 hl bl).length=hl.length+(dJ bl).length:=by simp[bn,dJ]
  omega
 simp only[hr,an,af,aa3,aa2]
 refine⟨⟨by omega,by omega⟩,(fun e=>nomatch e),fun _=>⟨⟨xs,more,rel,hl,bl,line,i⟩,?_,⟨h1,h2⟩,?_⟩⟩
 ·rw[show aQ (aH ⟨xs,more,rel,hl,bl,line,i⟩)=true from h0]
 ·simp only[L4,Out.run,dc,h0,aa9] at ho
  exact ho
set_option maxRecDepth 20000 in
noncomputable def Mb(κ:Kp):Env:=(MP κ).ay 124 (aR Ua M3 L4)
theorem e12(κ:Kp):aD (Mb κ):=(WD κ).ay (Vb κ) (c12 κ)
theorem m12(κ:Kp):aj (Mb κ):=(Vb κ).ay aK
theorem mg: ∀l m:List Tm,aO (l++m)=aO l+aO m
 |[],m=>by simp[aO]
 |t::l,m=>by simp only[List.cons_append,aO,mg l m];omega
theorem oO{a:cq}(h:df a):aO (aa a.hl)<=100000:=by
 have:=h.1
 unfold bn aa at this
 rw[List.map_append,mg] at this
 unfold aa;omega
theorem Ht: ∀(l:List AV) (x:AV),x∈l->iS (cU x)<=aO (aa (dJ l))
 |[],_,h=>by simp at h
 | y::l,x,h=>by
  have e:aO (aa (dJ (y::l)))=iS (cU y)+aO (aa (dJ l)):=by
   unfold dJ aa
   rw[List.flatMap_cons,List.map_append,mg,List.map_append,mg]
   simp only[iS,cU,DQ,aa,ac2,ac3,qJ]
  rw[e]
  rcases List.mem_cons.1 h with rfl|h
  ·omega
  ·have:=Ht l x h;omega
theorem kO{a:cq}(h:df a){i:Nat}(hi:i<a.bl.length):iS (cU (nth a.bl i))<=100000:=by
 have h1:=h.1
 have e:bn 56 a.hl a.bl=a.hl++dJ a.bl:=rfl
 rw[e] at h1
 unfold aa at h1
 rw[List.map_append,mg] at h1
 have:=Ht a.bl (nth a.bl i) (by rw[aZ _ _ hi];exact List.getElem_mem hi)
 unfold aa at this;omega
theorem kC(l:List AV){i:Nat}(hi:i<l.length):dT (di l) i=cU (nth l i):=by
 unfold dT di
 rw[List.getD_eq_getElem?_getD,List.getElem?_map,ab8 hi,aZ l i hi];rfl
def r6(x:AV):LA:=⟨toInt (ae x 0),toStr (ae (ae x 1) 0),ai (ae (ae x 1) 1),toInt (ae (ae x 2) 0),toStr (ae (ae x 2) 1),toInt (ae (ae x 2) 2),ai (ae (ae x 2) 3),toInt (ae (ae x 3) 0),toStr (ae (ae x 3) 1),toInt (ae (ae x 3) 2),ai (ae (ae x 3) 3)⟩
theorem eH(x:AV):(r6 x).lt=cU x:=by rw[lt_eq];rfl
structure SM where
 a:cq
 k:Int
 i:Int
 vs:List ByteArray
abbrev Qz(a:SM):S:=sp 53 [(1, .int a.k),(2, .ptr 0 0 [] 0),(5, .ptr 1 0 [] 0),(17, .ad 72 a.a.bl),(18, .int a.a.bl.length),(19, .int a.i)] [.box 66 (aq a.a), .box 178 (.mp 2), .map 9 4 (b7 a.vs)]
theorem x39(κ:Kp)(a:cq)(k i:Int)(es:List (Value×AV))(I:Nat->S->Prop)(n:Nat)(K:Exit->S->Prop):(vc (Mb κ) 12 188 none 0 (ah (Pr κ).toProgram 188 4) (sp 53 [(1, .int k),(2, .ptr 0 0 [] 0),(5, .ptr 1 0 [] 0),(17, .ad 72 a.bl),(18, .int a.bl.length),(19, .int i)] [.box 66 (aq a), .box 178 (.mp 2), .map 9 4 es]) (bL (Mb κ) 188 4 0 I n K))=(
 letI z3:=nth a.bl i.toNat
 letI z4:=IntKind.wrap IntKind.i64 (i+(1:Int))
 letI z5:=a.bl.length
 letI z1:=∃(e2:List AV),([AV.ad 56 [AV.agg [AV.int (toInt (ae (ae z3 2) 0)),AV.str (toStr (ae (ae z3 2) 1)),AV.int (toInt (ae (ae z3 2) 2)),AV.ad 56 (ai
  (ae (ae z3 2) 3))]]],aJ)=([AV.ad 56 e2],aJ)/\bI e2/\∃(e1:List AV×List (Value×AV)),([AV.mp 0,AV.ad 9 (List.take (List.length (ax (aa e2)))
  (List.drop 0 (strs (ax (aa e2)))))],[Dn.Obj.map 9 4 es])=([AV.mp 0,AV.ad 9 e1.1],[Dn.Obj.map 9 4 e1.2])/\br e1/\∃(e0:Nat),e0<n/\I e0 (sp 53 [(1,
  AV.int k),(2,AV.ptr 0 0 [] 0),(5,AV.ptr 1 0 [] 0),(17,AV.ad 72 a.bl),(18,AV.int (↑z5:Int)),(19,AV.int z4)] [Obj.box 66 (aq a),Obj.box 178 (AV.mp
  2),Dn.Obj.map 9 4 (fA e1.2 e1.1)])
 letI z2:=∃(e2:LA),([AV.agg [AV.int (toInt (ae z3 0)),AV.agg [AV.str (toStr (ae (ae z3 1) 0)),AV.ad 56 (ai (ae (ae z3 1) 1))],AV.agg [AV.int (toInt (ae
  (ae z3 2) 0)),AV.str (toStr (ae (ae z3 2) 1)),AV.int (toInt (ae (ae z3 2) 2)),AV.ad 56 (ai (ae (ae z3 2) 3))],AV.agg [AV.int (toInt (ae (ae z3 3) 0)),
  AV.str (toStr (ae (ae z3 3) 1)),AV.int (toInt (ae (ae z3 3) 2)),AV.ad 56 (ai (ae (ae z3 3) 3))]]],aJ)=([AV.agg [AV.int e2.op,AV.agg [AV.str e2.s,AV.ad 56
  e2.l],AV.agg [AV.int e2.o1,AV.str e2.s1,AV.int e2.n1,AV.ad 56 e2.l1],AV.agg [AV.int e2.o2,AV.str e2.s2,AV.int e2.n2,AV.ad 56 e2.l2]]],aJ)/\gi e2/\∃
  (e1:List AV×List (Value×AV)),([AV.mp 0,AV.ad 9 (List.take (List.length (eE (LA.lt e2))) (List.drop 0 (strs (eE (LA.lt e2)))))],[Dn.Obj.map 9 4 es])=
  ([AV.mp 0,AV.ad 9 e1.1],[Dn.Obj.map 9 4 e1.2])/\br e1/\∃(e0:Nat),e0<n/\I e0 (sp 53 [(1,AV.int k),(2,AV.ptr 0 0 [] 0),(5,AV.ptr 1 0 [] 0),(17,
  AV.ad 72 a.bl),(18,AV.int (↑z5:Int)),(19,AV.int z4)] [Obj.box 66 (aq a),Obj.box 178 (AV.mp 2),Dn.Obj.map 9 4 (fA e1.2 e1.1)])
 aC (decide (i<(↑z5:Int))) (ba (decide ((0:Int)<=i)&&decide (i<(↑z5:Int))) (aC (i==k) (z1/\z1/\z1) (z2/\z2))) (K (Exit.exit 0) (sp 53 [(1,
 AV.int k),(2,AV.ptr 0 0 [] 0),(5,AV.ptr 1 0 [] 0)] [Obj.box 66 (aq a),Obj.box 178 (AV.mp 2),Dn.Obj.map 9 4 es]))):=by kernel_rfl
def F5(a:SM):Prop:=df a.a/\0<=a.k/\0<=a.i/\a.i<=a.a.bl.length
def nV(a:SM):List ByteArray:=a.vs++Cr a.k.toNat (di (a.a.bl.drop a.i.toNat)) a.i.toNat
def uF(a:SM):Out (Exit×S):= .one (.exit 0,sp 53 [(1, .int a.k),(2, .ptr 0 0 [] 0),(5, .ptr 1 0 [] 0)] [.box 66 (aq a.a), .box 178 (.mp 2), .map 9 4 (b7 (nV a))])
theorem l39(κ:Kp):bk (Mb κ) 12 188 4 (aP 0 Qz F5 uF):=by
 refine aL (fun a=>a.a.bl.length - a.i.toNat) ?_
 rintro⟨a,k,i,vs⟩ K ⟨h1,h2,h3,h4⟩ ho
 simp only at h1 h2 h3 h4
 rw[show(Mb κ).P=Pr κ from rfl]
 refine Eq.mpr (x39 κ a k i (b7 vs) _ _ K) ?_
 simp only[and_self]
 have hl:=h1.2
 simp only[uF,nV,Out.run] at ho
 simp only[af,an,aa2,aa4,aa3,beq_iff_eq,beq_eq_false_iff_ne]
 refine⟨fun hi=>⟨⟨h3,hi⟩,?_⟩,fun hi=>?_⟩
 ·have hlit:=kO h1 (i:=i.toNat) (by omega)
  rw[ov a.bl i.toNat (by omega),Cr] at ho
  rw[aW (n:=i+1) (by omega) (by omega)]
  refine⟨fun e=>?_,fun e=>?_⟩
  ·subst e
   rw[Nat.beq_refl,aa9,←List.append_assoc] at ho
   have ht:aa [pj 56 (ae (nth a.bl i.toNat) 2)]=[(cU (nth a.bl i.toNat)).x]:=by
    simp only[aa,ac2,ac3,qJ];rfl
   have hc:aO [(cU (nth a.bl i.toNat)).x]<=100000:=by
    have:iS (cU (nth a.bl i.toNat))=aO [(cU (nth a.bl i.toNat)).x,(cU (nth a.bl i.toNat)).y]+aO (cU (nth a.bl i.toNat)).a.l:=rfl
    simp only[aO] at this⊢;omega
   have hv:=cF [(cU (nth a.bl i.toNat)).x]
   refine⟨[pj 56 (ae (nth a.bl i.toNat) 2)],rfl,by simp only[bI,ht];exact hc,⟨strs (ax [(cU (nth a.bl i.toNat)).x]),b7 vs⟩,?_,?_,_,?_,⟨a,i,i+1,vs++ax [(cU (nth a.bl i.toNat)).x]⟩,?_,⟨h1,h2,by simp only;omega,by simp only;omega⟩,rfl,?_⟩
   ·simp only[ab2,dd,ht]
   ·simp only[br,aX,aM];omega
   ·simp only;omega
   ·simp only[l6]
   ·simp only[uF,nV,Out.run,show(i+1).toNat=i.toNat+1 by omega]
    exact ho
  ·rw[sr (show i.toNat≠k.toNat by omega),aa7,←List.append_assoc] at ho
   have hv:=cF [(cU (nth a.bl i.toNat)).x,(cU (nth a.bl i.toNat)).y]
   have hv2:=cF (cU (nth a.bl i.toNat)).a.l
   have hlen:(eE (cU (nth a.bl i.toNat))).length<=100000:=by
    simp only[eE,iS,ac0] at hlit⊢;omega
   refine⟨r6 (nth a.bl i.toNat),rfl,by rw[gi,eH];exact hlit,⟨strs (eE (cU (nth a.bl i.toNat))),b7 vs⟩,?_,?_,_,?_,⟨a,k,i+1,vs++eE (cU (nth a.bl i.toNat))⟩,?_,⟨h1,h2,by simp only;omega,by simp only;omega⟩,rfl,?_⟩
   ·simp only[ab2,dd,eH]
   ·simp only[br,aX,aM];omega
   ·simp only;omega
   ·simp only[l6]
   ·simp only[uF,nV,Out.run,show(i+1).toNat=i.toNat+1 by omega]
    exact ho
 ·rw[ab0 (by omega)] at ho
  simpa[di,Cr] using ho
noncomputable def n7(κ:Kp):Env:=(Mb κ).ak 188 4 (aP 0 Qz F5 uF)
theorem QN(κ:Kp):aD (n7 κ):=(e12 κ).ak (m12 κ) (l39 κ)
theorem Mp(κ:Kp):aj (n7 κ):=(m12 κ).ak aI
def dF(fP:List (Value×AV))(fR:List (Value×AV))(s:ByteArray):Bool:=lT fP s&&lT fR s
structure DO where
 vs:List ByteArray
 i:Int
 fP:List (Value×AV)
 fR:List (Value×AV)
abbrev C5(R:List AV)(fP:List (Value×AV))(fR:List (Value×AV)):List Dn.Obj:=[.row 9 R, .box 178 (.mp 2), .map 9 4 fP, .box 178 (.mp 4), .map 9 4 fR]
abbrev OC:AV:= .bQ 237 [.ptr 1 0 [] 0, .ptr 3 0 [] 0]
abbrev Jg(a:DO):S:=sp 19 [(0, .ar 0 0 (strs a.vs).length),(1,OC),(7, .int (strs a.vs).length),(8, .int a.i)] (C5 (strs a.vs) a.fP a.fR)
theorem xFO(κ:Kp)(a:DO)(I:Nat->S->Prop)(n:Nat)(K:Exit->S->Prop):(vc (n7 κ) 12 190 none 5 (ah (Pr κ).toProgram 190 2) (Jg a) (bL (n7 κ) 190 2 5 I n K))=(
 letI z1:=K Exit.ret (sp 19 [(4,AV.int a.i)] [Obj.row 9 (strs a.vs),Obj.box 178 (AV.mp 2),Dn.Obj.map 9 4 a.fP,Obj.box 178 (AV.mp 4),Dn.Obj.map 9 4 a.fR])
 letI z2:=List.length (strs a.vs)
 letI z3:=Value.string (toStr (nth (strs a.vs) (0+a.i.toNat)))
 aC (decide (a.i<(↑z2:Int))) (ba (decide ((0:Int)<=a.i)&&decide (a.i<(↑z2:Int))) (aC (!Dn.toBool (dt a.fP z3 (AV.bool false))) z1 (aC (!Dn.toBool
 (dt a.fR z3 (AV.bool false))) z1 (∃(e0:Nat),e0<n/\I e0 (sp 19 [(0,AV.ar 0 0 z2),(1,AV.bQ 237 [AV.ptr 1 0 [] 0,AV.ptr 3 0 [] 0]),(7,AV.int (↑z2:
 Int)),(8,AV.int (IntKind.wrap IntKind.i64 (a.i+(1:Int))))] [Obj.row 9 (strs a.vs),Obj.box 178 (AV.mp 2),Dn.Obj.map 9 4 a.fP,Obj.box 178 (AV.mp 4),
 Dn.Obj.map 9 4 a.fR]))))) (K (Exit.exit 0) (sp 19 [] [Obj.row 9 (strs a.vs),Obj.box 178 (AV.mp 2),Dn.Obj.map 9 4 a.fP,Obj.box 178 (AV.mp 4),Dn.Obj.map 9 4
 a.fR]))):=by kernel_rfl
def Dt(a:DO):Prop:=a.vs.length<=aM/\0<=a.i/\a.i<=a.vs.length/\∀s,s∈a.vs.take a.i.toNat->dF a.fP a.fR s=true
def Bs(a:DO):Out (Exit×S):=
 .aC (a.vs.all (dF a.fP a.fR)) (.one (.exit 0,sp 19 [] (C5 (strs a.vs) a.fP a.fR)))
  (.all (fun j:Int=>wq (dF a.fP a.fR) a.vs j) fun j=> .one (.ret,sp 19 [(4, .int j)] (C5 (strs a.vs) a.fP a.fR)))
theorem lFO(κ:Kp):bk (n7 κ) 12 190 2 (aP 5 Jg Dt Bs):=by
 refine aL (fun a=>a.vs.length - a.i.toNat) ?_
 rintro⟨vs,i,fP,fR⟩ K ⟨h1,h2,h3,h4⟩ ho
 simp only at h1 h2 h3 h4
 rw[show(n7 κ).P=Pr κ from rfl]
 refine Eq.mpr (xFO κ ⟨vs,i,fP,fR⟩ _ _ K) ?_
 simp only[aM] at h1
 simp only[Bs,Out.run,af] at ho
 have hl:=aX vs
 simp only[aX,Nat.zero_add]
 have fin:i<vs.length->∀(hi:i.toNat<vs.length),(dF fP fR vs[i.toNat]=false->K .ret (sp 19 [(4, .int i)] (C5 (strs vs) fP fR)))/\
   (dF fP fR vs[i.toNat]=true->∃m,m<vs.length - i.toNat/\eY Jg Dt Bs (fun a=>a.vs.length - a.i.toNat) K m (Jg ⟨vs,i+1,fP,fR⟩)):=by
  intro hi0 hi
  refine⟨fun e=>ho.2 ?_ i ⟨h2,hi,h4,e⟩,fun e=>⟨_,?_,⟨vs,i+1,fP,fR⟩,rfl,⟨by simpa[aM] using h1,by simp only;omega,by simp only;omega,?_⟩,rfl,?_⟩⟩
  ·rw[Bool.eq_false_iff]
   intro hall
   rw[List.all_eq_true.1 hall _ (List.getElem_mem hi)] at e
   cases e
  ·simp only;omega
  ·intro s hs
   simp only at hs
   rw[show(i+1).toNat=i.toNat+1 by omega,List.take_succ_eq_append_getElem hi,List.mem_append,List.mem_singleton] at hs
   rcases hs with hs|hs
   ·exact h4 s hs
   ·rw[hs];exact e
  ·simp only[Bs,Out.run,af]
   exact ho
 simp only[af,an,aa2,aa4,aa3,Bool.not_eq_true',ab4]
 refine⟨fun hi=>⟨⟨h2,hi⟩,?_⟩,fun hi=>?_⟩
 ·have hi':i.toNat<vs.length:=by omega
  have hn:toStr (nth (strs vs) i.toNat)=vs[i.toNat]:=by rw[wW vs _ hi'];rfl
  rw[aW (n:=i+1) (by omega) (by omega),hn]
  have hf:=fin hi hi'
  simp only[Jg,aX] at hf
  exact⟨fun e=>hf.1 (by unfold dF lT;rw[e];rfl),fun e=>⟨fun e2=>hf.1 (by unfold dF lT;rw[e,e2];rfl),fun e2=>hf.2 (by unfold dF lT;rw[e,e2];rfl)⟩⟩
 ·refine ho.1 (List.all_eq_true.2 fun s hs=>h4 s ?_)
  rw[List.take_of_length_le (by omega)];exact hs
noncomputable def Nh(κ:Kp):Env:=(n7 κ).ak 190 2 (aP 5 Jg Dt Bs)
theorem eFO(κ:Kp):aD (Nh κ):=(QN κ).ak (Mp κ) (lFO κ)
theorem mFO(κ:Kp):aj (Nh κ):=(Mp κ).ak aI
structure GO where
 R:List AV
 i:Int
 j:Int
 fP:List (Value×AV)
 fR:List (Value×AV)
 P:List ByteArray
 ws:List ByteArray
abbrev BZ(a:GO):S:=sp 42 [(0, .ar 0 0 a.R.length),(1,OC),(5, .int a.i),(6, .int a.j)] (C5 a.R a.fP a.fR)
theorem xGO(κ:Kp)(a:GO)(I:Nat->S->Prop)(n:Nat)(K:Exit->S->Prop):(vc (Nh κ) 12 123 none 5 (ah (Pr κ).toProgram 123 5) (BZ a) (bL (Nh κ) 123 5 5 I n K))=(
 letI z2:=toStr (nth a.R (0+a.j.toNat))
 letI z3:=IntKind.wrap IntKind.i64 (a.j+(1:Int))
 letI z1:=∃(e0:Nat),e0<n/\I e0 (sp 42 [(0,AV.ar 0 0 a.R.length),(1,AV.bQ 237 [AV.ptr 1 0 [] 0,AV.ptr 3 0 [] 0]),(5,AV.int a.i),(6,AV.int z3)]
  [Obj.row 9 a.R,Obj.box 178 (AV.mp 2),Dn.Obj.map 9 4 a.fP,Obj.box 178 (AV.mp 4),Dn.Obj.map 9 4 a.fR])
 letI z4:=a.j<(↑(a.R.length):Int)
 aC (decide z4) (ba (decide ((0:Int)<=a.j)&&decide z4) (aC (!Dn.toBool (dt a.fP (Value.string z2) (AV.bool false))) z1 (aC (!!Dn.toBool (dt a.fR
 (Value.string z2) (AV.bool false))) (ba (decide ((0:Int)<=a.i)&&decide (a.i<(↑(a.R.length):Int))) (∃(e0:Nat),e0<n/\I e0 (sp 42 [(0,AV.ar 0 0
 a.R.length),(1,AV.bQ 237 [AV.ptr 1 0 [] 0,AV.ptr 3 0 [] 0]),(5,AV.int (IntKind.wrap IntKind.i64 (a.i+(1:Int)))),(6,AV.int z3)] [Obj.row 9 (cm a.R (0
 +a.i.toNat) (AV.str z2)),Obj.box 178 (AV.mp 2),Dn.Obj.map 9 4 a.fP,Obj.box 178 (AV.mp 4),Dn.Obj.map 9 4 a.fR]))) z1))) (K (Exit.exit 0) (sp 42 [(0,AV.ar 0
 0 a.R.length),(5,AV.int a.i)] [Obj.row 9 a.R,Obj.box 178 (AV.mp 2),Dn.Obj.map 9 4 a.fP,Obj.box 178 (AV.mp 4),Dn.Obj.map 9 4 a.fR]))):=by kernel_rfl
def Ay(a:GO):Prop:=a.R.length<=aM/\0<=a.i/\a.i<a.j/\a.j<=a.R.length/\a.R.take a.i.toNat=strs a.P/\a.R.drop a.j.toNat=strs a.ws
def BS(a:GO):Out (Exit×S):= .all (fun R:List AV=>R.length=a.R.length/\R.take (a.P++a.ws.filter (dF a.fP a.fR)).length=strs (a.P++a.ws.filter (dF a.fP a.fR)))
 fun R=> .one (.exit 0,sp 42 [(0, .ar 0 0 a.R.length),(5, .int (a.P++a.ws.filter (dF a.fP a.fR)).length)] (C5 R a.fP a.fR))
theorem lGO(κ:Kp):bk (Nh κ) 12 123 5 (aP 5 BZ Ay BS):=by
 refine aL (fun a=>a.R.length - a.j.toNat) ?_
 rintro⟨R,i,j,fP,fR,P,ws⟩ K ⟨h1,h2,h3,h4,h5,h6⟩ ho
 simp only at h1 h2 h3 h4 h5 h6
 rw[show(Nh κ).P=Pr κ from rfl]
 refine Eq.mpr (xGO κ ⟨R,i,j,fP,fR,P,ws⟩ _ _ K) ?_
 simp only[aM] at h1
 simp only[BS,Out.run] at ho
 simp only[Nat.zero_add]
 have hP:P.length=i.toNat:=by
  have:=congrArg List.length h5
  rw[List.length_take,aX] at this;omega
 have fin: ∀(s:ByteArray) (l:List ByteArray),ws=s::l->j<R.length->nth R j.toNat= .lit (.string s)->
   (dF fP fR s=false->∃m,m<R.length - j.toNat/\eY BZ Ay BS (fun a=>a.R.length - a.j.toNat) K m (BZ ⟨R,i,j+1,fP,fR,P,l⟩))/\
   (dF fP fR s=true->∃m,m<R.length - j.toNat/\eY BZ Ay BS (fun a=>a.R.length - a.j.toNat) K m (BZ ⟨cm R i.toNat (.lit (.string s)),i+1,j+1,fP,fR,P++[s],l⟩)):=by
  rintro s l rfl hj hn
  obtain⟨_,_,h7⟩:=jG (l:=strs l) h6
  refine⟨fun e=>⟨_,?_,_,rfl,⟨by simpa[aM] using h1,h2,by simp only;omega,by simp only;omega,h5,?_⟩,rfl,?_⟩,fun e=>⟨_,?_,_,rfl,⟨by simpa[aM,gy] using h1,by simp only;omega,by simp only;omega,by simp only[gy];omega,?_,?_⟩,rfl,?_⟩⟩
  ·simp only;omega
  ·simp only[show(j+1).toNat=j.toNat+1 by omega];exact h7
  ·intro y hy
   have:=ho y
   simp only[List.filter_cons,e,Bool.false_eq_true,if_false] at hy this⊢
   exact this hy
  ·simp only[gy];omega
  ·simp only[show(i+1).toNat=i.toNat+1 by omega]
   rw[sw _ _ _ (by omega),h5,iu];rfl
  ·simp only[show(j+1).toNat=j.toNat+1 by omega]
   rw[rU _ _ _ _ (by omega)];exact h7
  ·intro y hy
   have:=ho y
   simp only[List.filter_cons,e,if_true,gy,List.append_assoc,List.singleton_append] at hy this⊢
   exact this hy
 simp only[af,an,aa2,aa4,aa3,Bool.not_eq_true',ab4]
 refine⟨fun hj=>⟨⟨by omega,hj⟩,?_⟩,fun hj=>?_⟩
 ·cases ws with
  |nil=>
   have:=congrArg List.length h6
   rw[List.length_drop,aX] at this
   simp at this;omega
  |cons s l=>
   obtain⟨_,hn,_⟩:=jG (l:=strs l) h6
   have hn':toStr (nth R j.toNat)=s:=by rw[hn];rfl
   have hf:=fin s l rfl hj hn
   simp only[BZ,gy] at hf
   rw[aW (n:=i+1) (by omega) (by omega),aW (n:=j+1) (by omega) (by omega),hn']
   exact⟨fun e=>hf.1 (by unfold dF lT;rw[e];rfl),fun e=>⟨fun e2=>⟨⟨by omega,by omega⟩,hf.2 (by unfold dF lT;rw[e,e2];rfl)⟩,fun e2=>hf.1 (by unfold dF lT;rw[e,e2];rfl)⟩⟩
 ·have hw:ws=[]:=by
   have:=congrArg List.length h6
   rw[List.length_drop,aX] at this
   cases ws with
   |nil=>rfl
   |cons=>simp at this;omega
  subst hw
  have:=ho R ⟨rfl,by simp only[List.filter_nil,List.append_nil,hP];exact h5⟩
  simp only[List.filter_nil,List.append_nil,hP,Int.toNat_of_nonneg h2] at this
  exact this
noncomputable def Wr(κ:Kp):Env:=(Nh κ).ak 123 5 (aP 5 BZ Ay BS)
theorem eGO(κ:Kp):aD (Wr κ):=(eFO κ).ak (mFO κ) (lGO κ)
theorem mGO(κ:Kp):aj (Wr κ):=(mFO κ).ak aI
theorem yGO(κ:Kp)(a:DO)(K:AV->List Dn.Obj->Prop):(bf (Wr κ) 12 123 [.ar 0 0 (strs a.vs).length,OC] (C5 (strs a.vs) a.fP a.fR) K)=(
 letI z1:=List.length (strs a.vs)
 letI z2:=Pg.toProgram (Env.P (n7 κ))
 letI z3:=Pg.toProgram (Env.P (Nh κ))
 ah z2 190 2=ah z2 190 2/\∃(e3:DO),sp 19 [(0,AV.ar 0 0 z1),(1,AV.bQ 237 [AV.ptr 1 0 [] 0,AV.ptr 3 0 [] 0]),(7,AV.int (↑z1:Int)),(8,AV.int 0)] [Obj.row 9 (strs a.vs),Obj.box 178 (AV.mp 2),Dn.Obj.map 9 4 a.fP,Obj.box 178 (AV.mp 4),Dn.Obj.map 9 4 a.fR]=sp 19 [(0,AV.ar 0 0 (List.length (strs e3.vs))),(1,AV.bQ 237 [AV.ptr 1 0 [] 0,AV.ptr 3 0 [] 0]),(7,AV.int (↑(List.length (strs e3.vs)):Int)),(8,AV.int e3.i)] [Obj.row 9 (strs e3.vs),Obj.box 178 (AV.mp 2),Dn.Obj.map 9 4 e3.fP,Obj.box 178 (AV.mp 4),Dn.Obj.map 9 4 e3.fR]/\(e3.vs.length<=9223372036854775807/\(0:Int)<=e3.i/\e3.i<=(↑(e3.vs.length):Int)/\∀(e0:ByteArray),List.Mem e0 (List.take e3.i.toNat e3.vs)->dF e3.fP e3.fR e0=true)/\aC (List.all e3.vs (dF e3.fP e3.fR)) (K (AV.ad 9 (List.take z1 (List.drop 0 (strs e3.vs)))) [Obj.mv 9 (strs e3.vs),Obj.box 178 (AV.mp 2),Dn.Obj.map 9 4 e3.fP,Obj.box 178 (AV.mp 4),Dn.Obj.map 9 4 e3.fR]) (∀(e2:Int),((0:Int)<=e2/\∃(e1:e2.toNat<e3.vs.length),(∀(e0:ByteArray),List.Mem e0 (List.take e2.toNat e3.vs)->dF e3.fP e3.fR e0=true)/\dF e3.fP e3.fR e3.vs[e2.toNat]=false)->aC (e2==(-1:Int)) (K (AV.ad 9 (List.take z1 (List.drop 0 (strs e3.vs)))) [Obj.mv 9 (strs e3.vs),Obj.box 178 (AV.mp 2),Dn.Obj.map 9 4 e3.fP,Obj.box 178 (AV.mp 4),Dn.Obj.map 9 4 e3.fR]) (ah z3 123 5=ah z3 123 5/\∃(e1:GO),sp 42 [(0,AV.ar 0 0 z1),(1,AV.bQ 237 [AV.ptr 1 0 [] 0,AV.ptr 3 0 [] 0]),(5,AV.int e2),(6,AV.int (IntKind.wrap IntKind.i64 (e2+(1:Int))))] [Obj.row 9 (strs e3.vs),Obj.box 178 (AV.mp 2),Dn.Obj.map 9 4 e3.fP,Obj.box 178 (AV.mp 4),Dn.Obj.map 9 4 e3.fR]=sp 42 [(0,AV.ar 0 0 e1.R.length),(1,AV.bQ 237 [AV.ptr 1 0 [] 0,AV.ptr 3 0 [] 0]),(5,AV.int e1.i),(6,AV.int e1.j)] [Obj.row 9 e1.R,Obj.box 178 (AV.mp 2),Dn.Obj.map 9 4 e1.fP,Obj.box 178 (AV.mp 4),Dn.Obj.map 9 4 e1.fR]/\(e1.R.length<=9223372036854775807/\(0:Int)<=e1.i/\e1.i<e1.j/\e1.j<=(↑(e1.R.length):Int)/\List.take e1.i.toNat e1.R=strs e1.P/\List.drop e1.j.toNat e1.R=strs e1.ws)/\∀(e0:List AV),e0.length=e1.R.length/\List.take (List.length (e1.P++List.filter (dF e1.fP e1.fR) e1.ws)) e0=strs (e1.P++List.filter (dF e1.fP e1.fR) e1.ws)->ba (true&&decide ((↑(List.length (e1.P++List.filter (dF e1.fP e1.fR) e1.ws)):Int)<=(↑(e1.R.length):Int))&&decide ((↑(e1.R.length):Int)<=(↑(e1.R.length):Int))) (ba (true&&decide ((↑(List.length (e1.P++List.filter (dF e1.fP e1.fR) e1.ws)):Int)<=(↑(e1.R.length):Int))) (K (AV.ad 9 (List.take (Int.toNat ((↑(List.length (e1.P++List.filter (dF e1.fP e1.fR) e1.ws)):Int) - (0:Int))) (List.drop 0 (dR e0 (0+Int.toNat (↑(List.length (e1.P++List.filter (dF e1.fP e1.fR) e1.ws)):Int)) (Int.toNat ((↑(e1.R.length):Int) - (↑(List.length (e1.P++List.filter (dF e1.fP e1.fR) e1.ws)):Int))) (AV.str {data:= #[]}))))) [Obj.mv 9 (dR e0 (0+Int.toNat (↑(List.length (e1.P++List.filter (dF e1.fP e1.fR) e1.ws)):Int)) (Int.toNat ((↑(e1.R.length):Int) - (↑(List.length (e1.P++List.filter (dF e1.fP e1.fR) e1.ws)):Int))) (AV.str {data:= #[]})),Obj.box 178 (AV.mp 2),Dn.Obj.map 9 4 e1.fP,Obj.box 178 (AV.mp 4),Dn.Obj.map 9 4 e1.fR]))))):=by kernel_rfl
def FH(a:DO):List AV×List Dn.Obj:=([.ar 0 0 a.vs.length,OC],C5 (strs a.vs) a.fP a.fR)
def kh(a:DO):Prop:=a.vs.length<=aM
def EL(a:DO):Out (AV×List Dn.Obj):= .all (fun _:List AV=>True) fun R=> .one (.ad 9 (strs (a.vs.filter (dF a.fP a.fR))),[.mv 9 R, .box 178 (.mp 2), .map 9 4 a.fP, .box 178 (.mp 4), .map 9 4 a.fR])
theorem WQ(κ:Kp):bz (Wr κ) 12 123 (aR FH kh EL):=by
 refine bg ?_
 rintro⟨vs,i,fP,fR⟩ K h1 ho
 simp only[kh] at h1
 simp only[FH]
 rw[←aX vs]
 refine Eq.mpr (yGO κ ⟨vs,i,fP,fR⟩ K) ?_
 refine⟨rfl,⟨vs,0,fP,fR⟩,rfl,⟨h1,by simp only;omega,by simp only;omega,fun s hs=>nomatch hs⟩,?_⟩
 rw[af]
 refine⟨fun e=>?_,fun e y hy=>?_⟩
 ·have hf:vs.filter (dF fP fR)=vs:=List.filter_eq_self.2 (List.all_eq_true.1 e)
  have:=ho (strs vs) trivial
  simp only[hf] at this
  rw[ab2,List.take_length]
  exact this
 ·have hF:=qs hy
  obtain⟨h0,h2,h3,h4⟩:=hy
  simp only at h0 h2
  simp only[aM] at h1
  rw[af,beq_iff_eq,beq_eq_false_iff_ne]
  refine⟨fun e2=>by omega,fun _=>⟨rfl,⟨strs vs,y,y+1,fP,fR,vs.take y.toNat,vs.drop (y.toNat+1)⟩,?_,⟨by simp only[aX];omega,h0,by simp only;omega,by simp only[aX];omega,?_,?_⟩,?_⟩⟩
  ·rw[aW (n:=y+1) (by omega) (by omega)]
  ·simp only[strs,List.map_take]
  ·simp only[strs,List.map_drop,show(y+1).toNat=y.toNat+1 by omega]
  ·rintro R ⟨r1,r2⟩
   simp only at r1 r2
   rw[←hF] at r2⊢
   have hle:(vs.filter (dF fP fR)).length<=vs.length:=List.length_filter_le _ _
   rw[an,an]
   refine⟨by simp[aX,hle],by simp[aX,hle],?_⟩
   have:=ho (dR R (0+Int.toNat ((vs.filter (dF fP fR)).length:Int)) (Int.toNat (((strs vs).length:Int) - ((vs.filter (dF fP fR)).length:Int))) (.lit (.string (ByteArray.mk #[])))) trivial
   simp only[Int.toNat_natCast,Nat.zero_add,Int.sub_zero,ab2,nS,r2] at this⊢
   exact this
theorem Ye(κ:Kp): ∀args st K,aR FH kh EL args st K->dq (Pr κ) 123 args st K:=fun args st K h=>iK (eGO κ) (mGO κ) (WQ κ args st K h)
noncomputable def KI(κ:Kp):Env:=(n7 κ).ay 123 (aR FH kh EL)
theorem Xe(κ:Kp):aD (KI κ):=(QN κ).iE (Ye κ)
theorem Tg(κ:Kp):aj (KI κ):=(Mp κ).ay aK
theorem y39(κ:Kp)(a:cq)(k:Int)(K:AV->List Dn.Obj->Prop):(bf (KI κ) 12 188 [aq a, .int k] [] K)=(
 letI z2:=Pg.toProgram (Env.P (Mb κ))
 letI z1:=∃(e7:List AV),([AV.ad 56 a.hl],aJ)=([AV.ad 56 e7],aJ)/\bI e7/\∃(e6:List AV×List (Value×AV)),([AV.mp 0,AV.ad 9 (List.take
  (List.length (ax (aa e7))) (List.drop 0 (strs (ax (aa e7)))))],[Dn.Obj.map 9 4 []])=([AV.mp 0,AV.ad 9 e6.1],[Dn.Obj.map 9 4 e6.2])/\br e6/\ah z2 188 4=
  ah z2 188 4/\∃(e5:SM),sp 53 [(1,AV.int k),(2,AV.ptr 0 0 [] 0),(5,AV.ptr 1 0 [] 0),(17,AV.ad 72 a.bl),(18,AV.int (↑(a.bl.length):Int)),(19,
  AV.int 0)] [Obj.box 66 (aq a),Obj.box 178 (AV.mp 2),Dn.Obj.map 9 4 (fA e6.2 e6.1)]=sp 53 [(1,AV.int e5.k),(2,AV.ptr 0 0 [] 0),(5,AV.ptr 1 0 [] 0),(17,
  AV.ad 72 e5.a.bl),(18,AV.int (↑(List.length e5.a.bl):Int)),(19,AV.int e5.i)] [Obj.box 66 (aq e5.a),Obj.box 178 (AV.mp 2),Dn.Obj.map 9 4 (b7 e5.vs)]/\
  ((aO (aa (bn 56 e5.a.hl e5.a.bl))<=100000/\List.length e5.a.bl<=100000)/\(0:Int)<=e5.k/\(0:Int)<=e5.i/\e5.i<=(↑(List.length e5.a.bl):Int))/\ba
  (decide ((0:Int)<=e5.k)&&decide (e5.k<(↑(List.length e5.a.bl):Int))) ((∃(e4:List AV),([AV.ad 56 (ai (ae (ae (nth e5.a.bl e5.k.toNat) 1) 1))],aJ)=
  ([AV.ad 56 e4],aJ)/\bI e4/\∃(e3:List AV×List (Value×AV)),([AV.mp 0,AV.ad 9 (List.take (List.length (ax (aa e4))) (List.drop 0 (strs (ax (aa
  e4)))))],[Dn.Obj.map 9 4 []])=([AV.mp 0,AV.ad 9 e3.1],[Dn.Obj.map 9 4 e3.2])/\br e3/\∃(e2:cq),([aq e5.a],aJ)=([aq e2],aJ)/\(aQ (aH e2)=true/\
  aO (aa (bn 56 e2.hl e2.bl))<=100000/\e2.bl.length<=100000)/\∃(e1:DO),([AV.ar 0 0 (List.length (dc (aH e2))),AV.bQ 237 [AV.ptr 1 0 [] 0,AV.ptr 3 0 []
  0]],[Obj.row 9 (strs (dc (aH e2))),Obj.box 178 (AV.mp 2),Dn.Obj.map 9 4 (fA e3.2 e3.1),Obj.box 178 (AV.mp 4),Dn.Obj.map 9 4 (b7 (nV e5))])=([AV.ar 0 0
  e1.vs.length,AV.bQ 237 [AV.ptr 1 0 [] 0,AV.ptr 3 0 [] 0]],[Obj.row 9 (strs e1.vs),Obj.box 178 (AV.mp 2),Dn.Obj.map 9 4 e1.fP,Obj.box 178 (AV.mp 4),
  Dn.Obj.map 9 4 e1.fR])/\kh e1/\∀(e0:List AV),True->K (AV.ad 9 (strs (List.filter (dF e1.fP e1.fR) e1.vs))) [])/\∃(e4:List AV),([AV.ad 56 (ai (ae (ae
  (nth e5.a.bl e5.k.toNat) 1) 1))],aJ)=([AV.ad 56 e4],aJ)/\bI e4/\∃(e3:List AV×List (Value×AV)),([AV.mp 0,AV.ad 9 (List.take (List.length (ax (aa
  e4))) (List.drop 0 (strs (ax (aa e4)))))],[Dn.Obj.map 9 4 []])=([AV.mp 0,AV.ad 9 e3.1],[Dn.Obj.map 9 4 e3.2])/\br e3/\∃(e2:cq),([aq e5.a],aJ)=([aq
  e2],aJ)/\(aQ (aH e2)=true/\aO (aa (bn 56 e2.hl e2.bl))<=100000/\e2.bl.length<=100000)/\∃(e1:DO),([AV.ar 0 0 (List.length (dc (aH e2))),AV.bQ 237
  [AV.ptr 1 0 [] 0,AV.ptr 3 0 [] 0]],[Obj.row 9 (strs (dc (aH e2))),Obj.box 178 (AV.mp 2),Dn.Obj.map 9 4 (fA e3.2 e3.1),Obj.box 178 (AV.mp 4),Dn.Obj.map 9 4
  (b7 (nV e5))])=([AV.ar 0 0 e1.vs.length,AV.bQ 237 [AV.ptr 1 0 [] 0,AV.ptr 3 0 [] 0]],[Obj.row 9 (strs e1.vs),Obj.box 178 (AV.mp 2),Dn.Obj.map 9 4 e1.fP,
  Obj.box 178 (AV.mp 4),Dn.Obj.map 9 4 e1.fR])/\kh e1/\∀(e0:List AV),True->K (AV.ad 9 (strs (List.filter (dF e1.fP e1.fR) e1.vs))) [])
 z1/\z1):=by kernel_rfl
def NN(a:cq×Int):List AV×List Dn.Obj:=([aq a.1, .int a.2],[])
def zE(a:cq×Int):Prop:=aQ (aH a.1)=true/\df a.1/\0<=a.2/\a.2<a.1.bl.length
def QB(a:cq×Int):Out (AV×List Dn.Obj):= .one (.ad 9 (strs (ep (aH a.1) a.2.toNat)),[])
theorem c39(κ:Kp):bz (KI κ) 12 188 (aR NN zE QB):=by
 refine bg ?_
 rintro⟨a,k⟩ K ⟨h1,h2,h3,h4⟩ ho
 refine Eq.mpr (y39 κ a k K) ?_
 simp only at h1 h2 h3 h4
 have hc:=oO h2
 have hv:=cF (aa a.hl)
 have hk:k.toNat<a.bl.length:=by omega
 have hlit:=kO h2 hk
 simp only[and_self]
 refine⟨a.hl,rfl,hc,⟨strs (ax (aa a.hl)),[]⟩,?_,?_,trivial,⟨a,k,0,ax (aa a.hl)⟩,rfl,⟨h2,h3,by simp only;omega,by simp only;omega⟩,?_⟩
 ·simp only[ab2,dd]
 ·simp only[br,aX,aM];omega
 rw[an,aa3,aa2,aa2]
 have hin:ax (aa (ai (ae (ae (nth a.bl k.toNat) 1) 1)))=ax (dT (aH a).body k.toNat).a.l:=by
  rw[show(aH a).body=di a.bl from rfl,kC _ hk,lt_eq]
 have hcl:aO (aa (ai (ae (ae (nth a.bl k.toNat) 1) 1)))<=100000:=by
  rw[lt_eq] at hlit
  simp only[iS] at hlit;omega
 have hvl:=cF (aa (ai (ae (ae (nth a.bl k.toNat) 1) 1)))
 refine⟨⟨h3,h4⟩,_,rfl,hcl,⟨strs (ax (aa (ai (ae (ae (nth a.bl k.toNat) 1) 1)))),[]⟩,?_,?_,a,rfl,⟨h1,h2⟩,⟨dc (aH a),0,fA [] (strs (ax (aa (ai (ae (ae (nth a.bl k.toNat) 1) 1))))),b7 (nV ⟨a,k,0,ax (aa a.hl)⟩)⟩,rfl,?_,?_⟩
 ·simp only[ab2,dd]
 ·simp only[br,aX,aM];omega
 ·have h5:(fw (aH a)).length<=100000:=by
   have h6:=cF (aa (bn 56 a.hl a.bl))
   rw[iJ 56 a.rel a.hl a.bl] at h6
   exact Nat.le_trans h6 h2.1
  have h7:=lg (fw (aH a)) []
  simp only[kh,dc,h1,aa9,aM];omega
 ·intro R _
  have hk2:(fun s=>dF (fA [] (strs (ax (aa (ai (ae (ae (nth a.bl k.toNat) 1) 1)))))) (b7 (nV ⟨a,k,0,ax (aa a.hl)⟩)) s)=fun v=>(ax (dT (aH a).body k.toNat).a.l).contains v&&(PM (aH a) k.toNat).contains v:=by
   funext s
   unfold dF
   rw[oW,hin]
   congr 1
   exact oW _ s
  have hk3:List.filter (dF (fA [] (strs (ax (aa (ai (ae (ae (nth a.bl k.toNat) 1) 1)))))) (b7 (nV ⟨a,k,0,ax (aa a.hl)⟩))) (dc (aH a))=ep (aH a) k.toNat:=by
   unfold ep
   exact congrFun (congrArg _ hk2) _
  simp only[hk3]
  exact ho
noncomputable def OS(κ:Kp):Env:=(KI κ).ay 188 (aR NN zE QB)
theorem e39(κ:Kp):aD (OS κ):=(Xe κ).ay (Tg κ) (c39 κ)
theorem Za(κ:Kp):aj (OS κ):=(Tg κ).ay aK
end Go.Proofs.YthaiinlfnommnaaGreatDoor
