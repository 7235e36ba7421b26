import Derived.Test.YthaiinlfnommnaaGreatDoorDbM2
import Derived.Test.YthaiinlfnommnaaGreatDoorDbM1
namespace Go.Proofs.YthaiinlfnommnaaGreatDoor
open Go Go.Dn Go.Rl Go.Proofs
attribute [local irreducible] a8 vc
set_option maxRecDepth 20000
structure Ev where
 xs:List AV
 more:List AV
 t:AV
 m:List AV
 i:Int
abbrev I3(a:Ev):AV:=po 56 (nth a.m a.i.toNat)
def Ni:List Nat:=[229,265,238]
def NY(a:AV):List AV×List Dn.Obj:=([.cD 0, .ptr 1 0 [] 0],[.ext (some (pf 56 a)), .box 56 (po 56 a)])
def RK(n:Nat)(a:AV):Prop:=(cR a).jf=n/\n<=100000
def Gg(_:AV):Out (AV×List Dn.Obj):= .all (fun st'=>rA st') fun st'=> .one (.bh [],st')
def LI(n:Nat):dr:=aL NY (RK n) Gg
noncomputable def Db(κ:Kp)(r:Nat):Env:=(Wa κ).ax 265 fun args st K=>∃m,m<r/\LI m args st K
noncomputable abbrev TT(a:Ev)(κ:Kp)(st:LoopState)(p:Option Code):Dn.Obj:=
 .loop (gl (Pr κ).toProgram 265 6 st p (fW (bG 25) [(2, .ptr 2 0 [] 0),(4, .ptr 3 0 [] 0),(11, .ad 56 a.m),(12, .int a.m.length),(13, .int a.i),(14, .bool true),
  (15, .jS 56 (nth a.m a.i.toNat)),(16,I3 a),(17,I3 a),(18, .bL 265 [.ptr 4 0 [] 0])]))
noncomputable abbrev pt(κ:Kp)(a:Ev):List Dn.Obj:=[.ext (some a.xs), .box 56 (po 56 a.t), .box 187 (.cD 0), .box 56 (I3 a), .box 56 (I3 a),TT a κ .ready none]
noncomputable abbrev zx(κ:Kp)(a:Ev)(o:Option (List AV))(st:LoopState)(p:Option Code):List Dn.Obj:=[.ext o, .box 56 (po 56 a.t), .box 187 (.cD 0), .box 56 (I3 a), .dead,TT a κ st p]
theorem s56(κ:Kp)(a:Ev)(Q:List Dn.Obj->Prop):(tidy (Pr κ).toProgram 6 (dV (pt κ a) (cz (pt κ a) [.ptr 4 0 [] 0])) Q)=(
 letI z1:=nth a.m a.i.toNat
 letI z2:=toInt (ae z1 0)
 letI z3:=toStr (ae z1 1)
 letI z4:=toInt (ae z1 2)
 letI z5:=ai (ae z1 3)
 Q [Obj.ext (some a.xs),Obj.box 56 (AV.agg [AV.int (toInt (ae a.t 0)),AV.str (toStr (ae a.t 1)),AV.int (toInt (ae a.t 2)),AV.ad 56 (ai (ae a.t 3))]),Obj.box
 187 (AV.cD 0),Obj.box 56 (AV.agg [AV.int z2,AV.str z3,AV.int z4,AV.ad 56 z5]),Obj.dead,Dn.Obj.loop (gl Tryz.prog 265 6 LoopState.ready none (fW (bG 25)
 [(2,AV.ptr 2 0 [] 0),(4,AV.ptr 3 0 [] 0),(11,AV.ad 56 a.m),(12,AV.int (↑(a.m.length):Int)),(13,AV.int a.i),(14,AV.bool true),(15,AV.jS 56 z1),
 (16,AV.agg [AV.int z2,AV.str z3,AV.int z4,AV.ad 56 z5]),(17,AV.agg [AV.int z2,AV.str z3,AV.int z4,AV.ad 56 z5]),(18,AV.bL 265 [AV.ptr 4 0 [] 0])]))]):=by kernel_rfl
theorem r56(κ:Kp)(r:Nat)(a:Ev)(o:List AV)(u:AV)(Q:List Dn.Obj->Prop)(K2:List Dn.Obj->Prop):(gW (vc (Db κ r) 12) 5 [po 56 u] (zx κ a (some o) .ready none) (fun r st''=>match r with| .lit (.bool true)=>tidy (Pr κ).toProgram 6 st'' Q| .lit (.bool false)=>K2 st''|_=>False))=(
 letI z3:=nth a.m a.i.toNat
 letI z4:=AV.agg [AV.int (toInt (ae a.t 0)),AV.str (toStr (ae a.t 1)),AV.int (toInt (ae a.t 2)),AV.ad 56 (ai (ae a.t 3))]
 letI z5:=toInt (ae z3 0)
 letI z6:=toStr (ae z3 1)
 letI z7:=toInt (ae z3 2)
 letI z8:=ai (ae z3 3)
 letI z1:=AV.agg [AV.int z5,AV.str z6,AV.int z7,AV.ad 56 z8]
 letI z2:=fW (bG 25) [(2,AV.ptr 2 0 [] 0),(4,AV.ptr 3 0 [] 0),(11,AV.ad 56 a.m),(12,AV.int (↑(a.m.length):Int)),(13,AV.int a.i),(14,AV.bool true),
  (15,AV.jS 56 z3),(16,AV.agg [AV.int z5,AV.str z6,AV.int z7,AV.ad 56 z8]),(17,AV.agg [AV.int z5,AV.str z6,AV.int z7,AV.ad 56 z8]),(18,AV.bL 265
  [AV.ptr 4 0 [] 0])]
 ∃(e0:List AV),o=AV.bh [AV.agg [AV.int (toInt (ae u 0)),AV.str (toStr (ae u 1)),AV.int (toInt (ae u 2)),AV.ad 56 (ai (ae u 3))]]::e0/\Q [Obj.ext
 (some e0),Obj.box 56 z4,Obj.box 187 (AV.cD 0),Obj.box 56 z1,Obj.dead,Dn.Obj.loop (gl Tryz.prog 265 6 LoopState.ready none z2)]/\K2 [Obj.ext none,Obj.box
 56 z4,Obj.box 187 (AV.cD 0),Obj.box 56 z1,Obj.dead,Dn.Obj.loop (gl Tryz.prog 265 6 LoopState.done (some Code.ret) z2),Obj.box 56 (AV.agg [AV.int (toInt (ae
 u 0)),AV.str (toStr (ae u 1)),AV.int (toInt (ae u 2)),AV.ad 56 (ai (ae u 3))])]):=by kernel_rfl
theorem k56(κ:Kp)(a:Ev)(xs:List AV):(AV.cD 0::fU (jG (cz (pt κ a) [.ptr 4 0 [] 0])) [.ptr 4 0 [] 0],Obj.ext (some xs)::gA (jG (cz (pt κ a) [.ptr 4 0 [] 0])) (gT (pt κ a) (cz (pt κ a) [.ptr 4 0 [] 0])))=([.cD 0, .ptr 1 0 [] 0],[.ext (some xs), .box 56 (I3 a)]):=by kernel_rfl
theorem o56(κ:Kp)(a:Ev):oi (pt κ a) [.ptr 4 0 [] 0]=true:=by kernel_rfl
noncomputable def KH(κ:Kp)(r:Nat):dC:=fun caps st K=>∃a:Ev,(caps,st)=([AV.ptr 4 0 [] 0],pt κ a)/\((cR (nth a.m a.i.toNat)).jf<r/\(cR (nth a.m a.i.toNat)).jf<=100000/\a.xs=pf 56 (nth a.m a.i.toNat)++a.more)/\
 (K (zx κ a (some a.more) .ready none)/\∀u:AV,K (zx κ a none .done (some .ret)++[.box 56 (po 56 u)]))
theorem Fp(κ:Kp)(r:Nat):(KH κ r).ji:=by
 rintro caps st K K' hK ⟨a,h1,h2,h3,h4⟩
 exact⟨a,h1,h2,hK _ h3,fun u=>hK _ (h4 u)⟩
theorem NW(κ:Kp)(r:Nat)(args:List AV)(st:List Dn.Obj)(K:AV->List Dn.Obj->Prop)(h: ∃m,m<r/\LI m args st K):(Db κ r).call 265 args st K:=h
theorem W5(κ:Kp)(r:Nat):lq (Db κ r) 12 265 (KH κ r):=by
 rintro caps st K ⟨a,h1,⟨h2,h3,h4⟩,h5,h6⟩
 obtain⟨rfl,rfl⟩:=Prod.mk.inj h1
 refine⟨pf 56 (nth a.m a.i.toNat),fun items st'=>(∀x,x∈items->sv 56 x)/\st'=zx κ a (some (items++a.more)) .ready none,⟨o56 κ a,?_,?_,?_,?_⟩⟩
 ·refine NW κ r _ _ _ ⟨_,h2,nth a.m a.i.toNat,?_,⟨rfl,h3⟩,fun st' h=>h⟩
  rw[k56];rfl
 ·rw[show(Db κ r).P=Pr κ from rfl,show(pt κ a).length=6 from rfl,s56]
  exact⟨mZ _ _ _ (Nat.lt_succ_self _),by rw[h4];rfl⟩
 ·rintro us rest st' ⟨e1,rfl⟩
  obtain⟨u,hu⟩:=e1 (.bh us) (by simp)
  obtain rfl:=AV.bh.inj hu
  rw[show(Db κ r).P=Pr κ from rfl,show(pt κ a).length=6 from rfl]
  refine Eq.mpr (r56 κ r a _ u _ _) ?_
  exact⟨_,rfl,⟨fun x hx=>e1 x (by simp[hx]),rfl⟩,h6 u⟩
 ·rintro st' ⟨_,rfl⟩
  exact h5
noncomputable def zy(κ:Kp)(r:Nat):Env:=((Db κ r).addRange 265 6 265 (KH κ r)).dv (fun f=>jm f Ni)
theorem VM(κ:Kp)(r:Nat):aj (Db κ r):=(ZZ κ).ax (fun _ _ _ _ hK ⟨m,h1,h2⟩=>⟨m,h1,aJ _ _ _ _ hK h2⟩)
theorem x56(κ:Kp)(r:Nat)(a:Ev)(I:Nat->S->Prop)(n:Nat)(K:Exit->S->Prop):(vc (zy κ r) 12 265 none 2 (af (Pr κ).toProgram 265 3) (sp 25 [(2, .ptr 2 0 [] 0),(11, .ad 56 a.m),(12, .int a.m.length),(13, .int a.i)] [.ext (some a.xs), .box 56 (po 56 a.t), .box 187 (.cD 0)]) (bK (zy κ r) 265 3 2 I n K))=(
 letI z2:=nth a.m a.i.toNat
 letI z3:=AV.agg [AV.int (toInt (ae a.t 0)),AV.str (toStr (ae a.t 1)),AV.int (toInt (ae a.t 2)),AV.ad 56 (ai (ae a.t 3))]
 letI z4:=a.i<(↑(a.m.length):Int)
 letI z5:=toInt (ae z2 0)
 letI z6:=toStr (ae z2 1)
 letI z7:=toInt (ae z2 2)
 letI z8:=ai (ae z2 3)
 letI z1:=AV.agg [AV.int z5,AV.str z6,AV.int z7,AV.ad 56 z8]
 aD (decide z4) (aX (decide ((0:Int)<=a.i)&&decide z4) (∃(e1:Ev),([AV.ptr 4 0 [] 0],[Obj.ext (some a.xs),Obj.box 56 z3,Obj.box 187 (AV.cD 0),Obj.box
 56 z1,Obj.box 56 z1,Dn.Obj.loop (gl Tryz.prog 265 6 LoopState.ready none (fW (bG 25) [(2,AV.ptr 2 0 [] 0),(4,AV.ptr 3 0 [] 0),(11,AV.ad 56 a.m),(12,
 AV.int (↑(a.m.length):Int)),(13,AV.int a.i),(14,AV.bool true),(15,AV.jS 56 z2),(16,AV.agg [AV.int z5,AV.str z6,AV.int z7,AV.ad 56 z8]),(17,AV.agg
 [AV.int z5,AV.str z6,AV.int z7,AV.ad 56 z8]),(18,AV.bL 265 [AV.ptr 4 0 [] 0])]))])=([AV.ptr 4 0 [] 0],[Obj.ext (some e1.xs),Obj.box 56 (AV.agg [AV.int
 (toInt (ae e1.t 0)),AV.str (toStr (ae e1.t 1)),AV.int (toInt (ae e1.t 2)),AV.ad 56 (ai (ae e1.t 3))]),Obj.box 187 (AV.cD 0),Obj.box 56 (AV.agg [AV.int
 (toInt (ae (nth e1.m e1.i.toNat) 0)),AV.str (toStr (ae (nth e1.m e1.i.toNat) 1)),AV.int (toInt (ae (nth e1.m e1.i.toNat) 2)),AV.ad 56 (ai (ae (nth e1.m
 e1.i.toNat) 3))]),Obj.box 56 (AV.agg [AV.int (toInt (ae (nth e1.m e1.i.toNat) 0)),AV.str (toStr (ae (nth e1.m e1.i.toNat) 1)),AV.int (toInt (ae (nth e1.m
 e1.i.toNat) 2)),AV.ad 56 (ai (ae (nth e1.m e1.i.toNat) 3))]),Dn.Obj.loop (gl Tryz.prog 265 6 LoopState.ready none (fW (bG 25) [(2,AV.ptr 2 0 [] 0),(4,
 AV.ptr 3 0 [] 0),(11,AV.ad 56 e1.m),(12,AV.int (↑(e1.m.length):Int)),(13,AV.int e1.i),(14,AV.bool true),(15,AV.jS 56 (nth e1.m e1.i.toNat)),(16,
 AV.agg [AV.int (toInt (ae (nth e1.m e1.i.toNat) 0)),AV.str (toStr (ae (nth e1.m e1.i.toNat) 1)),AV.int (toInt (ae (nth e1.m e1.i.toNat) 2)),AV.ad 56 (ai (ae
 (nth e1.m e1.i.toNat) 3))]),(17,AV.agg [AV.int (toInt (ae (nth e1.m e1.i.toNat) 0)),AV.str (toStr (ae (nth e1.m e1.i.toNat) 1)),AV.int (toInt (ae (nth e1.m
 e1.i.toNat) 2)),AV.ad 56 (ai (ae (nth e1.m e1.i.toNat) 3))]),(18,AV.bL 265 [AV.ptr 4 0 [] 0])]))])/\(Tm.jf (cR (nth e1.m e1.i.toNat))<r/\Tm.jf (cR (nth
 e1.m e1.i.toNat))<=100000/\e1.xs=pf 56 (nth e1.m e1.i.toNat)++e1.more)/\(∃(e0:Nat),e0<n/\I e0 (sp 25 [(2,AV.ptr 2 0 [] 0),(11,AV.ad 56 a.m),
 (12,AV.int (↑(a.m.length):Int)),(13,AV.int (IntKind.wrap IntKind.i64 (a.i+(1:Int))))] [Obj.ext (some e1.more),Obj.box 56 (AV.agg [AV.int (toInt (ae
 e1.t 0)),AV.str (toStr (ae e1.t 1)),AV.int (toInt (ae e1.t 2)),AV.ad 56 (ai (ae e1.t 3))]),Obj.box 187 (AV.cD 0)]))/\∀(e0:AV),K Exit.ret (sp 25 []
 [Obj.ext none,Obj.box 56 (AV.agg [AV.int (toInt (ae e1.t 0)),AV.str (toStr (ae e1.t 1)),AV.int (toInt (ae e1.t 2)),AV.ad 56 (ai (ae e1.t 3))])]))) (K
 (Exit.exit 0) (sp 25 [] [Obj.ext (some a.xs),Obj.box 56 z3]))):=by kernel_rfl
abbrev Qd(a:Ev):S:=sp 25 [(2, .ptr 2 0 [] 0),(11, .ad 56 a.m),(12, .int a.m.length),(13, .int a.i)] [.ext (some a.xs), .box 56 (po 56 a.t), .box 187 (.cD 0)]
def Gy(r:Nat)(a:Ev):Prop:=a.m.length<=aR/\0<=a.i/\a.i<=a.m.length/\a6 (aa (a.m.drop a.i.toNat))<r/\a6 (aa (a.m.drop a.i.toNat))<=100000/\a.xs=fI 56 (a.m.drop a.i.toNat)
def JR(a:Ev):Out (Exit×S):= .all (fun _:Bool=>True) fun b=> .aD b (.one (.exit 0,sp 25 [] [.ext (some []), .box 56 (po 56 a.t)])) (.one (.ret,sp 25 [] [.ext none, .box 56 (po 56 a.t)]))
theorem wM(l:List AV)(i:Nat)(h:i<l.length):a6 (aa (l.drop i))=(cR (nth l i)).jf+a6 (aa (l.drop (i+1))):=by
 rw[eI l i h,a6]
theorem l56(κ:Kp)(r:Nat):bj (zy κ r) 12 265 3 (aO 2 Qd (Gy r) JR):=by
 refine aK (fun a=>a.m.length - a.i.toNat) ?_
 rintro⟨xs,more,t,m,i⟩ K ⟨h1,h2,h3,h4,h5,h6⟩ ho
 simp only at h1 h2 h3 h4 h5 h6
 rw[show(zy κ r).P=Pr κ from rfl]
 refine Eq.mpr (x56 κ r ⟨xs,more,t,m,i⟩ _ _ K) ?_
 have ho1:=ho true trivial
 have ho2:=ho false trivial
 simp only[Out.run,aD] at ho1 ho2
 simp only[aR] at h1
 simp only[ah,aq,aa1,aa3,aa2]
 refine⟨fun hi=>⟨⟨h2,hi⟩,?_⟩,fun hi=>?_⟩
 ·have hc:=wM m i.toNat (by omega)
  rw[uk _ m i.toNat (by omega)] at h6
  rw[aW (n:=i+1) (by omega) (by omega)]
  refine⟨⟨xs,fI 56 (m.drop (i.toNat+1)),t,m,i⟩,rfl,⟨by simp only;omega,by simp only;omega,h6⟩,⟨_,?_,⟨_,more,t,m,i+1⟩,rfl,⟨by simpa[aR] using h1,by simp only;omega,by simp only;omega,?_,?_,?_⟩,rfl,ho⟩,fun _=>ho2⟩
  ·simp only;omega
  ·simp only[show(i+1).toNat=i.toNat+1 by omega];omega
  ·simp only[show(i+1).toNat=i.toNat+1 by omega];omega
  ·simp only[show(i+1).toNat=i.toNat+1 by omega]
 ·rw[aa9 (by omega)] at h6
  subst h6
  exact ho1
noncomputable def Iu(κ:Kp)(r:Nat):Env:=(zy κ r).ak 265 3 (aO 2 Qd (Gy r) JR)
theorem y56(κ:Kp)(r:Nat)(t:AV)(xs:List AV)(K:AV->List Dn.Obj->Prop):(a8 (Iu κ r) 12 265 [.cD 0, .ptr 1 0 [] 0] [.ext (some xs), .box 56 (po 56 t)] K)=(
 letI z2:=ai (ae t 3)
 letI z1:=AV.agg [AV.int (toInt (ae t 0)),AV.str (toStr (ae t 1)),AV.int (toInt (ae t 2)),AV.ad 56 z2]
 letI z3:=Pg.toProgram (Env.P (zy κ r))
 ∃(e2:List AV),xs=AV.bh [AV.agg [AV.int (toInt (ae t 0)),AV.str (toStr (ae t 1)),AV.int (toInt (ae t 2)),AV.ad 56 z2]]::e2/\(af z3 265 3=af z3 265
 3/\∃(e1:Ev),sp 25 [(2,AV.ptr 2 0 [] 0),(11,AV.ad 56 z2),(12,AV.int (↑(List.length z2):Int)),(13,AV.int 0)] [Obj.ext (some e2),Obj.box 56 z1,
 Obj.box 187 (AV.cD 0)]=sp 25 [(2,AV.ptr 2 0 [] 0),(11,AV.ad 56 e1.m),(12,AV.int (↑(e1.m.length):Int)),(13,AV.int e1.i)] [Obj.ext (some e1.xs),
 Obj.box 56 (AV.agg [AV.int (toInt (ae e1.t 0)),AV.str (toStr (ae e1.t 1)),AV.int (toInt (ae e1.t 2)),AV.ad 56 (ai (ae e1.t 3))]),Obj.box 187 (AV.cD 0)]/\
 (e1.m.length<=9223372036854775807/\(0:Int)<=e1.i/\e1.i<=(↑(e1.m.length):Int)/\a6 (aa (List.drop e1.i.toNat e1.m))<r/\a6 (aa (List.drop e1.i.toNat
 e1.m))<=100000/\e1.xs=fI 56 (List.drop e1.i.toNat e1.m))/\∀(e0:Bool),True->aD e0 (K (AV.bh []) [Obj.ext (some []),Obj.box 56 (AV.agg [AV.int (toInt
 (ae e1.t 0)),AV.str (toStr (ae e1.t 1)),AV.int (toInt (ae e1.t 2)),AV.ad 56 (ai (ae e1.t 3))])]) (K (AV.bh []) [Obj.ext none,Obj.box 56 (AV.agg [AV.int
 (toInt (ae e1.t 0)),AV.str (toStr (ae e1.t 1)),AV.int (toInt (ae e1.t 2)),AV.ad 56 (ai (ae e1.t 3))])]))/\K (AV.bh []) [Obj.ext none,Obj.box 56 z1]):=by kernel_rfl
theorem Yv(κ:Kp)(r:Nat)(hp: ∀args st K,(∃m,m<r/\LI m args st K)->cM (Pr κ) 265 args st K):aB (Iu κ r)/\aj (Iu κ r)/\(Iu κ r).P=Pr κ:=
 have h:aB (Db κ r):=(V5 κ).gZ hp
 have h2:aB (zy κ r):=(h.addRange (VM κ r) (W5 κ r)).dv _
 have hm:aj (zy κ r):=((VM κ r).addRange (Fp κ r)).dv _
 ⟨h2.ak hm (l56 κ r),hm.ak aG,rfl⟩
theorem c56(κ:Kp)(r:Nat):bt (Iu κ r) 12 265 (LI r):=by
 refine aZ ?_
 rintro t K ⟨h1,h2⟩ ho
 have hn: ∀b,K (.bh []) [.ext none,b]:=fun b=>ho _ trivial
 have h0: ∀b,K (.bh []) [.ext (some []),b]:=fun b=>ho _ trivial
 refine Eq.mpr (y56 κ r t _ K) ?_
 rw[dh,Tm.jf] at h1
 have hl:=fA (aa (ai (ae t 3)))
 rw[eP] at hl
 rw[A4]
 refine⟨_,rfl,⟨rfl,⟨_,[],t,ai (ae t 3),0⟩,rfl,⟨by simp only;omega,by simp only;omega,by simp only;omega,?_,?_,rfl⟩,?_⟩,hn _⟩
 ·simp only[ab8,ab1];omega
 ·simp only[ab8,ab1];omega
 ·intro y _
  cases y
  ·exact hn _
  ·exact h0 _
def Ae(a:AV):Prop:=(cR a).jf<=100000
theorem q56(κ:Kp): ∀args st K,aL NY Ae Gg args st K->cM (Pr κ) 265 args st K:=by
 rintro args st K ⟨l,h1,h2,h3⟩
 exact aB.tX LI (Iu κ) (Yv κ) (c56 κ) (cR l).jf args st K ⟨l,h1,⟨rfl,h2⟩,h3⟩
noncomputable def Kk(κ:Kp):Env:=(Wa κ).ax 265 (aL NY Ae Gg)
theorem e56(κ:Kp):aB (Kk κ):=(V5 κ).gZ (q56 κ)
theorem Z8(κ:Kp):aj (Kk κ):=(ZZ κ).ax aJ
structure vM where
 xs:List AV
 more:List AV
 r:cm
 bl:List AV
 ts:List AV
 i:Int
abbrev EE(a:vM):AV:=po 56 (nth a.ts (0+a.i.toNat))
abbrev FG(a:vM):S:=sp 46 [(2, .ptr 2 0 [] 0),(3, .an 3 0 a.ts.length),(14, .ad 72 a.bl),(15, .int a.bl.length),(16, .int a.i)] [.ext (some a.xs), .box 66 (ar a.r), .box 187 (.cD 0), .row 56 a.ts]
theorem Yr(κ:Kp)(a:vM)(I:Nat->S->Prop)(n:Nat)(K:Exit->S->Prop):(vc (Kk κ) 12 238 none 2 (af (Pr κ).toProgram 238 3) (FG a) (bK (Kk κ) 238 3 2 I n K))=(
 letI z1:=nth a.bl a.i.toNat
 letI z2:=a.i<(↑(a.bl.length):Int)
 letI z3:=ae (ae z1 1) 1
 aD (decide z2) (aX (decide ((0:Int)<=a.i)&&decide z2) (aX (decide ((a.ts.length+2+1)*57<=70368744177664)) (aX (decide ((a.ts.length+2+
 List.length (ai z3)+1)*57<=70368744177664)) (∃(e0:Nat),e0<n/\I e0 (sp 46 [(2,AV.ptr 2 0 [] 0),(3,AV.an 3 0 (a.ts.length+2+List.length (ai
 z3))),(14,AV.ad 72 a.bl),(15,AV.int (↑(a.bl.length):Int)),(16,AV.int (IntKind.wrap IntKind.i64 (a.i+(1:Int))))] [Obj.ext (some a.xs),Obj.box 66 (ar
 a.r),Obj.box 187 (AV.cD 0),Obj.row 56 (List.take (a.ts.length+2) (List.take a.ts.length a.ts++[AV.agg [AV.int (toInt (ae (ae z1 2) 0)),AV.str (toStr (ae
 (ae z1 2) 1)),AV.int (toInt (ae (ae z1 2) 2)),AV.ad 56 (ai (ae (ae z1 2) 3))],AV.agg [AV.int (toInt (ae (ae z1 3) 0)),AV.str (toStr (ae (ae z1 3) 1)),
 AV.int (toInt (ae (ae z1 3) 2)),AV.ad 56 (ai (ae (ae z1 3) 3))]])++ai z3)]))))) (K (Exit.exit 0) (sp 46 [(2,AV.ptr 2 0 [] 0),(3,AV.an 3 0 a.ts.length)]
 [Obj.ext (some a.xs),Obj.box 66 (ar a.r),Obj.box 187 (AV.cD 0),Obj.row 56 a.ts]))):=by kernel_rfl
def dL(l:List AV):List AV:=l.flatMap fun a=>[po 56 (ae a 2),po 56 (ae a 3)]++ai (ae (ae a 1) 1)
def FW(a:vM):Prop:=a.bl.length<=aR/\0<=a.i/\a.i<=a.bl.length/\(a.ts++dL (a.bl.drop a.i.toNat)).length<=100000
def Ac(a:vM):Out (Exit×S):= .one (.exit 0,sp 46 [(2, .ptr 2 0 [] 0),(3, .an 3 0 (a.ts++dL (a.bl.drop a.i.toNat)).length)] [.ext (some a.xs), .box 66 (ar a.r), .box 187 (.cD 0), .row 56 (a.ts++dL (a.bl.drop a.i.toNat))])
theorem Fm(l:List AV)(i:Nat)(h:i<l.length):dL (l.drop i)=[po 56 (ae (nth l i) 2),po 56 (ae (nth l i) 3)]++ai (ae (ae (nth l i) 1) 1)++dL (l.drop (i+1)):=by
 rw[ab2 h,bf l i h];rfl
theorem Yo(κ:Kp):bj (Kk κ) 12 238 3 (aO 2 FG FW Ac):=by
 refine aK (fun a=>a.bl.length - a.i.toNat) ?_
 rintro⟨xs,more,r,bl,ts,i⟩ K ⟨h1,h2,h3,h4⟩ ho
 simp only at h1 h2 h3 h4
 rw[show(Kk κ).P=Pr κ from rfl]
 refine Eq.mpr (Yr κ ⟨xs,more,r,bl,ts,i⟩ _ _ K) ?_
 simp only[and_self]
 simp only[Ac,Out.run] at ho
 simp only[aR] at h1
 simp only[ah,aq,aa1,aa3,aa2]
 refine⟨fun hi=>⟨⟨h2,hi⟩,?_⟩,fun hi=>?_⟩
 ·have hp:=Fm bl i.toNat (by omega)
  rw[hp] at h4 ho
  rw[aW (n:=i+1) (by omega) (by omega)]
  simp only[ab9,List.length_cons,List.length_nil] at h4
  refine⟨by omega,by omega,_,?_,⟨xs,more,r,bl,ts++([po 56 (ae (nth bl i.toNat) 2),po 56 (ae (nth bl i.toNat) 3)]++ai (ae (ae (nth bl i.toNat) 1) 1)),i+1⟩,?_,⟨by simpa[aR] using h1,by simp only;omega,by simp only;omega,?_⟩,rfl,?_⟩
  ·simp only;omega
  ·simp only[FG,ab9,List.length_cons,List.length_nil,List.take_length]
   rw[List.take_of_length_le (by simp),show ts.length+2+(ai (ae (ae (nth bl i.toNat) 1) 1)).length=ts.length+(0+1+1+(ai (ae (ae (nth bl i.toNat) 1) 1)).length) by omega,List.append_assoc]
   rfl
  ·simp only[ab9,List.length_cons,List.length_nil,show(i+1).toNat=i.toNat+1 by omega];omega
  ·simp only[Ac,Out.run,show(i+1).toNat=i.toNat+1 by omega]
   simpa only[List.append_assoc] using ho
 ·rw[aa9 (by omega)] at ho
  simpa[dL] using ho
noncomputable def BP(κ:Kp):Env:=(Kk κ).ak 238 3 (aO 2 FG FW Ac)
theorem Wp(κ:Kp):aB (BP κ):=(e56 κ).ak (Z8 κ) (Yo κ)
theorem Tz(κ:Kp):aj (BP κ):=(Z8 κ).ak aG
noncomputable abbrev U2(a:vM)(κ:Kp)(st:LoopState)(p:Option Code):Dn.Obj:=
 .loop (gl (Pr κ).toProgram 238 11 st p (fW (bG 46) [(2, .ptr 2 0 [] 0),(7, .ptr 4 0 [] 0),(32, .an 3 0 a.ts.length),(33, .int a.ts.length),(34, .int a.i),(35, .bool true),
  (36, .ptr 3 (0+a.i.toNat) [] 0),(37,EE a),(38,EE a),(39, .bL 265 [.ptr 5 0 [] 0])]))
noncomputable abbrev pL(κ:Kp)(a:vM):List Dn.Obj:=[.ext (some a.xs), .box 66 (ar a.r), .box 187 (.cD 0), .row 56 a.ts, .box 56 (EE a), .box 56 (EE a),U2 a κ .ready none]
noncomputable abbrev zt(κ:Kp)(a:vM)(o:Option (List AV))(st:LoopState)(p:Option Code):List Dn.Obj:=[.ext o, .box 66 (ar a.r), .box 187 (.cD 0), .row 56 a.ts, .box 56 (EE a), .dead,U2 a κ st p]
theorem Xh(κ:Kp)(a:vM)(Q:List Dn.Obj->Prop):(tidy (Pr κ).toProgram 7 (dV (pL κ a) (cz (pL κ a) [.ptr 5 0 [] 0])) Q)=(
 letI z1:=nth a.ts (0+a.i.toNat)
 letI z2:=toInt (ae z1 0)
 letI z3:=toStr (ae z1 1)
 letI z4:=toInt (ae z1 2)
 letI z5:=ai (ae z1 3)
 Q [Obj.ext (some a.xs),Obj.box 66 (ar a.r),Obj.box 187 (AV.cD 0),Obj.row 56 a.ts,Obj.box 56 (AV.agg [AV.int z2,AV.str z3,AV.int z4,AV.ad 56 z5]),
 Obj.dead,Dn.Obj.loop (gl Tryz.prog 238 11 LoopState.ready none (fW (bG 46) [(2,AV.ptr 2 0 [] 0),(7,AV.ptr 4 0 [] 0),(32,AV.an 3 0 a.ts.length),(33,
 AV.int (↑(a.ts.length):Int)),(34,AV.int a.i),(35,AV.bool true),(36,AV.ptr 3 (0+a.i.toNat) [] 0),(37,AV.agg [AV.int z2,AV.str z3,AV.int z4,AV.ad
 56 z5]),(38,AV.agg [AV.int z2,AV.str z3,AV.int z4,AV.ad 56 z5]),(39,AV.bL 265 [AV.ptr 5 0 [] 0])]))]):=by kernel_rfl
theorem r42(κ:Kp)(a:vM)(o:List AV)(u:AV)(Q:List Dn.Obj->Prop)(K2:List Dn.Obj->Prop):(gW (vc (BP κ) 12) 6 [po 56 u] (zt κ a (some o) .ready none) (fun r st''=>match r with| .lit (.bool true)=>tidy (Pr κ).toProgram 7 st'' Q| .lit (.bool false)=>K2 st''|_=>False))=(
 letI z3:=nth a.ts (0+a.i.toNat)
 letI z4:=toInt (ae z3 0)
 letI z5:=toStr (ae z3 1)
 letI z6:=toInt (ae z3 2)
 letI z7:=ai (ae z3 3)
 letI z1:=AV.agg [AV.int z4,AV.str z5,AV.int z6,AV.ad 56 z7]
 letI z2:=fW (bG 46) [(2,AV.ptr 2 0 [] 0),(7,AV.ptr 4 0 [] 0),(32,AV.an 3 0 a.ts.length),(33,AV.int (↑(a.ts.length):Int)),(34,AV.int a.i),(35,
  AV.bool true),(36,AV.ptr 3 (0+a.i.toNat) [] 0),(37,AV.agg [AV.int z4,AV.str z5,AV.int z6,AV.ad 56 z7]),(38,AV.agg [AV.int z4,AV.str z5,AV.int z6,
  AV.ad 56 z7]),(39,AV.bL 265 [AV.ptr 5 0 [] 0])]
 ∃(e0:List AV),o=AV.bh [AV.agg [AV.int (toInt (ae u 0)),AV.str (toStr (ae u 1)),AV.int (toInt (ae u 2)),AV.ad 56 (ai (ae u 3))]]::e0/\Q [Obj.ext
 (some e0),Obj.box 66 (ar a.r),Obj.box 187 (AV.cD 0),Obj.row 56 a.ts,Obj.box 56 z1,Obj.dead,Dn.Obj.loop (gl Tryz.prog 238 11 LoopState.ready none z2)]/\K2
 [Obj.ext none,Obj.box 66 (ar a.r),Obj.box 187 (AV.cD 0),Obj.row 56 a.ts,Obj.box 56 z1,Obj.dead,Dn.Obj.loop (gl Tryz.prog 238 11 LoopState.done (some
 Code.ret) z2),Obj.box 56 (AV.agg [AV.int (toInt (ae u 0)),AV.str (toStr (ae u 1)),AV.int (toInt (ae u 2)),AV.ad 56 (ai (ae u 3))])]):=by kernel_rfl
theorem k42(κ:Kp)(a:vM)(xs:List AV):(AV.cD 0::fU (jG (cz (pL κ a) [.ptr 5 0 [] 0])) [.ptr 5 0 [] 0],Obj.ext (some xs)::gA (jG (cz (pL κ a) [.ptr 5 0 [] 0])) (gT (pL κ a) (cz (pL κ a) [.ptr 5 0 [] 0])))=([.cD 0, .ptr 1 0 [] 0],[.ext (some xs), .box 56 (EE a)]):=by kernel_rfl
theorem o42(κ:Kp)(a:vM):oi (pL κ a) [.ptr 5 0 [] 0]=true:=by kernel_rfl
noncomputable def J7(κ:Kp):dC:=fun caps st K=>∃a:vM,(caps,st)=([AV.ptr 5 0 [] 0],pL κ a)/\((cR (nth a.ts a.i.toNat)).jf<=100000/\a.xs=pf 56 (nth a.ts a.i.toNat)++a.more)/\
 (K (zt κ a (some a.more) .ready none)/\∀u:AV,K (zt κ a none .done (some .ret)++[.box 56 (po 56 u)]))
theorem Ed(κ:Kp):(J7 κ).ji:=by
 rintro caps st K K' hK ⟨a,h1,h2,h3,h4⟩
 exact⟨a,h1,h2,hK _ h3,fun u=>hK _ (h4 u)⟩
theorem call42(κ:Kp)(args:List AV)(st:List Dn.Obj)(K:AV->List Dn.Obj->Prop)(h:aL NY Ae Gg args st K):(BP κ).call 265 args st K:=h
theorem XF(κ:Kp):lq (BP κ) 12 265 (J7 κ):=by
 rintro caps st K ⟨a,h1,⟨h3,h4⟩,h5,h6⟩
 obtain⟨rfl,rfl⟩:=Prod.mk.inj h1
 refine⟨pf 56 (nth a.ts a.i.toNat),fun items st'=>(∀x,x∈items->sv 56 x)/\st'=zt κ a (some (items++a.more)) .ready none,⟨o42 κ a,?_,?_,?_,?_⟩⟩
 ·refine call42 κ _ _ _ ⟨nth a.ts a.i.toNat,?_,h3,fun st' h=>h⟩
  rw[k42,EE,Nat.zero_add];rfl
 ·rw[show(BP κ).P=Pr κ from rfl,show(pL κ a).length=7 from rfl,Xh]
  exact⟨mZ _ _ _ (Nat.lt_succ_self _),by rw[h4];rfl⟩
 ·rintro us rest st' ⟨e1,rfl⟩
  obtain⟨u,hu⟩:=e1 (.bh us) (by simp)
  obtain rfl:=AV.bh.inj hu
  rw[show(BP κ).P=Pr κ from rfl,show(pL κ a).length=7 from rfl]
  refine Eq.mpr (r42 κ a _ u _ _) ?_
  exact⟨_,rfl,⟨fun x hx=>e1 x (by simp[hx]),rfl⟩,h6 u⟩
 ·rintro st' ⟨_,rfl⟩
  exact h5
noncomputable def uE(κ:Kp):Env:=((BP κ).addRange 238 11 265 (J7 κ)).dv (fun f=>jm f Ni)
theorem Xu(κ:Kp):aB (uE κ):=((Wp κ).addRange (Tz κ) (XF κ)).dv _
theorem UG(κ:Kp):aj (uE κ):=((Tz κ).addRange (Ed κ)).dv _
abbrev G9(a:vM):S:=sp 46 [(2, .ptr 2 0 [] 0),(32, .an 3 0 a.ts.length),(33, .int a.ts.length),(34, .int a.i)] [.ext (some a.xs), .box 66 (ar a.r), .box 187 (.cD 0), .row 56 a.ts]
theorem Yt(κ:Kp)(a:vM)(I:Nat->S->Prop)(n:Nat)(K:Exit->S->Prop):(vc (uE κ) 12 238 none 2 (af (Pr κ).toProgram 238 8) (G9 a) (bK (uE κ) 238 8 2 I n K))=(
 letI z2:=nth a.ts (0+a.i.toNat)
 letI z3:=a.ts.length
 letI z4:=toInt (ae z2 0)
 letI z5:=toStr (ae z2 1)
 letI z6:=toInt (ae z2 2)
 letI z7:=ai (ae z2 3)
 letI z1:=AV.agg [AV.int z4,AV.str z5,AV.int z6,AV.ad 56 z7]
 aD (decide (a.i<(↑z3:Int))) (aX (decide ((0:Int)<=a.i)&&decide (a.i<(↑z3:Int))) (∃(e1:vM),([AV.ptr 5 0 [] 0],[Obj.ext (some a.xs),Obj.box 66
 (ar a.r),Obj.box 187 (AV.cD 0),Obj.row 56 a.ts,Obj.box 56 z1,Obj.box 56 z1,Dn.Obj.loop (gl Tryz.prog 238 11 LoopState.ready none (fW (bG 46) [(2,AV.ptr 2
 0 [] 0),(7,AV.ptr 4 0 [] 0),(32,AV.an 3 0 a.ts.length),(33,AV.int (↑z3:Int)),(34,AV.int a.i),(35,AV.bool true),(36,AV.ptr 3 (0+a.i.toNat) [] 0),
 (37,AV.agg [AV.int z4,AV.str z5,AV.int z6,AV.ad 56 z7]),(38,AV.agg [AV.int z4,AV.str z5,AV.int z6,AV.ad 56 z7]),(39,AV.bL 265 [AV.ptr 5 0 [] 0])]))])
 =([AV.ptr 5 0 [] 0],[Obj.ext (some e1.xs),Obj.box 66 (ar e1.r),Obj.box 187 (AV.cD 0),Obj.row 56 e1.ts,Obj.box 56 (AV.agg [AV.int (toInt (ae (nth e1.ts (0
 +e1.i.toNat)) 0)),AV.str (toStr (ae (nth e1.ts (0+e1.i.toNat)) 1)),AV.int (toInt (ae (nth e1.ts (0+e1.i.toNat)) 2)),AV.ad 56 (ai (ae (nth e1.ts (0+
 e1.i.toNat)) 3))]),Obj.box 56 (AV.agg [AV.int (toInt (ae (nth e1.ts (0+e1.i.toNat)) 0)),AV.str (toStr (ae (nth e1.ts (0+e1.i.toNat)) 1)),AV.int (toInt
 (ae (nth e1.ts (0+e1.i.toNat)) 2)),AV.ad 56 (ai (ae (nth e1.ts (0+e1.i.toNat)) 3))]),Dn.Obj.loop (gl Tryz.prog 238 11 LoopState.ready none (fW (bG 46)
 [(2,AV.ptr 2 0 [] 0),(7,AV.ptr 4 0 [] 0),(32,AV.an 3 0 e1.ts.length),(33,AV.int (↑(e1.ts.length):Int)),(34,AV.int e1.i),(35,AV.bool true),(36,
 AV.ptr 3 (0+e1.i.toNat) [] 0),(37,AV.agg [AV.int (toInt (ae (nth e1.ts (0+e1.i.toNat)) 0)),AV.str (toStr (ae (nth e1.ts (0+e1.i.toNat)) 1)),AV.int
 (toInt (ae (nth e1.ts (0+e1.i.toNat)) 2)),AV.ad 56 (ai (ae (nth e1.ts (0+e1.i.toNat)) 3))]),(38,AV.agg [AV.int (toInt (ae (nth e1.ts (0+e1.i.toNat))
 0)),AV.str (toStr (ae (nth e1.ts (0+e1.i.toNat)) 1)),AV.int (toInt (ae (nth e1.ts (0+e1.i.toNat)) 2)),AV.ad 56 (ai (ae (nth e1.ts (0+e1.i.toNat))
 3))]),(39,AV.bL 265 [AV.ptr 5 0 [] 0])]))])/\(Tm.jf (cR (nth e1.ts e1.i.toNat))<=100000/\e1.xs=pf 56 (nth e1.ts e1.i.toNat)++e1.more)/\(∃(e0:Nat),
 e0<n/\I e0 (sp 46 [(2,AV.ptr 2 0 [] 0),(32,AV.an 3 0 a.ts.length),(33,AV.int (↑z3:Int)),(34,AV.int (IntKind.wrap IntKind.i64 (a.i+(1:Int))))]
 [Obj.ext (some e1.more),Obj.box 66 (ar e1.r),Obj.box 187 (AV.cD 0),Obj.row 56 e1.ts]))/\∀(e0:AV),K Exit.ret (sp 46 [] [Obj.ext none,Obj.box 66 (ar
 e1.r)]))) (K (Exit.exit 2) (sp 46 [] [Obj.ext (some a.xs),Obj.box 66 (ar a.r)]))):=by kernel_rfl
def zB(a:vM):Prop:=a.ts.length<=aR/\0<=a.i/\a.i<=a.ts.length/\a6 (aa (a.ts.drop a.i.toNat))<=100000/\a.xs=fI 56 (a.ts.drop a.i.toNat)
def L7(a:vM):Out (Exit×S):= .all (fun _:Bool=>True) fun b=> .aD b (.one (.exit 2,sp 46 [] [.ext (some []), .box 66 (ar a.r)])) (.one (.ret,sp 46 [] [.ext none, .box 66 (ar a.r)]))
theorem Xb(κ:Kp):bj (uE κ) 12 238 8 (aO 2 G9 zB L7):=by
 refine aK (fun a=>a.ts.length - a.i.toNat) ?_
 rintro⟨xs,more,r,bl,m,i⟩ K ⟨h1,h2,h3,h5,h6⟩ ho
 simp only at h1 h2 h3 h5 h6
 rw[show(uE κ).P=Pr κ from rfl]
 refine Eq.mpr (Yt κ ⟨xs,more,r,bl,m,i⟩ _ _ K) ?_
 have ho1:=ho true trivial
 have ho2:=ho false trivial
 simp only[Out.run,aD] at ho1 ho2
 simp only[aR] at h1
 simp only[ah,aq,aa1,aa3,aa2]
 refine⟨fun hi=>⟨⟨h2,hi⟩,?_⟩,fun hi=>?_⟩
 ·have hc:=wM m i.toNat (by omega)
  rw[uk _ m i.toNat (by omega)] at h6
  rw[aW (n:=i+1) (by omega) (by omega)]
  refine⟨⟨xs,fI 56 (m.drop (i.toNat+1)),r,bl,m,i⟩,rfl,⟨by simp only;omega,h6⟩,⟨_,?_,⟨_,more,r,bl,m,i+1⟩,rfl,⟨by simpa[aR] using h1,by simp only;omega,by simp only;omega,?_,?_⟩,rfl,ho⟩,fun _=>ho2⟩
  ·simp only;omega
  ·simp only[show(i+1).toNat=i.toNat+1 by omega];omega
  ·simp only[show(i+1).toNat=i.toNat+1 by omega]
 ·rw[aa9 (by omega)] at h6
  subst h6
  exact ho1
noncomputable def KV(κ:Kp):Env:=(uE κ).ak 238 8 (aO 2 G9 zB L7)
theorem Xz(κ:Kp):aB (KV κ):=(Xu κ).ak (UG κ) (Xb κ)
theorem VD(κ:Kp):aj (KV κ):=(UG κ).ak aG
theorem y42(κ:Kp)(a:cm)(K:AV->List Dn.Obj->Prop):(a8 (KV κ) 12 238 [.cD 0, .ptr 1 0 [] 0] [.ext (some a.xs), .box 66 (ar a)] K)=(
 letI z1:=Pg.toProgram (Env.P (Kk κ))
 letI z2:=Pg.toProgram (Env.P (uE κ))
 (Ra a.hl=true->af z1 238 3=af z1 238 3/\∃(e2:vM),sp 46 [(2,AV.ptr 2 0 [] 0),(3,AV.an 3 0 0),(14,AV.ad 72 a.bl),(15,AV.int (↑(a.bl.length):
 Int)),(16,AV.int 0)] [Obj.ext (some a.xs),Obj.box 66 (ar a),Obj.box 187 (AV.cD 0),Obj.row 56 []]=sp 46 [(2,AV.ptr 2 0 [] 0),(3,AV.an 3 0
 e2.ts.length),(14,AV.ad 72 e2.bl),(15,AV.int (↑(e2.bl.length):Int)),(16,AV.int e2.i)] [Obj.ext (some e2.xs),Obj.box 66 (ar e2.r),Obj.box 187 (AV.cD
 0),Obj.row 56 e2.ts]/\(e2.bl.length<=9223372036854775807/\(0:Int)<=e2.i/\e2.i<=(↑(e2.bl.length):Int)/\List.length (e2.ts++dL (List.drop e2.i.toNat
 e2.bl))<=100000)/\af z2 238 8=af z2 238 8/\∃(e1:vM),sp 46 [(2,AV.ptr 2 0 [] 0),(32,AV.an 3 0 (List.length (e2.ts++dL (List.drop e2.i.toNat
 e2.bl)))),(33,AV.int (↑(List.length (e2.ts++dL (List.drop e2.i.toNat e2.bl))):Int)),(34,AV.int 0)] [Obj.ext (some e2.xs),Obj.box 66 (ar e2.r),Obj.box
 187 (AV.cD 0),Obj.row 56 (e2.ts++dL (List.drop e2.i.toNat e2.bl))]=sp 46 [(2,AV.ptr 2 0 [] 0),(32,AV.an 3 0 e1.ts.length),(33,AV.int (↑(e1.ts.length)
 :Int)),(34,AV.int e1.i)] [Obj.ext (some e1.xs),Obj.box 66 (ar e1.r),Obj.box 187 (AV.cD 0),Obj.row 56 e1.ts]/\(e1.ts.length<=9223372036854775807/\(0:
 Int)<=e1.i/\e1.i<=(↑(e1.ts.length):Int)/\a6 (aa (List.drop e1.i.toNat e1.ts))<=100000/\e1.xs=fI 56 (List.drop e1.i.toNat e1.ts))/\∀(e0:Bool),True
 ->aD e0 (K (AV.bh []) [Obj.ext (some []),Obj.box 66 (ar e1.r)]) (K (AV.bh []) [Obj.ext none,Obj.box 66 (ar e1.r)]))/\aX (decide ((0+a.hl.length+1)*57<=
 70368744177664)) (af z1 238 3=af z1 238 3/\∃(e2:vM),sp 46 [(2,AV.ptr 2 0 [] 0),(3,AV.an 3 0 (0+a.hl.length)),(14,AV.ad 72 a.bl),(15,AV.int
 (↑(a.bl.length):Int)),(16,AV.int 0)] [Obj.ext (some a.xs),Obj.box 66 (ar a),Obj.box 187 (AV.cD 0),Obj.row 56 ([]++a.hl)]=sp 46 [(2,AV.ptr 2 0 [] 0),
 (3,AV.an 3 0 e2.ts.length),(14,AV.ad 72 e2.bl),(15,AV.int (↑(e2.bl.length):Int)),(16,AV.int e2.i)] [Obj.ext (some e2.xs),Obj.box 66 (ar e2.r),Obj.box
 187 (AV.cD 0),Obj.row 56 e2.ts]/\(e2.bl.length<=9223372036854775807/\(0:Int)<=e2.i/\e2.i<=(↑(e2.bl.length):Int)/\List.length (e2.ts++dL (List.drop
 e2.i.toNat e2.bl))<=100000)/\af z2 238 8=af z2 238 8/\∃(e1:vM),sp 46 [(2,AV.ptr 2 0 [] 0),(32,AV.an 3 0 (List.length (e2.ts++dL (List.drop
 e2.i.toNat e2.bl)))),(33,AV.int (↑(List.length (e2.ts++dL (List.drop e2.i.toNat e2.bl))):Int)),(34,AV.int 0)] [Obj.ext (some e2.xs),Obj.box 66 (ar
 e2.r),Obj.box 187 (AV.cD 0),Obj.row 56 (e2.ts++dL (List.drop e2.i.toNat e2.bl))]=sp 46 [(2,AV.ptr 2 0 [] 0),(32,AV.an 3 0 e1.ts.length),(33,AV.int
 (↑(e1.ts.length):Int)),(34,AV.int e1.i)] [Obj.ext (some e1.xs),Obj.box 66 (ar e1.r),Obj.box 187 (AV.cD 0),Obj.row 56 e1.ts]/\(e1.ts.length<=
 9223372036854775807/\(0:Int)<=e1.i/\e1.i<=(↑(e1.ts.length):Int)/\a6 (aa (List.drop e1.i.toNat e1.ts))<=100000/\e1.xs=fI 56 (List.drop e1.i.toNat
 e1.ts))/\∀(e0:Bool),True->aD e0 (K (AV.bh []) [Obj.ext (some []),Obj.box 66 (ar e1.r)]) (K (AV.bh []) [Obj.ext none,Obj.box 66 (ar e1.r)]))):=by kernel_rfl
def Ro(a:cm):List AV×List Dn.Obj:=([.cD 0, .ptr 1 0 [] 0],[.ext (some (fI 56 (bm 56 a.hl a.bl))), .box 66 (ar a)])
def dd(a:cm):Prop:=a6 (aa (bm 56 a.hl a.bl))<=100000/\a.bl.length<=100000
def Mw(_:cm):Out (AV×List Dn.Obj):= .all (fun st'=>rA st') fun st'=> .one (.bh [],st')
theorem c42(κ:Kp):bt (KV κ) 12 238 (aL Ro dd Mw):=by
 refine aZ ?_
 rintro⟨xs,more,rel,hl,bl,line,i⟩ K ⟨h1,h2⟩ ho
 have hn: ∀b,K (.bh []) [.ext none,b]:=fun b=>ho _ trivial
 have h0: ∀b,K (.bh []) [.ext (some []),b]:=fun b=>ho _ trivial
 simp only at h1 h2
 have hl1:=fA (aa (bm 56 hl bl))
 rw[eP] at hl1
 have hle:hl.length<=100000:=by
  have:(bm 56 hl bl).length=hl.length+(dL bl).length:=by simp[bm,dL]
  omega
 refine Eq.mpr (y42 κ ⟨fI 56 (bm 56 hl bl),more,rel,hl,bl,line,i⟩ K) ?_
 have hz: ∀ts:List AV,ts=hl->(ts++dL (List.drop (Int.toNat 0) bl))=bm 56 hl bl:=fun ts h=>by subst h;rfl
 have fin: ∀ts:List AV,ts=hl->∃a:vM,sp 46 [(2, .ptr 2 0 [] 0),(32, .an 3 0 (ts++dL (List.drop (Int.toNat 0) bl)).length),(33, .int (ts++dL (List.drop (Int.toNat 0) bl)).length),(34, .int 0)] [.ext (some (fI 56 (bm 56 hl bl))), .box 66 (ar ⟨fI 56 (bm 56 hl bl),more,rel,hl,bl,line,i⟩), .box 187 (.cD 0), .row 56 (ts++dL (List.drop (Int.toNat 0) bl))]=G9 a/\zB a/\∀y:Bool,True->aD y (K (.bh []) [.ext (some []), .box 66 (ar a.r)]) (K (.bh []) [.ext none, .box 66 (ar a.r)]):=by
  intro ts h
  refine⟨⟨_,[],⟨fI 56 (bm 56 hl bl),more,rel,hl,bl,line,i⟩,bl,ts++dL (List.drop (Int.toNat 0) bl),0⟩,rfl,⟨?_,?_,?_,?_,?_⟩,fun y _=>?_⟩
  ·simp only[hz ts h,aR];omega
  ·simp only;omega
  ·simp only;omega
  ·show a6 (aa (List.drop (Int.toNat 0) (ts++dL (List.drop (Int.toNat 0) bl))))<=100000
   rw[hz ts h];exact h1
  ·rw[hz ts h];rfl
  ·cases y
   ·exact hn _
   ·exact h0 _
 refine⟨fun e=>?_,?_⟩
 ·obtain rfl:hl=[]:=by
   cases hl with
   |nil=>rfl
   |cons=>cases e
  refine⟨rfl,⟨_,[],⟨fI 56 (bm 56 [] bl),more,rel,[],bl,line,i⟩,bl,[],0⟩,rfl,⟨by simp only;omega,by simp only;omega,by simp only;omega,?_⟩,rfl,fin [] rfl⟩
  rw[hz [] rfl];exact Nat.le_trans hl1 h1
 ·rw[aq,aa1]
  refine⟨by simp only;omega,rfl,⟨_,[],⟨fI 56 (bm 56 hl bl),more,rel,hl,bl,line,i⟩,bl,[]++hl,0⟩,?_,⟨by simp only;omega,by simp only;omega,by simp only;omega,?_⟩,rfl,fin ([]++hl) rfl⟩
  ·rw[Nat.zero_add];rfl
  ·rw[hz ([]++hl) rfl];exact Nat.le_trans hl1 h1
set_option maxRecDepth 20000 in
noncomputable def Pw(κ:Kp):Env:=(KV κ).ax 238 (aL Ro dd Mw)
theorem e42(κ:Kp):aB (Pw κ):=(Xz κ).ax (VD κ) (c42 κ)
theorem Ze(κ:Kp):aj (Pw κ):=(VD κ).ax aJ
def aF(a:cm):Rl:=⟨⟨a.rel,aa a.hl⟩,dg a.bl⟩
noncomputable abbrev Tq(a:cm)(κ:Kp)(st:LoopState)(p:Option Code):Dn.Obj:=
 .loop (gl (Pr κ).toProgram 124 6 st p (fW (bG 31) [(0,ar a),(1, .ptr 0 0 [] 0),(2, .nil),(3, .ptr 1 0 [] 0),(4, .ptr 3 0 [] 0),(6,ar a),(7, .bool (aM (aF a))),(8, .bool false),(9, .mp 2),(10,ar a),(11, .bL 238 [.ptr 4 0 [] 0])]))
noncomputable abbrev pK(κ:Kp)(a:cm):List Dn.Obj:=[.box 66 (ar a), .box 54 .nil, .map 9 4 [], .box 177 (.mp 2), .box 66 (ar a),Tq a κ .ready none]
theorem s12(κ:Kp)(a:cm)(Q:List Dn.Obj->Prop):(tidy (Pr κ).toProgram 6 (dV (pK κ a) (cz (pK κ a) [.ptr 4 0 [] 0])) Q)=(
 Q [Obj.box 66 (ar a),Obj.box 54 (AV.an 6 0 0),Dn.Obj.map 9 4 [],Obj.box 177 (AV.mp 2),Obj.dead,Dn.Obj.loop (gl Tryz.prog 124 6 LoopState.ready none (fW (bG
 31) [(0,ar a),(1,AV.ptr 0 0 [] 0),(2,AV.nil),(3,AV.ptr 1 0 [] 0),(4,AV.ptr 3 0 [] 0),(6,ar a),(7,AV.bool (aM (aF a))),(8,AV.bool false),(9,
 AV.mp 2),(10,ar a),(11,AV.bL 238 [AV.ptr 4 0 [] 0])])),Obj.row 9 []]):=by kernel_rfl
noncomputable abbrev zu(κ:Kp)(a:cm)(vs:List ByteArray)(es:List (Value×AV)):List Dn.Obj:=[.box 66 (ar a), .box 54 (.an 6 0 vs.length), .map 9 4 es, .box 177 (.mp 2), .dead,Tq a κ .ready none, .row 9 (strs vs)]
theorem r12(κ:Kp)(a:cm)(vs:List ByteArray)(es:List (Value×AV))(u:AV)(Q:List Dn.Obj->Prop)(K2:List Dn.Obj->Prop):(gW (vc (Pw κ) 12) 5 [po 56 u] (zu κ a vs es) (fun r st''=>match r with| .lit (.bool true)=>tidy (Pr κ).toProgram 6 st'' Q| .lit (.bool false)=>K2 st''|_=>False))=(
 letI z1:=gl Tryz.prog 124 6 LoopState.ready none (fW (bG 31) [(0,ar a),(1,AV.ptr 0 0 [] 0),(2,AV.nil),(3,AV.ptr 1 0 [] 0),(4,AV.ptr 3 0 [] 0),(6,ar
  a),(7,AV.bool (aM (aF a))),(8,AV.bool false),(9,AV.mp 2),(10,ar a),(11,AV.bL 238 [AV.ptr 4 0 [] 0])])
 letI z2:=Q [Obj.box 66 (ar a),Obj.box 54 (AV.an 6 0 vs.length),Dn.Obj.map 9 4 es,Obj.box 177 (AV.mp 2),Obj.dead,Dn.Obj.loop z1,Obj.row 9 (strs vs)]
 letI z3:=Value.string (toStr (ae u 1))
 aD (toInt (ae u 0) != (1:Int)) z2 (aD (Dn.toBool (dp es z3 (AV.bool false))) z2 (aX (decide ((vs.length+1+1)*17<=70368744177664)) (Q [Obj.box 66 (ar
 a),Obj.box 54 (AV.an 6 0 (vs.length+1)),Dn.Obj.map 9 4 (eX es z3 (AV.bool true)),Obj.box 177 (AV.mp 2),Obj.dead,Dn.Obj.loop z1,Obj.row 9 (List.take
 vs.length (strs vs)++[AV.str (toStr (ae u 1))])])))):=by kernel_rfl
theorem k12(κ:Kp)(a:cm)(xs:List AV):(AV.cD 0::fU (jG (cz (pK κ a) [.ptr 4 0 [] 0])) [.ptr 4 0 [] 0],Obj.ext (some xs)::gA (jG (cz (pK κ a) [.ptr 4 0 [] 0])) (gT (pK κ a) (cz (pK κ a) [.ptr 4 0 [] 0])))=([.cD 0, .ptr 1 0 [] 0],[.ext (some xs), .box 66 (ar a)]):=by kernel_rfl
theorem o12(κ:Kp)(a:cm):oi (pK κ a) [.ptr 4 0 [] 0]=true:=by kernel_rfl
noncomputable def JC(κ:Kp):dC:=fun caps st K=>∃a:cm,(caps,st)=([AV.ptr 4 0 [] 0],pK κ a)/\dd a/\K (zu κ a (mK [] (ft (aF a))) (bR (mK [] (ft (aF a)))))
theorem DV(κ:Kp):(JC κ).ji:=by
 rintro caps st K K' hK ⟨a,h1,h2,h3⟩
 exact⟨a,h1,h2,hK _ h3⟩
theorem call12(κ:Kp)(args:List AV)(st:List Dn.Obj)(K:AV->List Dn.Obj->Prop)(h:aL Ro dd Mw args st K):(Pw κ).call 238 args st K:=h
theorem Yh(κ:Kp):lq (Pw κ) 12 238 (JC κ):=by
 rintro caps st K ⟨a,h1,h3,h5⟩
 obtain⟨rfl,rfl⟩:=Prod.mk.inj h1
 have hv:=iH 56 a.rel a.hl a.bl
 rw[←sP 56] at hv
 have hb:(ft (aF a)).length<=100000:=by
  have h6:=cx (aa (bm 56 a.hl a.bl))
  rw[iH 56 a.rel a.hl a.bl] at h6
  exact Nat.le_trans h6 h3.1
 have hd:=k9 (ft (aF a)) []
 refine⟨fI 56 (bm 56 a.hl a.bl),fun items st'=>∃vs,(∀x,x∈items->sv 56 x)/\st'=zu κ a vs (bR vs)/\vs++mK vs (items.flatMap uH)=mK [] (ft (aF a)),⟨o12 κ a,?_,?_,?_,?_⟩⟩
 ·refine call12 κ _ _ _ ⟨a,?_,h3,fun st' h=>h⟩
  rw[k12];rfl
 ·rw[show(Pw κ).P=Pr κ from rfl,show(pK κ a).length=6 from rfl,s12]
  exact⟨[],BM _ _,rfl,by rw[hv];rfl⟩
 ·rintro us rest st' ⟨vs,e1,rfl,e3⟩
  obtain⟨u,hu⟩:=e1 (.bh us) (by simp)
  obtain rfl:=AV.bh.inj hu
  rw[show(Pw κ).P=Pr κ from rfl,show(pK κ a).length=6 from rfl]
  refine Eq.mpr (r12 κ a vs _ u _ _) ?_
  have e1': ∀x,x∈rest->sv 56 x:=fun x hx=>e1 x (by simp[hx])
  have hi:uH (.bh [po 56 u])=bif decide (toInt (ae u 0)=1) then[toStr (ae u 1)] else[]:=rfl
  rw[List.flatMap_cons,hi] at e3
  have hin:Dn.toBool (dp (bR vs) (.string (toStr (ae u 1))) (.lit (.bool false)))=vs.contains (toStr (ae u 1)):=oJ _ _
  rw[hin]
  simp only[ah,aq,bne_iff_ne,bne_eq_false_iff_eq,aa1]
  refine⟨fun e=>⟨vs,e1',rfl,?_⟩,fun e=>⟨fun e4=>⟨vs,e1',rfl,?_⟩,fun e4=>⟨?_,vs++[toStr (ae u 1)],e1',?_,?_⟩⟩⟩
  ·rw[aa5 e] at e3;exact e3
  ·rw[aa7 e,aa8,List.singleton_append,mK,e4] at e3;exact e3
  ·have:=congrArg List.length e3
   rw[ab9] at this;omega
  ·rw[OE,←aV vs,List.take_length]
   simp only[zu,ie,aV,ab9,List.length_cons,List.length_nil]
   rfl
  ·rw[aa7 e,aa8,List.singleton_append,mK,e4,aa6] at e3
   simpa using e3
 ·rintro st' ⟨vs,_,rfl,e3⟩
  have e4:vs=mK [] (ft (aF a)):=by simpa[mK] using e3
  rw[e4];exact h5
noncomputable def Le(κ:Kp):Env:=((Pw κ).addRange 124 6 238 (JC κ)).dv (fun f=>jm f Ni)
theorem WB(κ:Kp):aB (Le κ):=((e42 κ).addRange (Ze κ) (Yh κ)).dv _
theorem Uq(κ:Kp):aj (Le κ):=((Ze κ).addRange (DV κ)).dv _
theorem y12(κ:Kp)(a:cm)(K:AV->List Dn.Obj->Prop):(a8 (Le κ) 12 124 [ar a] [] K)=(
 letI z1:=AV.agg [AV.agg [AV.str a.rel,AV.ad 56 a.hl],AV.ad 72 a.bl,AV.int a.line]
 aX (decide (a.hl.length<=9223372036854775807)&&decide (a.bl.length<=9223372036854775807)) (aD (!aM {head:={rel:=a.rel,l:=aa a.hl},body:=dg a.bl}) (K AV.nil []) (∃(e0:cm),([AV.ptr 4 0 [] 0],[Obj.box 66 z1,Obj.box 54 AV.nil,Dn.Obj.map 9 4 [],Obj.box 177 (AV.mp 2),Obj.box 66 z1,Dn.Obj.loop (gl Tryz.prog 124 6 LoopState.ready none (fW (bG 31) [(0,AV.agg [AV.agg [AV.str a.rel,AV.ad 56 a.hl],AV.ad 72 a.bl,AV.int a.line]),(1,AV.ptr 0 0 [] 0),(2,AV.nil),(3,AV.ptr 1 0 [] 0),(4,AV.ptr 3 0 [] 0),(6,AV.agg [AV.agg [AV.str a.rel,AV.ad 56 a.hl],AV.ad 72 a.bl,AV.int a.line]),(7,AV.lit (Value.bool (aM {head:={rel:=a.rel,l:=aa a.hl},body:=dg a.bl}))),(8,AV.bool false),(9,AV.mp 2),(10,AV.agg [AV.agg [AV.str a.rel,AV.ad 56 a.hl],AV.ad 72 a.bl,AV.int a.line]),(11,AV.bL 238 [AV.ptr 4 0 [] 0])]))])=([AV.ptr 4 0 [] 0],[Obj.box 66 (AV.agg [AV.agg [AV.str e0.rel,AV.ad 56 e0.hl],AV.ad 72 e0.bl,AV.int e0.line]),Obj.box 54 AV.nil,Dn.Obj.map 9 4 [],Obj.box 177 (AV.mp 2),Obj.box 66 (AV.agg [AV.agg [AV.str e0.rel,AV.ad 56 e0.hl],AV.ad 72 e0.bl,AV.int e0.line]),Dn.Obj.loop (gl Tryz.prog 124 6 LoopState.ready none (fW (bG 31) [(0,AV.agg [AV.agg [AV.str e0.rel,AV.ad 56 e0.hl],AV.ad 72 e0.bl,AV.int e0.line]),(1,AV.ptr 0 0 [] 0),(2,AV.nil),(3,AV.ptr 1 0 [] 0),(4,AV.ptr 3 0 [] 0),(6,AV.agg [AV.agg [AV.str e0.rel,AV.ad 56 e0.hl],AV.ad 72 e0.bl,AV.int e0.line]),(7,AV.bool (aM (aF e0))),(8,AV.bool false),(9,AV.mp 2),(10,AV.agg [AV.agg [AV.str e0.rel,AV.ad 56 e0.hl],AV.ad 72 e0.bl,AV.int e0.line]),(11,AV.bL 238 [AV.ptr 4 0 [] 0])]))])/\(a6 (aa (bm 56 e0.hl e0.bl))<=100000/\e0.bl.length<=100000)/\K (AV.an 0 0 (List.length (mK [] (ft (aF e0))))) [Obj.row 9 (strs (mK [] (ft (aF e0))))]))):=by kernel_rfl
def Uw(a:cm):List AV×List Dn.Obj:=([ar a],[])
def K8(a:cm):Prop:=aM (aF a)=true/\dd a
def K7(a:cm):Out (AV×List Dn.Obj):= .one (.an 0 0 (cZ (aF a)).length,[.row 9 (strs (cZ (aF a)))])
theorem c12(κ:Kp):bt (Le κ) 12 124 (aL Uw K8 K7):=by
 refine aZ ?_
 rintro⟨xs,more,rel,hl,bl,line,i⟩ K ⟨h0,h1,h2⟩ ho
 refine Eq.mpr (y12 κ ⟨xs,more,rel,hl,bl,line,i⟩ K) ?_
 have hr:aM ⟨⟨rel,aa hl⟩,dg bl⟩=true:=h0
 simp only at h1 h2
 have hl1:=fA (aa (bm 56 hl bl))
 rw[eP] at hl1
 have hle:hl.length<=100000:=by
  have:(bm 56 hl bl).length=hl.length+(dL bl).length:=by simp[bm,dL]
  omega
 simp only[hr,aq,ah,aa2,aa1]
 refine⟨⟨by omega,by omega⟩,(fun e=>nomatch e),fun _=>⟨⟨xs,more,rel,hl,bl,line,i⟩,?_,⟨h1,h2⟩,?_⟩⟩
 ·rw[show aM (aF ⟨xs,more,rel,hl,bl,line,i⟩)=true from h0]
 ·simp only[K7,Out.run,cZ,h0,aa8] at ho
  exact ho
set_option maxRecDepth 20000 in
noncomputable def MU(κ:Kp):Env:=(Le κ).ax 124 (aL Uw K8 K7)
theorem e12(κ:Kp):aB (MU κ):=(WB κ).ax (Uq κ) (c12 κ)
theorem ZU(κ:Kp):aj (MU κ):=(Uq κ).ax aJ
theorem nM: ∀l m:List Tm,a6 (l++m)=a6 l+a6 m
 |[],m=>by simp[a6]
 |t::l,m=>by simp only[List.cons_append,a6,nM l m];omega
theorem o5{a:cm}(h:dd a):a6 (aa a.hl)<=100000:=by
 have:=h.1
 unfold bm aa at this
 rw[List.map_append,nM] at this
 unfold aa;omega
theorem FR: ∀(l:List AV) (x:AV),x∈l->iQ (cK x)<=a6 (aa (dL l))
 |[],_,h=>by simp at h
 | y::l,x,h=>by
  have e:a6 (aa (dL (y::l)))=iQ (cK y)+a6 (aa (dL l)):=by
   unfold dL aa
   rw[List.flatMap_cons,List.map_append,nM,List.map_append,nM]
   simp only[iQ,cK,Eu,aa,ac1,ac2,rG]
  rw[e]
  rcases List.mem_cons.1 h with rfl|h
  ·omega
  ·have:=FR l x h;omega
theorem kE{a:cm}(h:dd a){i:Nat}(hi:i<a.bl.length):iQ (cK (nth a.bl i))<=100000:=by
 have h1:=h.1
 have e:bm 56 a.hl a.bl=a.hl++dL a.bl:=rfl
 rw[e] at h1
 unfold aa at h1
 rw[List.map_append,nM] at h1
 have:=FR a.bl (nth a.bl i) (by rw[bf _ _ hi];exact List.getElem_mem hi)
 unfold aa at this;omega
theorem km(l:List AV){i:Nat}(hi:i<l.length):dR (dg l) i=cK (nth l i):=by
 unfold dR dg
 rw[List.getD_eq_getElem?_getD,List.getElem?_map,ab7 hi,bf l i hi];rfl
def sa(x:AV):LA:=⟨toInt (ae x 0),toStr (ae (ae x 1) 0),ai (ae (ae x 1) 1),toInt (ae (ae x 2) 0),toStr (ae (ae x 2) 1),toInt (ae (ae x 2) 2),ai (ae (ae x 2) 3),toInt (ae (ae x 3) 0),toStr (ae (ae x 3) 1),toInt (ae (ae x 3) 2),ai (ae (ae x 3) 3)⟩
theorem eD(x:AV):(sa x).lt=cK x:=by rw[lt_eq];rfl
structure Sw where
 a:cm
 k:Int
 i:Int
 vs:List ByteArray
abbrev PO(a:Sw):S:=sp 53 [(1, .int a.k),(2, .ptr 0 0 [] 0),(5, .ptr 1 0 [] 0),(17, .ad 72 a.a.bl),(18, .int a.a.bl.length),(19, .int a.i)] [.box 66 (ar a.a), .box 178 (.mp 2), .map 9 4 (bR a.vs)]
theorem x39(κ:Kp)(a:cm)(k i:Int)(es:List (Value×AV))(I:Nat->S->Prop)(n:Nat)(K:Exit->S->Prop):(vc (MU κ) 12 188 none 0 (af (Pr κ).toProgram 188 4) (sp 53 [(1, .int k),(2, .ptr 0 0 [] 0),(5, .ptr 1 0 [] 0),(17, .ad 72 a.bl),(18, .int a.bl.length),(19, .int i)] [.box 66 (ar a), .box 178 (.mp 2), .map 9 4 es]) (bK (MU κ) 188 4 0 I n K))=(
 letI z3:=nth a.bl i.toNat
 letI z4:=IntKind.wrap IntKind.i64 (i+(1:Int))
 letI z5:=a.bl.length
 letI z1:=∃(e2:List AV),([AV.ad 56 [AV.agg [AV.int (toInt (ae (ae z3 2) 0)),AV.str (toStr (ae (ae z3 2) 1)),AV.int (toInt (ae (ae z3 2) 2)),AV.ad 56 (ai
  (ae (ae z3 2) 3))]]],aI)=([AV.ad 56 e2],aI)/\bF e2/\∃(e1:List AV×List (Value×AV)),([AV.mp 0,AV.ad 9 (List.take (List.length (ay (aa e2)))
  (List.drop 0 (strs (ay (aa e2)))))],[Dn.Obj.map 9 4 es])=([AV.mp 0,AV.ad 9 e1.1],[Dn.Obj.map 9 4 e1.2])/\bq e1/\∃(e0:Nat),e0<n/\I e0 (sp 53 [(1,
  AV.int k),(2,AV.ptr 0 0 [] 0),(5,AV.ptr 1 0 [] 0),(17,AV.ad 72 a.bl),(18,AV.int (↑z5:Int)),(19,AV.int z4)] [Obj.box 66 (ar a),Obj.box 178 (AV.mp
  2),Dn.Obj.map 9 4 (fF e1.2 e1.1)])
 letI z2:=∃(e2:LA),([AV.agg [AV.int (toInt (ae z3 0)),AV.agg [AV.str (toStr (ae (ae z3 1) 0)),AV.ad 56 (ai (ae (ae z3 1) 1))],AV.agg [AV.int (toInt (ae
  (ae z3 2) 0)),AV.str (toStr (ae (ae z3 2) 1)),AV.int (toInt (ae (ae z3 2) 2)),AV.ad 56 (ai (ae (ae z3 2) 3))],AV.agg [AV.int (toInt (ae (ae z3 3) 0)),
  AV.str (toStr (ae (ae z3 3) 1)),AV.int (toInt (ae (ae z3 3) 2)),AV.ad 56 (ai (ae (ae z3 3) 3))]]],aI)=([AV.agg [AV.int e2.op,AV.agg [AV.str e2.s,AV.ad 56
  e2.l],AV.agg [AV.int e2.o1,AV.str e2.s1,AV.int e2.n1,AV.ad 56 e2.l1],AV.agg [AV.int e2.o2,AV.str e2.s2,AV.int e2.n2,AV.ad 56 e2.l2]]],aI)/\gm e2/\∃
  (e1:List AV×List (Value×AV)),([AV.mp 0,AV.ad 9 (List.take (List.length (ej (LA.lt e2))) (List.drop 0 (strs (ej (LA.lt e2)))))],[Dn.Obj.map 9 4 es])=
  ([AV.mp 0,AV.ad 9 e1.1],[Dn.Obj.map 9 4 e1.2])/\bq e1/\∃(e0:Nat),e0<n/\I e0 (sp 53 [(1,AV.int k),(2,AV.ptr 0 0 [] 0),(5,AV.ptr 1 0 [] 0),(17,
  AV.ad 72 a.bl),(18,AV.int (↑z5:Int)),(19,AV.int z4)] [Obj.box 66 (ar a),Obj.box 178 (AV.mp 2),Dn.Obj.map 9 4 (fF e1.2 e1.1)])
 aD (decide (i<(↑z5:Int))) (aX (decide ((0:Int)<=i)&&decide (i<(↑z5:Int))) (aD (i==k) (z1/\z1/\z1) (z2/\z2))) (K (Exit.exit 0) (sp 53 [(1,
 AV.int k),(2,AV.ptr 0 0 [] 0),(5,AV.ptr 1 0 [] 0)] [Obj.box 66 (ar a),Obj.box 178 (AV.mp 2),Dn.Obj.map 9 4 es]))):=by kernel_rfl
def GU(a:Sw):Prop:=dd a.a/\0<=a.k/\0<=a.i/\a.i<=a.a.bl.length
def oB(a:Sw):List ByteArray:=a.vs++Ch a.k.toNat (dg (a.a.bl.drop a.i.toNat)) a.i.toNat
def wO(a:Sw):Out (Exit×S):= .one (.exit 0,sp 53 [(1, .int a.k),(2, .ptr 0 0 [] 0),(5, .ptr 1 0 [] 0)] [.box 66 (ar a.a), .box 178 (.mp 2), .map 9 4 (bR (oB a))])
theorem l39(κ:Kp):bj (MU κ) 12 188 4 (aO 0 PO GU wO):=by
 refine aK (fun a=>a.a.bl.length - a.i.toNat) ?_
 rintro⟨a,k,i,vs⟩ K ⟨h1,h2,h3,h4⟩ ho
 simp only at h1 h2 h3 h4
 rw[show(MU κ).P=Pr κ from rfl]
 refine Eq.mpr (x39 κ a k i (bR vs) _ _ K) ?_
 simp only[and_self]
 have hl:=h1.2
 simp only[wO,oB,Out.run] at ho
 simp only[ah,aq,aa1,aa3,aa2,beq_iff_eq,beq_eq_false_iff_ne]
 refine⟨fun hi=>⟨⟨h3,hi⟩,?_⟩,fun hi=>?_⟩
 ·have hlit:=kE h1 (i:=i.toNat) (by omega)
  rw[nE a.bl i.toNat (by omega),Ch] at ho
  rw[aW (n:=i+1) (by omega) (by omega)]
  refine⟨fun e=>?_,fun e=>?_⟩
  ·subst e
   rw[Nat.beq_refl,aa8,←List.append_assoc] at ho
   have ht:aa [po 56 (ae (nth a.bl i.toNat) 2)]=[(cK (nth a.bl i.toNat)).x]:=by
    simp only[aa,ac1,ac2,rG];rfl
   have hc:a6 [(cK (nth a.bl i.toNat)).x]<=100000:=by
    have:iQ (cK (nth a.bl i.toNat))=a6 [(cK (nth a.bl i.toNat)).x,(cK (nth a.bl i.toNat)).y]+a6 (cK (nth a.bl i.toNat)).a.l:=rfl
    simp only[a6] at this⊢;omega
   have hv:=cx [(cK (nth a.bl i.toNat)).x]
   refine⟨[po 56 (ae (nth a.bl i.toNat) 2)],rfl,by simp only[bF,ht];exact hc,⟨strs (ay [(cK (nth a.bl i.toNat)).x]),bR vs⟩,?_,?_,_,?_,⟨a,i,i+1,vs++ay [(cK (nth a.bl i.toNat)).x]⟩,?_,⟨h1,h2,by simp only;omega,by simp only;omega⟩,rfl,?_⟩
   ·simp only[ab1,cX,ht]
   ·simp only[bq,aV,aR];omega
   ·simp only;omega
   ·simp only[lY]
   ·simp only[wO,oB,Out.run,show(i+1).toNat=i.toNat+1 by omega]
    exact ho
  ·rw[sD (show i.toNat≠k.toNat by omega),aa6,←List.append_assoc] at ho
   have hv:=cx [(cK (nth a.bl i.toNat)).x,(cK (nth a.bl i.toNat)).y]
   have hv2:=cx (cK (nth a.bl i.toNat)).a.l
   have hlen:(ej (cK (nth a.bl i.toNat))).length<=100000:=by
    simp only[ej,iQ,ab9] at hlit⊢;omega
   refine⟨sa (nth a.bl i.toNat),rfl,by rw[gm,eD];exact hlit,⟨strs (ej (cK (nth a.bl i.toNat))),bR vs⟩,?_,?_,_,?_,⟨a,k,i+1,vs++ej (cK (nth a.bl i.toNat))⟩,?_,⟨h1,h2,by simp only;omega,by simp only;omega⟩,rfl,?_⟩
   ·simp only[ab1,cX,eD]
   ·simp only[bq,aV,aR];omega
   ·simp only;omega
   ·simp only[lY]
   ·simp only[wO,oB,Out.run,show(i+1).toNat=i.toNat+1 by omega]
    exact ho
 ·rw[aa9 (by omega)] at ho
  simpa[dg,Ch] using ho
noncomputable def oC(κ:Kp):Env:=(MU κ).ak 188 4 (aO 0 PO GU wO)
theorem RG(κ:Kp):aB (oC κ):=(e12 κ).ak (ZU κ) (l39 κ)
theorem Kv(κ:Kp):aj (oC κ):=(ZU κ).ak aG
def dD(fP:List (Value×AV))(fM:List (Value×AV))(s:ByteArray):Bool:=lO fP s&&lO fM s
structure DO where
 vs:List ByteArray
 i:Int
 fP:List (Value×AV)
 fM:List (Value×AV)
abbrev B9(R:List AV)(fP:List (Value×AV))(fM:List (Value×AV)):List Dn.Obj:=[.row 9 R, .box 178 (.mp 2), .map 9 4 fP, .box 178 (.mp 4), .map 9 4 fM]
abbrev Oq:AV:= .bL 237 [.ptr 1 0 [] 0, .ptr 3 0 [] 0]
abbrev IM(a:DO):S:=sp 19 [(0, .an 0 0 (strs a.vs).length),(1,Oq),(7, .int (strs a.vs).length),(8, .int a.i)] (B9 (strs a.vs) a.fP a.fM)
theorem xFO(κ:Kp)(a:DO)(I:Nat->S->Prop)(n:Nat)(K:Exit->S->Prop):(vc (oC κ) 12 190 none 5 (af (Pr κ).toProgram 190 2) (IM a) (bK (oC κ) 190 2 5 I n K))=(
 letI z1:=K Exit.ret (sp 19 [(4,AV.int a.i)] [Obj.row 9 (strs a.vs),Obj.box 178 (AV.mp 2),Dn.Obj.map 9 4 a.fP,Obj.box 178 (AV.mp 4),Dn.Obj.map 9 4 a.fM])
 letI z2:=List.length (strs a.vs)
 letI z3:=Value.string (toStr (nth (strs a.vs) (0+a.i.toNat)))
 aD (decide (a.i<(↑z2:Int))) (aX (decide ((0:Int)<=a.i)&&decide (a.i<(↑z2:Int))) (aD (!Dn.toBool (dp a.fP z3 (AV.bool false))) z1 (aD (!Dn.toBool
 (dp a.fM z3 (AV.bool false))) z1 (∃(e0:Nat),e0<n/\I e0 (sp 19 [(0,AV.an 0 0 z2),(1,AV.bL 237 [AV.ptr 1 0 [] 0,AV.ptr 3 0 [] 0]),(7,AV.int (↑z2:
 Int)),(8,AV.int (IntKind.wrap IntKind.i64 (a.i+(1:Int))))] [Obj.row 9 (strs a.vs),Obj.box 178 (AV.mp 2),Dn.Obj.map 9 4 a.fP,Obj.box 178 (AV.mp 4),
 Dn.Obj.map 9 4 a.fM]))))) (K (Exit.exit 0) (sp 19 [] [Obj.row 9 (strs a.vs),Obj.box 178 (AV.mp 2),Dn.Obj.map 9 4 a.fP,Obj.box 178 (AV.mp 4),Dn.Obj.map 9 4
 a.fM]))):=by kernel_rfl
def Fg(a:DO):Prop:=a.vs.length<=aR/\0<=a.i/\a.i<=a.vs.length/\∀s,s∈a.vs.take a.i.toNat->dD a.fP a.fM s=true
def Dl(a:DO):Out (Exit×S):=
 .aD (a.vs.all (dD a.fP a.fM)) (.one (.exit 0,sp 19 [] (B9 (strs a.vs) a.fP a.fM)))
  (.all (fun j:Int=>um (dD a.fP a.fM) a.vs j) fun j=> .one (.ret,sp 19 [(4, .int j)] (B9 (strs a.vs) a.fP a.fM)))
theorem lFO(κ:Kp):bj (oC κ) 12 190 2 (aO 5 IM Fg Dl):=by
 refine aK (fun a=>a.vs.length - a.i.toNat) ?_
 rintro⟨vs,i,fP,fM⟩ K ⟨h1,h2,h3,h4⟩ ho
 simp only at h1 h2 h3 h4
 rw[show(oC κ).P=Pr κ from rfl]
 refine Eq.mpr (xFO κ ⟨vs,i,fP,fM⟩ _ _ K) ?_
 simp only[aR] at h1
 simp only[Dl,Out.run,ah] at ho
 have hl:=aV vs
 simp only[aV,Nat.zero_add]
 have fin:i<vs.length->∀(hi:i.toNat<vs.length),(dD fP fM vs[i.toNat]=false->K .ret (sp 19 [(4, .int i)] (B9 (strs vs) fP fM)))/\
   (dD fP fM vs[i.toNat]=true->∃m,m<vs.length - i.toNat/\fq IM Fg Dl (fun a=>a.vs.length - a.i.toNat) K m (IM ⟨vs,i+1,fP,fM⟩)):=by
  intro hi0 hi
  refine⟨fun e=>ho.2 ?_ i ⟨h2,hi,h4,e⟩,fun e=>⟨_,?_,⟨vs,i+1,fP,fM⟩,rfl,⟨by simpa[aR] using h1,by simp only;omega,by simp only;omega,?_⟩,rfl,?_⟩⟩
  ·rw[Bool.eq_false_iff]
   intro hall
   rw[List.all_eq_true.1 hall _ (List.getElem_mem hi)] at e
   cases e
  ·simp only;omega
  ·intro s hs
   simp only at hs
   rw[show(i+1).toNat=i.toNat+1 by omega,List.take_succ_eq_append_getElem hi,List.mem_append,List.mem_singleton] at hs
   rcases hs with hs|hs
   ·exact h4 s hs
   ·rw[hs];exact e
  ·simp only[Dl,Out.run,ah]
   exact ho
 simp only[ah,aq,aa1,aa3,aa2,Bool.not_eq_true',ab3]
 refine⟨fun hi=>⟨⟨h2,hi⟩,?_⟩,fun hi=>?_⟩
 ·have hi':i.toNat<vs.length:=by omega
  have hn:toStr (nth (strs vs) i.toNat)=vs[i.toNat]:=by rw[wZ vs _ hi'];rfl
  rw[aW (n:=i+1) (by omega) (by omega),hn]
  have hf:=fin hi hi'
  simp only[IM,aV] at hf
  exact⟨fun e=>hf.1 (by unfold dD lO;rw[e];rfl),fun e=>⟨fun e2=>hf.1 (by unfold dD lO;rw[e,e2];rfl),fun e2=>hf.2 (by unfold dD lO;rw[e,e2];rfl)⟩⟩
 ·refine ho.1 (List.all_eq_true.2 fun s hs=>h4 s ?_)
  rw[List.take_of_length_le (by omega)];exact hs
noncomputable def OQ(κ:Kp):Env:=(oC κ).ak 190 2 (aO 5 IM Fg Dl)
theorem eFO(κ:Kp):aB (OQ κ):=(RG κ).ak (Kv κ) (lFO κ)
theorem Y0(κ:Kp):aj (OQ κ):=(Kv κ).ak aG
structure GO where
 R:List AV
 i:Int
 j:Int
 fP:List (Value×AV)
 fM:List (Value×AV)
 P:List ByteArray
 ws:List ByteArray
abbrev CO(a:GO):S:=sp 42 [(0, .an 0 0 a.R.length),(1,Oq),(5, .int a.i),(6, .int a.j)] (B9 a.R a.fP a.fM)
theorem xGO(κ:Kp)(a:GO)(I:Nat->S->Prop)(n:Nat)(K:Exit->S->Prop):(vc (OQ κ) 12 123 none 5 (af (Pr κ).toProgram 123 5) (CO a) (bK (OQ κ) 123 5 5 I n K))=(
 letI z2:=toStr (nth a.R (0+a.j.toNat))
 letI z3:=IntKind.wrap IntKind.i64 (a.j+(1:Int))
 letI z1:=∃(e0:Nat),e0<n/\I e0 (sp 42 [(0,AV.an 0 0 a.R.length),(1,AV.bL 237 [AV.ptr 1 0 [] 0,AV.ptr 3 0 [] 0]),(5,AV.int a.i),(6,AV.int z3)]
  [Obj.row 9 a.R,Obj.box 178 (AV.mp 2),Dn.Obj.map 9 4 a.fP,Obj.box 178 (AV.mp 4),Dn.Obj.map 9 4 a.fM])
 letI z4:=a.j<(↑(a.R.length):Int)
 aD (decide z4) (aX (decide ((0:Int)<=a.j)&&decide z4) (aD (!Dn.toBool (dp a.fP (Value.string z2) (AV.bool false))) z1 (aD (!!Dn.toBool (dp a.fM
 (Value.string z2) (AV.bool false))) (aX (decide ((0:Int)<=a.i)&&decide (a.i<(↑(a.R.length):Int))) (∃(e0:Nat),e0<n/\I e0 (sp 42 [(0,AV.an 0 0
 a.R.length),(1,AV.bL 237 [AV.ptr 1 0 [] 0,AV.ptr 3 0 [] 0]),(5,AV.int (IntKind.wrap IntKind.i64 (a.i+(1:Int)))),(6,AV.int z3)] [Obj.row 9 (cg a.R (0
 +a.i.toNat) (AV.str z2)),Obj.box 178 (AV.mp 2),Dn.Obj.map 9 4 a.fP,Obj.box 178 (AV.mp 4),Dn.Obj.map 9 4 a.fM]))) z1))) (K (Exit.exit 0) (sp 42 [(0,AV.an 0
 0 a.R.length),(5,AV.int a.i)] [Obj.row 9 a.R,Obj.box 178 (AV.mp 2),Dn.Obj.map 9 4 a.fP,Obj.box 178 (AV.mp 4),Dn.Obj.map 9 4 a.fM]))):=by kernel_rfl
def AG(a:GO):Prop:=a.R.length<=aR/\0<=a.i/\a.i<a.j/\a.j<=a.R.length/\a.R.take a.i.toNat=strs a.P/\a.R.drop a.j.toNat=strs a.ws
def B5(a:GO):Out (Exit×S):= .all (fun R:List AV=>R.length=a.R.length/\R.take (a.P++a.ws.filter (dD a.fP a.fM)).length=strs (a.P++a.ws.filter (dD a.fP a.fM)))
 fun R=> .one (.exit 0,sp 42 [(0, .an 0 0 a.R.length),(5, .int (a.P++a.ws.filter (dD a.fP a.fM)).length)] (B9 R a.fP a.fM))
theorem lGO(κ:Kp):bj (OQ κ) 12 123 5 (aO 5 CO AG B5):=by
 refine aK (fun a=>a.R.length - a.j.toNat) ?_
 rintro⟨R,i,j,fP,fM,P,ws⟩ K ⟨h1,h2,h3,h4,h5,h6⟩ ho
 simp only at h1 h2 h3 h4 h5 h6
 rw[show(OQ κ).P=Pr κ from rfl]
 refine Eq.mpr (xGO κ ⟨R,i,j,fP,fM,P,ws⟩ _ _ K) ?_
 simp only[aR] at h1
 simp only[B5,Out.run] at ho
 simp only[Nat.zero_add]
 have hP:P.length=i.toNat:=by
  have:=congrArg List.length h5
  rw[List.length_take,aV] at this;omega
 have fin: ∀(s:ByteArray) (l:List ByteArray),ws=s::l->j<R.length->nth R j.toNat= .lit (.string s)->
   (dD fP fM s=false->∃m,m<R.length - j.toNat/\fq CO AG B5 (fun a=>a.R.length - a.j.toNat) K m (CO ⟨R,i,j+1,fP,fM,P,l⟩))/\
   (dD fP fM s=true->∃m,m<R.length - j.toNat/\fq CO AG B5 (fun a=>a.R.length - a.j.toNat) K m (CO ⟨cg R i.toNat (.lit (.string s)),i+1,j+1,fP,fM,P++[s],l⟩)):=by
  rintro s l rfl hj hn
  obtain⟨_,_,h7⟩:=jC (l:=strs l) h6
  refine⟨fun e=>⟨_,?_,_,rfl,⟨by simpa[aR] using h1,h2,by simp only;omega,by simp only;omega,h5,?_⟩,rfl,?_⟩,fun e=>⟨_,?_,_,rfl,⟨by simpa[aR,gy] using h1,by simp only;omega,by simp only;omega,by simp only[gy];omega,?_,?_⟩,rfl,?_⟩⟩
  ·simp only;omega
  ·simp only[show(j+1).toNat=j.toNat+1 by omega];exact h7
  ·intro y hy
   have:=ho y
   simp only[List.filter_cons,e,Bool.false_eq_true,if_false] at hy this⊢
   exact this hy
  ·simp only[gy];omega
  ·simp only[show(i+1).toNat=i.toNat+1 by omega]
   rw[sf _ _ _ (by omega),h5,ie];rfl
  ·simp only[show(j+1).toNat=j.toNat+1 by omega]
   rw[sk _ _ _ _ (by omega)];exact h7
  ·intro y hy
   have:=ho y
   simp only[List.filter_cons,e,if_true,gy,List.append_assoc,List.singleton_append] at hy this⊢
   exact this hy
 simp only[ah,aq,aa1,aa3,aa2,Bool.not_eq_true',ab3]
 refine⟨fun hj=>⟨⟨by omega,hj⟩,?_⟩,fun hj=>?_⟩
 ·cases ws with
  |nil=>
   have:=congrArg List.length h6
   rw[List.length_drop,aV] at this
   simp at this;omega
  |cons s l=>
   obtain⟨_,hn,_⟩:=jC (l:=strs l) h6
   have hn':toStr (nth R j.toNat)=s:=by rw[hn];rfl
   have hf:=fin s l rfl hj hn
   simp only[CO,gy] at hf
   rw[aW (n:=i+1) (by omega) (by omega),aW (n:=j+1) (by omega) (by omega),hn']
   exact⟨fun e=>hf.1 (by unfold dD lO;rw[e];rfl),fun e=>⟨fun e2=>⟨⟨by omega,by omega⟩,hf.2 (by unfold dD lO;rw[e,e2];rfl)⟩,fun e2=>hf.1 (by unfold dD lO;rw[e,e2];rfl)⟩⟩
 ·have hw:ws=[]:=by
   have:=congrArg List.length h6
   rw[List.length_drop,aV] at this
   cases ws with
   |nil=>rfl
   |cons=>simp at this;omega
  subst hw
  have:=ho R ⟨rfl,by simp only[List.filter_nil,List.append_nil,hP];exact h5⟩
  simp only[List.filter_nil,List.append_nil,hP,Int.toNat_of_nonneg h2] at this
  exact this
noncomputable def V9(κ:Kp):Env:=(OQ κ).ak 123 5 (aO 5 CO AG B5)
theorem eGO(κ:Kp):aB (V9 κ):=(eFO κ).ak (Y0 κ) (lGO κ)
theorem mGO(κ:Kp):aj (V9 κ):=(Y0 κ).ak aG
theorem yGO(κ:Kp)(a:DO)(K:AV->List Dn.Obj->Prop):(a8 (V9 κ) 12 123 [.an 0 0 (strs a.vs).length,Oq] (B9 (strs a.vs) a.fP a.fM) K)=(
 letI z1:=List.length (strs a.vs)
 letI z2:=Pg.toProgram (Env.P (oC κ))
 letI z3:=Pg.toProgram (Env.P (OQ κ))
 af z2 190 2=af z2 190 2/\∃(e3:DO),sp 19 [(0,AV.an 0 0 z1),(1,AV.bL 237 [AV.ptr 1 0 [] 0,AV.ptr 3 0 [] 0]),(7,AV.int (↑z1:Int)),(8,AV.int 0)] [Obj.row 9 (strs a.vs),Obj.box 178 (AV.mp 2),Dn.Obj.map 9 4 a.fP,Obj.box 178 (AV.mp 4),Dn.Obj.map 9 4 a.fM]=sp 19 [(0,AV.an 0 0 (List.length (strs e3.vs))),(1,AV.bL 237 [AV.ptr 1 0 [] 0,AV.ptr 3 0 [] 0]),(7,AV.int (↑(List.length (strs e3.vs)):Int)),(8,AV.int e3.i)] [Obj.row 9 (strs e3.vs),Obj.box 178 (AV.mp 2),Dn.Obj.map 9 4 e3.fP,Obj.box 178 (AV.mp 4),Dn.Obj.map 9 4 e3.fM]/\(e3.vs.length<=9223372036854775807/\(0:Int)<=e3.i/\e3.i<=(↑(e3.vs.length):Int)/\∀(e0:ByteArray),List.Mem e0 (List.take e3.i.toNat e3.vs)->dD e3.fP e3.fM e0=true)/\aD (List.all e3.vs (dD e3.fP e3.fM)) (K (AV.ad 9 (List.take z1 (List.drop 0 (strs e3.vs)))) [Obj.mq 9 (strs e3.vs),Obj.box 178 (AV.mp 2),Dn.Obj.map 9 4 e3.fP,Obj.box 178 (AV.mp 4),Dn.Obj.map 9 4 e3.fM]) (∀(e2:Int),((0:Int)<=e2/\∃(e1:e2.toNat<e3.vs.length),(∀(e0:ByteArray),List.Mem e0 (List.take e2.toNat e3.vs)->dD e3.fP e3.fM e0=true)/\dD e3.fP e3.fM e3.vs[e2.toNat]=false)->aD (e2==(-1:Int)) (K (AV.ad 9 (List.take z1 (List.drop 0 (strs e3.vs)))) [Obj.mq 9 (strs e3.vs),Obj.box 178 (AV.mp 2),Dn.Obj.map 9 4 e3.fP,Obj.box 178 (AV.mp 4),Dn.Obj.map 9 4 e3.fM]) (af z3 123 5=af z3 123 5/\∃(e1:GO),sp 42 [(0,AV.an 0 0 z1),(1,AV.bL 237 [AV.ptr 1 0 [] 0,AV.ptr 3 0 [] 0]),(5,AV.int e2),(6,AV.int (IntKind.wrap IntKind.i64 (e2+(1:Int))))] [Obj.row 9 (strs e3.vs),Obj.box 178 (AV.mp 2),Dn.Obj.map 9 4 e3.fP,Obj.box 178 (AV.mp 4),Dn.Obj.map 9 4 e3.fM]=sp 42 [(0,AV.an 0 0 e1.R.length),(1,AV.bL 237 [AV.ptr 1 0 [] 0,AV.ptr 3 0 [] 0]),(5,AV.int e1.i),(6,AV.int e1.j)] [Obj.row 9 e1.R,Obj.box 178 (AV.mp 2),Dn.Obj.map 9 4 e1.fP,Obj.box 178 (AV.mp 4),Dn.Obj.map 9 4 e1.fM]/\(e1.R.length<=9223372036854775807/\(0:Int)<=e1.i/\e1.i<e1.j/\e1.j<=(↑(e1.R.length):Int)/\List.take e1.i.toNat e1.R=strs e1.P/\List.drop e1.j.toNat e1.R=strs e1.ws)/\∀(e0:List AV),e0.length=e1.R.length/\List.take (List.length (e1.P++List.filter (dD e1.fP e1.fM) e1.ws)) e0=strs (e1.P++List.filter (dD e1.fP e1.fM) e1.ws)->aX (true&&decide ((↑(List.length (e1.P++List.filter (dD e1.fP e1.fM) e1.ws)):Int)<=(↑(e1.R.length):Int))&&decide ((↑(e1.R.length):Int)<=(↑(e1.R.length):Int))) (aX (true&&decide ((↑(List.length (e1.P++List.filter (dD e1.fP e1.fM) e1.ws)):Int)<=(↑(e1.R.length):Int))) (K (AV.ad 9 (List.take (Int.toNat ((↑(List.length (e1.P++List.filter (dD e1.fP e1.fM) e1.ws)):Int) - (0:Int))) (List.drop 0 (dP e0 (0+Int.toNat (↑(List.length (e1.P++List.filter (dD e1.fP e1.fM) e1.ws)):Int)) (Int.toNat ((↑(e1.R.length):Int) - (↑(List.length (e1.P++List.filter (dD e1.fP e1.fM) e1.ws)):Int))) (AV.str {data:= #[]}))))) [Obj.mq 9 (dP e0 (0+Int.toNat (↑(List.length (e1.P++List.filter (dD e1.fP e1.fM) e1.ws)):Int)) (Int.toNat ((↑(e1.R.length):Int) - (↑(List.length (e1.P++List.filter (dD e1.fP e1.fM) e1.ws)):Int))) (AV.str {data:= #[]})),Obj.box 178 (AV.mp 2),Dn.Obj.map 9 4 e1.fP,Obj.box 178 (AV.mp 4),Dn.Obj.map 9 4 e1.fM]))))):=by kernel_rfl
def Hr(a:DO):List AV×List Dn.Obj:=([.an 0 0 a.vs.length,Oq],B9 (strs a.vs) a.fP a.fM)
def kh(a:DO):Prop:=a.vs.length<=aR
def EG(a:DO):Out (AV×List Dn.Obj):= .all (fun _:List AV=>True) fun R=> .one (.ad 9 (strs (a.vs.filter (dD a.fP a.fM))),[.mq 9 R, .box 178 (.mp 2), .map 9 4 a.fP, .box 178 (.mp 4), .map 9 4 a.fM])
theorem Xn(κ:Kp):bt (V9 κ) 12 123 (aL Hr kh EG):=by
 refine aZ ?_
 rintro⟨vs,i,fP,fM⟩ K h1 ho
 simp only[kh] at h1
 simp only[Hr]
 rw[←aV vs]
 refine Eq.mpr (yGO κ ⟨vs,i,fP,fM⟩ K) ?_
 refine⟨rfl,⟨vs,0,fP,fM⟩,rfl,⟨h1,by simp only;omega,by simp only;omega,fun s hs=>nomatch hs⟩,?_⟩
 rw[ah]
 refine⟨fun e=>?_,fun e y hy=>?_⟩
 ·have hf:vs.filter (dD fP fM)=vs:=List.filter_eq_self.2 (List.all_eq_true.1 e)
  have:=ho (strs vs) trivial
  simp only[hf] at this
  rw[ab1,List.take_length]
  exact this
 ·have hF:=qM hy
  obtain⟨h0,h2,h3,h4⟩:=hy
  simp only at h0 h2
  simp only[aR] at h1
  rw[ah,beq_iff_eq,beq_eq_false_iff_ne]
  refine⟨fun e2=>by omega,fun _=>⟨rfl,⟨strs vs,y,y+1,fP,fM,vs.take y.toNat,vs.drop (y.toNat+1)⟩,?_,⟨by simp only[aV];omega,h0,by simp only;omega,by simp only[aV];omega,?_,?_⟩,?_⟩⟩
  ·rw[aW (n:=y+1) (by omega) (by omega)]
  ·simp only[strs,List.map_take]
  ·simp only[strs,List.map_drop,show(y+1).toNat=y.toNat+1 by omega]
  ·rintro R ⟨r1,r2⟩
   simp only at r1 r2
   rw[←hF] at r2⊢
   have hle:(vs.filter (dD fP fM)).length<=vs.length:=List.length_filter_le _ _
   rw[aq,aq]
   refine⟨by simp[aV,hle],by simp[aV,hle],?_⟩
   have:=ho (dP R (0+Int.toNat ((vs.filter (dD fP fM)).length:Int)) (Int.toNat (((strs vs).length:Int) - ((vs.filter (dD fP fM)).length:Int))) (.lit (.string (ByteArray.mk #[])))) trivial
   simp only[Int.toNat_natCast,Nat.zero_add,Int.sub_zero,ab1,oq,r2] at this⊢
   exact this
theorem Yj(κ:Kp): ∀args st K,aL Hr kh EG args st K->cM (Pr κ) 123 args st K:=fun args st K h=>iK (eGO κ) (mGO κ) (Xn κ args st K h)
noncomputable def JW(κ:Kp):Env:=(oC κ).ax 123 (aL Hr kh EG)
theorem Yf(κ:Kp):aB (JW κ):=(RG κ).gZ (Yj κ)
theorem S1(κ:Kp):aj (JW κ):=(Kv κ).ax aJ
theorem y39(κ:Kp)(a:cm)(k:Int)(K:AV->List Dn.Obj->Prop):(a8 (JW κ) 12 188 [ar a, .int k] [] K)=(
 letI z2:=Pg.toProgram (Env.P (MU κ))
 letI z1:=∃(e7:List AV),([AV.ad 56 a.hl],aI)=([AV.ad 56 e7],aI)/\bF e7/\∃(e6:List AV×List (Value×AV)),([AV.mp 0,AV.ad 9 (List.take
  (List.length (ay (aa e7))) (List.drop 0 (strs (ay (aa e7)))))],[Dn.Obj.map 9 4 []])=([AV.mp 0,AV.ad 9 e6.1],[Dn.Obj.map 9 4 e6.2])/\bq e6/\af z2 188 4=
  af z2 188 4/\∃(e5:Sw),sp 53 [(1,AV.int k),(2,AV.ptr 0 0 [] 0),(5,AV.ptr 1 0 [] 0),(17,AV.ad 72 a.bl),(18,AV.int (↑(a.bl.length):Int)),(19,
  AV.int 0)] [Obj.box 66 (ar a),Obj.box 178 (AV.mp 2),Dn.Obj.map 9 4 (fF e6.2 e6.1)]=sp 53 [(1,AV.int e5.k),(2,AV.ptr 0 0 [] 0),(5,AV.ptr 1 0 [] 0),(17,
  AV.ad 72 e5.a.bl),(18,AV.int (↑(List.length e5.a.bl):Int)),(19,AV.int e5.i)] [Obj.box 66 (ar e5.a),Obj.box 178 (AV.mp 2),Dn.Obj.map 9 4 (bR e5.vs)]/\
  ((a6 (aa (bm 56 e5.a.hl e5.a.bl))<=100000/\List.length e5.a.bl<=100000)/\(0:Int)<=e5.k/\(0:Int)<=e5.i/\e5.i<=(↑(List.length e5.a.bl):Int))/\aX
  (decide ((0:Int)<=e5.k)&&decide (e5.k<(↑(List.length e5.a.bl):Int))) ((∃(e4:List AV),([AV.ad 56 (ai (ae (ae (nth e5.a.bl e5.k.toNat) 1) 1))],aI)=
  ([AV.ad 56 e4],aI)/\bF e4/\∃(e3:List AV×List (Value×AV)),([AV.mp 0,AV.ad 9 (List.take (List.length (ay (aa e4))) (List.drop 0 (strs (ay (aa
  e4)))))],[Dn.Obj.map 9 4 []])=([AV.mp 0,AV.ad 9 e3.1],[Dn.Obj.map 9 4 e3.2])/\bq e3/\∃(e2:cm),([ar e5.a],aI)=([ar e2],aI)/\(aM (aF e2)=true/\
  a6 (aa (bm 56 e2.hl e2.bl))<=100000/\e2.bl.length<=100000)/\∃(e1:DO),([AV.an 0 0 (List.length (cZ (aF e2))),AV.bL 237 [AV.ptr 1 0 [] 0,AV.ptr 3 0 []
  0]],[Obj.row 9 (strs (cZ (aF e2))),Obj.box 178 (AV.mp 2),Dn.Obj.map 9 4 (fF e3.2 e3.1),Obj.box 178 (AV.mp 4),Dn.Obj.map 9 4 (bR (oB e5))])=([AV.an 0 0
  e1.vs.length,AV.bL 237 [AV.ptr 1 0 [] 0,AV.ptr 3 0 [] 0]],[Obj.row 9 (strs e1.vs),Obj.box 178 (AV.mp 2),Dn.Obj.map 9 4 e1.fP,Obj.box 178 (AV.mp 4),
  Dn.Obj.map 9 4 e1.fM])/\kh e1/\∀(e0:List AV),True->K (AV.ad 9 (strs (List.filter (dD e1.fP e1.fM) e1.vs))) [])/\∃(e4:List AV),([AV.ad 56 (ai (ae (ae
  (nth e5.a.bl e5.k.toNat) 1) 1))],aI)=([AV.ad 56 e4],aI)/\bF e4/\∃(e3:List AV×List (Value×AV)),([AV.mp 0,AV.ad 9 (List.take (List.length (ay (aa
  e4))) (List.drop 0 (strs (ay (aa e4)))))],[Dn.Obj.map 9 4 []])=([AV.mp 0,AV.ad 9 e3.1],[Dn.Obj.map 9 4 e3.2])/\bq e3/\∃(e2:cm),([ar e5.a],aI)=([ar
  e2],aI)/\(aM (aF e2)=true/\a6 (aa (bm 56 e2.hl e2.bl))<=100000/\e2.bl.length<=100000)/\∃(e1:DO),([AV.an 0 0 (List.length (cZ (aF e2))),AV.bL 237
  [AV.ptr 1 0 [] 0,AV.ptr 3 0 [] 0]],[Obj.row 9 (strs (cZ (aF e2))),Obj.box 178 (AV.mp 2),Dn.Obj.map 9 4 (fF e3.2 e3.1),Obj.box 178 (AV.mp 4),Dn.Obj.map 9 4
  (bR (oB e5))])=([AV.an 0 0 e1.vs.length,AV.bL 237 [AV.ptr 1 0 [] 0,AV.ptr 3 0 [] 0]],[Obj.row 9 (strs e1.vs),Obj.box 178 (AV.mp 2),Dn.Obj.map 9 4 e1.fP,
  Obj.box 178 (AV.mp 4),Dn.Obj.map 9 4 e1.fM])/\kh e1/\∀(e0:List AV),True->K (AV.ad 9 (strs (List.filter (dD e1.fP e1.fM) e1.vs))) [])
 z1/\z1):=by kernel_rfl
def M9(a:cm×Int):List AV×List Dn.Obj:=([ar a.1, .int a.2],[])
def Ab(a:cm×Int):Prop:=aM (aF a.1)=true/\dd a.1/\0<=a.2/\a.2<a.1.bl.length
def PV(a:cm×Int):Out (AV×List Dn.Obj):= .one (.ad 9 (strs (ei (aF a.1) a.2.toNat)),[])
theorem c39(κ:Kp):bt (JW κ) 12 188 (aL M9 Ab PV):=by
 refine aZ ?_
 rintro⟨a,k⟩ K ⟨h1,h2,h3,h4⟩ ho
 refine Eq.mpr (y39 κ a k K) ?_
 simp only at h1 h2 h3 h4
 have hc:=o5 h2
 have hv:=cx (aa a.hl)
 have hk:k.toNat<a.bl.length:=by omega
 have hlit:=kE h2 hk
 simp only[and_self]
 refine⟨a.hl,rfl,hc,⟨strs (ay (aa a.hl)),[]⟩,?_,?_,trivial,⟨a,k,0,ay (aa a.hl)⟩,rfl,⟨h2,h3,by simp only;omega,by simp only;omega⟩,?_⟩
 ·simp only[ab1,cX]
 ·simp only[bq,aV,aR];omega
 rw[aq,aa2,aa1,aa1]
 have hin:ay (aa (ai (ae (ae (nth a.bl k.toNat) 1) 1)))=ay (dR (aF a).body k.toNat).a.l:=by
  rw[show(aF a).body=dg a.bl from rfl,km _ hk,lt_eq]
 have hcl:a6 (aa (ai (ae (ae (nth a.bl k.toNat) 1) 1)))<=100000:=by
  rw[lt_eq] at hlit
  simp only[iQ] at hlit;omega
 have hvl:=cx (aa (ai (ae (ae (nth a.bl k.toNat) 1) 1)))
 refine⟨⟨h3,h4⟩,_,rfl,hcl,⟨strs (ay (aa (ai (ae (ae (nth a.bl k.toNat) 1) 1)))),[]⟩,?_,?_,a,rfl,⟨h1,h2⟩,⟨cZ (aF a),0,fF [] (strs (ay (aa (ai (ae (ae (nth a.bl k.toNat) 1) 1))))),bR (oB ⟨a,k,0,ay (aa a.hl)⟩)⟩,rfl,?_,?_⟩
 ·simp only[ab1,cX]
 ·simp only[bq,aV,aR];omega
 ·have h5:(ft (aF a)).length<=100000:=by
   have h6:=cx (aa (bm 56 a.hl a.bl))
   rw[iH 56 a.rel a.hl a.bl] at h6
   exact Nat.le_trans h6 h2.1
  have h7:=k9 (ft (aF a)) []
  simp only[kh,cZ,h1,aa8,aR];omega
 ·intro R _
  have hk2:(fun s=>dD (fF [] (strs (ay (aa (ai (ae (ae (nth a.bl k.toNat) 1) 1)))))) (bR (oB ⟨a,k,0,ay (aa a.hl)⟩)) s)=fun v=>(ay (dR (aF a).body k.toNat).a.l).contains v&&(PU (aF a) k.toNat).contains v:=by
   funext s
   unfold dD
   rw[oJ,hin]
   congr 1
   exact oJ _ s
  have hk3:List.filter (dD (fF [] (strs (ay (aa (ai (ae (ae (nth a.bl k.toNat) 1) 1)))))) (bR (oB ⟨a,k,0,ay (aa a.hl)⟩))) (cZ (aF a))=ei (aF a) k.toNat:=by
   unfold ei
   exact congrFun (congrArg _ hk2) _
  simp only[hk3]
  exact ho
noncomputable def ON(κ:Kp):Env:=(JW κ).ax 188 (aL M9 Ab PV)
theorem e39(κ:Kp):aB (ON κ):=(Yf κ).ax (S1 κ) (c39 κ)
theorem Y7(κ:Kp):aj (ON κ):=(S1 κ).ax aJ
end Go.Proofs.YthaiinlfnommnaaGreatDoor
