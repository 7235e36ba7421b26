import Derived.Test.YtioeffnadipbaaaGreatDoorDeM2
import Derived.Test.YtioeffnadipbaaaGreatDoorDeM1
namespace Go.Proofs.YtioeffnadipbaaaGreatDoor
open Go Go.Dn Go.Rl Go.Proofs
attribute [local irreducible] ba vc
set_option maxRecDepth 20000
structure CY where
 xs:List AV
 more:List AV
 t:AV
 m:List AV
 i:Int
abbrev F0(a:CY):AV:=pk 38 (nth a.m a.i.toNat)
def Nl:List Nat:=[171,198,185]
def LI(a:AV):List AV×List Dn.Obj:=([.de 0, .ptr 1 0 [] 0],[.ext (some (oT 38 a)), .box 38 (pk 38 a)])
def OD(n:Nat)(a:AV):Prop:=(cI a).fS=n/\n<=100000
def FC(_:AV):Out (AV×List Dn.Obj):= .all (fun st'=>vh st') fun st'=> .one (.aX [],st')
def KM(n:Nat):b7:=a0 LI (OD n) FC
noncomputable def Bt(κ:Kp)(r:Nat):Env:=(Uk κ).az 198 fun args st K=>∃m,m<r/\KM m args st K
noncomputable abbrev Tk(a:CY)(κ:Kp)(st:LoopState)(p:Option Code):Dn.Obj:=
 .loop (iw (Pr κ).toProgram 198 6 st p (ic (bM 25) [(2, .ptr 2 0 [] 0),(4, .ptr 3 0 [] 0),(11, .ad 38 a.m),(12, .int a.m.length),(13, .int a.i),(14, .bool true),
  (15, .iY 38 (nth a.m a.i.toNat)),(16,F0 a),(17,F0 a),(18, .bq 198 [.ptr 4 0 [] 0])]))
noncomputable abbrev oU(κ:Kp)(a:CY):List Dn.Obj:=[.ext (some a.xs), .box 38 (pk 38 a.t), .box 186 (.de 0), .box 38 (F0 a), .box 38 (F0 a),Tk a κ .ready none]
noncomputable abbrev ym(κ:Kp)(a:CY)(o:Option (List AV))(st:LoopState)(p:Option Code):List Dn.Obj:=[.ext o, .box 38 (pk 38 a.t), .box 186 (.de 0), .box 38 (F0 a), .dead,Tk a κ st p]
theorem ZV(κ:Kp)(a:CY)(Q:List Dn.Obj->Prop):(tidy (Pr κ).toProgram 6 (ez (oU κ a) (dj (oU κ a) [.ptr 4 0 [] 0])) Q)=(
 letI z1:=nth a.m a.i.toNat
 letI z2:=toInt (af z1 0)
 letI z3:=toStr (af z1 1)
 letI z4:=toInt (af z1 2)
 letI z5:=ah (af z1 3)
 Q [Obj.ext (some a.xs),Obj.box 38 (AV.agg [AV.int (toInt (af a.t 0)),AV.str (toStr (af a.t 1)),AV.int (toInt (af a.t 2)),AV.ad 38 (ah (af a.t 3))]),Obj.box
 186 (AV.de 0),Obj.box 38 (AV.agg [AV.int z2,AV.str z3,AV.int z4,AV.ad 38 z5]),Obj.dead,Dn.Obj.loop (iw Tryz.prog 198 6 LoopState.ready none (ic (bM 25)
 [(2,AV.ptr 2 0 [] 0),(4,AV.ptr 3 0 [] 0),(11,AV.ad 38 a.m),(12,AV.int (↑(a.m.length):Int)),(13,AV.int a.i),(14,AV.bool true),(15,AV.iY 38 z1),
 (16,AV.agg [AV.int z2,AV.str z3,AV.int z4,AV.ad 38 z5]),(17,AV.agg [AV.int z2,AV.str z3,AV.int z4,AV.ad 38 z5]),(18,AV.bq 198 [AV.ptr 4 0 [] 0])]))]):=by kernel_rfl
theorem r56(κ:Kp)(r:Nat)(a:CY)(o:List AV)(u:AV)(Q:List Dn.Obj->Prop)(K2:List Dn.Obj->Prop):(iS (vc (Bt κ r) 12) 5 [pk 38 u] (ym κ a (some o) .ready none) (fun r st''=>match r with| .lit (.bool true)=>tidy (Pr κ).toProgram 6 st'' Q| .lit (.bool false)=>K2 st''|_=>False))=(
 letI z3:=nth a.m a.i.toNat
 letI z4:=AV.agg [AV.int (toInt (af a.t 0)),AV.str (toStr (af a.t 1)),AV.int (toInt (af a.t 2)),AV.ad 38 (ah (af a.t 3))]
 letI z5:=toInt (af z3 0)
 letI z6:=toStr (af z3 1)
 letI z7:=toInt (af z3 2)
 letI z8:=ah (af z3 3)
 letI z1:=AV.agg [AV.int z5,AV.str z6,AV.int z7,AV.ad 38 z8]
 letI z2:=ic (bM 25) [(2,AV.ptr 2 0 [] 0),(4,AV.ptr 3 0 [] 0),(11,AV.ad 38 a.m),(12,AV.int (↑(a.m.length):Int)),(13,AV.int a.i),(14,AV.bool true),
  (15,AV.iY 38 z3),(16,AV.agg [AV.int z5,AV.str z6,AV.int z7,AV.ad 38 z8]),(17,AV.agg [AV.int z5,AV.str z6,AV.int z7,AV.ad 38 z8]),(18,AV.bq 198
  [AV.ptr 4 0 [] 0])]
 ∃(e0:List AV),o=AV.aX [AV.agg [AV.int (toInt (af u 0)),AV.str (toStr (af u 1)),AV.int (toInt (af u 2)),AV.ad 38 (ah (af u 3))]]::e0/\Q [Obj.ext
 (some e0),Obj.box 38 z4,Obj.box 186 (AV.de 0),Obj.box 38 z1,Obj.dead,Dn.Obj.loop (iw Tryz.prog 198 6 LoopState.ready none z2)]/\K2 [Obj.ext none,Obj.box
 38 z4,Obj.box 186 (AV.de 0),Obj.box 38 z1,Obj.dead,Dn.Obj.loop (iw Tryz.prog 198 6 LoopState.done (some Code.ret) z2),Obj.box 38 (AV.agg [AV.int (toInt (af
 u 0)),AV.str (toStr (af u 1)),AV.int (toInt (af u 2)),AV.ad 38 (ah (af u 3))])]):=by kernel_rfl
theorem k56(κ:Kp)(a:CY)(xs:List AV):(AV.de 0::fY (kn (dj (oU κ a) [.ptr 4 0 [] 0])) [.ptr 4 0 [] 0],Obj.ext (some xs)::gK (kn (dj (oU κ a) [.ptr 4 0 [] 0])) (ik (oU κ a) (dj (oU κ a) [.ptr 4 0 [] 0])))=([.de 0, .ptr 1 0 [] 0],[.ext (some xs), .box 38 (F0 a)]):=by kernel_rfl
theorem o56(κ:Kp)(a:CY):qW (oU κ a) [.ptr 4 0 [] 0]=true:=by kernel_rfl
noncomputable def Iz(κ:Kp)(r:Nat):dJ:=fun caps st K=>∃a:CY,(caps,st)=([AV.ptr 4 0 [] 0],oU κ a)/\((cI (nth a.m a.i.toNat)).fS<r/\(cI (nth a.m a.i.toNat)).fS<=100000/\a.xs=oT 38 (nth a.m a.i.toNat)++a.more)/\
 (K (ym κ a (some a.more) .ready none)/\∀u:AV,K (ym κ a none .done (some .ret)++[.box 38 (pk 38 u)]))
theorem CL(κ:Kp)(r:Nat):(Iz κ r).ib:=by
 rintro caps st K K' hK ⟨a,h1,h2,h3,h4⟩
 exact⟨a,h1,h2,hK _ h3,fun u=>hK _ (h4 u)⟩
theorem MW(κ:Kp)(r:Nat)(args:List AV)(st:List Dn.Obj)(K:AV->List Dn.Obj->Prop)(h: ∃m,m<r/\KM m args st K):(Bt κ r).call 198 args st K:=h
theorem XG(κ:Kp)(r:Nat):ou (Bt κ r) 12 198 (Iz κ r):=by
 rintro caps st K ⟨a,h1,⟨h2,h3,h4⟩,h5,h6⟩
 obtain⟨rfl,rfl⟩:=Prod.mk.inj h1
 refine⟨oT 38 (nth a.m a.i.toNat),fun items st'=>(∀x,x∈items->r6 38 x)/\st'=ym κ a (some (items++a.more)) .ready none,⟨o56 κ a,?_,?_,?_,?_⟩⟩
 ·refine MW κ r _ _ _ ⟨_,h2,nth a.m a.i.toNat,?_,⟨rfl,h3⟩,fun st' h=>h⟩
  rw[k56];rfl
 ·rw[show(Bt κ r).P=Pr κ from rfl,show(oU κ a).length=6 from rfl,ZV]
  exact⟨l4 _ _ _ (Nat.lt_succ_self _),by rw[h4];rfl⟩
 ·rintro us rest st' ⟨e1,rfl⟩
  obtain⟨u,hu⟩:=e1 (.aX us) (by simp)
  obtain rfl:=AV.aX.inj hu
  rw[show(Bt κ r).P=Pr κ from rfl,show(oU κ a).length=6 from rfl]
  refine Eq.mpr (r56 κ r a _ u _ _) ?_
  exact⟨_,rfl,⟨fun x hx=>e1 x (by simp[hx]),rfl⟩,h6 u⟩
 ·rintro st' ⟨_,rfl⟩
  exact h5
noncomputable def zq(κ:Kp)(r:Nat):Env:=((Bt κ r).addRange 198 6 198 (Iz κ r)).dG (fun f=>gL f Nl)
theorem RK(κ:Kp)(r:Nat):aj (Bt κ r):=(Za κ).az (fun _ _ _ _ hK ⟨m,h1,h2⟩=>⟨m,h1,aZ _ _ _ _ hK h2⟩)
theorem x56(κ:Kp)(r:Nat)(a:CY)(I:Nat->S->Prop)(n:Nat)(K:Exit->S->Prop):(vc (zq κ r) 12 198 none 2 (ag (Pr κ).toProgram 198 3) (sp 25 [(2, .ptr 2 0 [] 0),(11, .ad 38 a.m),(12, .int a.m.length),(13, .int a.i)] [.ext (some a.xs), .box 38 (pk 38 a.t), .box 186 (.de 0)]) (bB (zq κ r) 198 3 2 I n K))=(
 letI z2:=nth a.m a.i.toNat
 letI z3:=AV.agg [AV.int (toInt (af a.t 0)),AV.str (toStr (af a.t 1)),AV.int (toInt (af a.t 2)),AV.ad 38 (ah (af a.t 3))]
 letI z4:=a.i<(↑(a.m.length):Int)
 letI z5:=toInt (af z2 0)
 letI z6:=toStr (af z2 1)
 letI z7:=toInt (af z2 2)
 letI z8:=ah (af z2 3)
 letI z1:=AV.agg [AV.int z5,AV.str z6,AV.int z7,AV.ad 38 z8]
 aw (decide z4) (aP (decide ((0:Int)<=a.i)&&decide z4) (∃(e1:CY),([AV.ptr 4 0 [] 0],[Obj.ext (some a.xs),Obj.box 38 z3,Obj.box 186 (AV.de 0),Obj.box
 38 z1,Obj.box 38 z1,Dn.Obj.loop (iw Tryz.prog 198 6 LoopState.ready none (ic (bM 25) [(2,AV.ptr 2 0 [] 0),(4,AV.ptr 3 0 [] 0),(11,AV.ad 38 a.m),(12,
 AV.int (↑(a.m.length):Int)),(13,AV.int a.i),(14,AV.bool true),(15,AV.iY 38 z2),(16,AV.agg [AV.int z5,AV.str z6,AV.int z7,AV.ad 38 z8]),(17,AV.agg
 [AV.int z5,AV.str z6,AV.int z7,AV.ad 38 z8]),(18,AV.bq 198 [AV.ptr 4 0 [] 0])]))])=([AV.ptr 4 0 [] 0],[Obj.ext (some e1.xs),Obj.box 38 (AV.agg [AV.int
 (toInt (af e1.t 0)),AV.str (toStr (af e1.t 1)),AV.int (toInt (af e1.t 2)),AV.ad 38 (ah (af e1.t 3))]),Obj.box 186 (AV.de 0),Obj.box 38 (AV.agg [AV.int
 (toInt (af (nth e1.m e1.i.toNat) 0)),AV.str (toStr (af (nth e1.m e1.i.toNat) 1)),AV.int (toInt (af (nth e1.m e1.i.toNat) 2)),AV.ad 38 (ah (af (nth e1.m
 e1.i.toNat) 3))]),Obj.box 38 (AV.agg [AV.int (toInt (af (nth e1.m e1.i.toNat) 0)),AV.str (toStr (af (nth e1.m e1.i.toNat) 1)),AV.int (toInt (af (nth e1.m
 e1.i.toNat) 2)),AV.ad 38 (ah (af (nth e1.m e1.i.toNat) 3))]),Dn.Obj.loop (iw Tryz.prog 198 6 LoopState.ready none (ic (bM 25) [(2,AV.ptr 2 0 [] 0),(4,
 AV.ptr 3 0 [] 0),(11,AV.ad 38 e1.m),(12,AV.int (↑(e1.m.length):Int)),(13,AV.int e1.i),(14,AV.bool true),(15,AV.iY 38 (nth e1.m e1.i.toNat)),(16,
 AV.agg [AV.int (toInt (af (nth e1.m e1.i.toNat) 0)),AV.str (toStr (af (nth e1.m e1.i.toNat) 1)),AV.int (toInt (af (nth e1.m e1.i.toNat) 2)),AV.ad 38 (ah (af
 (nth e1.m e1.i.toNat) 3))]),(17,AV.agg [AV.int (toInt (af (nth e1.m e1.i.toNat) 0)),AV.str (toStr (af (nth e1.m e1.i.toNat) 1)),AV.int (toInt (af (nth e1.m
 e1.i.toNat) 2)),AV.ad 38 (ah (af (nth e1.m e1.i.toNat) 3))]),(18,AV.bq 198 [AV.ptr 4 0 [] 0])]))])/\(Tm.fS (cI (nth e1.m e1.i.toNat))<r/\Tm.fS (cI (nth
 e1.m e1.i.toNat))<=100000/\e1.xs=oT 38 (nth e1.m e1.i.toNat)++e1.more)/\(∃(e0:Nat),e0<n/\I e0 (sp 25 [(2,AV.ptr 2 0 [] 0),(11,AV.ad 38 a.m),
 (12,AV.int (↑(a.m.length):Int)),(13,AV.int (IntKind.wrap IntKind.i64 (a.i+(1:Int))))] [Obj.ext (some e1.more),Obj.box 38 (AV.agg [AV.int (toInt (af
 e1.t 0)),AV.str (toStr (af e1.t 1)),AV.int (toInt (af e1.t 2)),AV.ad 38 (ah (af e1.t 3))]),Obj.box 186 (AV.de 0)]))/\∀(e0:AV),K Exit.ret (sp 25 []
 [Obj.ext none,Obj.box 38 (AV.agg [AV.int (toInt (af e1.t 0)),AV.str (toStr (af e1.t 1)),AV.int (toInt (af e1.t 2)),AV.ad 38 (ah (af e1.t 3))])]))) (K
 (Exit.exit 0) (sp 25 [] [Obj.ext (some a.xs),Obj.box 38 z3]))):=by kernel_rfl
abbrev NU(a:CY):S:=sp 25 [(2, .ptr 2 0 [] 0),(11, .ad 38 a.m),(12, .int a.m.length),(13, .int a.i)] [.ext (some a.xs), .box 38 (pk 38 a.t), .box 186 (.de 0)]
def FI(r:Nat)(a:CY):Prop:=a.m.length<=aL/\0<=a.i/\a.i<=a.m.length/\aI (aa (a.m.drop a.i.toNat))<r/\aI (aa (a.m.drop a.i.toNat))<=100000/\a.xs=fv 38 (a.m.drop a.i.toNat)
def Lg(a:CY):Out (Exit×S):= .all (fun _:Bool=>True) fun b=> .aw b (.one (.exit 0,sp 25 [] [.ext (some []), .box 38 (pk 38 a.t)])) (.one (.ret,sp 25 [] [.ext none, .box 38 (pk 38 a.t)]))
theorem uJ(l:List AV)(i:Nat)(h:i<l.length):aI (aa (l.drop i))=(cI (nth l i)).fS+aI (aa (l.drop (i+1))):=by
 rw[dR l i h,aI]
theorem l56(κ:Kp)(r:Nat):bf (zq κ r) 12 198 3 (aR 2 NU (FI r) Lg):=by
 refine aG (fun a=>a.m.length - a.i.toNat) ?_
 rintro⟨xs,more,t,m,i⟩ K ⟨h1,h2,h3,h4,h5,h6⟩ ho
 simp only at h1 h2 h3 h4 h5 h6
 rw[show(zq κ r).P=Pr κ from rfl]
 refine Eq.mpr (x56 κ r ⟨xs,more,t,m,i⟩ _ _ K) ?_
 have ho1:=ho true trivial
 have ho2:=ho false trivial
 simp only[Out.run,aw] at ho1 ho2
 simp only[aL] at h1
 simp only[ae,ai,aa0,aa2,aa1]
 refine⟨fun hi=>⟨⟨h2,hi⟩,?_⟩,fun hi=>?_⟩
 ·have hc:=uJ m i.toNat (by omega)
  rw[uM _ m i.toNat (by omega)] at h6
  rw[aC (n:=i+1) (by omega) (by omega)]
  refine⟨⟨xs,fv 38 (m.drop (i.toNat+1)),t,m,i⟩,rfl,⟨by simp only;omega,by simp only;omega,h6⟩,⟨_,?_,⟨_,more,t,m,i+1⟩,rfl,⟨by simpa[aL] using h1,by simp only;omega,by simp only;omega,?_,?_,?_⟩,rfl,ho⟩,fun _=>ho2⟩
  ·simp only;omega
  ·simp only[show(i+1).toNat=i.toNat+1 by omega];omega
  ·simp only[show(i+1).toNat=i.toNat+1 by omega];omega
  ·simp only[show(i+1).toNat=i.toNat+1 by omega]
 ·rw[aa8 (by omega)] at h6
  subst h6
  exact ho1
noncomputable def G4(κ:Kp)(r:Nat):Env:=(zq κ r).ar 198 3 (aR 2 NU (FI r) Lg)
theorem y56(κ:Kp)(r:Nat)(t:AV)(xs:List AV)(K:AV->List Dn.Obj->Prop):(ba (G4 κ r) 12 198 [.de 0, .ptr 1 0 [] 0] [.ext (some xs), .box 38 (pk 38 t)] K)=(
 letI z2:=ah (af t 3)
 letI z1:=AV.agg [AV.int (toInt (af t 0)),AV.str (toStr (af t 1)),AV.int (toInt (af t 2)),AV.ad 38 z2]
 letI z3:=Pg.toProgram (Env.P (zq κ r))
 ∃(e2:List AV),xs=AV.aX [AV.agg [AV.int (toInt (af t 0)),AV.str (toStr (af t 1)),AV.int (toInt (af t 2)),AV.ad 38 z2]]::e2/\(ag z3 198 3=ag z3 198
 3/\∃(e1:CY),sp 25 [(2,AV.ptr 2 0 [] 0),(11,AV.ad 38 z2),(12,AV.int (↑(List.length z2):Int)),(13,AV.int 0)] [Obj.ext (some e2),Obj.box 38 z1,
 Obj.box 186 (AV.de 0)]=sp 25 [(2,AV.ptr 2 0 [] 0),(11,AV.ad 38 e1.m),(12,AV.int (↑(e1.m.length):Int)),(13,AV.int e1.i)] [Obj.ext (some e1.xs),
 Obj.box 38 (AV.agg [AV.int (toInt (af e1.t 0)),AV.str (toStr (af e1.t 1)),AV.int (toInt (af e1.t 2)),AV.ad 38 (ah (af e1.t 3))]),Obj.box 186 (AV.de 0)]/\
 (e1.m.length<=9223372036854775807/\(0:Int)<=e1.i/\e1.i<=(↑(e1.m.length):Int)/\aI (aa (List.drop e1.i.toNat e1.m))<r/\aI (aa (List.drop e1.i.toNat
 e1.m))<=100000/\e1.xs=fv 38 (List.drop e1.i.toNat e1.m))/\∀(e0:Bool),True->aw e0 (K (AV.aX []) [Obj.ext (some []),Obj.box 38 (AV.agg [AV.int (toInt
 (af e1.t 0)),AV.str (toStr (af e1.t 1)),AV.int (toInt (af e1.t 2)),AV.ad 38 (ah (af e1.t 3))])]) (K (AV.aX []) [Obj.ext none,Obj.box 38 (AV.agg [AV.int
 (toInt (af e1.t 0)),AV.str (toStr (af e1.t 1)),AV.int (toInt (af e1.t 2)),AV.ad 38 (ah (af e1.t 3))])]))/\K (AV.aX []) [Obj.ext none,Obj.box 38 z1]):=by kernel_rfl
theorem Ve(κ:Kp)(r:Nat)(hp: ∀args st K,(∃m,m<r/\KM m args st K)->bD (Pr κ) 198 args st K):aE (G4 κ r)/\aj (G4 κ r)/\(G4 κ r).P=Pr κ:=
 have h:aE (Bt κ r):=(UH κ).fT hp
 have h2:aE (zq κ r):=(h.addRange (RK κ r) (XG κ r)).dG _
 have hm:aj (zq κ r):=((RK κ r).addRange (CL κ r)).dG _
 ⟨h2.ar hm (l56 κ r),hm.ar aW,rfl⟩
theorem c56(κ:Kp)(r:Nat):bG (G4 κ r) 12 198 (KM r):=by
 refine bc ?_
 rintro t K ⟨h1,h2⟩ ho
 have hn: ∀b,K (.aX []) [.ext none,b]:=fun b=>ho _ trivial
 have h0: ∀b,K (.aX []) [.ext (some []),b]:=fun b=>ho _ trivial
 refine Eq.mpr (y56 κ r t _ K) ?_
 rw[cP,Tm.fS] at h1
 have hl:=ee (aa (ah (af t 3)))
 rw[du] at hl
 rw[yA]
 refine⟨_,rfl,⟨rfl,⟨_,[],t,ah (af t 3),0⟩,rfl,⟨by simp only;omega,by simp only;omega,by simp only;omega,?_,?_,rfl⟩,?_⟩,hn _⟩
 ·simp only[ab7,ab0];omega
 ·simp only[ab7,ab0];omega
 ·intro y _
  cases y
  ·exact hn _
  ·exact h0 _
def zL(a:AV):Prop:=(cI a).fS<=100000
theorem ZZ(κ:Kp): ∀args st K,a0 LI zL FC args st K->bD (Pr κ) 198 args st K:=by
 rintro args st K ⟨l,h1,h2,h3⟩
 exact aE.q9 KM (G4 κ) (Ve κ) (c56 κ) (cI l).fS args st K ⟨l,h1,⟨rfl,h2⟩,h3⟩
noncomputable def Jj(κ:Kp):Env:=(Uk κ).az 198 (a0 LI zL FC)
theorem e56(κ:Kp):aE (Jj κ):=(UH κ).fT (ZZ κ)
theorem YW(κ:Kp):aj (Jj κ):=(Za κ).az aZ
structure tR where
 xs:List AV
 more:List AV
 r:cf
 bl:List AV
 ts:List AV
 i:Int
abbrev CN(a:tR):AV:=pk 38 (nth a.ts (0+a.i.toNat))
abbrev FJ(a:tR):S:=sp 46 [(2, .ptr 2 0 [] 0),(3, .aB 3 0 a.ts.length),(14, .ad 80 a.bl),(15, .int a.bl.length),(16, .int a.i)] [.ext (some a.xs), .box 48 (au a.r), .box 186 (.de 0), .row 38 a.ts]
theorem WR(κ:Kp)(a:tR)(I:Nat->S->Prop)(n:Nat)(K:Exit->S->Prop):(vc (Jj κ) 12 185 none 2 (ag (Pr κ).toProgram 185 3) (FJ a) (bB (Jj κ) 185 3 2 I n K))=(
 letI z1:=nth a.bl a.i.toNat
 letI z2:=a.i<(↑(a.bl.length):Int)
 letI z3:=af (af z1 1) 1
 aw (decide z2) (aP (decide ((0:Int)<=a.i)&&decide z2) (aP (decide ((a.ts.length+2+1)*57<=70368744177664)) (aP (decide ((a.ts.length+2+
 List.length (ah z3)+1)*57<=70368744177664)) (∃(e0:Nat),e0<n/\I e0 (sp 46 [(2,AV.ptr 2 0 [] 0),(3,AV.aB 3 0 (a.ts.length+2+List.length (ah
 z3))),(14,AV.ad 80 a.bl),(15,AV.int (↑(a.bl.length):Int)),(16,AV.int (IntKind.wrap IntKind.i64 (a.i+(1:Int))))] [Obj.ext (some a.xs),Obj.box 48 (au
 a.r),Obj.box 186 (AV.de 0),Obj.row 38 (List.take (a.ts.length+2) (List.take a.ts.length a.ts++[AV.agg [AV.int (toInt (af (af z1 2) 0)),AV.str (toStr (af
 (af z1 2) 1)),AV.int (toInt (af (af z1 2) 2)),AV.ad 38 (ah (af (af z1 2) 3))],AV.agg [AV.int (toInt (af (af z1 3) 0)),AV.str (toStr (af (af z1 3) 1)),
 AV.int (toInt (af (af z1 3) 2)),AV.ad 38 (ah (af (af z1 3) 3))]])++ah z3)]))))) (K (Exit.exit 0) (sp 46 [(2,AV.ptr 2 0 [] 0),(3,AV.aB 3 0 a.ts.length)]
 [Obj.ext (some a.xs),Obj.box 48 (au a.r),Obj.box 186 (AV.de 0),Obj.row 38 a.ts]))):=by kernel_rfl
def dz(l:List AV):List AV:=l.flatMap fun a=>[pk 38 (af a 2),pk 38 (af a 3)]++ah (af (af a 1) 1)
def EO(a:tR):Prop:=a.bl.length<=aL/\0<=a.i/\a.i<=a.bl.length/\(a.ts++dz (a.bl.drop a.i.toNat)).length<=100000
def yq(a:tR):Out (Exit×S):= .one (.exit 0,sp 46 [(2, .ptr 2 0 [] 0),(3, .aB 3 0 (a.ts++dz (a.bl.drop a.i.toNat)).length)] [.ext (some a.xs), .box 48 (au a.r), .box 186 (.de 0), .row 38 (a.ts++dz (a.bl.drop a.i.toNat))])
theorem Du(l:List AV)(i:Nat)(h:i<l.length):dz (l.drop i)=[pk 38 (af (nth l i) 2),pk 38 (af (nth l i) 3)]++ah (af (af (nth l i) 1) 1)++dz (l.drop (i+1)):=by
 rw[ab1 h,a7 l i h];rfl
theorem VW(κ:Kp):bf (Jj κ) 12 185 3 (aR 2 FJ EO yq):=by
 refine aG (fun a=>a.bl.length - a.i.toNat) ?_
 rintro⟨xs,more,r,bl,ts,i⟩ K ⟨h1,h2,h3,h4⟩ ho
 simp only at h1 h2 h3 h4
 rw[show(Jj κ).P=Pr κ from rfl]
 refine Eq.mpr (WR κ ⟨xs,more,r,bl,ts,i⟩ _ _ K) ?_
 simp only[and_self]
 simp only[yq,Out.run] at ho
 simp only[aL] at h1
 simp only[ae,ai,aa0,aa2,aa1]
 refine⟨fun hi=>⟨⟨h2,hi⟩,?_⟩,fun hi=>?_⟩
 ·have hp:=Du bl i.toNat (by omega)
  rw[hp] at h4 ho
  rw[aC (n:=i+1) (by omega) (by omega)]
  simp only[ab8,List.length_cons,List.length_nil] at h4
  refine⟨by omega,by omega,_,?_,⟨xs,more,r,bl,ts++([pk 38 (af (nth bl i.toNat) 2),pk 38 (af (nth bl i.toNat) 3)]++ah (af (af (nth bl i.toNat) 1) 1)),i+1⟩,?_,⟨by simpa[aL] using h1,by simp only;omega,by simp only;omega,?_⟩,rfl,?_⟩
  ·simp only;omega
  ·simp only[FJ,ab8,List.length_cons,List.length_nil,List.take_length]
   rw[List.take_of_length_le (by simp),show ts.length+2+(ah (af (af (nth bl i.toNat) 1) 1)).length=ts.length+(0+1+1+(ah (af (af (nth bl i.toNat) 1) 1)).length) by omega,List.append_assoc]
   rfl
  ·simp only[ab8,List.length_cons,List.length_nil,show(i+1).toNat=i.toNat+1 by omega];omega
  ·simp only[yq,Out.run,show(i+1).toNat=i.toNat+1 by omega]
   simpa only[List.append_assoc] using ho
 ·rw[aa8 (by omega)] at ho
  simpa[dz] using ho
noncomputable def Aw(κ:Kp):Env:=(Jj κ).ar 185 3 (aR 2 FJ EO yq)
theorem UZ(κ:Kp):aE (Aw κ):=(e56 κ).ar (YW κ) (VW κ)
theorem Th(κ:Kp):aj (Aw κ):=(YW κ).ar aW
noncomputable abbrev S8(a:tR)(κ:Kp)(st:LoopState)(p:Option Code):Dn.Obj:=
 .loop (iw (Pr κ).toProgram 185 11 st p (ic (bM 46) [(2, .ptr 2 0 [] 0),(7, .ptr 4 0 [] 0),(32, .aB 3 0 a.ts.length),(33, .int a.ts.length),(34, .int a.i),(35, .bool true),
  (36, .ptr 3 (0+a.i.toNat) [] 0),(37,CN a),(38,CN a),(39, .bq 198 [.ptr 5 0 [] 0])]))
noncomputable abbrev pc(κ:Kp)(a:tR):List Dn.Obj:=[.ext (some a.xs), .box 48 (au a.r), .box 186 (.de 0), .row 38 a.ts, .box 38 (CN a), .box 38 (CN a),S8 a κ .ready none]
noncomputable abbrev yG(κ:Kp)(a:tR)(o:Option (List AV))(st:LoopState)(p:Option Code):List Dn.Obj:=[.ext o, .box 48 (au a.r), .box 186 (.de 0), .row 38 a.ts, .box 38 (CN a), .dead,S8 a κ st p]
theorem s42(κ:Kp)(a:tR)(Q:List Dn.Obj->Prop):(tidy (Pr κ).toProgram 7 (ez (pc κ a) (dj (pc κ a) [.ptr 5 0 [] 0])) Q)=(
 letI z1:=nth a.ts (0+a.i.toNat)
 letI z2:=toInt (af z1 0)
 letI z3:=toStr (af z1 1)
 letI z4:=toInt (af z1 2)
 letI z5:=ah (af z1 3)
 Q [Obj.ext (some a.xs),Obj.box 48 (au a.r),Obj.box 186 (AV.de 0),Obj.row 38 a.ts,Obj.box 38 (AV.agg [AV.int z2,AV.str z3,AV.int z4,AV.ad 38 z5]),
 Obj.dead,Dn.Obj.loop (iw Tryz.prog 185 11 LoopState.ready none (ic (bM 46) [(2,AV.ptr 2 0 [] 0),(7,AV.ptr 4 0 [] 0),(32,AV.aB 3 0 a.ts.length),(33,
 AV.int (↑(a.ts.length):Int)),(34,AV.int a.i),(35,AV.bool true),(36,AV.ptr 3 (0+a.i.toNat) [] 0),(37,AV.agg [AV.int z2,AV.str z3,AV.int z4,AV.ad
 38 z5]),(38,AV.agg [AV.int z2,AV.str z3,AV.int z4,AV.ad 38 z5]),(39,AV.bq 198 [AV.ptr 5 0 [] 0])]))]):=by kernel_rfl
theorem r42(κ:Kp)(a:tR)(o:List AV)(u:AV)(Q:List Dn.Obj->Prop)(K2:List Dn.Obj->Prop):(iS (vc (Aw κ) 12) 6 [pk 38 u] (yG κ a (some o) .ready none) (fun r st''=>match r with| .lit (.bool true)=>tidy (Pr κ).toProgram 7 st'' Q| .lit (.bool false)=>K2 st''|_=>False))=(
 letI z3:=nth a.ts (0+a.i.toNat)
 letI z4:=toInt (af z3 0)
 letI z5:=toStr (af z3 1)
 letI z6:=toInt (af z3 2)
 letI z7:=ah (af z3 3)
 letI z1:=AV.agg [AV.int z4,AV.str z5,AV.int z6,AV.ad 38 z7]
 letI z2:=ic (bM 46) [(2,AV.ptr 2 0 [] 0),(7,AV.ptr 4 0 [] 0),(32,AV.aB 3 0 a.ts.length),(33,AV.int (↑(a.ts.length):Int)),(34,AV.int a.i),(35,
  AV.bool true),(36,AV.ptr 3 (0+a.i.toNat) [] 0),(37,AV.agg [AV.int z4,AV.str z5,AV.int z6,AV.ad 38 z7]),(38,AV.agg [AV.int z4,AV.str z5,AV.int z6,
  AV.ad 38 z7]),(39,AV.bq 198 [AV.ptr 5 0 [] 0])]
 ∃(e0:List AV),o=AV.aX [AV.agg [AV.int (toInt (af u 0)),AV.str (toStr (af u 1)),AV.int (toInt (af u 2)),AV.ad 38 (ah (af u 3))]]::e0/\Q [Obj.ext
 (some e0),Obj.box 48 (au a.r),Obj.box 186 (AV.de 0),Obj.row 38 a.ts,Obj.box 38 z1,Obj.dead,Dn.Obj.loop (iw Tryz.prog 185 11 LoopState.ready none z2)]/\K2
 [Obj.ext none,Obj.box 48 (au a.r),Obj.box 186 (AV.de 0),Obj.row 38 a.ts,Obj.box 38 z1,Obj.dead,Dn.Obj.loop (iw Tryz.prog 185 11 LoopState.done (some
 Code.ret) z2),Obj.box 38 (AV.agg [AV.int (toInt (af u 0)),AV.str (toStr (af u 1)),AV.int (toInt (af u 2)),AV.ad 38 (ah (af u 3))])]):=by kernel_rfl
theorem k42(κ:Kp)(a:tR)(xs:List AV):(AV.de 0::fY (kn (dj (pc κ a) [.ptr 5 0 [] 0])) [.ptr 5 0 [] 0],Obj.ext (some xs)::gK (kn (dj (pc κ a) [.ptr 5 0 [] 0])) (ik (pc κ a) (dj (pc κ a) [.ptr 5 0 [] 0])))=([.de 0, .ptr 1 0 [] 0],[.ext (some xs), .box 38 (CN a)]):=by kernel_rfl
theorem o42(κ:Kp)(a:tR):qW (pc κ a) [.ptr 5 0 [] 0]=true:=by kernel_rfl
noncomputable def Ig(κ:Kp):dJ:=fun caps st K=>∃a:tR,(caps,st)=([AV.ptr 5 0 [] 0],pc κ a)/\((cI (nth a.ts a.i.toNat)).fS<=100000/\a.xs=oT 38 (nth a.ts a.i.toNat)++a.more)/\
 (K (yG κ a (some a.more) .ready none)/\∀u:AV,K (yG κ a none .done (some .ret)++[.box 38 (pk 38 u)]))
theorem Dt(κ:Kp):(Ig κ).ib:=by
 rintro caps st K K' hK ⟨a,h1,h2,h3,h4⟩
 exact⟨a,h1,h2,hK _ h3,fun u=>hK _ (h4 u)⟩
theorem call42(κ:Kp)(args:List AV)(st:List Dn.Obj)(K:AV->List Dn.Obj->Prop)(h:a0 LI zL FC args st K):(Aw κ).call 198 args st K:=h
theorem Vy(κ:Kp):ou (Aw κ) 12 198 (Ig κ):=by
 rintro caps st K ⟨a,h1,⟨h3,h4⟩,h5,h6⟩
 obtain⟨rfl,rfl⟩:=Prod.mk.inj h1
 refine⟨oT 38 (nth a.ts a.i.toNat),fun items st'=>(∀x,x∈items->r6 38 x)/\st'=yG κ a (some (items++a.more)) .ready none,⟨o42 κ a,?_,?_,?_,?_⟩⟩
 ·refine call42 κ _ _ _ ⟨nth a.ts a.i.toNat,?_,h3,fun st' h=>h⟩
  rw[k42,CN,Nat.zero_add];rfl
 ·rw[show(Aw κ).P=Pr κ from rfl,show(pc κ a).length=7 from rfl,s42]
  exact⟨l4 _ _ _ (Nat.lt_succ_self _),by rw[h4];rfl⟩
 ·rintro us rest st' ⟨e1,rfl⟩
  obtain⟨u,hu⟩:=e1 (.aX us) (by simp)
  obtain rfl:=AV.aX.inj hu
  rw[show(Aw κ).P=Pr κ from rfl,show(pc κ a).length=7 from rfl]
  refine Eq.mpr (r42 κ a _ u _ _) ?_
  exact⟨_,rfl,⟨fun x hx=>e1 x (by simp[hx]),rfl⟩,h6 u⟩
 ·rintro st' ⟨_,rfl⟩
  exact h5
noncomputable def tX(κ:Kp):Env:=((Aw κ).addRange 185 11 198 (Ig κ)).dG (fun f=>gL f Nl)
theorem UX(κ:Kp):aE (tX κ):=((UZ κ).addRange (Th κ) (Vy κ)).dG _
theorem To(κ:Kp):aj (tX κ):=((Th κ).addRange (Dt κ)).dG _
abbrev DU(a:tR):S:=sp 46 [(2, .ptr 2 0 [] 0),(32, .aB 3 0 a.ts.length),(33, .int a.ts.length),(34, .int a.i)] [.ext (some a.xs), .box 48 (au a.r), .box 186 (.de 0), .row 38 a.ts]
theorem Xt(κ:Kp)(a:tR)(I:Nat->S->Prop)(n:Nat)(K:Exit->S->Prop):(vc (tX κ) 12 185 none 2 (ag (Pr κ).toProgram 185 8) (DU a) (bB (tX κ) 185 8 2 I n K))=(
 letI z2:=nth a.ts (0+a.i.toNat)
 letI z3:=a.ts.length
 letI z4:=toInt (af z2 0)
 letI z5:=toStr (af z2 1)
 letI z6:=toInt (af z2 2)
 letI z7:=ah (af z2 3)
 letI z1:=AV.agg [AV.int z4,AV.str z5,AV.int z6,AV.ad 38 z7]
 aw (decide (a.i<(↑z3:Int))) (aP (decide ((0:Int)<=a.i)&&decide (a.i<(↑z3:Int))) (∃(e1:tR),([AV.ptr 5 0 [] 0],[Obj.ext (some a.xs),Obj.box 48
 (au a.r),Obj.box 186 (AV.de 0),Obj.row 38 a.ts,Obj.box 38 z1,Obj.box 38 z1,Dn.Obj.loop (iw Tryz.prog 185 11 LoopState.ready none (ic (bM 46) [(2,AV.ptr 2
 0 [] 0),(7,AV.ptr 4 0 [] 0),(32,AV.aB 3 0 a.ts.length),(33,AV.int (↑z3:Int)),(34,AV.int a.i),(35,AV.bool true),(36,AV.ptr 3 (0+a.i.toNat) [] 0),
 (37,AV.agg [AV.int z4,AV.str z5,AV.int z6,AV.ad 38 z7]),(38,AV.agg [AV.int z4,AV.str z5,AV.int z6,AV.ad 38 z7]),(39,AV.bq 198 [AV.ptr 5 0 [] 0])]))])
 =([AV.ptr 5 0 [] 0],[Obj.ext (some e1.xs),Obj.box 48 (au e1.r),Obj.box 186 (AV.de 0),Obj.row 38 e1.ts,Obj.box 38 (AV.agg [AV.int (toInt (af (nth e1.ts (0
 +e1.i.toNat)) 0)),AV.str (toStr (af (nth e1.ts (0+e1.i.toNat)) 1)),AV.int (toInt (af (nth e1.ts (0+e1.i.toNat)) 2)),AV.ad 38 (ah (af (nth e1.ts (0+
 e1.i.toNat)) 3))]),Obj.box 38 (AV.agg [AV.int (toInt (af (nth e1.ts (0+e1.i.toNat)) 0)),AV.str (toStr (af (nth e1.ts (0+e1.i.toNat)) 1)),AV.int (toInt
 (af (nth e1.ts (0+e1.i.toNat)) 2)),AV.ad 38 (ah (af (nth e1.ts (0+e1.i.toNat)) 3))]),Dn.Obj.loop (iw Tryz.prog 185 11 LoopState.ready none (ic (bM 46)
 [(2,AV.ptr 2 0 [] 0),(7,AV.ptr 4 0 [] 0),(32,AV.aB 3 0 e1.ts.length),(33,AV.int (↑(e1.ts.length):Int)),(34,AV.int e1.i),(35,AV.bool true),(36,
 AV.ptr 3 (0+e1.i.toNat) [] 0),(37,AV.agg [AV.int (toInt (af (nth e1.ts (0+e1.i.toNat)) 0)),AV.str (toStr (af (nth e1.ts (0+e1.i.toNat)) 1)),AV.int
 (toInt (af (nth e1.ts (0+e1.i.toNat)) 2)),AV.ad 38 (ah (af (nth e1.ts (0+e1.i.toNat)) 3))]),(38,AV.agg [AV.int (toInt (af (nth e1.ts (0+e1.i.toNat))
 0)),AV.str (toStr (af (nth e1.ts (0+e1.i.toNat)) 1)),AV.int (toInt (af (nth e1.ts (0+e1.i.toNat)) 2)),AV.ad 38 (ah (af (nth e1.ts (0+e1.i.toNat))
 3))]),(39,AV.bq 198 [AV.ptr 5 0 [] 0])]))])/\(Tm.fS (cI (nth e1.ts e1.i.toNat))<=100000/\e1.xs=oT 38 (nth e1.ts e1.i.toNat)++e1.more)/\(∃(e0:Nat),
 e0<n/\I e0 (sp 46 [(2,AV.ptr 2 0 [] 0),(32,AV.aB 3 0 a.ts.length),(33,AV.int (↑z3:Int)),(34,AV.int (IntKind.wrap IntKind.i64 (a.i+(1:Int))))]
 [Obj.ext (some e1.more),Obj.box 48 (au e1.r),Obj.box 186 (AV.de 0),Obj.row 38 e1.ts]))/\∀(e0:AV),K Exit.ret (sp 46 [] [Obj.ext none,Obj.box 48 (au
 e1.r)]))) (K (Exit.exit 2) (sp 46 [] [Obj.ext (some a.xs),Obj.box 48 (au a.r)]))):=by kernel_rfl
def zt(a:tR):Prop:=a.ts.length<=aL/\0<=a.i/\a.i<=a.ts.length/\aI (aa (a.ts.drop a.i.toNat))<=100000/\a.xs=fv 38 (a.ts.drop a.i.toNat)
def J9(a:tR):Out (Exit×S):= .all (fun _:Bool=>True) fun b=> .aw b (.one (.exit 2,sp 46 [] [.ext (some []), .box 48 (au a.r)])) (.one (.ret,sp 46 [] [.ext none, .box 48 (au a.r)]))
theorem Xi(κ:Kp):bf (tX κ) 12 185 8 (aR 2 DU zt J9):=by
 refine aG (fun a=>a.ts.length - a.i.toNat) ?_
 rintro⟨xs,more,r,bl,m,i⟩ K ⟨h1,h2,h3,h5,h6⟩ ho
 simp only at h1 h2 h3 h5 h6
 rw[show(tX κ).P=Pr κ from rfl]
 refine Eq.mpr (Xt κ ⟨xs,more,r,bl,m,i⟩ _ _ K) ?_
 have ho1:=ho true trivial
 have ho2:=ho false trivial
 simp only[Out.run,aw] at ho1 ho2
 simp only[aL] at h1
 simp only[ae,ai,aa0,aa2,aa1]
 refine⟨fun hi=>⟨⟨h2,hi⟩,?_⟩,fun hi=>?_⟩
 ·have hc:=uJ m i.toNat (by omega)
  rw[uM _ m i.toNat (by omega)] at h6
  rw[aC (n:=i+1) (by omega) (by omega)]
  refine⟨⟨xs,fv 38 (m.drop (i.toNat+1)),r,bl,m,i⟩,rfl,⟨by simp only;omega,h6⟩,⟨_,?_,⟨_,more,r,bl,m,i+1⟩,rfl,⟨by simpa[aL] using h1,by simp only;omega,by simp only;omega,?_,?_⟩,rfl,ho⟩,fun _=>ho2⟩
  ·simp only;omega
  ·simp only[show(i+1).toNat=i.toNat+1 by omega];omega
  ·simp only[show(i+1).toNat=i.toNat+1 by omega]
 ·rw[aa8 (by omega)] at h6
  subst h6
  exact ho1
noncomputable def KQ(κ:Kp):Env:=(tX κ).ar 185 8 (aR 2 DU zt J9)
theorem Vk(κ:Kp):aE (KQ κ):=(UX κ).ar (To κ) (Xi κ)
theorem R8(κ:Kp):aj (KQ κ):=(To κ).ar aW
theorem y42(κ:Kp)(a:cf)(K:AV->List Dn.Obj->Prop):(ba (KQ κ) 12 185 [.de 0, .ptr 1 0 [] 0] [.ext (some a.xs), .box 48 (au a)] K)=(
 letI z1:=Pg.toProgram (Env.P (Jj κ))
 letI z2:=Pg.toProgram (Env.P (tX κ))
 (Kd a.hl=true->ag z1 185 3=ag z1 185 3/\∃(e2:tR),sp 46 [(2,AV.ptr 2 0 [] 0),(3,AV.aB 3 0 0),(14,AV.ad 80 a.bl),(15,AV.int (↑(a.bl.length):
 Int)),(16,AV.int 0)] [Obj.ext (some a.xs),Obj.box 48 (au a),Obj.box 186 (AV.de 0),Obj.row 38 []]=sp 46 [(2,AV.ptr 2 0 [] 0),(3,AV.aB 3 0
 e2.ts.length),(14,AV.ad 80 e2.bl),(15,AV.int (↑(e2.bl.length):Int)),(16,AV.int e2.i)] [Obj.ext (some e2.xs),Obj.box 48 (au e2.r),Obj.box 186 (AV.de
 0),Obj.row 38 e2.ts]/\(e2.bl.length<=9223372036854775807/\(0:Int)<=e2.i/\e2.i<=(↑(e2.bl.length):Int)/\List.length (e2.ts++dz (List.drop e2.i.toNat
 e2.bl))<=100000)/\ag z2 185 8=ag z2 185 8/\∃(e1:tR),sp 46 [(2,AV.ptr 2 0 [] 0),(32,AV.aB 3 0 (List.length (e2.ts++dz (List.drop e2.i.toNat
 e2.bl)))),(33,AV.int (↑(List.length (e2.ts++dz (List.drop e2.i.toNat e2.bl))):Int)),(34,AV.int 0)] [Obj.ext (some e2.xs),Obj.box 48 (au e2.r),Obj.box
 186 (AV.de 0),Obj.row 38 (e2.ts++dz (List.drop e2.i.toNat e2.bl))]=sp 46 [(2,AV.ptr 2 0 [] 0),(32,AV.aB 3 0 e1.ts.length),(33,AV.int (↑(e1.ts.length)
 :Int)),(34,AV.int e1.i)] [Obj.ext (some e1.xs),Obj.box 48 (au e1.r),Obj.box 186 (AV.de 0),Obj.row 38 e1.ts]/\(e1.ts.length<=9223372036854775807/\(0:
 Int)<=e1.i/\e1.i<=(↑(e1.ts.length):Int)/\aI (aa (List.drop e1.i.toNat e1.ts))<=100000/\e1.xs=fv 38 (List.drop e1.i.toNat e1.ts))/\∀(e0:Bool),True
 ->aw e0 (K (AV.aX []) [Obj.ext (some []),Obj.box 48 (au e1.r)]) (K (AV.aX []) [Obj.ext none,Obj.box 48 (au e1.r)]))/\aP (decide ((0+a.hl.length+1)*57<=
 70368744177664)) (ag z1 185 3=ag z1 185 3/\∃(e2:tR),sp 46 [(2,AV.ptr 2 0 [] 0),(3,AV.aB 3 0 (0+a.hl.length)),(14,AV.ad 80 a.bl),(15,AV.int
 (↑(a.bl.length):Int)),(16,AV.int 0)] [Obj.ext (some a.xs),Obj.box 48 (au a),Obj.box 186 (AV.de 0),Obj.row 38 ([]++a.hl)]=sp 46 [(2,AV.ptr 2 0 [] 0),
 (3,AV.aB 3 0 e2.ts.length),(14,AV.ad 80 e2.bl),(15,AV.int (↑(e2.bl.length):Int)),(16,AV.int e2.i)] [Obj.ext (some e2.xs),Obj.box 48 (au e2.r),Obj.box
 186 (AV.de 0),Obj.row 38 e2.ts]/\(e2.bl.length<=9223372036854775807/\(0:Int)<=e2.i/\e2.i<=(↑(e2.bl.length):Int)/\List.length (e2.ts++dz (List.drop
 e2.i.toNat e2.bl))<=100000)/\ag z2 185 8=ag z2 185 8/\∃(e1:tR),sp 46 [(2,AV.ptr 2 0 [] 0),(32,AV.aB 3 0 (List.length (e2.ts++dz (List.drop
 e2.i.toNat e2.bl)))),(33,AV.int (↑(List.length (e2.ts++dz (List.drop e2.i.toNat e2.bl))):Int)),(34,AV.int 0)] [Obj.ext (some e2.xs),Obj.box 48 (au
 e2.r),Obj.box 186 (AV.de 0),Obj.row 38 (e2.ts++dz (List.drop e2.i.toNat e2.bl))]=sp 46 [(2,AV.ptr 2 0 [] 0),(32,AV.aB 3 0 e1.ts.length),(33,AV.int
 (↑(e1.ts.length):Int)),(34,AV.int e1.i)] [Obj.ext (some e1.xs),Obj.box 48 (au e1.r),Obj.box 186 (AV.de 0),Obj.row 38 e1.ts]/\(e1.ts.length<=
 9223372036854775807/\(0:Int)<=e1.i/\e1.i<=(↑(e1.ts.length):Int)/\aI (aa (List.drop e1.i.toNat e1.ts))<=100000/\e1.xs=fv 38 (List.drop e1.i.toNat
 e1.ts))/\∀(e0:Bool),True->aw e0 (K (AV.aX []) [Obj.ext (some []),Obj.box 48 (au e1.r)]) (K (AV.aX []) [Obj.ext none,Obj.box 48 (au e1.r)]))):=by kernel_rfl
def Pa(a:cf):List AV×List Dn.Obj:=([.de 0, .ptr 1 0 [] 0],[.ext (some (fv 38 (bh 38 a.hl a.bl))), .box 48 (au a)])
def da(a:cf):Prop:=aI (aa (bh 38 a.hl a.bl))<=100000/\a.bl.length<=100000
def KP(_:cf):Out (AV×List Dn.Obj):= .all (fun st'=>vh st') fun st'=> .one (.aX [],st')
theorem c42(κ:Kp):bG (KQ κ) 12 185 (a0 Pa da KP):=by
 refine bc ?_
 rintro⟨xs,more,rel,hl,bl,line,i⟩ K ⟨h1,h2⟩ ho
 have hn: ∀b,K (.aX []) [.ext none,b]:=fun b=>ho _ trivial
 have h0: ∀b,K (.aX []) [.ext (some []),b]:=fun b=>ho _ trivial
 simp only at h1 h2
 have hl1:=ee (aa (bh 38 hl bl))
 rw[du] at hl1
 have hle:hl.length<=100000:=by
  have:(bh 38 hl bl).length=hl.length+(dz bl).length:=by simp[bh,dz]
  omega
 refine Eq.mpr (y42 κ ⟨fv 38 (bh 38 hl bl),more,rel,hl,bl,line,i⟩ K) ?_
 have hz: ∀ts:List AV,ts=hl->(ts++dz (List.drop (Int.toNat 0) bl))=bh 38 hl bl:=fun ts h=>by subst h;rfl
 have fin: ∀ts:List AV,ts=hl->∃a:tR,sp 46 [(2, .ptr 2 0 [] 0),(32, .aB 3 0 (ts++dz (List.drop (Int.toNat 0) bl)).length),(33, .int (ts++dz (List.drop (Int.toNat 0) bl)).length),(34, .int 0)] [.ext (some (fv 38 (bh 38 hl bl))), .box 48 (au ⟨fv 38 (bh 38 hl bl),more,rel,hl,bl,line,i⟩), .box 186 (.de 0), .row 38 (ts++dz (List.drop (Int.toNat 0) bl))]=DU a/\zt a/\∀y:Bool,True->aw y (K (.aX []) [.ext (some []), .box 48 (au a.r)]) (K (.aX []) [.ext none, .box 48 (au a.r)]):=by
  intro ts h
  refine⟨⟨_,[],⟨fv 38 (bh 38 hl bl),more,rel,hl,bl,line,i⟩,bl,ts++dz (List.drop (Int.toNat 0) bl),0⟩,rfl,⟨?_,?_,?_,?_,?_⟩,fun y _=>?_⟩
  ·simp only[hz ts h,aL];omega
  ·simp only;omega
  ·simp only;omega
  ·show aI (aa (List.drop (Int.toNat 0) (ts++dz (List.drop (Int.toNat 0) bl))))<=100000
   rw[hz ts h];exact h1
  ·rw[hz ts h];rfl
  ·cases y
   ·exact hn _
   ·exact h0 _
 refine⟨fun e=>?_,?_⟩
 ·obtain rfl:hl=[]:=by
   cases hl with
   |nil=>rfl
   |cons=>cases e
  refine⟨rfl,⟨_,[],⟨fv 38 (bh 38 [] bl),more,rel,[],bl,line,i⟩,bl,[],0⟩,rfl,⟨by simp only;omega,by simp only;omega,by simp only;omega,?_⟩,rfl,fin [] rfl⟩
  rw[hz [] rfl];exact Nat.le_trans hl1 h1
 ·rw[ai,aa0]
  refine⟨by simp only;omega,rfl,⟨_,[],⟨fv 38 (bh 38 hl bl),more,rel,hl,bl,line,i⟩,bl,[]++hl,0⟩,?_,⟨by simp only;omega,by simp only;omega,by simp only;omega,?_⟩,rfl,fin ([]++hl) rfl⟩
  ·rw[Nat.zero_add];rfl
  ·rw[hz ([]++hl) rfl];exact Nat.le_trans hl1 h1
set_option maxRecDepth 20000 in
noncomputable def Ny(κ:Kp):Env:=(KQ κ).az 185 (a0 Pa da KP)
theorem ZP(κ:Kp):aE (Ny κ):=(Vk κ).az (R8 κ) (c42 κ)
theorem Yr(κ:Kp):aj (Ny κ):=(R8 κ).az aZ
def aF(a:cf):Rl:=⟨⟨a.rel,aa a.hl⟩,dh a.bl⟩
noncomputable abbrev T6(a:cf)(κ:Kp)(st:LoopState)(p:Option Code):Dn.Obj:=
 .loop (iw (Pr κ).toProgram 115 6 st p (ic (bM 31) [(0,au a),(1, .ptr 0 0 [] 0),(2, .nil),(3, .ptr 1 0 [] 0),(4, .ptr 3 0 [] 0),(6,au a),(7, .bool (aV (aF a))),(8, .bool false),(9, .mp 2),(10,au a),(11, .bq 185 [.ptr 4 0 [] 0])]))
noncomputable abbrev o6(κ:Kp)(a:cf):List Dn.Obj:=[.box 48 (au a), .box 36 .nil, .map 9 4 [], .box 177 (.mp 2), .box 48 (au a),T6 a κ .ready none]
theorem s12(κ:Kp)(a:cf)(Q:List Dn.Obj->Prop):(tidy (Pr κ).toProgram 6 (ez (o6 κ a) (dj (o6 κ a) [.ptr 4 0 [] 0])) Q)=(
 Q [Obj.box 48 (au a),Obj.box 36 (AV.aB 6 0 0),Dn.Obj.map 9 4 [],Obj.box 177 (AV.mp 2),Obj.dead,Dn.Obj.loop (iw Tryz.prog 115 6 LoopState.ready none (ic (bM
 31) [(0,au a),(1,AV.ptr 0 0 [] 0),(2,AV.nil),(3,AV.ptr 1 0 [] 0),(4,AV.ptr 3 0 [] 0),(6,au a),(7,AV.bool (aV (aF a))),(8,AV.bool false),(9,
 AV.mp 2),(10,au a),(11,AV.bq 185 [AV.ptr 4 0 [] 0])])),Obj.row 9 []]):=by kernel_rfl
noncomputable abbrev zd(κ:Kp)(a:cf)(vs:List ByteArray)(es:List (Value×AV)):List Dn.Obj:=[.box 48 (au a), .box 36 (.aB 6 0 vs.length), .map 9 4 es, .box 177 (.mp 2), .dead,T6 a κ .ready none, .row 9 (strs vs)]
theorem r12(κ:Kp)(a:cf)(vs:List ByteArray)(es:List (Value×AV))(u:AV)(Q:List Dn.Obj->Prop)(K2:List Dn.Obj->Prop):(iS (vc (Ny κ) 12) 5 [pk 38 u] (zd κ a vs es) (fun r st''=>match r with| .lit (.bool true)=>tidy (Pr κ).toProgram 6 st'' Q| .lit (.bool false)=>K2 st''|_=>False))=(
 letI z1:=iw Tryz.prog 115 6 LoopState.ready none (ic (bM 31) [(0,au a),(1,AV.ptr 0 0 [] 0),(2,AV.nil),(3,AV.ptr 1 0 [] 0),(4,AV.ptr 3 0 [] 0),(6,au
  a),(7,AV.bool (aV (aF a))),(8,AV.bool false),(9,AV.mp 2),(10,au a),(11,AV.bq 185 [AV.ptr 4 0 [] 0])])
 letI z2:=Q [Obj.box 48 (au a),Obj.box 36 (AV.aB 6 0 vs.length),Dn.Obj.map 9 4 es,Obj.box 177 (AV.mp 2),Obj.dead,Dn.Obj.loop z1,Obj.row 9 (strs vs)]
 letI z3:=Value.string (toStr (af u 1))
 aw (toInt (af u 0) != (1:Int)) z2 (aw (Dn.toBool (dO es z3 (AV.bool false))) z2 (aP (decide ((vs.length+1+1)*17<=70368744177664)) (Q [Obj.box 48 (au
 a),Obj.box 36 (AV.aB 6 0 (vs.length+1)),Dn.Obj.map 9 4 (eX es z3 (AV.bool true)),Obj.box 177 (AV.mp 2),Obj.dead,Dn.Obj.loop z1,Obj.row 9 (List.take
 vs.length (strs vs)++[AV.str (toStr (af u 1))])])))):=by kernel_rfl
theorem k12(κ:Kp)(a:cf)(xs:List AV):(AV.de 0::fY (kn (dj (o6 κ a) [.ptr 4 0 [] 0])) [.ptr 4 0 [] 0],Obj.ext (some xs)::gK (kn (dj (o6 κ a) [.ptr 4 0 [] 0])) (ik (o6 κ a) (dj (o6 κ a) [.ptr 4 0 [] 0])))=([.de 0, .ptr 1 0 [] 0],[.ext (some xs), .box 48 (au a)]):=by kernel_rfl
theorem o12(κ:Kp)(a:cf):qW (o6 κ a) [.ptr 4 0 [] 0]=true:=by kernel_rfl
noncomputable def Lk(κ:Kp):dJ:=fun caps st K=>∃a:cf,(caps,st)=([AV.ptr 4 0 [] 0],o6 κ a)/\da a/\K (zd κ a (lY [] (ff (aF a))) (bL (lY [] (ff (aF a)))))
theorem Ch(κ:Kp):(Lk κ).ib:=by
 rintro caps st K K' hK ⟨a,h1,h2,h3⟩
 exact⟨a,h1,h2,hK _ h3⟩
theorem call12(κ:Kp)(args:List AV)(st:List Dn.Obj)(K:AV->List Dn.Obj->Prop)(h:a0 Pa da KP args st K):(Ny κ).call 185 args st K:=h
theorem Xj(κ:Kp):ou (Ny κ) 12 185 (Lk κ):=by
 rintro caps st K ⟨a,h1,h3,h5⟩
 obtain⟨rfl,rfl⟩:=Prod.mk.inj h1
 have hv:=ir 38 a.rel a.hl a.bl
 rw[←su 38] at hv
 have hb:(ff (aF a)).length<=100000:=by
  have h6:=cy (aa (bh 38 a.hl a.bl))
  rw[ir 38 a.rel a.hl a.bl] at h6
  exact Nat.le_trans h6 h3.1
 have hd:=kg (ff (aF a)) []
 refine⟨fv 38 (bh 38 a.hl a.bl),fun items st'=>∃vs,(∀x,x∈items->r6 38 x)/\st'=zd κ a vs (bL vs)/\vs++lY vs (items.flatMap vu)=lY [] (ff (aF a)),⟨o12 κ a,?_,?_,?_,?_⟩⟩
 ·refine call12 κ _ _ _ ⟨a,?_,h3,fun st' h=>h⟩
  rw[k12];rfl
 ·rw[show(Ny κ).P=Pr κ from rfl,show(o6 κ a).length=6 from rfl,s12]
  exact⟨[],Ap _ _,rfl,by rw[hv];rfl⟩
 ·rintro us rest st' ⟨vs,e1,rfl,e3⟩
  obtain⟨u,hu⟩:=e1 (.aX us) (by simp)
  obtain rfl:=AV.aX.inj hu
  rw[show(Ny κ).P=Pr κ from rfl,show(o6 κ a).length=6 from rfl]
  refine Eq.mpr (r12 κ a vs _ u _ _) ?_
  have e1': ∀x,x∈rest->r6 38 x:=fun x hx=>e1 x (by simp[hx])
  have hi:vu (.aX [pk 38 u])=bif decide (toInt (af u 0)=1) then[toStr (af u 1)] else[]:=rfl
  rw[List.flatMap_cons,hi] at e3
  have hin:Dn.toBool (dO (bL vs) (.string (toStr (af u 1))) (.lit (.bool false)))=vs.contains (toStr (af u 1)):=om _ _
  rw[hin]
  simp only[ae,ai,bne_iff_ne,bne_eq_false_iff_eq,aa0]
  refine⟨fun e=>⟨vs,e1',rfl,?_⟩,fun e=>⟨fun e4=>⟨vs,e1',rfl,?_⟩,fun e4=>⟨?_,vs++[toStr (af u 1)],e1',?_,?_⟩⟩⟩
  ·rw[aa4 e] at e3;exact e3
  ·rw[aa6 e,aa7,List.singleton_append,lY,e4] at e3;exact e3
  ·have:=congrArg List.length e3
   rw[ab8] at this;omega
  ·rw[Mc,←aO vs,List.take_length]
   simp only[zd,gN,aO,ab8,List.length_cons,List.length_nil]
   rfl
  ·rw[aa6 e,aa7,List.singleton_append,lY,e4,aa5] at e3
   simpa using e3
 ·rintro st' ⟨vs,_,rfl,e3⟩
  have e4:vs=lY [] (ff (aF a)):=by simpa[lY] using e3
  rw[e4];exact h5
noncomputable def IG(κ:Kp):Env:=((Ny κ).addRange 115 6 185 (Lk κ)).dG (fun f=>gL f Nl)
theorem WQ(κ:Kp):aE (IG κ):=((ZP κ).addRange (Yr κ) (Xj κ)).dG _
theorem QT(κ:Kp):aj (IG κ):=((Yr κ).addRange (Ch κ)).dG _
theorem y12(κ:Kp)(a:cf)(K:AV->List Dn.Obj->Prop):(ba (IG κ) 12 115 [au a] [] K)=(
 letI z1:=AV.agg [AV.agg [AV.str a.rel,AV.ad 38 a.hl],AV.ad 80 a.bl,AV.int a.line]
 aP (decide (a.hl.length<=9223372036854775807)&&decide (a.bl.length<=9223372036854775807)) (aw (!aV {head:={rel:=a.rel,l:=aa a.hl},body:=dh a.bl}) (K AV.nil []) (∃(e0:cf),([AV.ptr 4 0 [] 0],[Obj.box 48 z1,Obj.box 36 AV.nil,Dn.Obj.map 9 4 [],Obj.box 177 (AV.mp 2),Obj.box 48 z1,Dn.Obj.loop (iw Tryz.prog 115 6 LoopState.ready none (ic (bM 31) [(0,AV.agg [AV.agg [AV.str a.rel,AV.ad 38 a.hl],AV.ad 80 a.bl,AV.int a.line]),(1,AV.ptr 0 0 [] 0),(2,AV.nil),(3,AV.ptr 1 0 [] 0),(4,AV.ptr 3 0 [] 0),(6,AV.agg [AV.agg [AV.str a.rel,AV.ad 38 a.hl],AV.ad 80 a.bl,AV.int a.line]),(7,AV.lit (Value.bool (aV {head:={rel:=a.rel,l:=aa a.hl},body:=dh a.bl}))),(8,AV.bool false),(9,AV.mp 2),(10,AV.agg [AV.agg [AV.str a.rel,AV.ad 38 a.hl],AV.ad 80 a.bl,AV.int a.line]),(11,AV.bq 185 [AV.ptr 4 0 [] 0])]))])=([AV.ptr 4 0 [] 0],[Obj.box 48 (AV.agg [AV.agg [AV.str e0.rel,AV.ad 38 e0.hl],AV.ad 80 e0.bl,AV.int e0.line]),Obj.box 36 AV.nil,Dn.Obj.map 9 4 [],Obj.box 177 (AV.mp 2),Obj.box 48 (AV.agg [AV.agg [AV.str e0.rel,AV.ad 38 e0.hl],AV.ad 80 e0.bl,AV.int e0.line]),Dn.Obj.loop (iw Tryz.prog 115 6 LoopState.ready none (ic (bM 31) [(0,AV.agg [AV.agg [AV.str e0.rel,AV.ad 38 e0.hl],AV.ad 80 e0.bl,AV.int e0.line]),(1,AV.ptr 0 0 [] 0),(2,AV.nil),(3,AV.ptr 1 0 [] 0),(4,AV.ptr 3 0 [] 0),(6,AV.agg [AV.agg [AV.str e0.rel,AV.ad 38 e0.hl],AV.ad 80 e0.bl,AV.int e0.line]),(7,AV.bool (aV (aF e0))),(8,AV.bool false),(9,AV.mp 2),(10,AV.agg [AV.agg [AV.str e0.rel,AV.ad 38 e0.hl],AV.ad 80 e0.bl,AV.int e0.line]),(11,AV.bq 185 [AV.ptr 4 0 [] 0])]))])/\(aI (aa (bh 38 e0.hl e0.bl))<=100000/\e0.bl.length<=100000)/\K (AV.aB 0 0 (List.length (lY [] (ff (aF e0))))) [Obj.row 9 (strs (lY [] (ff (aF e0))))]))):=by kernel_rfl
def Rg(a:cf):List AV×List Dn.Obj:=([au a],[])
def Ii(a:cf):Prop:=aV (aF a)=true/\da a
def Lh(a:cf):Out (AV×List Dn.Obj):= .one (.aB 0 0 (dc (aF a)).length,[.row 9 (strs (dc (aF a)))])
theorem c12(κ:Kp):bG (IG κ) 12 115 (a0 Rg Ii Lh):=by
 refine bc ?_
 rintro⟨xs,more,rel,hl,bl,line,i⟩ K ⟨h0,h1,h2⟩ ho
 refine Eq.mpr (y12 κ ⟨xs,more,rel,hl,bl,line,i⟩ K) ?_
 have hr:aV ⟨⟨rel,aa hl⟩,dh bl⟩=true:=h0
 simp only at h1 h2
 have hl1:=ee (aa (bh 38 hl bl))
 rw[du] at hl1
 have hle:hl.length<=100000:=by
  have:(bh 38 hl bl).length=hl.length+(dz bl).length:=by simp[bh,dz]
  omega
 simp only[hr,ai,ae,aa1,aa0]
 refine⟨⟨by omega,by omega⟩,(fun e=>nomatch e),fun _=>⟨⟨xs,more,rel,hl,bl,line,i⟩,?_,⟨h1,h2⟩,?_⟩⟩
 ·rw[show aV (aF ⟨xs,more,rel,hl,bl,line,i⟩)=true from h0]
 ·simp only[Lh,Out.run,dc,h0,aa7] at ho
  exact ho
set_option maxRecDepth 20000 in
noncomputable def Jl(κ:Kp):Env:=(IG κ).az 115 (a0 Rg Ii Lh)
theorem e12(κ:Kp):aE (Jl κ):=(WQ κ).az (QT κ) (c12 κ)
theorem XY(κ:Kp):aj (Jl κ):=(QT κ).az aZ
theorem ny: ∀l m:List Tm,aI (l++m)=aI l+aI m
 |[],m=>by simp[aI]
 |t::l,m=>by simp only[List.cons_append,aI,ny l m];omega
theorem oG{a:cf}(h:da a):aI (aa a.hl)<=100000:=by
 have:=h.1
 unfold bh aa at this
 rw[List.map_append,ny] at this
 unfold aa;omega
theorem D6: ∀(l:List AV) (x:AV),x∈l->iH (cR x)<=aI (aa (dz l))
 |[],_,h=>by simp at h
 | y::l,x,h=>by
  have e:aI (aa (dz (y::l)))=iH (cR y)+aI (aa (dz l)):=by
   unfold dz aa
   rw[List.flatMap_cons,List.map_append,ny,List.map_append,ny]
   simp only[iH,cR,J8,aa,ac0,List.map_nil,qB]
  rw[e]
  rcases List.mem_cons.1 h with rfl|h
  ·omega
  ·have:=D6 l x h;omega
theorem kr{a:cf}(h:da a){i:Nat}(hi:i<a.bl.length):iH (cR (nth a.bl i))<=100000:=by
 have h1:=h.1
 have e:bh 38 a.hl a.bl=a.hl++dz a.bl:=rfl
 rw[e] at h1
 unfold aa at h1
 rw[List.map_append,ny] at h1
 have:=D6 a.bl (nth a.bl i) (by rw[a7 _ _ hi];exact List.getElem_mem hi)
 unfold aa at this;omega
theorem j4(l:List AV){i:Nat}(hi:i<l.length):dI (dh l) i=cR (nth l i):=by
 unfold dI dh
 rw[List.getD_eq_getElem?_getD,List.getElem?_map,ab6 hi,a7 l i hi];rfl
def se(x:AV):LA:=⟨toInt (af x 0),toStr (af (af x 1) 0),ah (af (af x 1) 1),toInt (af (af x 2) 0),toStr (af (af x 2) 1),toInt (af (af x 2) 2),ah (af (af x 2) 3),toInt (af (af x 3) 0),toStr (af (af x 3) 1),toInt (af (af x 3) 2),ah (af (af x 3) 3)⟩
theorem eB(x:AV):(se x).lt=cR x:=by rw[lt_eq];rfl
structure Qq where
 a:cf
 k:Int
 i:Int
 vs:List ByteArray
abbrev Of(a:Qq):S:=sp 53 [(1, .int a.k),(2, .ptr 0 0 [] 0),(5, .ptr 1 0 [] 0),(17, .ad 80 a.a.bl),(18, .int a.a.bl.length),(19, .int a.i)] [.box 48 (au a.a), .box 178 (.mp 2), .map 9 4 (bL a.vs)]
theorem x39(κ:Kp)(a:cf)(k i:Int)(es:List (Value×AV))(I:Nat->S->Prop)(n:Nat)(K:Exit->S->Prop):(vc (Jl κ) 12 159 none 0 (ag (Pr κ).toProgram 159 4) (sp 53 [(1, .int k),(2, .ptr 0 0 [] 0),(5, .ptr 1 0 [] 0),(17, .ad 80 a.bl),(18, .int a.bl.length),(19, .int i)] [.box 48 (au a), .box 178 (.mp 2), .map 9 4 es]) (bB (Jl κ) 159 4 0 I n K))=(
 letI z3:=nth a.bl i.toNat
 letI z4:=IntKind.wrap IntKind.i64 (i+(1:Int))
 letI z5:=a.bl.length
 letI z1:=∃(e2:List AV),([AV.ad 38 [AV.agg [AV.int (toInt (af (af z3 2) 0)),AV.str (toStr (af (af z3 2) 1)),AV.int (toInt (af (af z3 2) 2)),AV.ad 38 (ah
  (af (af z3 2) 3))]]],aJ)=([AV.ad 38 e2],aJ)/\bw e2/\∃(e1:List AV×List (Value×AV)),([AV.mp 0,AV.ad 9 (List.take (List.length (aq (aa e2)))
  (List.drop 0 (strs (aq (aa e2)))))],[Dn.Obj.map 9 4 es])=([AV.mp 0,AV.ad 9 e1.1],[Dn.Obj.map 9 4 e1.2])/\bj e1/\∃(e0:Nat),e0<n/\I e0 (sp 53 [(1,
  AV.int k),(2,AV.ptr 0 0 [] 0),(5,AV.ptr 1 0 [] 0),(17,AV.ad 80 a.bl),(18,AV.int (↑z5:Int)),(19,AV.int z4)] [Obj.box 48 (au a),Obj.box 178 (AV.mp
  2),Dn.Obj.map 9 4 (fo e1.2 e1.1)])
 letI z2:=∃(e2:LA),([AV.agg [AV.int (toInt (af z3 0)),AV.agg [AV.str (toStr (af (af z3 1) 0)),AV.ad 38 (ah (af (af z3 1) 1))],AV.agg [AV.int (toInt (af
  (af z3 2) 0)),AV.str (toStr (af (af z3 2) 1)),AV.int (toInt (af (af z3 2) 2)),AV.ad 38 (ah (af (af z3 2) 3))],AV.agg [AV.int (toInt (af (af z3 3) 0)),
  AV.str (toStr (af (af z3 3) 1)),AV.int (toInt (af (af z3 3) 2)),AV.ad 38 (ah (af (af z3 3) 3))]]],aJ)=([AV.agg [AV.int e2.op,AV.agg [AV.str e2.s,AV.ad 38
  e2.l],AV.agg [AV.int e2.o1,AV.str e2.s1,AV.int e2.n1,AV.ad 38 e2.l1],AV.agg [AV.int e2.o2,AV.str e2.s2,AV.int e2.n2,AV.ad 38 e2.l2]]],aJ)/\fU e2/\∃
  (e1:List AV×List (Value×AV)),([AV.mp 0,AV.ad 9 (List.take (List.length (ei (LA.lt e2))) (List.drop 0 (strs (ei (LA.lt e2)))))],[Dn.Obj.map 9 4 es])=
  ([AV.mp 0,AV.ad 9 e1.1],[Dn.Obj.map 9 4 e1.2])/\bj e1/\∃(e0:Nat),e0<n/\I e0 (sp 53 [(1,AV.int k),(2,AV.ptr 0 0 [] 0),(5,AV.ptr 1 0 [] 0),(17,
  AV.ad 80 a.bl),(18,AV.int (↑z5:Int)),(19,AV.int z4)] [Obj.box 48 (au a),Obj.box 178 (AV.mp 2),Dn.Obj.map 9 4 (fo e1.2 e1.1)])
 aw (decide (i<(↑z5:Int))) (aP (decide ((0:Int)<=i)&&decide (i<(↑z5:Int))) (aw (i==k) (z1/\z1/\z1) (z2/\z2))) (K (Exit.exit 0) (sp 53 [(1,
 AV.int k),(2,AV.ptr 0 0 [] 0),(5,AV.ptr 1 0 [] 0)] [Obj.box 48 (au a),Obj.box 178 (AV.mp 2),Dn.Obj.map 9 4 es]))):=by kernel_rfl
def Fx(a:Qq):Prop:=da a.a/\0<=a.k/\0<=a.i/\a.i<=a.a.bl.length
def n6(a:Qq):List ByteArray:=a.vs++Ba a.k.toNat (dh (a.a.bl.drop a.i.toNat)) a.i.toNat
def ua(a:Qq):Out (Exit×S):= .one (.exit 0,sp 53 [(1, .int a.k),(2, .ptr 0 0 [] 0),(5, .ptr 1 0 [] 0)] [.box 48 (au a.a), .box 178 (.mp 2), .map 9 4 (bL (n6 a))])
theorem l39(κ:Kp):bf (Jl κ) 12 159 4 (aR 0 Of Fx ua):=by
 refine aG (fun a=>a.a.bl.length - a.i.toNat) ?_
 rintro⟨a,k,i,vs⟩ K ⟨h1,h2,h3,h4⟩ ho
 simp only at h1 h2 h3 h4
 rw[show(Jl κ).P=Pr κ from rfl]
 refine Eq.mpr (x39 κ a k i (bL vs) _ _ K) ?_
 simp only[and_self]
 have hl:=h1.2
 simp only[ua,n6,Out.run] at ho
 simp only[ae,ai,aa0,aa2,aa1,beq_iff_eq,beq_eq_false_iff_ne]
 refine⟨fun hi=>⟨⟨h3,hi⟩,?_⟩,fun hi=>?_⟩
 ·have hlit:=kr h1 (i:=i.toNat) (by omega)
  rw[nO a.bl i.toNat (by omega),Ba] at ho
  rw[aC (n:=i+1) (by omega) (by omega)]
  refine⟨fun e=>?_,fun e=>?_⟩
  ·subst e
   rw[Nat.beq_refl,aa7,←List.append_assoc] at ho
   have ht:aa [pk 38 (af (nth a.bl i.toNat) 2)]=[(cR (nth a.bl i.toNat)).x]:=by
    simp only[aa,ac0,List.map_nil,qB];rfl
   have hc:aI [(cR (nth a.bl i.toNat)).x]<=100000:=by
    have:iH (cR (nth a.bl i.toNat))=aI [(cR (nth a.bl i.toNat)).x,(cR (nth a.bl i.toNat)).y]+aI (cR (nth a.bl i.toNat)).a.l:=rfl
    simp only[aI] at this⊢;omega
   have hv:=cy [(cR (nth a.bl i.toNat)).x]
   refine⟨[pk 38 (af (nth a.bl i.toNat) 2)],rfl,by simp only[bw,ht];exact hc,⟨strs (aq [(cR (nth a.bl i.toNat)).x]),bL vs⟩,?_,?_,_,?_,⟨a,i,i+1,vs++aq [(cR (nth a.bl i.toNat)).x]⟩,?_,⟨h1,h2,by simp only;omega,by simp only;omega⟩,rfl,?_⟩
   ·simp only[ab0,cX,ht]
   ·simp only[bj,aO,aL];omega
   ·simp only;omega
   ·simp only[lF]
   ·simp only[ua,n6,Out.run,show(i+1).toNat=i.toNat+1 by omega]
    exact ho
  ·rw[rX (show i.toNat≠k.toNat by omega),aa5,←List.append_assoc] at ho
   have hv:=cy [(cR (nth a.bl i.toNat)).x,(cR (nth a.bl i.toNat)).y]
   have hv2:=cy (cR (nth a.bl i.toNat)).a.l
   have hlen:(ei (cR (nth a.bl i.toNat))).length<=100000:=by
    simp only[ei,iH,ab8] at hlit⊢;omega
   refine⟨se (nth a.bl i.toNat),rfl,by rw[fU,eB];exact hlit,⟨strs (ei (cR (nth a.bl i.toNat))),bL vs⟩,?_,?_,_,?_,⟨a,k,i+1,vs++ei (cR (nth a.bl i.toNat))⟩,?_,⟨h1,h2,by simp only;omega,by simp only;omega⟩,rfl,?_⟩
   ·simp only[ab0,cX,eB]
   ·simp only[bj,aO,aL];omega
   ·simp only;omega
   ·simp only[lF]
   ·simp only[ua,n6,Out.run,show(i+1).toNat=i.toNat+1 by omega]
    exact ho
 ·rw[aa8 (by omega)] at ho
  simpa[dh,Ba] using ho
noncomputable def nE(κ:Kp):Env:=(Jl κ).ar 159 4 (aR 0 Of Fx ua)
theorem PH(κ:Kp):aE (nE κ):=(e12 κ).ar (XY κ) (l39 κ)
theorem Jq(κ:Kp):aj (nE κ):=(XY κ).ar aW
def dr(fH:List (Value×AV))(fC:List (Value×AV))(s:ByteArray):Bool:=kD fH s&&kD fC s
structure DO where
 vs:List ByteArray
 i:Int
 fH:List (Value×AV)
 fC:List (Value×AV)
abbrev BL(R:List AV)(fH:List (Value×AV))(fC:List (Value×AV)):List Dn.Obj:=[.row 9 R, .box 178 (.mp 2), .map 9 4 fH, .box 178 (.mp 4), .map 9 4 fC]
abbrev MH:AV:= .bq 184 [.ptr 1 0 [] 0, .ptr 3 0 [] 0]
abbrev Hf(a:DO):S:=sp 19 [(0, .aB 0 0 (strs a.vs).length),(1,MH),(7, .int (strs a.vs).length),(8, .int a.i)] (BL (strs a.vs) a.fH a.fC)
theorem xFO(κ:Kp)(a:DO)(I:Nat->S->Prop)(n:Nat)(K:Exit->S->Prop):(vc (nE κ) 12 161 none 5 (ag (Pr κ).toProgram 161 2) (Hf a) (bB (nE κ) 161 2 5 I n K))=(
 letI z1:=K Exit.ret (sp 19 [(4,AV.int a.i)] [Obj.row 9 (strs a.vs),Obj.box 178 (AV.mp 2),Dn.Obj.map 9 4 a.fH,Obj.box 178 (AV.mp 4),Dn.Obj.map 9 4 a.fC])
 letI z2:=List.length (strs a.vs)
 letI z3:=Value.string (toStr (nth (strs a.vs) (0+a.i.toNat)))
 aw (decide (a.i<(↑z2:Int))) (aP (decide ((0:Int)<=a.i)&&decide (a.i<(↑z2:Int))) (aw (!Dn.toBool (dO a.fH z3 (AV.bool false))) z1 (aw (!Dn.toBool
 (dO a.fC z3 (AV.bool false))) z1 (∃(e0:Nat),e0<n/\I e0 (sp 19 [(0,AV.aB 0 0 z2),(1,AV.bq 184 [AV.ptr 1 0 [] 0,AV.ptr 3 0 [] 0]),(7,AV.int (↑z2:
 Int)),(8,AV.int (IntKind.wrap IntKind.i64 (a.i+(1:Int))))] [Obj.row 9 (strs a.vs),Obj.box 178 (AV.mp 2),Dn.Obj.map 9 4 a.fH,Obj.box 178 (AV.mp 4),
 Dn.Obj.map 9 4 a.fC]))))) (K (Exit.exit 0) (sp 19 [] [Obj.row 9 (strs a.vs),Obj.box 178 (AV.mp 2),Dn.Obj.map 9 4 a.fH,Obj.box 178 (AV.mp 4),Dn.Obj.map 9 4
 a.fC]))):=by kernel_rfl
def CE(a:DO):Prop:=a.vs.length<=aL/\0<=a.i/\a.i<=a.vs.length/\∀s,s∈a.vs.take a.i.toNat->dr a.fH a.fC s=true
def AK(a:DO):Out (Exit×S):=
 .aw (a.vs.all (dr a.fH a.fC)) (.one (.exit 0,sp 19 [] (BL (strs a.vs) a.fH a.fC)))
  (.all (fun j:Int=>uH (dr a.fH a.fC) a.vs j) fun j=> .one (.ret,sp 19 [(4, .int j)] (BL (strs a.vs) a.fH a.fC)))
theorem lFO(κ:Kp):bf (nE κ) 12 161 2 (aR 5 Hf CE AK):=by
 refine aG (fun a=>a.vs.length - a.i.toNat) ?_
 rintro⟨vs,i,fH,fC⟩ K ⟨h1,h2,h3,h4⟩ ho
 simp only at h1 h2 h3 h4
 rw[show(nE κ).P=Pr κ from rfl]
 refine Eq.mpr (xFO κ ⟨vs,i,fH,fC⟩ _ _ K) ?_
 simp only[aL] at h1
 simp only[AK,Out.run,ae] at ho
 have hl:=aO vs
 simp only[aO,Nat.zero_add]
 have fin:i<vs.length->∀(hi:i.toNat<vs.length),(dr fH fC vs[i.toNat]=false->K .ret (sp 19 [(4, .int i)] (BL (strs vs) fH fC)))/\
   (dr fH fC vs[i.toNat]=true->∃m,m<vs.length - i.toNat/\ig Hf CE AK (fun a=>a.vs.length - a.i.toNat) K m (Hf ⟨vs,i+1,fH,fC⟩)):=by
  intro hi0 hi
  refine⟨fun e=>ho.2 ?_ i ⟨h2,hi,h4,e⟩,fun e=>⟨_,?_,⟨vs,i+1,fH,fC⟩,rfl,⟨by simpa[aL] using h1,by simp only;omega,by simp only;omega,?_⟩,rfl,?_⟩⟩
  ·rw[Bool.eq_false_iff]
   intro hall
   rw[List.all_eq_true.1 hall _ (List.getElem_mem hi)] at e
   cases e
  ·simp only;omega
  ·intro s hs
   simp only at hs
   rw[show(i+1).toNat=i.toNat+1 by omega,List.take_succ_eq_append_getElem hi,List.mem_append,List.mem_singleton] at hs
   rcases hs with hs|hs
   ·exact h4 s hs
   ·rw[hs];exact e
  ·simp only[AK,Out.run,ae]
   exact ho
 simp only[ae,ai,aa0,aa2,aa1,Bool.not_eq_true',ab2]
 refine⟨fun hi=>⟨⟨h2,hi⟩,?_⟩,fun hi=>?_⟩
 ·have hi':i.toNat<vs.length:=by omega
  have hn:toStr (nth (strs vs) i.toNat)=vs[i.toNat]:=by rw[u6 vs _ hi'];rfl
  rw[aC (n:=i+1) (by omega) (by omega),hn]
  have hf:=fin hi hi'
  simp only[Hf,aO] at hf
  exact⟨fun e=>hf.1 (by unfold dr kD;rw[e];rfl),fun e=>⟨fun e2=>hf.1 (by unfold dr kD;rw[e,e2];rfl),fun e2=>hf.2 (by unfold dr kD;rw[e,e2];rfl)⟩⟩
 ·refine ho.1 (List.all_eq_true.2 fun s hs=>h4 s ?_)
  rw[List.take_of_length_le (by omega)];exact hs
noncomputable def Mb(κ:Kp):Env:=(nE κ).ar 161 2 (aR 5 Hf CE AK)
theorem eFO(κ:Kp):aE (Mb κ):=(PH κ).ar (Jq κ) (lFO κ)
theorem X4(κ:Kp):aj (Mb κ):=(Jq κ).ar aW
structure GO where
 R:List AV
 i:Int
 j:Int
 fH:List (Value×AV)
 fC:List (Value×AV)
 P:List ByteArray
 ws:List ByteArray
abbrev Ak(a:GO):S:=sp 42 [(0, .aB 0 0 a.R.length),(1,MH),(5, .int a.i),(6, .int a.j)] (BL a.R a.fH a.fC)
theorem xGO(κ:Kp)(a:GO)(I:Nat->S->Prop)(n:Nat)(K:Exit->S->Prop):(vc (Mb κ) 12 114 none 5 (ag (Pr κ).toProgram 114 5) (Ak a) (bB (Mb κ) 114 5 5 I n K))=(
 letI z2:=toStr (nth a.R (0+a.j.toNat))
 letI z3:=IntKind.wrap IntKind.i64 (a.j+(1:Int))
 letI z1:=∃(e0:Nat),e0<n/\I e0 (sp 42 [(0,AV.aB 0 0 a.R.length),(1,AV.bq 184 [AV.ptr 1 0 [] 0,AV.ptr 3 0 [] 0]),(5,AV.int a.i),(6,AV.int z3)]
  [Obj.row 9 a.R,Obj.box 178 (AV.mp 2),Dn.Obj.map 9 4 a.fH,Obj.box 178 (AV.mp 4),Dn.Obj.map 9 4 a.fC])
 letI z4:=a.j<(↑(a.R.length):Int)
 aw (decide z4) (aP (decide ((0:Int)<=a.j)&&decide z4) (aw (!Dn.toBool (dO a.fH (Value.string z2) (AV.bool false))) z1 (aw (!!Dn.toBool (dO a.fC
 (Value.string z2) (AV.bool false))) (aP (decide ((0:Int)<=a.i)&&decide (a.i<(↑(a.R.length):Int))) (∃(e0:Nat),e0<n/\I e0 (sp 42 [(0,AV.aB 0 0
 a.R.length),(1,AV.bq 184 [AV.ptr 1 0 [] 0,AV.ptr 3 0 [] 0]),(5,AV.int (IntKind.wrap IntKind.i64 (a.i+(1:Int)))),(6,AV.int z3)] [Obj.row 9 (bJ a.R (0
 +a.i.toNat) (AV.str z2)),Obj.box 178 (AV.mp 2),Dn.Obj.map 9 4 a.fH,Obj.box 178 (AV.mp 4),Dn.Obj.map 9 4 a.fC]))) z1))) (K (Exit.exit 0) (sp 42 [(0,AV.aB 0
 0 a.R.length),(5,AV.int a.i)] [Obj.row 9 a.R,Obj.box 178 (AV.mp 2),Dn.Obj.map 9 4 a.fH,Obj.box 178 (AV.mp 4),Dn.Obj.map 9 4 a.fC]))):=by kernel_rfl
def yw(a:GO):Prop:=a.R.length<=aL/\0<=a.i/\a.i<a.j/\a.j<=a.R.length/\a.R.take a.i.toNat=strs a.P/\a.R.drop a.j.toNat=strs a.ws
def BC(a:GO):Out (Exit×S):= .all (fun R:List AV=>R.length=a.R.length/\R.take (a.P++a.ws.filter (dr a.fH a.fC)).length=strs (a.P++a.ws.filter (dr a.fH a.fC)))
 fun R=> .one (.exit 0,sp 42 [(0, .aB 0 0 a.R.length),(5, .int (a.P++a.ws.filter (dr a.fH a.fC)).length)] (BL R a.fH a.fC))
theorem Zr(κ:Kp):bf (Mb κ) 12 114 5 (aR 5 Ak yw BC):=by
 refine aG (fun a=>a.R.length - a.j.toNat) ?_
 rintro⟨R,i,j,fH,fC,P,ws⟩ K ⟨h1,h2,h3,h4,h5,h6⟩ ho
 simp only at h1 h2 h3 h4 h5 h6
 rw[show(Mb κ).P=Pr κ from rfl]
 refine Eq.mpr (xGO κ ⟨R,i,j,fH,fC,P,ws⟩ _ _ K) ?_
 simp only[aL] at h1
 simp only[BC,Out.run] at ho
 simp only[Nat.zero_add]
 have hP:P.length=i.toNat:=by
  have:=congrArg List.length h5
  rw[List.length_take,aO] at this;omega
 have fin: ∀(s:ByteArray) (l:List ByteArray),ws=s::l->j<R.length->nth R j.toNat= .lit (.string s)->
   (dr fH fC s=false->∃m,m<R.length - j.toNat/\ig Ak yw BC (fun a=>a.R.length - a.j.toNat) K m (Ak ⟨R,i,j+1,fH,fC,P,l⟩))/\
   (dr fH fC s=true->∃m,m<R.length - j.toNat/\ig Ak yw BC (fun a=>a.R.length - a.j.toNat) K m (Ak ⟨bJ R i.toNat (.lit (.string s)),i+1,j+1,fH,fC,P++[s],l⟩)):=by
  rintro s l rfl hj hn
  obtain⟨_,_,h7⟩:=jf (l:=strs l) h6
  refine⟨fun e=>⟨_,?_,_,rfl,⟨by simpa[aL] using h1,h2,by simp only;omega,by simp only;omega,h5,?_⟩,rfl,?_⟩,fun e=>⟨_,?_,_,rfl,⟨by simpa[aL,gh] using h1,by simp only;omega,by simp only;omega,by simp only[gh];omega,?_,?_⟩,rfl,?_⟩⟩
  ·simp only;omega
  ·simp only[show(j+1).toNat=j.toNat+1 by omega];exact h7
  ·intro y hy
   have:=ho y
   simp only[List.filter_cons,e,Bool.false_eq_true,if_false] at hy this⊢
   exact this hy
  ·simp only[gh];omega
  ·simp only[show(i+1).toNat=i.toNat+1 by omega]
   rw[rI _ _ _ (by omega),h5,gN];rfl
  ·simp only[show(j+1).toNat=j.toNat+1 by omega]
   rw[rm _ _ _ _ (by omega)];exact h7
  ·intro y hy
   have:=ho y
   simp only[List.filter_cons,e,if_true,gh,List.append_assoc,List.singleton_append] at hy this⊢
   exact this hy
 simp only[ae,ai,aa0,aa2,aa1,Bool.not_eq_true',ab2]
 refine⟨fun hj=>⟨⟨by omega,hj⟩,?_⟩,fun hj=>?_⟩
 ·cases ws with
  |nil=>
   have:=congrArg List.length h6
   rw[List.length_drop,aO] at this
   simp at this;omega
  |cons s l=>
   obtain⟨_,hn,_⟩:=jf (l:=strs l) h6
   have hn':toStr (nth R j.toNat)=s:=by rw[hn];rfl
   have hf:=fin s l rfl hj hn
   simp only[Ak,gh] at hf
   rw[aC (n:=i+1) (by omega) (by omega),aC (n:=j+1) (by omega) (by omega),hn']
   exact⟨fun e=>hf.1 (by unfold dr kD;rw[e];rfl),fun e=>⟨fun e2=>⟨⟨by omega,by omega⟩,hf.2 (by unfold dr kD;rw[e,e2];rfl)⟩,fun e2=>hf.1 (by unfold dr kD;rw[e,e2];rfl)⟩⟩
 ·have hw:ws=[]:=by
   have:=congrArg List.length h6
   rw[List.length_drop,aO] at this
   cases ws with
   |nil=>rfl
   |cons=>simp at this;omega
  subst hw
  have:=ho R ⟨rfl,by simp only[List.filter_nil,List.append_nil,hP];exact h5⟩
  simp only[List.filter_nil,List.append_nil,hP,Int.toNat_of_nonneg h2] at this
  exact this
noncomputable def Ur(κ:Kp):Env:=(Mb κ).ar 114 5 (aR 5 Ak yw BC)
theorem eGO(κ:Kp):aE (Ur κ):=(eFO κ).ar (X4 κ) (Zr κ)
theorem mGO(κ:Kp):aj (Ur κ):=(X4 κ).ar aW
theorem yGO(κ:Kp)(a:DO)(K:AV->List Dn.Obj->Prop):(ba (Ur κ) 12 114 [.aB 0 0 (strs a.vs).length,MH] (BL (strs a.vs) a.fH a.fC) K)=(
 letI z1:=List.length (strs a.vs)
 letI z2:=Pg.toProgram (Env.P (nE κ))
 letI z3:=Pg.toProgram (Env.P (Mb κ))
 ag z2 161 2=ag z2 161 2/\∃(e3:DO),sp 19 [(0,AV.aB 0 0 z1),(1,AV.bq 184 [AV.ptr 1 0 [] 0,AV.ptr 3 0 [] 0]),(7,AV.int (↑z1:Int)),(8,AV.int 0)] [Obj.row 9 (strs a.vs),Obj.box 178 (AV.mp 2),Dn.Obj.map 9 4 a.fH,Obj.box 178 (AV.mp 4),Dn.Obj.map 9 4 a.fC]=sp 19 [(0,AV.aB 0 0 (List.length (strs e3.vs))),(1,AV.bq 184 [AV.ptr 1 0 [] 0,AV.ptr 3 0 [] 0]),(7,AV.int (↑(List.length (strs e3.vs)):Int)),(8,AV.int e3.i)] [Obj.row 9 (strs e3.vs),Obj.box 178 (AV.mp 2),Dn.Obj.map 9 4 e3.fH,Obj.box 178 (AV.mp 4),Dn.Obj.map 9 4 e3.fC]/\(e3.vs.length<=9223372036854775807/\(0:Int)<=e3.i/\e3.i<=(↑(e3.vs.length):Int)/\∀(e0:ByteArray),List.Mem e0 (List.take e3.i.toNat e3.vs)->dr e3.fH e3.fC e0=true)/\aw (List.all e3.vs (dr e3.fH e3.fC)) (K (AV.ad 9 (List.take z1 (List.drop 0 (strs e3.vs)))) [Obj.kC 9 (strs e3.vs),Obj.box 178 (AV.mp 2),Dn.Obj.map 9 4 e3.fH,Obj.box 178 (AV.mp 4),Dn.Obj.map 9 4 e3.fC]) (∀(e2:Int),((0:Int)<=e2/\∃(e1:e2.toNat<e3.vs.length),(∀(e0:ByteArray),List.Mem e0 (List.take e2.toNat e3.vs)->dr e3.fH e3.fC e0=true)/\dr e3.fH e3.fC e3.vs[e2.toNat]=false)->aw (e2==(-1:Int)) (K (AV.ad 9 (List.take z1 (List.drop 0 (strs e3.vs)))) [Obj.kC 9 (strs e3.vs),Obj.box 178 (AV.mp 2),Dn.Obj.map 9 4 e3.fH,Obj.box 178 (AV.mp 4),Dn.Obj.map 9 4 e3.fC]) (ag z3 114 5=ag z3 114 5/\∃(e1:GO),sp 42 [(0,AV.aB 0 0 z1),(1,AV.bq 184 [AV.ptr 1 0 [] 0,AV.ptr 3 0 [] 0]),(5,AV.int e2),(6,AV.int (IntKind.wrap IntKind.i64 (e2+(1:Int))))] [Obj.row 9 (strs e3.vs),Obj.box 178 (AV.mp 2),Dn.Obj.map 9 4 e3.fH,Obj.box 178 (AV.mp 4),Dn.Obj.map 9 4 e3.fC]=sp 42 [(0,AV.aB 0 0 e1.R.length),(1,AV.bq 184 [AV.ptr 1 0 [] 0,AV.ptr 3 0 [] 0]),(5,AV.int e1.i),(6,AV.int e1.j)] [Obj.row 9 e1.R,Obj.box 178 (AV.mp 2),Dn.Obj.map 9 4 e1.fH,Obj.box 178 (AV.mp 4),Dn.Obj.map 9 4 e1.fC]/\(e1.R.length<=9223372036854775807/\(0:Int)<=e1.i/\e1.i<e1.j/\e1.j<=(↑(e1.R.length):Int)/\List.take e1.i.toNat e1.R=strs e1.P/\List.drop e1.j.toNat e1.R=strs e1.ws)/\∀(e0:List AV),e0.length=e1.R.length/\List.take (List.length (e1.P++List.filter (dr e1.fH e1.fC) e1.ws)) e0=strs (e1.P++List.filter (dr e1.fH e1.fC) e1.ws)->aP (true&&decide ((↑(List.length (e1.P++List.filter (dr e1.fH e1.fC) e1.ws)):Int)<=(↑(e1.R.length):Int))&&decide ((↑(e1.R.length):Int)<=(↑(e1.R.length):Int))) (aP (true&&decide ((↑(List.length (e1.P++List.filter (dr e1.fH e1.fC) e1.ws)):Int)<=(↑(e1.R.length):Int))) (K (AV.ad 9 (List.take (Int.toNat ((↑(List.length (e1.P++List.filter (dr e1.fH e1.fC) e1.ws)):Int) - (0:Int))) (List.drop 0 (cO e0 (0+Int.toNat (↑(List.length (e1.P++List.filter (dr e1.fH e1.fC) e1.ws)):Int)) (Int.toNat ((↑(e1.R.length):Int) - (↑(List.length (e1.P++List.filter (dr e1.fH e1.fC) e1.ws)):Int))) (AV.str {data:= #[]}))))) [Obj.kC 9 (cO e0 (0+Int.toNat (↑(List.length (e1.P++List.filter (dr e1.fH e1.fC) e1.ws)):Int)) (Int.toNat ((↑(e1.R.length):Int) - (↑(List.length (e1.P++List.filter (dr e1.fH e1.fC) e1.ws)):Int))) (AV.str {data:= #[]})),Obj.box 178 (AV.mp 2),Dn.Obj.map 9 4 e1.fH,Obj.box 178 (AV.mp 4),Dn.Obj.map 9 4 e1.fC]))))):=by kernel_rfl
def FH(a:DO):List AV×List Dn.Obj:=([.aB 0 0 a.vs.length,MH],BL (strs a.vs) a.fH a.fC)
def jM(a:DO):Prop:=a.vs.length<=aL
def Dp(a:DO):Out (AV×List Dn.Obj):= .all (fun _:List AV=>True) fun R=> .one (.ad 9 (strs (a.vs.filter (dr a.fH a.fC))),[.kC 9 R, .box 178 (.mp 2), .map 9 4 a.fH, .box 178 (.mp 4), .map 9 4 a.fC])
theorem Vv(κ:Kp):bG (Ur κ) 12 114 (a0 FH jM Dp):=by
 refine bc ?_
 rintro⟨vs,i,fH,fC⟩ K h1 ho
 simp only[jM] at h1
 simp only[FH]
 rw[←aO vs]
 refine Eq.mpr (yGO κ ⟨vs,i,fH,fC⟩ K) ?_
 refine⟨rfl,⟨vs,0,fH,fC⟩,rfl,⟨h1,by simp only;omega,by simp only;omega,fun s hs=>nomatch hs⟩,?_⟩
 rw[ae]
 refine⟨fun e=>?_,fun e y hy=>?_⟩
 ·have hf:vs.filter (dr fH fC)=vs:=List.filter_eq_self.2 (List.all_eq_true.1 e)
  have:=ho (strs vs) trivial
  simp only[hf] at this
  rw[ab0,List.take_length]
  exact this
 ·have hF:=rf hy
  obtain⟨h0,h2,h3,h4⟩:=hy
  simp only at h0 h2
  simp only[aL] at h1
  rw[ae,beq_iff_eq,beq_eq_false_iff_ne]
  refine⟨fun e2=>by omega,fun _=>⟨rfl,⟨strs vs,y,y+1,fH,fC,vs.take y.toNat,vs.drop (y.toNat+1)⟩,?_,⟨by simp only[aO];omega,h0,by simp only;omega,by simp only[aO];omega,?_,?_⟩,?_⟩⟩
  ·rw[aC (n:=y+1) (by omega) (by omega)]
  ·simp only[strs,List.map_take]
  ·simp only[strs,List.map_drop,show(y+1).toNat=y.toNat+1 by omega]
  ·rintro R ⟨r1,r2⟩
   simp only at r1 r2
   rw[←hF] at r2⊢
   have hle:(vs.filter (dr fH fC)).length<=vs.length:=List.length_filter_le _ _
   rw[ai,ai]
   refine⟨by simp[aO,hle],by simp[aO,hle],?_⟩
   have:=ho (cO R (0+Int.toNat ((vs.filter (dr fH fC)).length:Int)) (Int.toNat (((strs vs).length:Int) - ((vs.filter (dr fH fC)).length:Int))) (.lit (.string (ByteArray.mk #[])))) trivial
   simp only[Int.toNat_natCast,Nat.zero_add,Int.sub_zero,ab0,nD,r2] at this⊢
   exact this
theorem VI(κ:Kp): ∀args st K,a0 FH jM Dp args st K->bD (Pr κ) 114 args st K:=fun args st K h=>cZ (eGO κ) (mGO κ) (Vv κ args st K h)
noncomputable def Ie(κ:Kp):Env:=(nE κ).az 114 (a0 FH jM Dp)
theorem V0(κ:Kp):aE (Ie κ):=(PH κ).fT (VI κ)
theorem RY(κ:Kp):aj (Ie κ):=(Jq κ).az aZ
theorem y39(κ:Kp)(a:cf)(k:Int)(K:AV->List Dn.Obj->Prop):(ba (Ie κ) 12 159 [au a, .int k] [] K)=(
 letI z2:=Pg.toProgram (Env.P (Jl κ))
 letI z1:=∃(e7:List AV),([AV.ad 38 a.hl],aJ)=([AV.ad 38 e7],aJ)/\bw e7/\∃(e6:List AV×List (Value×AV)),([AV.mp 0,AV.ad 9 (List.take
  (List.length (aq (aa e7))) (List.drop 0 (strs (aq (aa e7)))))],[Dn.Obj.map 9 4 []])=([AV.mp 0,AV.ad 9 e6.1],[Dn.Obj.map 9 4 e6.2])/\bj e6/\ag z2 159 4=
  ag z2 159 4/\∃(e5:Qq),sp 53 [(1,AV.int k),(2,AV.ptr 0 0 [] 0),(5,AV.ptr 1 0 [] 0),(17,AV.ad 80 a.bl),(18,AV.int (↑(a.bl.length):Int)),(19,
  AV.int 0)] [Obj.box 48 (au a),Obj.box 178 (AV.mp 2),Dn.Obj.map 9 4 (fo e6.2 e6.1)]=sp 53 [(1,AV.int e5.k),(2,AV.ptr 0 0 [] 0),(5,AV.ptr 1 0 [] 0),(17,
  AV.ad 80 e5.a.bl),(18,AV.int (↑(List.length e5.a.bl):Int)),(19,AV.int e5.i)] [Obj.box 48 (au e5.a),Obj.box 178 (AV.mp 2),Dn.Obj.map 9 4 (bL e5.vs)]/\
  ((aI (aa (bh 38 e5.a.hl e5.a.bl))<=100000/\List.length e5.a.bl<=100000)/\(0:Int)<=e5.k/\(0:Int)<=e5.i/\e5.i<=(↑(List.length e5.a.bl):Int))/\aP
  (decide ((0:Int)<=e5.k)&&decide (e5.k<(↑(List.length e5.a.bl):Int))) ((∃(e4:List AV),([AV.ad 38 (ah (af (af (nth e5.a.bl e5.k.toNat) 1) 1))],aJ)=
  ([AV.ad 38 e4],aJ)/\bw e4/\∃(e3:List AV×List (Value×AV)),([AV.mp 0,AV.ad 9 (List.take (List.length (aq (aa e4))) (List.drop 0 (strs (aq (aa
  e4)))))],[Dn.Obj.map 9 4 []])=([AV.mp 0,AV.ad 9 e3.1],[Dn.Obj.map 9 4 e3.2])/\bj e3/\∃(e2:cf),([au e5.a],aJ)=([au e2],aJ)/\(aV (aF e2)=true/\
  aI (aa (bh 38 e2.hl e2.bl))<=100000/\e2.bl.length<=100000)/\∃(e1:DO),([AV.aB 0 0 (List.length (dc (aF e2))),AV.bq 184 [AV.ptr 1 0 [] 0,AV.ptr 3 0 []
  0]],[Obj.row 9 (strs (dc (aF e2))),Obj.box 178 (AV.mp 2),Dn.Obj.map 9 4 (fo e3.2 e3.1),Obj.box 178 (AV.mp 4),Dn.Obj.map 9 4 (bL (n6 e5))])=([AV.aB 0 0
  e1.vs.length,AV.bq 184 [AV.ptr 1 0 [] 0,AV.ptr 3 0 [] 0]],[Obj.row 9 (strs e1.vs),Obj.box 178 (AV.mp 2),Dn.Obj.map 9 4 e1.fH,Obj.box 178 (AV.mp 4),
  Dn.Obj.map 9 4 e1.fC])/\jM e1/\∀(e0:List AV),True->K (AV.ad 9 (strs (List.filter (dr e1.fH e1.fC) e1.vs))) [])/\∃(e4:List AV),([AV.ad 38 (ah (af (af
  (nth e5.a.bl e5.k.toNat) 1) 1))],aJ)=([AV.ad 38 e4],aJ)/\bw e4/\∃(e3:List AV×List (Value×AV)),([AV.mp 0,AV.ad 9 (List.take (List.length (aq (aa
  e4))) (List.drop 0 (strs (aq (aa e4)))))],[Dn.Obj.map 9 4 []])=([AV.mp 0,AV.ad 9 e3.1],[Dn.Obj.map 9 4 e3.2])/\bj e3/\∃(e2:cf),([au e5.a],aJ)=([au
  e2],aJ)/\(aV (aF e2)=true/\aI (aa (bh 38 e2.hl e2.bl))<=100000/\e2.bl.length<=100000)/\∃(e1:DO),([AV.aB 0 0 (List.length (dc (aF e2))),AV.bq 184
  [AV.ptr 1 0 [] 0,AV.ptr 3 0 [] 0]],[Obj.row 9 (strs (dc (aF e2))),Obj.box 178 (AV.mp 2),Dn.Obj.map 9 4 (fo e3.2 e3.1),Obj.box 178 (AV.mp 4),Dn.Obj.map 9 4
  (bL (n6 e5))])=([AV.aB 0 0 e1.vs.length,AV.bq 184 [AV.ptr 1 0 [] 0,AV.ptr 3 0 [] 0]],[Obj.row 9 (strs e1.vs),Obj.box 178 (AV.mp 2),Dn.Obj.map 9 4 e1.fH,
  Obj.box 178 (AV.mp 4),Dn.Obj.map 9 4 e1.fC])/\jM e1/\∀(e0:List AV),True->K (AV.ad 9 (strs (List.filter (dr e1.fH e1.fC) e1.vs))) [])
 z1/\z1):=by kernel_rfl
def Nd(a:cf×Int):List AV×List Dn.Obj:=([au a.1, .int a.2],[])
def y5(a:cf×Int):Prop:=aV (aF a.1)=true/\da a.1/\0<=a.2/\a.2<a.1.bl.length
def NX(a:cf×Int):Out (AV×List Dn.Obj):= .one (.ad 9 (strs (ea (aF a.1) a.2.toNat)),[])
theorem c39(κ:Kp):bG (Ie κ) 12 159 (a0 Nd y5 NX):=by
 refine bc ?_
 rintro⟨a,k⟩ K ⟨h1,h2,h3,h4⟩ ho
 refine Eq.mpr (y39 κ a k K) ?_
 simp only at h1 h2 h3 h4
 have hc:=oG h2
 have hv:=cy (aa a.hl)
 have hk:k.toNat<a.bl.length:=by omega
 have hlit:=kr h2 hk
 simp only[and_self]
 refine⟨a.hl,rfl,hc,⟨strs (aq (aa a.hl)),[]⟩,?_,?_,trivial,⟨a,k,0,aq (aa a.hl)⟩,rfl,⟨h2,h3,by simp only;omega,by simp only;omega⟩,?_⟩
 ·simp only[ab0,cX]
 ·simp only[bj,aO,aL];omega
 rw[ai,aa1,aa0,aa0]
 have hin:aq (aa (ah (af (af (nth a.bl k.toNat) 1) 1)))=aq (dI (aF a).body k.toNat).a.l:=by
  rw[show(aF a).body=dh a.bl from rfl,j4 _ hk,lt_eq]
 have hcl:aI (aa (ah (af (af (nth a.bl k.toNat) 1) 1)))<=100000:=by
  rw[lt_eq] at hlit
  simp only[iH] at hlit;omega
 have hvl:=cy (aa (ah (af (af (nth a.bl k.toNat) 1) 1)))
 refine⟨⟨h3,h4⟩,_,rfl,hcl,⟨strs (aq (aa (ah (af (af (nth a.bl k.toNat) 1) 1)))),[]⟩,?_,?_,a,rfl,⟨h1,h2⟩,⟨dc (aF a),0,fo [] (strs (aq (aa (ah (af (af (nth a.bl k.toNat) 1) 1))))),bL (n6 ⟨a,k,0,aq (aa a.hl)⟩)⟩,rfl,?_,?_⟩
 ·simp only[ab0,cX]
 ·simp only[bj,aO,aL];omega
 ·have h5:(ff (aF a)).length<=100000:=by
   have h6:=cy (aa (bh 38 a.hl a.bl))
   rw[ir 38 a.rel a.hl a.bl] at h6
   exact Nat.le_trans h6 h2.1
  have h7:=kg (ff (aF a)) []
  simp only[jM,dc,h1,aa7,aL];omega
 ·intro R _
  have hk2:(fun s=>dr (fo [] (strs (aq (aa (ah (af (af (nth a.bl k.toNat) 1) 1)))))) (bL (n6 ⟨a,k,0,aq (aa a.hl)⟩)) s)=fun v=>(aq (dI (aF a).body k.toNat).a.l).contains v&&(Oi (aF a) k.toNat).contains v:=by
   funext s
   unfold dr
   rw[om,hin]
   congr 1
   exact om _ s
  have hk3:List.filter (dr (fo [] (strs (aq (aa (ah (af (af (nth a.bl k.toNat) 1) 1)))))) (bL (n6 ⟨a,k,0,aq (aa a.hl)⟩))) (dc (aF a))=ea (aF a) k.toNat:=by
   unfold ea
   exact congrFun (congrArg _ hk2) _
  simp only[hk3]
  exact ho
noncomputable def MI(κ:Kp):Env:=(Ie κ).az 159 (a0 Nd y5 NX)
theorem e39(κ:Kp):aE (MI κ):=(V0 κ).az (RY κ) (c39 κ)
theorem X5(κ:Kp):aj (MI κ):=(RY κ).az aZ
end Go.Proofs.YtioeffnadipbaaaGreatDoor
