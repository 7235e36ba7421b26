import Derived.Test.YtioeffnadipbaaaGreatDoorDeP2
import Derived.Test.YtioeffnadipbaaaGreatDoorDeP1
namespace Go.Proofs.YtioeffnadipbaaaGreatDoor
open Go Go.Dn Go.Rl Go.Proofs
attribute [local irreducible] a9 vc
set_option maxRecDepth 20000
structure SU where
 xs:List AV
 more:List AV
 t:AV
 m:List AV
 i:Int
abbrev JK(a:SU):=pV 38 (nth a.m a.i.toNat)
def Q3:List Nat:=[171,198,185]
def Sg(a:AV):List AV×List Dn.Obj:=([.cf 0, .ptr 1 0 [] 0],[.ext (some (pR 38 a)), .box 38 (pV 38 a)])
def UW n a:=(cH a).mP=n/\n<=100000
def HC(_:AV):Out (AV×List Dn.Obj):= .all (fun st'=>rF st') fun st'=> .one (.aJ [],st')
def Ro n:=aO Sg (UW n) HC
noncomputable def KP κ r:=(E20 κ).aw 198 fun a st K=>∃m,m<r/\Ro m a st K
noncomputable abbrev Xo(a:SU)(κ:Kp)(st:LoopState)(p:Option Code):Dn.Obj:=
 .loop (iM (Pr κ).toProgram 198 6 st p (ic (bM 25) [(2, .ptr 2 0 [] 0),(4, .ptr 3 0 [] 0),(11, .ah 38 a.m),(12, .int a.m.length),(13, .int a.i),(14, .bool true),
  (15, .jh 38 (nth a.m a.i.toNat)),(16,JK a),(17,JK a),(18, .bn 198 [.ptr 4 0 [] 0])]))
noncomputable abbrev sb κ a:=[.ext (some a.xs), .box 38 (pV 38 a.t), .box 186 (.cf 0), .box 38 (JK a), .box 38 (JK a),Xo a κ .ready none]
noncomputable abbrev A6 κ a o st p:=[.ext o, .box 38 (pV 38 a.t), .box 186 (.cf 0), .box 38 (JK a), .dead,Xo a κ st p]
theorem s56 κ a Q:(tidy (Pr κ).toProgram 6 (dA (sb κ a) (b6 (sb κ a) [.ptr 4 0 [] 0])) Q)=(
 letI b:=AV.int
 letI c:=nth a.m a.i.toNat
 letI d:=toInt (af c 0)
 letI e:=toStr (af c 1)
 letI f:=toInt (af c 2)
 letI g:=ag (af c 3)
 Q [Obj.ext (some a.xs),Obj.box 38 (AV.agg [b (toInt (af a.t 0)),AV.str (toStr (af a.t 1)),b (toInt (af a.t 2)),AV.ah 38 (ag (af a.t 3))]),Obj.box
 186 (AV.cf 0),Obj.box 38 (AV.agg [b d,AV.str e,b f,AV.ah 38 g]),Obj.dead,Dn.Obj.loop (iM Tryz.prog 198 6 LoopState.ready none (ic (bM 25)
 [(2,AV.ptr 2 0 [] 0),(4,AV.ptr 3 0 [] 0),(11,AV.ah 38 a.m),(12,b (↑(a.m.length):Int)),(13,b a.i),(14,AV.bool true),(15,AV.jh 38 c),
 (16,AV.agg [b d,AV.str e,b f,AV.ah 38 g]),(17,AV.agg [b d,AV.str e,b f,AV.ah 38 g]),(18,AV.bn 198 [AV.ptr 4 0 [] 0])]))]):=by kernel_rfl
theorem r56 κ r a o u Q(K2:List Dn.Obj->Prop):(gp (vc (KP κ r) 12) 5 [pV 38 u] (A6 κ a (some o) .ready none) (fun r st''=>match r with| .lit (.bool true)=>tidy (Pr κ).toProgram 6 st'' Q| .lit (.bool false)=>K2 st''|_=>False))=(
 letI b:=AV.int
 letI c:=AV.agg
 letI d:=AV.str
 letI e:=Obj.box
 letI f:=AV.ah
 letI g:=nth a.m a.i.toNat
 letI l:=c [b (toInt (af a.t 0)),d (toStr (af a.t 1)),b (toInt (af a.t 2)),f 38 (ag (af a.t 3))]
 letI h:=toInt (af g 0)
 letI i:=toStr (af g 1)
 letI j:=toInt (af g 2)
 letI k:=ag (af g 3)
 letI m:=c [b h,d i,b j,f 38 k]
 letI n:=ic (bM 25) [(2,AV.ptr 2 0 [] 0),(4,AV.ptr 3 0 [] 0),(11,f 38 a.m),(12,b (↑(a.m.length):Int)),(13,b a.i),(14,AV.bool true),
  (15,AV.jh 38 g),(16,c [b h,d i,b j,f 38 k]),(17,c [b h,d i,b j,f 38 k]),(18,AV.bn 198
  [AV.ptr 4 0 [] 0])]
 ∃(e0:List AV),o=AV.aJ [c [b (toInt (af u 0)),d (toStr (af u 1)),b (toInt (af u 2)),f 38 (ag (af u 3))]]::e0/\Q [Obj.ext
 (some e0),e 38 l,e 186 (AV.cf 0),e 38 m,Obj.dead,Dn.Obj.loop (iM Tryz.prog 198 6 LoopState.ready none n)]/\K2 [Obj.ext none,e
 38 l,e 186 (AV.cf 0),e 38 m,Obj.dead,Dn.Obj.loop (iM Tryz.prog 198 6 LoopState.done (some Code.ret) n),e 38 (c [b (toInt (af
 u 0)),d (toStr (af u 1)),b (toInt (af u 2)),f 38 (ag (af u 3))])]):=by kernel_rfl
theorem k56 κ a xs:(AV.cf 0::fP (iU (b6 (sb κ a) [.ptr 4 0 [] 0])) [.ptr 4 0 [] 0],Obj.ext (some xs)::gx (iU (b6 (sb κ a) [.ptr 4 0 [] 0])) (gu (sb κ a) (b6 (sb κ a) [.ptr 4 0 [] 0])))=([.cf 0, .ptr 1 0 [] 0],[.ext (some xs), .box 38 (JK a)]):=by kernel_rfl
theorem o56 κ a:mL (sb κ a) [.ptr 4 0 [] 0]=true:=by kernel_rfl
noncomputable def MP(κ:Kp)(r:Nat):eK:=fun b st K=>∃a,(b,st)=([AV.ptr 4 0 [] 0],sb κ a)/\((cH (nth a.m a.i.toNat)).mP<r/\(cH (nth a.m a.i.toNat)).mP<=100000/\a.xs=pR 38 (nth a.m a.i.toNat)++a.more)/\
 K (A6 κ a (some a.more) .ready none)/\∀u,K (A6 κ a none .done (some .ret)++[.box 38 (pV 38 u)])
theorem EO κ r:(MP κ r).gn:=by
 rintro b st K g c ⟨a,d,e,f,h⟩;exact⟨a,d,e,c _ f,by grind⟩
theorem Qq κ r a st K(h: ∃m,m<r/\Ro m a st K):(KP κ r).call 198 a st K:=h
theorem ai1 κ r:jk (KP κ r) 12 198 (MP κ r):=by
 rintro c st K ⟨a,k,⟨l,f,o⟩,p,g⟩;obtain⟨rfl,rfl⟩:=Prod.mk.inj k;refine⟨pR 38 (nth a.m a.i.toNat),fun b st'=>(∀x,x∈b->s7 38 x)/\st'=A6 κ a (some (b++a.more)) .ready none,⟨o56 κ a,?_,?_,?_,?_⟩⟩
 ·refine Qq κ r _ _ _ ⟨_,l,nth a.m a.i.toNat,?_,⟨rfl,f⟩,fun st' h=>h⟩
  rw[k56];rfl
 ·rw[show(KP κ r).P=Pr κ from rfl,show(sb κ a).length=6 from rfl,s56]
  exact⟨nk _ _ _ (Nat.lt_succ_self _),by rw[o];rfl⟩
 ·rintro n e st' ⟨d,rfl⟩
  obtain⟨u,q⟩:=d (.aJ n) (by simp);obtain rfl:=AV.aJ.inj q;refine Eq.mpr (r56 κ r a _ u _ _) ?_;exact⟨_,rfl,⟨fun x j=>d x (by simp[j]),rfl⟩,g u⟩
 ·rintro st' ⟨_,rfl⟩
  exact p
noncomputable def GY κ r:=((KP κ r).addRange 198 6 198 (MP κ r)).cQ fun f=>iV f Q3
theorem aa3 κ r:aj (KP κ r):=(m20 _).aw fun _ _ _ _ b ⟨m,c,a⟩=>⟨m,c,aH _ _ _ _ b a⟩
theorem x56(κ:Kp) r(a:SU) I n K:(vc (GY κ r) 12 198 none 2 (ae (Pr κ).toProgram 198 3) (sp 25 [(2, .ptr 2 0 [] 0),(11, .ah 38 a.m),(12, .int a.m.length),(13, .int a.i)] [.ext (some a.xs), .box 38 (pV 38 a.t), .box 186 (.cf 0)]) (bj (GY κ r) 198 3 2 I n K))=(
 letI b:=AV.int
 letI c:=AV.ptr
 letI d:=AV.agg
 letI e:=AV.str
 letI f:=Obj.box
 letI g:=Obj.ext
 letI h:=AV.ah
 letI k:=nth a.m a.i.toNat
 letI s:=d [b (toInt (af a.t 0)),e (toStr (af a.t 1)),b (toInt (af a.t 2)),h 38 (ag (af a.t 3))]
 letI t:=a.i<(↑(a.m.length):Int)
 letI m:=toInt (af k 0)
 letI o:=toStr (af k 1)
 letI p:=toInt (af k 2)
 letI q:=ag (af k 3)
 letI u:=d [b m,e o,b p,h 38 q]
 ak (decide t) (aR (decide ((0:Int)<=a.i)&&decide t) (∃(e1:SU),letI i:=nth e1.m e1.i.toNat;letI l:=[b (toInt (af i 0)),e (toStr (af i 1)),b (toInt (af i 2)),h 38 (ag (af i 3))];letI j:=d [b (toInt (af e1.t 0)),e (toStr (af e1.t 1)),b (toInt (af e1.t 2)),h 38 (ag (af e1.t 3))];([c 4 0 [] 0],[g (some a.xs),f 38 s,f 186 (AV.cf 0),f 38 u,f 38 u,Dn.Obj.loop (iM Tryz.prog 198 6 LoopState.ready none (ic (bM 25) [(2,c 2 0 [] 0),(4,c 3 0 [] 0),(11,h 38 a.m),(12,b (↑(a.m.length):Int)),(13,b a.i),(14,AV.bool true),(15,AV.jh 38 k),(16,d [b m,e o,b p,h 38 q]),(17,d [b m,e o,b p,h 38 q]),(18,AV.bn 198 [c 4 0 [] 0])]))])=([c 4 0 [] 0],[g (some e1.xs),f 38 j,f 186 (AV.cf 0),f 38 (d l),f 38 (d l),Dn.Obj.loop (iM Tryz.prog 198 6 LoopState.ready none (ic (bM 25) [(2,c 2 0 [] 0),(4,c 3 0 [] 0),(11,h 38 e1.m),(12,b (↑(e1.m.length):Int)),(13,b e1.i),(14,AV.bool true),(15,AV.jh 38 i),(16,d l),(17,d l),(18,AV.bn 198 [c 4 0 [] 0])]))])/\(Tm.mP (cH i)<r/\Tm.mP (cH i)<=100000/\e1.xs=pR 38 i++e1.more)/\(∃(e0:Nat),e0<n/\I e0 (sp 25 [(2,c 2 0 [] 0),(11,h 38 a.m),(12,b (↑(a.m.length):Int)),(13,b (IntKind.wrap IntKind.i64 (a.i+(1:Int))))] [g (some e1.more),f 38 j,f 186 (AV.cf 0)]))/\∀(e0:AV),K Exit.ret (sp 25 [] [g none,f 38 j]))) (K (Exit.exit 0) (sp 25 [] [g (some a.xs),f 38 s]))):=by kernel_rfl
abbrev TB(a:SU):=sp 25 [(2, .ptr 2 0 [] 0),(11, .ah 38 a.m),(12, .int a.m.length),(13, .int a.i)] [.ext (some a.xs), .box 38 (pV 38 a.t), .box 186 (.cf 0)]
def IZ r(a:SU):=a.m.length<=aW/\0<=a.i/\a.i<=a.m.length/\bk (aa (a.m.drop a.i.toNat))<r/\bk (aa (a.m.drop a.i.toNat))<=100000/\a.xs=fH 38 (a.m.drop a.i.toNat)
def No(a:SU):Out (Exit×S):= .all (fun _=>True) fun b=> .ak b (.one (.exit 0,sp 25 [] [.ext (some []), .box 38 (pV 38 a.t)])) (.one (.ret,sp 25 [] [.ext none, .box 38 (pV 38 a.t)]))
theorem xu l i(h:i<l.length):bk (aa (l.drop i))=(cH (nth l i)).mP+bk (aa (l.drop (i+1))):=by
 grind [eL,bk]
theorem l56 κ r:aX (GY κ r) 12 198 3 (aG 2 TB (IZ r) No):=by
 refine aD (fun a=>a.m.length - a.i.toNat) ?_;rintro⟨xs,b,t,m,i⟩ K ⟨f,h,o,l,k,d⟩ g;simp only at f h o l k d;rw[show(GY κ r).P=Pr κ from rfl];refine Eq.mpr (x56 κ r ⟨xs,b,t,m,i⟩ _ _ K) ?_;have c:=g true trivial;have e:=g false trivial;simp only[Out.run,ak] at c e;simp only[aW] at f;simp only[ad,ai,an9,ao1,ao0];refine⟨fun j=>⟨⟨h,j⟩,?_⟩,fun j=>?_⟩
 ·have p:=xu m i.toNat (by omega)
  rw[xW _ m i.toNat (by omega)] at d;rw[az (n:=i+1) (by omega) (by omega)];refine⟨⟨xs,fH 38 (m.drop (i.toNat+1)),t,m,i⟩,rfl,⟨by simp only;omega,by simp only;omega,d⟩,⟨_,?_,⟨_,b,t,m,i+1⟩,rfl,⟨by simpa[aW] using f,by simp only;omega,by simp only;omega,?_,?_,?_⟩,rfl,g⟩,fun _=>e⟩
  ·simp only;omega
  ·simp only[show(i+1).toNat=i.toNat+1 by omega];omega
  ·simp only[show(i+1).toNat=i.toNat+1 by omega];omega
  ·simp only[show(i+1).toNat=i.toNat+1 by omega]
 ·rw[ao7 (by omega)] at d
  subst d;exact c
noncomputable def Np κ r:=(GY κ r).aq 198 3 (aG 2 TB (IZ r) No)
theorem y56 κ r t xs K:(a9 (Np κ r) 12 198 [.cf 0, .ptr 1 0 [] 0] [.ext (some xs), .box 38 (pV 38 t)] K)=(
 letI a:=AV.int
 letI b:=Obj.box
 letI c:=Obj.ext
 letI d:=ag (af t 3)
 letI g:=AV.agg [a (toInt (af t 0)),AV.str (toStr (af t 1)),a (toInt (af t 2)),AV.ah 38 d]
 letI h:=Pg.toProgram (Env.P (GY κ r))
 ∃(e2:List AV),xs=AV.aJ [AV.agg [a (toInt (af t 0)),AV.str (toStr (af t 1)),a (toInt (af t 2)),AV.ah 38 d]]::e2/\(ae h 198 3=ae h 198 3/\∃(e1:SU),letI e:=AV.agg [a (toInt (af e1.t 0)),AV.str (toStr (af e1.t 1)),a (toInt (af e1.t 2)),AV.ah 38 (ag (af e1.t 3))];letI f:=List.drop e1.i.toNat e1.m;sp 25 [(2,AV.ptr 2 0 [] 0),(11,AV.ah 38 d),(12,a (↑(List.length d):Int)),(13,a 0)] [c (some e2),b 38 g,b 186 (AV.cf 0)]=sp 25 [(2,AV.ptr 2 0 [] 0),(11,AV.ah 38 e1.m),(12,a (↑(e1.m.length):Int)),(13,a e1.i)] [c (some e1.xs),b 38 e,b 186 (AV.cf 0)]/\(e1.m.length<=9223372036854775807/\(0:Int)<=e1.i/\e1.i<=(↑(e1.m.length):Int)/\bk (aa f)<r/\bk (aa f)<=100000/\e1.xs=fH 38 f)/\∀(e0:Bool),True->ak e0 (K (AV.aJ []) [c (some []),b 38 e]) (K (AV.aJ []) [c none,b 38 e]))/\K (AV.aJ []) [c none,b 38 g]):=by kernel_rfl
theorem ai4 κ r(c: ∀a st K,(∃m,m<r/\Ro m a st K)->bZ (Pr κ) 198 a st K):aE (Np κ r)/\aj (Np κ r)/\(Np κ r).P=Pr κ:=
 have h:=(e20 _).fT c;have d:=(h.addRange (aa3 _ r) (ai1 _ r)).cQ _;have b:=((aa3 _ r).addRange (EO _ r)).cQ _
 ⟨d.aq b (l56 _ r),b.aq aI,rfl⟩
theorem c56 κ r:bg (Np κ r) 12 198 (Ro r):=by
 refine aU ?_;rintro t K ⟨f,g⟩ c;have a: ∀b,K (.aJ []) [.ext none,b]:=fun b=>c _ trivial
 have e: ∀b,K (.aJ []) [.ext (some []),b]:=fun b=>c _ trivial
 refine Eq.mpr (y56 κ r t _ K) ?_;rw[dc,Tm.mP] at f;have d:=gF (aa (ag (af t 3)));rw[eE] at d;rw[Bk];refine⟨_,rfl,⟨rfl,⟨_,[],t,ag (af t 3),0⟩,rfl,⟨by simp only;omega,by simp only;omega,by simp only;omega,?_,?_,rfl⟩,?_⟩,a _⟩
 ·grind
 ·simp only[Int.toNat_zero,ao9];omega
 ·intro y _
  cases y
  ·exact a _
  ·exact e _
def BH a:=(cH a).mP<=100000
theorem q56 κ: ∀a st K,aO Sg BH HC a st K->bZ (Pr κ) 198 a st K:=by
 rintro a st K ⟨l,c,d,b⟩;exact aE.pK _ _ (ai4 _) (c56 _) _ _ _ K ⟨l,c,⟨rfl,d⟩,b⟩
noncomputable def MV κ:=(E20 κ).aw 198 (aO Sg BH HC)
theorem e56 κ:aE (MV κ):=(e20 _).fT (q56 _)
theorem m56 κ:aj (MV κ):=(m20 _).aw aH
structure G5 where
 xs:List AV
 more:List AV
 r:dk
 bl:List AV
 ts:List AV
 i:Int
abbrev FD(a:G5):=pV 38 (nth a.ts (0+a.i.toNat))
abbrev G7(a:G5):=sp 46 [(2, .ptr 2 0 [] 0),(3, .an 3 0 a.ts.length),(14, .ah 80 a.bl),(15, .int a.bl.length),(16, .int a.i)] [.ext (some a.xs), .box 48 (au a.r), .box 186 (.cf 0), .row 38 a.ts]
theorem ah2 κ a I n K:(vc (MV κ) 12 185 none 2 (ae (Pr κ).toProgram 185 3) (G7 a) (bj (MV κ) 185 3 2 I n K))=(
 letI b:=AV.int
 letI c:=Obj.box
 letI d:=nth a.bl a.i.toNat
 letI f:=a.i<(↑(a.bl.length):Int)
 letI e:=af (af d 1) 1
 ak (decide f) (aR (decide ((0:Int)<=a.i)&&decide f) (aR (decide ((a.ts.length+2+1)*57<=70368744177664)) (aR (decide ((a.ts.length+2+
 List.length (ag e)+1)*57<=70368744177664)) (∃(e0:Nat),e0<n/\I e0 (sp 46 [(2,AV.ptr 2 0 [] 0),(3,AV.an 3 0 (a.ts.length+2+List.length (ag
 e))),(14,AV.ah 80 a.bl),(15,b (↑(a.bl.length):Int)),(16,b (IntKind.wrap IntKind.i64 (a.i+(1:Int))))] [Obj.ext (some a.xs),c 48 (au
 a.r),c 186 (AV.cf 0),Obj.row 38 (List.take (a.ts.length+2) (List.take a.ts.length a.ts++[AV.agg [b (toInt (af (af d 2) 0)),AV.str (toStr (af
 (af d 2) 1)),b (toInt (af (af d 2) 2)),AV.ah 38 (ag (af (af d 2) 3))],AV.agg [b (toInt (af (af d 3) 0)),AV.str (toStr (af (af d 3) 1)),
 b (toInt (af (af d 3) 2)),AV.ah 38 (ag (af (af d 3) 3))]])++ag e)]))))) (K (Exit.exit 0) (sp 46 [(2,AV.ptr 2 0 [] 0),(3,AV.an 3 0 a.ts.length)]
 [Obj.ext (some a.xs),c 48 (au a.r),c 186 (AV.cf 0),Obj.row 38 a.ts]))):=by kernel_rfl
def dJ(l:List _):=l.flatMap fun a=>[pV 38 (af a 2),pV 38 (af a 3)]++ag (af (af a 1) 1)
def HV(a:G5):=a.bl.length<=aW/\0<=a.i/\a.i<=a.bl.length/\(a.ts++dJ (a.bl.drop a.i.toNat)).length<=100000
def AY(a:G5):Out (Exit×S):= .one (.exit 0,sp 46 [(2, .ptr 2 0 [] 0),(3, .an 3 0 (a.ts++dJ (a.bl.drop a.i.toNat)).length)] [.ext (some a.xs), .box 48 (au a.r), .box 186 (.cf 0), .row 38 (a.ts++dJ (a.bl.drop a.i.toNat))])
theorem Gp l i(h:i<l.length):dJ (l.drop i)=[pV 38 (af (nth l i) 2),pV 38 (af (nth l i) 3)]++ag (af (af (nth l i) 1) 1)++dJ (l.drop (i+1)):=by
 rw[ap0 h,aV l i h];rfl
theorem an3 κ:aX (MV κ) 12 185 3 (aG 2 G7 HV AY):=by
 refine aD (fun a=>a.bl.length - a.i.toNat) ?_;rintro⟨xs,c,r,b,e,i⟩ K ⟨f,h,l,g⟩ d;simp only at f h l g;rw[show(MV κ).P=Pr κ from rfl];refine Eq.mpr (ah2 κ ⟨xs,c,r,b,e,i⟩ _ _ K) ?_;simp only[and_self];simp only[AY,Out.run] at d;simp only[aW] at f;simp only[ad,ai,an9,ao1,ao0];refine⟨fun j=>⟨⟨h,j⟩,?_⟩,fun j=>?_⟩
 ·have k:=Gp b i.toNat (by omega)
  rw[k] at g d;rw[az (n:=i+1) (by omega) (by omega)];simp only[ap4,List.length_cons,List.length_nil] at g;refine⟨by omega,by omega,_,?_,⟨xs,c,r,b,e++([pV 38 (af (nth b i.toNat) 2),pV 38 (af (nth b i.toNat) 3)]++ag (af (af (nth b i.toNat) 1) 1)),i+1⟩,?_,⟨by simpa[aW] using f,by simp only;omega,by simp only;omega,?_⟩,rfl,?_⟩
  ·simp only;omega
  ·simp only[G7,ap4,List.length_cons,List.length_nil,List.take_length]
   rw[List.take_of_length_le (by simp),show e.length+2+(ag (af (af (nth b i.toNat) 1) 1)).length=e.length+(0+1+1+(ag (af (af (nth b i.toNat) 1) 1)).length) by omega,List.append_assoc];rfl
  ·simp only[ap4,List.length_cons,List.length_nil,show(i+1).toNat=i.toNat+1 by omega];omega
  ·simp only[AY,Out.run,show(i+1).toNat=i.toNat+1 by omega]
   simpa only[List.append_assoc] using d
 ·rw[ao7 (by omega)] at d
  simpa[dJ] using d
noncomputable def Fo κ:=(MV κ).aq 185 3 (aG 2 G7 HV AY)
theorem ag5 κ:aE (Fo κ):=(e56 _).aq (m56 _) (an3 _)
theorem ZR κ:aj (Fo κ):=(m56 _).aq aI
noncomputable abbrev ab4(a:G5)(κ:Kp)(st:LoopState)(p:Option Code):Dn.Obj:=
 .loop (iM (Pr κ).toProgram 185 11 st p (ic (bM 46) [(2, .ptr 2 0 [] 0),(7, .ptr 4 0 [] 0),(32, .an 3 0 a.ts.length),(33, .int a.ts.length),(34, .int a.i),(35, .bool true),
  (36, .ptr 3 (0+a.i.toNat) [] 0),(37,FD a),(38,FD a),(39, .bn 198 [.ptr 5 0 [] 0])]))
noncomputable abbrev ry κ a:=[.ext (some a.xs), .box 48 (au a.r), .box 186 (.cf 0), .row 38 a.ts, .box 38 (FD a), .box 38 (FD a),ab4 a κ .ready none]
noncomputable abbrev AH κ a o st p:=[.ext o, .box 48 (au a.r), .box 186 (.cf 0), .row 38 a.ts, .box 38 (FD a), .dead,ab4 a κ st p]
theorem s42 κ a Q:(tidy (Pr κ).toProgram 7 (dA (ry κ a) (b6 (ry κ a) [.ptr 5 0 [] 0])) Q)=(
 letI b:=AV.int
 letI c:=nth a.ts (0+a.i.toNat)
 letI d:=toInt (af c 0)
 letI e:=toStr (af c 1)
 letI f:=toInt (af c 2)
 letI g:=ag (af c 3)
 Q [Obj.ext (some a.xs),Obj.box 48 (au a.r),Obj.box 186 (AV.cf 0),Obj.row 38 a.ts,Obj.box 38 (AV.agg [b d,AV.str e,b f,AV.ah 38 g]),
 Obj.dead,Dn.Obj.loop (iM Tryz.prog 185 11 LoopState.ready none (ic (bM 46) [(2,AV.ptr 2 0 [] 0),(7,AV.ptr 4 0 [] 0),(32,AV.an 3 0 a.ts.length),(33,
 b (↑(a.ts.length):Int)),(34,b a.i),(35,AV.bool true),(36,AV.ptr 3 (0+a.i.toNat) [] 0),(37,AV.agg [b d,AV.str e,b f,AV.ah
 38 g]),(38,AV.agg [b d,AV.str e,b f,AV.ah 38 g]),(39,AV.bn 198 [AV.ptr 5 0 [] 0])]))]):=by kernel_rfl
theorem r42 κ a o u Q(K2:List Dn.Obj->Prop):(gp (vc (Fo κ) 12) 6 [pV 38 u] (AH κ a (some o) .ready none) (fun r st''=>match r with| .lit (.bool true)=>tidy (Pr κ).toProgram 7 st'' Q| .lit (.bool false)=>K2 st''|_=>False))=(
 letI b:=AV.int
 letI c:=AV.agg
 letI d:=AV.str
 letI e:=Obj.box
 letI f:=nth a.ts (0+a.i.toNat)
 letI g:=toInt (af f 0)
 letI h:=toStr (af f 1)
 letI i:=toInt (af f 2)
 letI j:=ag (af f 3)
 letI k:=c [b g,d h,b i,AV.ah 38 j]
 letI l:=ic (bM 46) [(2,AV.ptr 2 0 [] 0),(7,AV.ptr 4 0 [] 0),(32,AV.an 3 0 a.ts.length),(33,b (↑(a.ts.length):Int)),(34,b a.i),(35,
  AV.bool true),(36,AV.ptr 3 (0+a.i.toNat) [] 0),(37,c [b g,d h,b i,AV.ah 38 j]),(38,c [b g,d h,b i,
  AV.ah 38 j]),(39,AV.bn 198 [AV.ptr 5 0 [] 0])]
 ∃(e0:List AV),o=AV.aJ [c [b (toInt (af u 0)),d (toStr (af u 1)),b (toInt (af u 2)),AV.ah 38 (ag (af u 3))]]::e0/\Q [Obj.ext
 (some e0),e 48 (au a.r),e 186 (AV.cf 0),Obj.row 38 a.ts,e 38 k,Obj.dead,Dn.Obj.loop (iM Tryz.prog 185 11 LoopState.ready none l)]/\K2
 [Obj.ext none,e 48 (au a.r),e 186 (AV.cf 0),Obj.row 38 a.ts,e 38 k,Obj.dead,Dn.Obj.loop (iM Tryz.prog 185 11 LoopState.done (some
 Code.ret) l),e 38 (c [b (toInt (af u 0)),d (toStr (af u 1)),b (toInt (af u 2)),AV.ah 38 (ag (af u 3))])]):=by kernel_rfl
theorem k42 κ a xs:(AV.cf 0::fP (iU (b6 (ry κ a) [.ptr 5 0 [] 0])) [.ptr 5 0 [] 0],Obj.ext (some xs)::gx (iU (b6 (ry κ a) [.ptr 5 0 [] 0])) (gu (ry κ a) (b6 (ry κ a) [.ptr 5 0 [] 0])))=([.cf 0, .ptr 1 0 [] 0],[.ext (some xs), .box 38 (FD a)]):=by kernel_rfl
theorem o42 κ a:mL (ry κ a) [.ptr 5 0 [] 0]=true:=by kernel_rfl
noncomputable def Mm(κ:Kp):eK:=fun b st K=>∃a,(b,st)=([AV.ptr 5 0 [] 0],ry κ a)/\((cH (nth a.ts a.i.toNat)).mP<=100000/\a.xs=pR 38 (nth a.ts a.i.toNat)++a.more)/\
 K (AH κ a (some a.more) .ready none)/\∀u,K (AH κ a none .done (some .ret)++[.box 38 (pV 38 u)])
theorem EV κ:(Mm κ).gn:=by
 rintro b st K g c ⟨a,d,e,f,h⟩;exact⟨a,d,e,c _ f,by grind⟩
theorem call42 κ a st K(h:aO Sg BH HC a st K):(Fo κ).call 198 a st K:=h
theorem ai8 κ:jk (Fo κ) 12 198 (Mm κ):=by
 rintro c st K ⟨a,g,⟨k,f⟩,m,n⟩;obtain⟨rfl,rfl⟩:=Prod.mk.inj g;refine⟨pR 38 (nth a.ts a.i.toNat),fun b st'=>(∀x,x∈b->s7 38 x)/\st'=AH κ a (some (b++a.more)) .ready none,⟨o42 κ a,?_,?_,?_,?_⟩⟩
 ·refine call42 κ _ _ _ ⟨nth a.ts a.i.toNat,?_,k,fun st' h=>h⟩
  rw[k42,FD,Nat.zero_add];rfl
 ·rw[show(Fo κ).P=Pr κ from rfl,show(ry κ a).length=7 from rfl,s42]
  exact⟨nk _ _ _ (Nat.lt_succ_self _),by rw[f];rfl⟩
 ·rintro l e st' ⟨d,rfl⟩
  obtain⟨u,o⟩:=d (.aJ l) (by simp);obtain rfl:=AV.aJ.inj o;refine Eq.mpr (r42 κ a _ u _ _) ?_;exact⟨_,rfl,⟨fun x j=>d x (by simp[j]),rfl⟩,n u⟩
 ·rintro st' ⟨_,rfl⟩
  exact m
noncomputable def xM κ:=((Fo κ).addRange 185 11 198 (Mm κ)).cQ fun f=>iV f Q3
theorem al3 κ:aE (xM κ):=((ag5 _).addRange (ZR _) (ai8 _)).cQ _
theorem XM κ:aj (xM κ):=((ZR _).addRange (EV _)).cQ _
abbrev Hs(a:G5):=sp 46 [(2, .ptr 2 0 [] 0),(32, .an 3 0 a.ts.length),(33, .int a.ts.length),(34, .int a.i)] [.ext (some a.xs), .box 48 (au a.r), .box 186 (.cf 0), .row 38 a.ts]
theorem ai0 κ a I n K:(vc (xM κ) 12 185 none 2 (ae (Pr κ).toProgram 185 8) (Hs a) (bj (xM κ) 185 8 2 I n K))=(
 letI b:=AV.int
 letI c:=AV.ptr
 letI d:=AV.agg
 letI e:=Obj.box
 letI f:=Obj.ext
 letI g:=nth a.ts (0+a.i.toNat)
 letI h:=a.ts.length
 letI k:=toInt (af g 0)
 letI l:=toStr (af g 1)
 letI m:=toInt (af g 2)
 letI o:=ag (af g 3)
 letI p:=d [b k,AV.str l,b m,AV.ah 38 o]
 ak (decide (a.i<(↑h:Int))) (aR (decide ((0:Int)<=a.i)&&decide (a.i<(↑h:Int))) (∃(e1:G5),letI i:=nth e1.ts (0+e1.i.toNat);letI j:=[b (toInt (af i 0)),AV.str (toStr (af i 1)),b (toInt (af i 2)),AV.ah 38 (ag (af i 3))];([c 5 0 [] 0],[f (some a.xs),e 48 (au a.r),e 186 (AV.cf 0),Obj.row 38 a.ts,e 38 p,e 38 p,Dn.Obj.loop (iM Tryz.prog 185 11 LoopState.ready none (ic (bM 46) [(2,c 2 0 [] 0),(7,c 4 0 [] 0),(32,AV.an 3 0 a.ts.length),(33,b (↑h:Int)),(34,b a.i),(35,AV.bool true),(36,c 3 (0+a.i.toNat) [] 0),(37,d [b k,AV.str l,b m,AV.ah 38 o]),(38,d [b k,AV.str l,b m,AV.ah 38 o]),(39,AV.bn 198 [c 5 0 [] 0])]))])=([c 5 0 [] 0],[f (some e1.xs),e 48 (au e1.r),e 186 (AV.cf 0),Obj.row 38 e1.ts,e 38 (d j),e 38 (d j),Dn.Obj.loop (iM Tryz.prog 185 11 LoopState.ready none (ic (bM 46) [(2,c 2 0 [] 0),(7,c 4 0 [] 0),(32,AV.an 3 0 e1.ts.length),(33,b (↑(e1.ts.length):Int)),(34,b e1.i),(35,AV.bool true),(36,c 3 (0+e1.i.toNat) [] 0),(37,d j),(38,d j),(39,AV.bn 198 [c 5 0 [] 0])]))])/\(Tm.mP (cH (nth e1.ts e1.i.toNat))<=100000/\e1.xs=pR 38 (nth e1.ts e1.i.toNat)++e1.more)/\(∃(e0:Nat),e0<n/\I e0 (sp 46 [(2,c 2 0 [] 0),(32,AV.an 3 0 a.ts.length),(33,b (↑h:Int)),(34,b (IntKind.wrap IntKind.i64 (a.i+(1:Int))))] [f (some e1.more),e 48 (au e1.r),e 186 (AV.cf 0),Obj.row 38 e1.ts]))/\∀(e0:AV),K Exit.ret (sp 46 [] [f none,e 48 (au e1.r)]))) (K (Exit.exit 2) (sp 46 [] [f (some a.xs),e 48 (au a.r)]))):=by kernel_rfl
def As(a:G5):=a.ts.length<=aW/\0<=a.i/\a.i<=a.ts.length/\bk (aa (a.ts.drop a.i.toNat))<=100000/\a.xs=fH 38 (a.ts.drop a.i.toNat)
def Mq(a:G5):Out (Exit×S):= .all (fun _=>True) fun b=> .ak b (.one (.exit 2,sp 46 [] [.ext (some []), .box 48 (au a.r)])) (.one (.ret,sp 46 [] [.ext none, .box 48 (au a.r)]))
theorem ai5 κ:aX (xM κ) 12 185 8 (aG 2 Hs As Mq):=by
 refine aD (fun a=>a.ts.length - a.i.toNat) ?_;rintro⟨xs,b,r,f,m,i⟩ K ⟨h,j,l,o,c⟩ g;simp only at h j l o c;rw[show(xM κ).P=Pr κ from rfl];refine Eq.mpr (ai0 κ ⟨xs,b,r,f,m,i⟩ _ _ K) ?_;have e:=g true trivial;have d:=g false trivial;simp only[Out.run,ak] at e d;simp only[aW] at h;simp only[ad,ai,an9,ao1,ao0];refine⟨fun k=>⟨⟨j,k⟩,?_⟩,fun k=>?_⟩
 ·have p:=xu m i.toNat (by omega)
  rw[xW _ m i.toNat (by omega)] at c;rw[az (n:=i+1) (by omega) (by omega)];refine⟨⟨xs,fH 38 (m.drop (i.toNat+1)),r,f,m,i⟩,rfl,⟨by simp only;omega,c⟩,⟨_,?_,⟨_,b,r,f,m,i+1⟩,rfl,⟨by simpa[aW] using h,by simp only;omega,by simp only;omega,?_,?_⟩,rfl,g⟩,fun _=>d⟩
  ·simp only;omega
  ·grind
  ·simp only[show(i+1).toNat=i.toNat+1 by omega]
 ·rw[ao7 (by omega)] at c
  subst c;exact e
noncomputable def PY κ:=(xM κ).aq 185 8 (aG 2 Hs As Mq)
theorem af8 κ:aE (PY κ):=(al3 _).aq (XM _) (ai5 _)
theorem Ym κ:aj (PY κ):=(XM _).aq aI
theorem y42 κ a K:(a9 (PY κ) 12 185 [.cf 0, .ptr 1 0 [] 0] [.ext (some a.xs), .box 48 (au a)] K)=(
 letI b:=AV.int
 letI c:=AV.ptr
 letI d:=Obj.box
 letI e:=Obj.row
 letI f:=Obj.ext
 letI g:=AV.an
 letI h:=AV.cf
 letI i:=Pg.toProgram (Env.P (MV κ))
 letI j:=Pg.toProgram (Env.P (xM κ))
 (LB a.hl=true->ae i 185 3=ae i 185 3/\∃(e2:G5),letI k:=e2.ts++dJ (List.drop e2.i.toNat e2.bl);sp 46 [(2,c 2 0 [] 0),(3,g 3 0 0),(14,AV.ah 80 a.bl),(15,b (↑(a.bl.length):Int)),(16,b 0)] [f (some a.xs),d 48 (au a),d 186 (h 0),e 38 []]=sp 46 [(2,c 2 0 [] 0),(3,g 3 0 e2.ts.length),(14,AV.ah 80 e2.bl),(15,b (↑(e2.bl.length):Int)),(16,b e2.i)] [f (some e2.xs),d 48 (au e2.r),d 186 (h 0),e 38 e2.ts]/\(e2.bl.length<=9223372036854775807/\(0:Int)<=e2.i/\e2.i<=(↑(e2.bl.length):Int)/\List.length k<=100000)/\ae j 185 8=ae j 185 8/\∃(e1:G5),letI m:=List.drop e1.i.toNat e1.ts;sp 46 [(2,c 2 0 [] 0),(32,g 3 0 (List.length k)),(33,b (↑(List.length k):Int)),(34,b 0)] [f (some e2.xs),d 48 (au e2.r),d 186 (h 0),e 38 k]=sp 46 [(2,c 2 0 [] 0),(32,g 3 0 e1.ts.length),(33,b (↑(e1.ts.length):Int)),(34,b e1.i)] [f (some e1.xs),d 48 (au e1.r),d 186 (h 0),e 38 e1.ts]/\(e1.ts.length<=9223372036854775807/\(0:Int)<=e1.i/\e1.i<=(↑(e1.ts.length):Int)/\bk (aa m)<=100000/\e1.xs=fH 38 m)/\∀(e0:Bool),True->ak e0 (K (AV.aJ []) [f (some []),d 48 (au e1.r)]) (K (AV.aJ []) [f none,d 48 (au e1.r)]))/\aR (decide ((0+a.hl.length+1)*57<=70368744177664)) (ae i 185 3=ae i 185 3/\∃(e2:G5),letI l:=e2.ts++dJ (List.drop e2.i.toNat e2.bl);sp 46 [(2,c 2 0 [] 0),(3,g 3 0 (0+a.hl.length)),(14,AV.ah 80 a.bl),(15,b (↑(a.bl.length):Int)),(16,b 0)] [f (some a.xs),d 48 (au a),d 186 (h 0),e 38 ([]++a.hl)]=sp 46 [(2,c 2 0 [] 0),(3,g 3 0 e2.ts.length),(14,AV.ah 80 e2.bl),(15,b (↑(e2.bl.length):Int)),(16,b e2.i)] [f (some e2.xs),d 48 (au e2.r),d 186 (h 0),e 38 e2.ts]/\(e2.bl.length<=9223372036854775807/\(0:Int)<=e2.i/\e2.i<=(↑(e2.bl.length):Int)/\List.length l<=100000)/\ae j 185 8=ae j 185 8/\∃(e1:G5),letI n:=List.drop e1.i.toNat e1.ts;sp 46 [(2,c 2 0 [] 0),(32,g 3 0 (List.length l)),(33,b (↑(List.length l):Int)),(34,b 0)] [f (some e2.xs),d 48 (au e2.r),d 186 (h 0),e 38 l]=sp 46 [(2,c 2 0 [] 0),(32,g 3 0 e1.ts.length),(33,b (↑(e1.ts.length):Int)),(34,b e1.i)] [f (some e1.xs),d 48 (au e1.r),d 186 (h 0),e 38 e1.ts]/\(e1.ts.length<=9223372036854775807/\(0:Int)<=e1.i/\e1.i<=(↑(e1.ts.length):Int)/\bk (aa n)<=100000/\e1.xs=fH 38 n)/\∀(e0:Bool),True->ak e0 (K (AV.aJ []) [f (some []),d 48 (au e1.r)]) (K (AV.aJ []) [f none,d 48 (au e1.r)]))):=by kernel_rfl
def VV(a:dk):List AV×List Dn.Obj:=([.cf 0, .ptr 1 0 [] 0],[.ext (some (fH 38 (bo 38 a.hl a.bl))), .box 48 (au a)])
def c9(a:dk):=bk (aa (bo 38 a.hl a.bl))<=100000/\a.bl.length<=100000
def Mt(_:dk):Out (AV×List Dn.Obj):= .all (fun st'=>rF st') fun st'=> .one (.aJ [],st')
theorem c42 κ:bg (PY κ) 12 185 (aO VV c9 Mt):=by
 refine aU ?_;rintro⟨xs,g,k,d,c,f,i⟩ K ⟨o,u⟩ p;have s: ∀b,K (.aJ []) [.ext none,b]:=fun b=>p _ trivial
 have q: ∀b,K (.aJ []) [.ext (some []),b]:=fun b=>p _ trivial
 simp only at o u;have l:=gF (aa (bo 38 d c));rw[eE] at l;have t:d.length<=100000:=by
  have:(bo 38 d c).length=d.length+(dJ c).length:=by simp[bo,dJ]
  omega
 refine Eq.mpr (y42 κ ⟨fH 38 (bo 38 d c),g,k,d,c,f,i⟩ K) ?_;have n: ∀j:List AV,j=d->(j++dJ (List.drop (Int.toNat 0) c))=bo 38 d c:=fun j h=>by subst h;rfl
 have m: ∀j:List AV,j=d->∃a:G5,sp 46 [(2, .ptr 2 0 [] 0),(32, .an 3 0 (j++dJ (List.drop (Int.toNat 0) c)).length),(33, .int (j++dJ (List.drop (Int.toNat 0) c)).length),(34, .int 0)] [.ext (some (fH 38 (bo 38 d c))), .box 48 (au ⟨fH 38 (bo 38 d c),g,k,d,c,f,i⟩), .box 186 (.cf 0), .row 38 (j++dJ (List.drop (Int.toNat 0) c))]=Hs a/\As a/\∀y:Bool,True->ak y (K (.aJ []) [.ext (some []), .box 48 (au a.r)]) (K (.aJ []) [.ext none, .box 48 (au a.r)]):=by
  intro j h;refine⟨⟨_,[],⟨fH 38 (bo 38 d c),g,k,d,c,f,i⟩,c,j++dJ (List.drop (Int.toNat 0) c),0⟩,rfl,⟨?_,?_,?_,?_,?_⟩,fun y _=>?_⟩
  ·simp only[n j h,aW];omega
  ·simp only;omega
  ·simp only;omega
  ·show bk (aa (List.drop (Int.toNat 0) (j++dJ (List.drop (Int.toNat 0) c))))<=100000
   rw[n j h];exact o
  ·rw[n j h];rfl
  ·cases y
   ·exact s _
   ·exact q _
 refine⟨fun e=>?_,?_⟩
 ·obtain rfl:d=[]:=by
   cases d with
   |nil=>rfl
   |cons=>cases e
  refine⟨rfl,⟨_,[],⟨fH 38 (bo 38 [] c),g,k,[],c,f,i⟩,c,[],0⟩,rfl,⟨by simp only;omega,by simp only;omega,by simp only;omega,?_⟩,rfl,m [] rfl⟩;rw[n [] rfl];exact Nat.le_trans l o
 ·rw[ai,an9]
  refine⟨by simp only;omega,rfl,⟨_,[],⟨fH 38 (bo 38 d c),g,k,d,c,f,i⟩,c,[]++d,0⟩,?_,⟨by simp only;omega,by simp only;omega,by simp only;omega,?_⟩,rfl,m ([]++d) rfl⟩
  ·rw[Nat.zero_add];rfl
  ·rw[n ([]++d) rfl];exact Nat.le_trans l o
set_option maxRecDepth 20000 in
noncomputable def TU(κ:Kp):Env:=(PY κ).aw 185 (aO VV c9 Mt)
theorem e42 κ:aE (TU κ):=(af8 _).aw (Ym _) (c42 _)
theorem m42 κ:aj (TU κ):=(Ym _).aw aH
def aM(a:dk):Rl:=⟨⟨a.rel,aa a.hl⟩,dv a.bl⟩
noncomputable abbrev ab9(a:dk)(κ:Kp)(st:LoopState)(p:Option Code):Dn.Obj:=
 .loop (iM (Pr κ).toProgram 115 6 st p (ic (bM 31) [(0,au a),(1, .ptr 0 0 [] 0),(2, .nil),(3, .ptr 1 0 [] 0),(4, .ptr 3 0 [] 0),(6,au a),(7, .bool (ba (aM a))),(8, .bool false),(9, .mp 2),(10,au a),(11, .bn 185 [.ptr 4 0 [] 0])]))
noncomputable abbrev pU κ a:=[.box 48 (au a), .box 36 .nil, .map 9 4 [], .box 177 (.mp 2), .box 48 (au a),ab9 a κ .ready none]
theorem s12 κ a Q:(tidy (Pr κ).toProgram 6 (dA (pU κ a) (b6 (pU κ a) [.ptr 4 0 [] 0])) Q)=(
 Q [Obj.box 48 (au a),Obj.box 36 (AV.an 6 0 0),Dn.Obj.map 9 4 [],Obj.box 177 (AV.mp 2),Obj.dead,Dn.Obj.loop (iM Tryz.prog 115 6 LoopState.ready none (ic (bM
 31) [(0,au a),(1,AV.ptr 0 0 [] 0),(2,AV.nil),(3,AV.ptr 1 0 [] 0),(4,AV.ptr 3 0 [] 0),(6,au a),(7,AV.bool (ba (aM a))),(8,AV.bool false),(9,
 AV.mp 2),(10,au a),(11,AV.bn 185 [AV.ptr 4 0 [] 0])])),Obj.row 9 []]):=by kernel_rfl
noncomputable abbrev Ao κ a b c:=[.box 48 (au a), .box 36 (.an 6 0 b.length), .map 9 4 c, .box 177 (.mp 2), .dead,ab9 a κ .ready none, .row 9 (strs b)]
theorem r12 κ a vs es u Q(K2:List Dn.Obj->Prop):(gp (vc (TU κ) 12) 5 [pV 38 u] (Ao κ a vs es) (fun r st''=>match r with| .lit (.bool true)=>tidy (Pr κ).toProgram 6 st'' Q| .lit (.bool false)=>K2 st''|_=>False))=(
 letI b:=AV.bool
 letI c:=Obj.box
 letI d:=iM Tryz.prog 115 6 LoopState.ready none (ic (bM 31) [(0,au a),(1,AV.ptr 0 0 [] 0),(2,AV.nil),(3,AV.ptr 1 0 [] 0),(4,AV.ptr 3 0 [] 0),(6,au
  a),(7,b (ba (aM a))),(8,b false),(9,AV.mp 2),(10,au a),(11,AV.bn 185 [AV.ptr 4 0 [] 0])])
 letI e:=Q [c 48 (au a),c 36 (AV.an 6 0 vs.length),Dn.Obj.map 9 4 es,c 177 (AV.mp 2),Obj.dead,Dn.Obj.loop d,Obj.row 9 (strs vs)]
 letI f:=Value.string (toStr (af u 1))
 ak (toInt (af u 0) != (1:Int)) e (ak (Dn.toBool (cX es f (b false))) e (aR (decide ((vs.length+1+1)*17<=70368744177664)) (Q [c 48 (au
 a),c 36 (AV.an 6 0 (vs.length+1)),Dn.Obj.map 9 4 (eD es f (b true)),c 177 (AV.mp 2),Obj.dead,Dn.Obj.loop d,Obj.row 9 (List.take
 vs.length (strs vs)++[AV.str (toStr (af u 1))])])))):=by kernel_rfl
theorem k12 κ a xs:(AV.cf 0::fP (iU (b6 (pU κ a) [.ptr 4 0 [] 0])) [.ptr 4 0 [] 0],Obj.ext (some xs)::gx (iU (b6 (pU κ a) [.ptr 4 0 [] 0])) (gu (pU κ a) (b6 (pU κ a) [.ptr 4 0 [] 0])))=([.cf 0, .ptr 1 0 [] 0],[.ext (some xs), .box 48 (au a)]):=by kernel_rfl
theorem o12 κ a:mL (pU κ a) [.ptr 4 0 [] 0]=true:=by kernel_rfl
noncomputable def OZ(κ:Kp):eK:=fun b st K=>∃a,(b,st)=([AV.ptr 4 0 [] 0],pU κ a)/\c9 a/\K (Ao κ a (mY [] (fD (aM a))) (bR (mY [] (fD (aM a)))))
theorem EX κ:(OZ κ).gn:=by
 rintro b st K g e ⟨a,d,f,c⟩;exact⟨a,d,f,e _ c⟩
theorem call12 κ a st K(h:aO VV c9 Mt a st K):(TU κ).call 185 a st K:=h
theorem al0 κ:jk (TU κ) 12 185 (OZ κ):=by
 rintro l st K ⟨a,q,o,v⟩;obtain⟨rfl,rfl⟩:=Prod.mk.inj q;have k:=iJ 38 a.rel a.hl a.bl;rw[←uj 38] at k;have w:(fD (aM a)).length<=100000:=by
  have n:=cF (aa (bo 38 a.hl a.bl));rw[iJ 38 a.rel a.hl a.bl] at n;exact Nat.le_trans n o.1
 have hd:=la (fD (aM a)) [];refine⟨fH 38 (bo 38 a.hl a.bl),fun c st'=>∃b,(∀x,x∈c->s7 38 x)/\st'=Ao κ a b (bR b)/\b++mY b (c.flatMap zp)=mY [] (fD (aM a)),⟨o12 κ a,?_,?_,?_,?_⟩⟩
 ·refine call12 κ _ _ _ ⟨a,?_,o,fun st' h=>h⟩
  rw[k12];rfl
 ·rw[show(TU κ).P=Pr κ from rfl,show(pU κ a).length=6 from rfl,s12]
  exact⟨[],Ec _ _,rfl,by rw[k];rfl⟩
 ·rintro p g st' ⟨b,m,rfl,d⟩
  obtain⟨u,t⟩:=m (.aJ p) (by simp);obtain rfl:=AV.aJ.inj t;rw[show(TU κ).P=Pr κ from rfl,show(pU κ a).length=6 from rfl];refine Eq.mpr (r12 κ a b _ u _ _) ?_;have f: ∀x,x∈g->s7 38 x:=fun x r=>m x (by simp[r])
  have s:zp (.aJ [pV 38 u])=bif decide (toInt (af u 0)=1) then[toStr (af u 1)] else[]:=rfl
  rw[List.flatMap_cons,s] at d;have j:Dn.toBool (cX (bR b) (.string (toStr (af u 1))) (.lit (.bool false)))=b.contains (toStr (af u 1)):=pF _ _;rw[j];simp only[ad,ai,bne_iff_ne,bne_eq_false_iff_eq,an9];refine⟨fun e=>⟨b,f,rfl,?_⟩,fun e=>⟨fun i=>⟨b,f,rfl,?_⟩,fun i=>⟨?_,b++[toStr (af u 1)],f,?_,?_⟩⟩⟩
  ·rw[ao3 e] at d;exact d
  ·rw[ao5 e,ao6,List.singleton_append,mY,i] at d;exact d
  ·have:=congrArg List.length d
   rw[ap4] at this;omega
  ·rw[QI,←bd b,List.take_length]
   simp only[Ao,jr,bd,ap4,List.length_cons,List.length_nil];rfl
  ·rw[ao5 e,ao6,List.singleton_append,mY,i,ao4] at d
   simpa using d
 ·rintro st' ⟨b,_,rfl,d⟩
  have i:b=mY [] (fD (aM a)):=by simpa[mY] using d
  rw[i];exact v
noncomputable def NM κ:=((TU κ).addRange 115 6 185 (OZ κ)).cQ fun f=>iV f Q3
theorem ah4 κ:aE (NM κ):=((e42 _).addRange (m42 _) (al0 _)).cQ _
theorem X1 κ:aj (NM κ):=((m42 _).addRange (EX _)).cQ _
theorem y12 κ a K:(a9 (NM κ) 12 115 [au a] [] K)=(
 letI b:=AV.int
 letI c:=AV.ptr
 letI d:=AV.agg
 letI e:=AV.str
 letI f:=Obj.box
 letI g:=AV.ah
 letI h:=AV.nil
 letI j:=d [d [e a.rel,g 38 a.hl],g 80 a.bl,b a.line]
 aR (decide (a.hl.length<=9223372036854775807)&&decide (a.bl.length<=9223372036854775807)) (ak (!ba {head:={rel:=a.rel,l:=aa a.hl},body:=dv a.bl}) (K h []) (∃(e0:dk),letI i:=[d [e e0.rel,g 38 e0.hl],g 80 e0.bl,b e0.line];([c 4 0 [] 0],[f 48 j,f 36 h,Dn.Obj.map 9 4 [],f 177 (AV.mp 2),f 48 j,Dn.Obj.loop (iM Tryz.prog 115 6 LoopState.ready none (ic (bM 31) [(0,d [d [e a.rel,g 38 a.hl],g 80 a.bl,b a.line]),(1,c 0 0 [] 0),(2,h),(3,c 1 0 [] 0),(4,c 3 0 [] 0),(6,d [d [e a.rel,g 38 a.hl],g 80 a.bl,b a.line]),(7,AV.lit (Value.bool (ba {head:={rel:=a.rel,l:=aa a.hl},body:=dv a.bl}))),(8,AV.bool false),(9,AV.mp 2),(10,d [d [e a.rel,g 38 a.hl],g 80 a.bl,b a.line]),(11,AV.bn 185 [c 4 0 [] 0])]))])=([c 4 0 [] 0],[f 48 (d i),f 36 h,Dn.Obj.map 9 4 [],f 177 (AV.mp 2),f 48 (d i),Dn.Obj.loop (iM Tryz.prog 115 6 LoopState.ready none (ic (bM 31) [(0,d i),(1,c 0 0 [] 0),(2,h),(3,c 1 0 [] 0),(4,c 3 0 [] 0),(6,d i),(7,AV.bool (ba (aM e0))),(8,AV.bool false),(9,AV.mp 2),(10,d i),(11,AV.bn 185 [c 4 0 [] 0])]))])/\(bk (aa (bo 38 e0.hl e0.bl))<=100000/\e0.bl.length<=100000)/\K (AV.an 0 0 (List.length (mY [] (fD (aM e0))))) [Obj.row 9 (strs (mY [] (fD (aM e0))))]))):=by kernel_rfl
def Ys(a:dk):List AV×List Dn.Obj:=([au a],[])
def NW a:=ba (aM a)=true/\c9 a
def L9(a:dk):Out (AV×List Dn.Obj):= .one (.an 0 0 (de (aM a)).length,[.row 9 (strs (de (aM a)))])
theorem c12 κ:bg (NM κ) 12 115 (aO Ys NW L9):=by
 refine aU ?_;rintro⟨xs,b,c,d,f,a,i⟩ K ⟨h,j,k⟩ l;refine Eq.mpr (y12 κ ⟨xs,b,c,d,f,a,i⟩ K) ?_;have m:ba ⟨⟨c,aa d⟩,dv f⟩=true:=h;simp only at j k;have g:=gF (aa (bo 38 d f));rw[eE] at g;have n:d.length<=100000:=by
  grind [bo,dJ]
 simp only[m,ai,ad,ao0,an9];refine⟨⟨by omega,by omega⟩,(fun e=>nomatch e),fun _=>⟨⟨xs,b,c,d,f,a,i⟩,?_,⟨j,k⟩,?_⟩⟩
 ·grind
 ·simp only[L9,Out.run,de,h,ao6] at l
  exact l
set_option maxRecDepth 20000 in
noncomputable def N9(κ:Kp):Env:=(NM κ).aw 115 (aO Ys NW L9)
theorem e12 κ:aE (N9 κ):=(ah4 _).aw (X1 _) (c12 _)
theorem m12 κ:aj (N9 κ):=(X1 _).aw aH
theorem oR: ∀l m,bk (l++m)=bk l+bk m
 |[],m=>by simp[bk]
 |t::l,m=>by simp[bk,oR l m];omega
theorem po{a}(h:c9 a):bk (aa a.hl)<=100000:=by
 have:=h.1
 unfold bo aa at this;rw[List.map_append,oR] at this
 grind [aa]
theorem Ii: ∀l x,x∈l->jT (cZ x)<=bk (aa (dJ l))
 |[],_,h=>by grind
 | y::l,x,h=>by
  have e:bk (aa (dJ (y::l)))=jT (cZ y)+bk (aa (dJ l)):=by
   unfold dJ aa;rw[List.flatMap_cons,List.map_append,oR,List.map_append,oR];simp[jT,cZ,Nm,aa,ap6,List.map_nil,sd]
  rcases List.mem_cons.1 h with rfl|h
  ·omega
  ·have:=Ii l x h;omega
theorem lq{a}(h:c9 a){i}(c:i<a.bl.length):jT (cZ (nth a.bl i))<=100000:=by
 have b:=h.1;have e:bo _ _ a.bl=a.hl++dJ _:=rfl;rw[e] at b;unfold aa at b;rw[List.map_append,oR] at b;have:=Ii a.bl (nth a.bl i) (by grind [aV])
 grind [aa]
theorem kH l{i}(a:i<l.length):dX (dv l) i=cZ (nth l i):=by
 grind [dX,dv,aV]
def sR(x:AV):LA:=⟨toInt (af x 0),toStr (af (af x 1) 0),ag (af (af x 1) 1),toInt (af (af x 2) 0),toStr (af (af x 2) 1),toInt (af (af x 2) 2),ag (af (af x 2) 3),toInt (af (af x 3) 0),toStr (af (af x 3) 1),toInt (af (af x 3) 2),ag (af (af x 3) 3)⟩
theorem eF x:(sR x).lt=cZ x:=by rw[lt_eq];rfl
structure WZ where
 a:dk
 k:Int
 i:Int
 vs:List ByteArray
abbrev TX(a:WZ):=sp 53 [(1, .int a.k),(2, .ptr 0 0 [] 0),(5, .ptr 1 0 [] 0),(17, .ah 80 a.a.bl),(18, .int a.a.bl.length),(19, .int a.i)] [.box 48 (au a.a), .box 178 (.mp 2), .map 9 4 (bR a.vs)]
theorem x39 κ a k i es I n K:(vc (N9 κ) 12 159 none 0 (ae (Pr κ).toProgram 159 4) (sp 53 [(1, .int k),(2, .ptr 0 0 [] 0),(5, .ptr 1 0 [] 0),(17, .ah 80 a.bl),(18, .int a.bl.length),(19, .int i)] [.box 48 (au a), .box 178 (.mp 2), .map 9 4 es]) (bj (N9 κ) 159 4 0 I n K))=(
 letI b:=AV.ptr 0 0 []
 letI c:=AV.int
 letI d:=AV.agg
 letI e:=AV.str
 letI f:=Obj.box
 letI g:=Dn.Obj.map
 letI h:=AV.ah
 letI j:=AV.mp
 letI l:=nth a.bl i.toNat
 letI p:=IntKind.wrap IntKind.i64 (i+(1:Int))
 letI m:=a.bl.length
 letI o:=∃(e2:List AV),([h 38 [d [c (toInt (af (af l 2) 0)),e (toStr (af (af l 2) 1)),c (toInt (af (af l 2) 2)),h 38 (ag
  (af (af l 2) 3))]]],aL)=([h 38 e2],aL)/\bF e2/\∃(e1:List AV×List (Value×AV)),([j 0,h 9 (List.take (List.length (ax (aa e2)))
  (List.drop 0 (strs (ax (aa e2)))))],[g 9 4 es])=([j 0,h 9 e1.1],[g 9 4 e1.2])/\bq e1/\∃(e0:Nat),e0<n/\I e0 (sp 53 [(1,
  c k),(2,b 0),(5,AV.ptr 1 0 [] 0),(17,h 80 a.bl),(18,c (↑m:Int)),(19,c p)] [f 48 (au a),f 178 (j
  2),g 9 4 (fF e1.2 e1.1)])
 letI q:=∃(e2:LA),([d [c (toInt (af l 0)),d [e (toStr (af (af l 1) 0)),h 38 (ag (af (af l 1) 1))],d [c (toInt (af
  (af l 2) 0)),e (toStr (af (af l 2) 1)),c (toInt (af (af l 2) 2)),h 38 (ag (af (af l 2) 3))],d [c (toInt (af (af l 3) 0)),
  e (toStr (af (af l 3) 1)),c (toInt (af (af l 3) 2)),h 38 (ag (af (af l 3) 3))]]],aL)=([d [c e2.op,d [e e2.s,h 38
  e2.l],d [c e2.o1,e e2.s1,c e2.n1,h 38 e2.l1],d [c e2.o2,e e2.s2,c e2.n2,h 38 e2.l2]]],aL)/\gq e2/\∃
  (e1:List AV×List (Value×AV)),([j 0,h 9 (List.take (List.length (eu (LA.lt e2))) (List.drop 0 (strs (eu (LA.lt e2)))))],[g 9 4 es])=
  ([j 0,h 9 e1.1],[g 9 4 e1.2])/\bq e1/\∃(e0:Nat),e0<n/\I e0 (sp 53 [(1,c k),(2,b 0),(5,AV.ptr 1 0 [] 0),(17,
  h 80 a.bl),(18,c (↑m:Int)),(19,c p)] [f 48 (au a),f 178 (j 2),g 9 4 (fF e1.2 e1.1)])
 ak (decide (i<(↑m:Int))) (aR (decide ((0:Int)<=i)&&decide (i<(↑m:Int))) (ak (i==k) (o/\o/\o) (q/\q))) (K (Exit.exit 0) (sp 53 [(1,
 c k),(2,b 0),(5,AV.ptr 1 0 [] 0)] [f 48 (au a),f 178 (j 2),g 9 4 es]))):=by kernel_rfl
def Ha(a:WZ):=c9 a.a/\0<=a.k/\0<=a.i/\a.i<=a.a.bl.length
def oi(a:WZ):=a.vs++CA a.k.toNat (dv (a.a.bl.drop a.i.toNat)) a.i.toNat
def vZ(a:WZ):Out (Exit×S):= .one (.exit 0,sp 53 [(1, .int a.k),(2, .ptr 0 0 [] 0),(5, .ptr 1 0 [] 0)] [.box 48 (au a.a), .box 178 (.mp 2), .map 9 4 (bR (oi a))])
theorem l39 κ:aX (N9 κ) 12 159 4 (aG 0 TX Ha vZ):=by
 refine aD (fun a=>a.a.bl.length - a.i.toNat) ?_;rintro⟨a,k,i,d⟩ K ⟨f,g,j,p⟩ b;simp only at f g j p;rw[show(N9 κ).P=Pr κ from rfl];refine Eq.mpr (x39 κ a k i (bR d) _ _ K) ?_;simp only[and_self];have t:=f.2;simp only[vZ,oi,Out.run] at b;simp only[ad,ai,an9,ao1,ao0,beq_iff_eq,beq_eq_false_iff_ne];refine⟨fun m=>⟨⟨j,m⟩,?_⟩,fun m=>?_⟩
 ·have c:=lq f (i:=i.toNat) (by omega)
  rw[nY a.bl i.toNat (by omega),CA] at b;rw[az (n:=i+1) (by omega) (by omega)];refine⟨fun e=>?_,fun e=>?_⟩
  ·subst e
   rw[Nat.beq_refl,ao6,←List.append_assoc] at b;have h:aa [pV 38 (af (nth a.bl i.toNat) 2)]=[(cZ (nth a.bl i.toNat)).x]:=by
    simp only[aa,ap6,List.map_nil,sd];rfl
   have r:bk [(cZ (nth a.bl i.toNat)).x]<=100000:=by
    have:jT (cZ (nth a.bl i.toNat))=bk [(cZ (nth a.bl i.toNat)).x,(cZ (nth a.bl i.toNat)).y]+bk (cZ (nth a.bl i.toNat)).a.l:=rfl
    simp only[bk] at this⊢;omega
   have q:=cF [(cZ (nth a.bl i.toNat)).x];refine⟨[pV 38 (af (nth a.bl i.toNat) 2)],rfl,by simp only[bF,h];exact r,⟨strs (ax [(cZ (nth a.bl i.toNat)).x]),bR d⟩,?_,?_,_,?_,⟨a,i,i+1,d++ax [(cZ (nth a.bl i.toNat)).x]⟩,?_,⟨f,g,by simp only;omega,by simp only;omega⟩,rfl,?_⟩
   ·simp only[ao9,cM,h]
   ·simp only[bq,bd,aW];omega
   ·simp only;omega
   ·simp only[mo]
   ·simp only[vZ,oi,Out.run,show(i+1).toNat=i.toNat+1 by omega]
    exact b
  ·rw[tC (show i.toNat≠k.toNat by omega),ao4,←List.append_assoc] at b
   have q:=cF [(cZ (nth a.bl i.toNat)).x,(cZ (nth a.bl i.toNat)).y];have s:=cF (cZ (nth a.bl i.toNat)).a.l;have o:(eu (cZ (nth a.bl i.toNat))).length<=100000:=by
    simp only[eu,jT,ap4] at c⊢;omega
   refine⟨sR (nth a.bl i.toNat),rfl,by rw[gq,eF];exact c,⟨strs (eu (cZ (nth a.bl i.toNat))),bR d⟩,?_,?_,_,?_,⟨a,k,i+1,d++eu (cZ (nth a.bl i.toNat))⟩,?_,⟨f,g,by simp only;omega,by simp only;omega⟩,rfl,?_⟩
   ·simp only[ao9,cM,eF]
   ·simp only[bq,bd,aW];omega
   ·simp only;omega
   ·simp only[mo]
   ·simp only[vZ,oi,Out.run,show(i+1).toNat=i.toNat+1 by omega]
    exact b
 ·rw[ao7 (by omega)] at b
  simpa[dv,CA] using b
noncomputable def pe κ:=(N9 κ).aq 159 4 (aG 0 TX Ha vZ)
theorem Ur κ:aE (pe κ):=(e12 _).aq (m12 _) (l39 _)
theorem Mx κ:aj (pe κ):=(m12 _).aq aI
def dB jA jz s:=yC jA s&&yC jz s
structure DO where
 vs:List ByteArray
 i:Int
 jA:List (Value×AV)
 jz:List (Value×AV)
abbrev Dl(R:List AV)(a:List (Value×AV))(b:List (Value×AV)):List Dn.Obj:=[.row 9 R, .box 178 (.mp 2), .map 9 4 a, .box 178 (.mp 4), .map 9 4 b]
abbrev SD:AV:= .bn 184 [.ptr 1 0 [] 0, .ptr 3 0 [] 0]
abbrev Kd(a:DO):=sp 19 [(0, .an 0 0 (strs a.vs).length),(1,SD),(7, .int (strs a.vs).length),(8, .int a.i)] (Dl (strs a.vs) a.jA a.jz)
theorem xFO κ a I n K:(vc (pe κ) 12 161 none 5 (ae (Pr κ).toProgram 161 2) (Kd a) (bj (pe κ) 161 2 5 I n K))=(
 letI b:=Obj.box
 letI c:=Dn.Obj.map
 letI d:=AV.mp
 letI f:=K Exit.ret (sp 19 [(4,AV.int a.i)] [Obj.row 9 (strs a.vs),b 178 (d 2),c 9 4 a.jA,b 178 (d 4),c 9 4 a.jz])
 letI e:=List.length (strs a.vs)
 letI g:=Value.string (toStr (nth (strs a.vs) (0+a.i.toNat)))
 ak (decide (a.i<(↑e:Int))) (aR (decide ((0:Int)<=a.i)&&decide (a.i<(↑e:Int))) (ak (!Dn.toBool (cX a.jA g (AV.bool false))) f (ak (!Dn.toBool
 (cX a.jz g (AV.bool false))) f (∃(e0:Nat),e0<n/\I e0 (sp 19 [(0,AV.an 0 0 e),(1,AV.bn 184 [AV.ptr 1 0 [] 0,AV.ptr 3 0 [] 0]),(7,AV.int (↑e:
 Int)),(8,AV.int (IntKind.wrap IntKind.i64 (a.i+(1:Int))))] [Obj.row 9 (strs a.vs),b 178 (d 2),c 9 4 a.jA,b 178 (d 4),
 c 9 4 a.jz]))))) (K (Exit.exit 0) (sp 19 [] [Obj.row 9 (strs a.vs),b 178 (d 2),c 9 4 a.jA,b 178 (d 4),c 9 4
 a.jz]))):=by kernel_rfl
def FJ(a:DO):=a.vs.length<=aW/\0<=a.i/\a.i<=a.vs.length/\∀s,s∈a.vs.take a.i.toNat->dB a.jA a.jz s=true
def CK(a:DO):Out (Exit×S):=
 .ak (a.vs.all (dB a.jA a.jz)) (.one (.exit 0,sp 19 [] (Dl (strs a.vs) a.jA a.jz)))
  (.all (fun j=>xK (dB a.jA a.jz) a.vs j) fun j=> .one (.ret,sp 19 [(4, .int j)] (Dl (strs a.vs) a.jA a.jz)))
theorem lFO κ:aX (pe κ) 12 161 2 (aG 5 Kd FJ CK):=by
 refine aD (fun a=>a.vs.length - a.i.toNat) ?_;rintro⟨b,i,d,c⟩ K ⟨l,o,t,k⟩ j;simp only at l o t k;rw[show(pe κ).P=Pr κ from rfl];refine Eq.mpr (xFO κ ⟨b,i,d,c⟩ _ _ K) ?_;simp only[aW] at l;simp only[CK,Out.run,ad] at j;have v:=bd b;simp only[bd,Nat.zero_add];have u:i<b.length->∀(g:i.toNat<b.length),(dB d c b[i.toNat]=false->K .ret (sp 19 [(4, .int i)] (Dl (strs b) d c)))/\
   (dB d c b[i.toNat]=true->∃m,m<b.length - i.toNat/\et Kd FJ CK (fun a=>a.vs.length - a.i.toNat) K m (Kd ⟨b,i+1,d,c⟩)):=by
  intro r g;refine⟨fun e=>j.2 ?_ i ⟨o,g,k,e⟩,fun e=>⟨_,?_,⟨b,i+1,d,c⟩,rfl,⟨by simpa[aW] using l,by simp only;omega,by simp only;omega,?_⟩,rfl,?_⟩⟩
  ·rw[Bool.eq_false_iff]
   intro h;rw[List.all_eq_true.1 h _ (List.getElem_mem g)] at e;cases e
  ·simp only;omega
  ·intro s f
   simp only at f;rw[show(i+1).toNat=i.toNat+1 by omega,List.take_succ_eq_append_getElem g,List.mem_append,List.mem_singleton] at f;rcases f with f|f
   ·exact k s f
   ·rw[f];exact e
  ·simp only[CK,Out.run,ad]
   exact j
 simp only[ad,ai,an9,ao1,ao0,Bool.not_eq_true',ap1];refine⟨fun g=>⟨⟨o,g⟩,?_⟩,fun g=>?_⟩
 ·have p:i.toNat<b.length:=by omega
  have q:toStr (nth (strs b) i.toNat)=b[i.toNat]:=by rw[wE b _ p];rfl
  rw[az (n:=i+1) (by omega) (by omega),q]
  simp_all[Kd,bd,dB,yC]
 ·refine j.1 (List.all_eq_true.2 fun s f=>k s ?_)
  rw[List.take_of_length_le (by omega)];exact f
noncomputable def RY κ:=(pe κ).aq 161 2 (aG 5 Kd FJ CK)
theorem eFO κ:aE (RY κ):=(Ur _).aq (Mx _) (lFO _)
theorem mFO κ:aj (RY κ):=(Mx _).aq aI
structure GO where
 R:List AV
 i:Int
 j:Int
 jA:List (Value×AV)
 jz:List (Value×AV)
 P:List ByteArray
 ws:List ByteArray
abbrev C6(a:GO):=sp 42 [(0, .an 0 0 a.R.length),(1,SD),(5, .int a.i),(6, .int a.j)] (Dl a.R a.jA a.jz)
theorem xGO κ a I n K:(vc (RY κ) 12 114 none 5 (ae (Pr κ).toProgram 114 5) (C6 a) (bj (RY κ) 114 5 5 I n K))=(
 letI b:=IntKind.wrap IntKind.i64
 letI c:=AV.int
 letI d:=Obj.box
 letI e:=Dn.Obj.map
 letI f:=AV.mp
 letI g:=toStr (nth a.R (0+a.j.toNat))
 letI h:=b (a.j+(1:Int))
 letI i:=∃(e0:Nat),e0<n/\I e0 (sp 42 [(0,AV.an 0 0 a.R.length),(1,AV.bn 184 [AV.ptr 1 0 [] 0,AV.ptr 3 0 [] 0]),(5,c a.i),(6,c h)]
  [Obj.row 9 a.R,d 178 (f 2),e 9 4 a.jA,d 178 (f 4),e 9 4 a.jz])
 letI j:=a.j<(↑(a.R.length):Int)
 ak (decide j) (aR (decide ((0:Int)<=a.j)&&decide j) (ak (!Dn.toBool (cX a.jA (Value.string g) (AV.bool false))) i (ak (!!Dn.toBool (cX a.jz
 (Value.string g) (AV.bool false))) (aR (decide ((0:Int)<=a.i)&&decide (a.i<(↑(a.R.length):Int))) (∃(e0:Nat),e0<n/\I e0 (sp 42 [(0,AV.an 0 0
 a.R.length),(1,AV.bn 184 [AV.ptr 1 0 [] 0,AV.ptr 3 0 [] 0]),(5,c (b (a.i+(1:Int)))),(6,c h)] [Obj.row 9 (bt a.R (0
 +a.i.toNat) (AV.str g)),d 178 (f 2),e 9 4 a.jA,d 178 (f 4),e 9 4 a.jz]))) i))) (K (Exit.exit 0) (sp 42 [(0,AV.an 0
 0 a.R.length),(5,c a.i)] [Obj.row 9 a.R,d 178 (f 2),e 9 4 a.jA,d 178 (f 4),e 9 4 a.jz]))):=by kernel_rfl
def Al(a:GO):=a.R.length<=aW/\0<=a.i/\a.i<a.j/\a.j<=a.R.length/\a.R.take a.i.toNat=strs a.P/\a.R.drop a.j.toNat=strs a.ws
def Da(a:GO):Out (Exit×S):= .all (fun R=>R.length=a.R.length/\R.take (a.P++a.ws.filter (dB a.jA a.jz)).length=strs (a.P++a.ws.filter (dB a.jA a.jz)))
 fun R=> .one (.exit 0,sp 42 [(0, .an 0 0 a.R.length),(5, .int (a.P++a.ws.filter (dB a.jA a.jz)).length)] (Dl R a.jA a.jz))
theorem lGO κ:aX (RY κ) 12 114 5 (aG 5 C6 Al Da):=by
 refine aD (fun a=>a.R.length - a.j.toNat) ?_;rintro⟨R,i,j,b,c,P,h⟩ K ⟨o,t,A,C,d,g⟩ k;simp only at o t A C d g;rw[show(RY κ).P=Pr κ from rfl];refine Eq.mpr (xGO κ ⟨R,i,j,b,c,P,h⟩ _ _ K) ?_;simp only[aW] at o;simp only[Da,Out.run] at k;simp only[Nat.zero_add];have x:P.length=i.toNat:=by
  have:=congrArg List.length d
  rw[List.length_take,bd] at this;omega
 have r: ∀(s:ByteArray) (l:List ByteArray),h=s::l->j<R.length->nth R j.toNat= .lit (.string s)->
   (dB b c s=false->∃m,m<R.length - j.toNat/\et C6 Al Da (fun a=>a.R.length - a.j.toNat) K m (C6 ⟨R,i,j+1,b,c,P,l⟩))/\
   (dB b c s=true->∃m,m<R.length - j.toNat/\et C6 Al Da (fun a=>a.R.length - a.j.toNat) K m (C6 ⟨bt R i.toNat (.lit (.string s)),i+1,j+1,b,c,P++[s],l⟩)):=by
  rintro s l rfl p u;obtain⟨_,_,z⟩:=jN (l:=strs l) g;refine⟨fun e=>⟨_,?_,_,rfl,⟨by simpa[aW] using o,t,by simp only;omega,by simp only;omega,d,?_⟩,rfl,?_⟩,fun e=>⟨_,?_,_,rfl,⟨by simpa[aW,gR] using o,by simp only;omega,by simp only;omega,by simp only[gR];omega,?_,?_⟩,rfl,?_⟩⟩
  ·simp only;omega
  ·simp only[show(j+1).toNat=j.toNat+1 by omega];exact z
  ·intro y f
   have:=k y
   simp only[List.filter_cons,e,Bool.false_eq_true,if_false] at f this⊢;exact this f
  ·simp only[gR];omega
  ·simp only[show(i+1).toNat=i.toNat+1 by omega]
   rw[tM _ _ _ (by omega),d,jr];rfl
  ·simp only[show(j+1).toNat=j.toNat+1 by omega]
   rw[sU _ _ _ _ (by omega)];exact z
  ·intro y f
   have:=k y
   simp only[List.filter_cons,e,if_true,gR,List.append_assoc,List.singleton_append] at f this⊢;exact this f
 simp only[ad,ai,an9,ao1,ao0,Bool.not_eq_true',ap1];refine⟨fun p=>⟨⟨by omega,p⟩,?_⟩,fun p=>?_⟩
 ·cases h with
  |nil=>
   have:=congrArg List.length g
   rw[List.length_drop,bd] at this;simp at this;omega
  |cons s l=>
   obtain⟨_,u,_⟩:=jN (l:=strs l) g;have v:toStr (nth R j.toNat)=s:=by rw[u];rfl
   have q:=r s l rfl p u;simp only[C6,gR] at q;rw[az (n:=i+1) (by omega) (by omega),az (n:=j+1) (by omega) (by omega),v];exact⟨fun e=>q.1 (by unfold dB yC;rw[e];rfl),fun e=>⟨fun w=>⟨⟨by omega,by omega⟩,q.2 (by unfold dB yC;rw[e,w];rfl)⟩,fun w=>q.1 (by unfold dB yC;rw[e,w];rfl)⟩⟩
 ·have B:h=[]:=by
   have:=congrArg List.length g
   rw[List.length_drop,bd] at this;cases h with
   |nil=>rfl
   |cons=>simp at this;omega
  subst B;have:=k R ⟨rfl,by simp only[List.filter_nil,List.append_nil,x];exact d⟩
  simp only[List.filter_nil,List.append_nil,x,Int.toNat_of_nonneg t] at this;exact this
noncomputable def EGO κ:=(RY κ).aq 114 5 (aG 5 C6 Al Da)
theorem eGO κ:aE (EGO κ):=(eFO _).aq (mFO _) (lGO _)
theorem mGO κ:aj (EGO κ):=(mFO _).aq aI
theorem yGO κ(a:DO) K:(a9 (EGO κ) 12 114 [.an 0 0 (strs a.vs).length,SD] (Dl (strs a.vs) a.jA a.jz) K)=(
 letI b:=AV.int
 letI c:=AV.ptr
 letI d:=Obj.box
 letI e:=Dn.Obj.map
 letI f:=AV.mp
 letI l:=List.length (strs a.vs)
 letI m:=Pg.toProgram (Env.P (pe κ))
 letI n:=Pg.toProgram (Env.P (RY κ))
 ae m 161 2=ae m 161 2/\∃(e3:DO),letI g:=strs e3.vs;letI o:=K (AV.ah 9 (List.take l (List.drop 0 g))) [Obj.lx 9 g,d 178 (f 2),e 9 4 e3.jA,d 178 (f 4),e 9 4 e3.jz];letI p:=[Obj.row 9 g,d 178 (f 2),e 9 4 e3.jA,d 178 (f 4),e 9 4 e3.jz];sp 19 [(0,AV.an 0 0 l),(1,AV.bn 184 [c 1 0 [] 0,c 3 0 [] 0]),(7,b (↑l:Int)),(8,b 0)] [Obj.row 9 (strs a.vs),d 178 (f 2),e 9 4 a.jA,d 178 (f 4),e 9 4 a.jz]=sp 19 [(0,AV.an 0 0 (List.length g)),(1,AV.bn 184 [c 1 0 [] 0,c 3 0 [] 0]),(7,b (↑(List.length g):Int)),(8,b e3.i)] p/\(e3.vs.length<=9223372036854775807/\(0:Int)<=e3.i/\e3.i<=(↑(e3.vs.length):Int)/\∀(e0:ByteArray),List.Mem e0 (List.take e3.i.toNat e3.vs)->dB e3.jA e3.jz e0=true)/\ak (List.all e3.vs (dB e3.jA e3.jz)) o (∀(e2:Int),((0:Int)<=e2/\∃(e1:e2.toNat<e3.vs.length),(∀(e0:ByteArray),List.Mem e0 (List.take e2.toNat e3.vs)->dB e3.jA e3.jz e0=true)/\dB e3.jA e3.jz e3.vs[e2.toNat]=false)->ak (e2==(-1:Int)) o (ae n 114 5=ae n 114 5/\∃(e1:GO),letI q:=e1.P++List.filter (dB e1.jA e1.jz) e1.ws;letI h:=List.length q;letI i:=e1.R.length;sp 42 [(0,AV.an 0 0 l),(1,AV.bn 184 [c 1 0 [] 0,c 3 0 [] 0]),(5,b e2),(6,b (IntKind.wrap IntKind.i64 (e2+(1:Int))))] p=sp 42 [(0,AV.an 0 0 e1.R.length),(1,AV.bn 184 [c 1 0 [] 0,c 3 0 [] 0]),(5,b e1.i),(6,b e1.j)] [Obj.row 9 e1.R,d 178 (f 2),e 9 4 e1.jA,d 178 (f 4),e 9 4 e1.jz]/\(e1.R.length<=9223372036854775807/\(0:Int)<=e1.i/\e1.i<e1.j/\e1.j<=(↑i:Int)/\List.take e1.i.toNat e1.R=strs e1.P/\List.drop e1.j.toNat e1.R=strs e1.ws)/\∀(e0:List AV),letI j:=db e0 (0+Int.toNat (↑h:Int)) (Int.toNat ((↑i:Int) - (↑h:Int))) (AV.str {data:= #[]});letI k:=(↑h:Int)<=(↑i:Int);e0.length=e1.R.length/\List.take h e0=strs q->aR (true&&decide k&&decide ((↑i:Int)<=(↑i:Int))) (aR (true&&decide k) (K (AV.ah 9 (List.take (Int.toNat ((↑h:Int) - (0:Int))) (List.drop 0 j))) [Obj.lx 9 j,d 178 (f 2),e 9 4 e1.jA,d 178 (f 4),e 9 4 e1.jz]))))):=by kernel_rfl
def HG(a:DO):=([.an 0 0 a.vs.length,SD],Dl (strs a.vs) a.jA a.jz)
def km(a:DO):=a.vs.length<=aW
def G0(a:DO):Out (AV×List Dn.Obj):= .all (fun _=>True) fun R=> .one (.ah 9 (strs (a.vs.filter (dB a.jA a.jz))),[.lx 9 R, .box 178 (.mp 2), .map 9 4 a.jA, .box 178 (.mp 4), .map 9 4 a.jz])
theorem ag7 κ:bg (EGO κ) 12 114 (aO HG km G0):=by
 refine aU ?_;rintro⟨c,i,a,b⟩ K f j;simp only[km] at f;simp only[HG];rw[←bd c];refine Eq.mpr (yGO κ ⟨c,i,a,b⟩ K) ?_;refine⟨rfl,⟨c,0,a,b⟩,rfl,⟨f,by simp only;omega,by simp only;omega,fun s q=>nomatch q⟩,?_⟩;rw[ad];refine⟨fun e=>?_,fun e y h=>?_⟩
 ·have l:c.filter (dB a b)=c:=List.filter_eq_self.2 (List.all_eq_true.1 e)
  have:=j (strs c) trivial
  simp only[l] at this;rw[ao9,List.take_length];exact this
 ·have p:=ss h
  obtain⟨k,o,u,r⟩:=h;simp only at k o;simp only[aW] at f;rw[ad,beq_iff_eq,beq_eq_false_iff_ne];refine⟨fun t=>by omega,fun _=>⟨rfl,⟨strs c,y,y+1,a,b,c.take y.toNat,c.drop (y.toNat+1)⟩,?_,⟨by simp only[bd];omega,k,by simp only;omega,by simp only[bd];omega,?_,?_⟩,?_⟩⟩
  ·rw[az (n:=y+1) (by omega) (by omega)]
  ·simp only[strs,List.map_take]
  ·simp only[strs,List.map_drop,show(y+1).toNat=y.toNat+1 by omega]
  ·rintro R ⟨m,g⟩
   simp only at m g;rw[←p] at g⊢;have d:(c.filter (dB a b)).length<=c.length:=List.length_filter_le _ _;rw[ai,ai];refine⟨by simp[bd,d],by simp[bd,d],?_⟩;have:=j (db R (0+Int.toNat ((c.filter (dB a b)).length:Int)) (Int.toNat (((strs c).length:Int) - ((c.filter (dB a b)).length:Int))) (.lit (.string (ByteArray.mk #[])))) trivial
   simp only[Int.toNat_natCast,Nat.zero_add,Int.sub_zero,ao9,pb,g] at this⊢;exact this
theorem ae3 κ: ∀a st K,aO HG km G0 a st K->bZ (Pr κ) 114 a st K:=fun a st K h=>gW (eGO _) (mGO _) (ag7 _ _ _ K h)
noncomputable def Na κ:=(pe κ).aw 114 (aO HG km G0)
theorem aj7 κ:aE (Na κ):=(Ur _).fT (ae3 _)
theorem YJ κ:aj (Na κ):=(Mx _).aw aH
theorem y39 κ a k K:(a9 (Na κ) 12 159 [au a, .int k] [] K)=(
 letI b:=AV.int
 letI c:=AV.ptr
 letI d:=Obj.box
 letI e:=Obj.row
 letI f:=Dn.Obj.map
 letI g:=AV.ah
 letI h:=AV.mp
 letI j:=Pg.toProgram (Env.P (N9 κ))
 letI l:=∃(e7:List AV),([g 38 a.hl],aL)=([g 38 e7],aL)/\bF e7/\∃(e6:List AV×List (Value×AV)),([h 0,g 9 (List.take (List.length (ax (aa e7))) (List.drop 0 (strs (ax (aa e7)))))],[f 9 4 []])=([h 0,g 9 e6.1],[f 9 4 e6.2])/\bq e6/\ae j 159 4=ae j 159 4/\∃(e5:WZ),letI m:=[g 38 (ag (af (af (nth e5.a.bl e5.k.toNat) 1) 1))];letI i:=List.length e5.a.bl;sp 53 [(1,b k),(2,c 0 0 [] 0),(5,c 1 0 [] 0),(17,g 80 a.bl),(18,b (↑(a.bl.length):Int)),(19,b 0)] [d 48 (au a),d 178 (h 2),f 9 4 (fF e6.2 e6.1)]=sp 53 [(1,b e5.k),(2,c 0 0 [] 0),(5,c 1 0 [] 0),(17,g 80 e5.a.bl),(18,b (↑i:Int)),(19,b e5.i)] [d 48 (au e5.a),d 178 (h 2),f 9 4 (bR e5.vs)]/\((bk (aa (bo 38 e5.a.hl e5.a.bl))<=100000/\List.length e5.a.bl<=100000)/\(0:Int)<=e5.k/\(0:Int)<=e5.i/\e5.i<=(↑i:Int))/\aR (decide ((0:Int)<=e5.k)&&decide (e5.k<(↑i:Int))) ((∃(e4:List AV),(m,aL)=([g 38 e4],aL)/\bF e4/\∃(e3:List AV×List (Value×AV)),([h 0,g 9 (List.take (List.length (ax (aa e4))) (List.drop 0 (strs (ax (aa e4)))))],[f 9 4 []])=([h 0,g 9 e3.1],[f 9 4 e3.2])/\bq e3/\∃(e2:dk),([au e5.a],aL)=([au e2],aL)/\(ba (aM e2)=true/\bk (aa (bo 38 e2.hl e2.bl))<=100000/\e2.bl.length<=100000)/\∃(e1:DO),([AV.an 0 0 (List.length (de (aM e2))),AV.bn 184 [c 1 0 [] 0,c 3 0 [] 0]],[e 9 (strs (de (aM e2))),d 178 (h 2),f 9 4 (fF e3.2 e3.1),d 178 (h 4),f 9 4 (bR (oi e5))])=([AV.an 0 0 e1.vs.length,AV.bn 184 [c 1 0 [] 0,c 3 0 [] 0]],[e 9 (strs e1.vs),d 178 (h 2),f 9 4 e1.jA,d 178 (h 4),f 9 4 e1.jz])/\km e1/\∀(e0:List AV),True->K (g 9 (strs (List.filter (dB e1.jA e1.jz) e1.vs))) [])/\∃(e4:List AV),(m,aL)=([g 38 e4],aL)/\bF e4/\∃(e3:List AV×List (Value×AV)),([h 0,g 9 (List.take (List.length (ax (aa e4))) (List.drop 0 (strs (ax (aa e4)))))],[f 9 4 []])=([h 0,g 9 e3.1],[f 9 4 e3.2])/\bq e3/\∃(e2:dk),([au e5.a],aL)=([au e2],aL)/\(ba (aM e2)=true/\bk (aa (bo 38 e2.hl e2.bl))<=100000/\e2.bl.length<=100000)/\∃(e1:DO),([AV.an 0 0 (List.length (de (aM e2))),AV.bn 184 [c 1 0 [] 0,c 3 0 [] 0]],[e 9 (strs (de (aM e2))),d 178 (h 2),f 9 4 (fF e3.2 e3.1),d 178 (h 4),f 9 4 (bR (oi e5))])=([AV.an 0 0 e1.vs.length,AV.bn 184 [c 1 0 [] 0,c 3 0 [] 0]],[e 9 (strs e1.vs),d 178 (h 2),f 9 4 e1.jA,d 178 (h 4),f 9 4 e1.jz])/\km e1/\∀(e0:List AV),True->K (g 9 (strs (List.filter (dB e1.jA e1.jz) e1.vs))) [])
 l/\l):=by kernel_rfl
def Rs(a:dk×Int):List AV×List Dn.Obj:=([au a.1, .int a.2],[])
def Aj(a:dk×Int):=ba (aM a.1)=true/\c9 a.1/\0<=a.2/\a.2<a.1.bl.length
def Tf(a:dk×Int):Out (AV×List Dn.Obj):= .one (.ah 9 (strs (ep (aM a.1) a.2.toNat)),[])
theorem c39 κ:bg (Na κ) 12 159 (aO Rs Aj Tf):=by
 refine aU ?_;rintro⟨a,k⟩ K ⟨g,c,h,m⟩ p;refine Eq.mpr (y39 κ a k K) ?_;simp only at g c h m;have o:=po c;have r:=cF (aa a.hl);have j:k.toNat<a.bl.length:=by omega
 have b:=lq c j;simp only[and_self];refine⟨a.hl,rfl,o,⟨strs (ax (aa a.hl)),[]⟩,?_,?_,trivial,⟨a,k,0,ax (aa a.hl)⟩,rfl,⟨c,h,by simp only;omega,by simp only;omega⟩,?_⟩
 ·simp only[ao9,cM]
 ·simp only[bq,bd,aW];omega
 rw[ai,ao0,an9,an9];have e:ax (aa (ag (af (af (nth a.bl k.toNat) 1) 1)))=ax (dX (aM a).body k.toNat).a.l:=by
  rw[show(aM a).body=dv a.bl from rfl,kH _ j,lt_eq]
 have f:bk (aa (ag (af (af (nth a.bl k.toNat) 1) 1)))<=100000:=by
  rw[lt_eq] at b;simp only[jT] at b;omega
 have q:=cF (aa (ag (af (af (nth a.bl k.toNat) 1) 1)));refine⟨⟨h,m⟩,_,rfl,f,⟨strs (ax (aa (ag (af (af (nth a.bl k.toNat) 1) 1)))),[]⟩,?_,?_,a,rfl,⟨g,c⟩,⟨de (aM a),0,fF [] (strs (ax (aa (ag (af (af (nth a.bl k.toNat) 1) 1))))),bR (oi ⟨a,k,0,ax (aa a.hl)⟩)⟩,rfl,?_,?_⟩
 ·simp only[ao9,cM]
 ·simp only[bq,bd,aW];omega
 ·have t:(fD (aM a)).length<=100000:=by
   have n:=cF (aa (bo 38 a.hl a.bl));rw[iJ 38 a.rel a.hl a.bl] at n;exact Nat.le_trans n c.1
  have u:=la (fD (aM a)) [];simp only[km,de,g,ao6,aW];omega
 ·intro R _
  have i:(fun s=>dB (fF [] (strs (ax (aa (ag (af (af (nth a.bl k.toNat) 1) 1)))))) (bR (oi ⟨a,k,0,ax (aa a.hl)⟩)) s)=fun v=>(ax (dX (aM a).body k.toNat).a.l).contains v&&(TS (aM a) k.toNat).contains v:=by
   funext s
   unfold dB;rw[pF,e];congr 1
   exact pF _ s
  have d:List.filter (dB (fF [] (strs (ax (aa (ag (af (af (nth a.bl k.toNat) 1) 1)))))) (bR (oi ⟨a,k,0,ax (aa a.hl)⟩))) (de (aM a))=ep (aM a) k.toNat:=by
   unfold ep;exact congrFun (congrArg _ i) _
  simp only[d];exact p
noncomputable def Qs κ:=(Na κ).aw 159 (aO Rs Aj Tf)
theorem e39 κ:aE (Qs κ):=(aj7 _).aw (YJ _) (c39 _)
theorem m39 κ:aj (Qs κ):=(YJ _).aw aH
end Go.Proofs.YtioeffnadipbaaaGreatDoor
