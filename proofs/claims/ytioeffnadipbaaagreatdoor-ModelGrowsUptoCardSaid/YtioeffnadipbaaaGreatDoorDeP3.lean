import Derived.Test.YtioeffnadipbaaaGreatDoorDeP1
namespace Go.Proofs.YtioeffnadipbaaaGreatDoor
open Go Go.Dn Go.Rl Go.Proofs
attribute [local irreducible] a0 vc
set_option maxRecDepth 20000
structure Qa where
 xs:List AV
 more:List AV
 t:AV
 m:List AV
 i:Int
abbrev JL(a:Qa):=pV 38 (nth a.m a.i.toNat)
def Rs:List Nat:=[171,198,185]
def Sc(a:AV):List AV×List Dn.Obj:=([.cf 0, .ptr 1 0 [] 0],[.ext (some (pR 38 a)), .box 38 (pV 38 a)])
def Wp n a:=(cI a).mL=n/\n<=100000
def H9(_:AV):Out (AV×List Dn.Obj):= .all (fun st'=>se st') fun st'=> .one (.aH [],st')
def R7 n:=aO Sc (Wp n) H9
noncomputable def Jt κ r:=(E20 κ).aw 198 fun a st K=>∃m,m<r/\R7 m a st K
noncomputable abbrev Y7(a:Qa)(κ:Kp)(st:LoopState)(p:Option Code):Dn.Obj:=
 .loop (iG (Pr κ).toProgram 198 6 st p (hG (bM 25) [(2, .ptr 2 0 [] 0),(4, .ptr 3 0 [] 0),(11, .ah 38 a.m),(12, .int a.m.length),(13, .int a.i),(14, .bool true),
  (15, .jj 38 (nth a.m a.i.toNat)),(16,JL a),(17,JL a),(18, .bm 198 [.ptr 4 0 [] 0])]))
noncomputable abbrev sc κ a:=[.ext (some a.xs), .box 38 (pV 38 a.t), .box 186 (.cf 0), .box 38 (JL a), .box 38 (JL a),Y7 a κ .ready none]
noncomputable abbrev BW κ a o st p:=[.ext o, .box 38 (pV 38 a.t), .box 186 (.cf 0), .box 38 (JL a), .dead,Y7 a κ st p]
theorem s56 κ a Q:(tidy (Pr κ).toProgram 6 (dt (sc κ a) (bV (sc κ a) [.ptr 4 0 [] 0])) Q)=(
 letI b:=AV.int
 letI c:=nth a.m a.i.toNat
 letI d:=toInt (ag c 0)
 letI e:=toStr (ag c 1)
 letI f:=toInt (ag c 2)
 letI g:=af (ag c 3)
 Q [Obj.ext (some a.xs),Obj.box 38 (AV.agg [b (toInt (ag a.t 0)),AV.str (toStr (ag a.t 1)),b (toInt (ag a.t 2)),AV.ah 38 (af (ag a.t 3))]),Obj.box
 186 (AV.cf 0),Obj.box 38 (AV.agg [b d,AV.str e,b f,AV.ah 38 g]),Obj.dead,Dn.Obj.loop (iG Tryz.prog 198 6 LoopState.ready none (hG (bM 25)
 [(2,AV.ptr 2 0 [] 0),(4,AV.ptr 3 0 [] 0),(11,AV.ah 38 a.m),(12,b (↑(a.m.length):Int)),(13,b a.i),(14,AV.bool true),(15,AV.jj 38 c),
 (16,AV.agg [b d,AV.str e,b f,AV.ah 38 g]),(17,AV.agg [b d,AV.str e,b f,AV.ah 38 g]),(18,AV.bm 198 [AV.ptr 4 0 [] 0])]))]):=by kernel_rfl
theorem r56(κ:Kp)(r:Nat)(a:Qa)(o:List AV)(u:AV)(Q:List Dn.Obj->Prop)(K2:List Dn.Obj->Prop):(fQ (vc (Jt κ r) 12) 5 [pV 38 u] (BW κ a (some o) .ready none) (fun r st''=>match r with| .lit (.bool true)=>tidy (Pr κ).toProgram 6 st'' Q| .lit (.bool false)=>K2 st''|_=>False))=(
 letI b:=AV.int
 letI c:=AV.agg
 letI d:=AV.str
 letI e:=Obj.box
 letI f:=AV.ah
 letI g:=nth a.m a.i.toNat
 letI l:=c [b (toInt (ag a.t 0)),d (toStr (ag a.t 1)),b (toInt (ag a.t 2)),f 38 (af (ag a.t 3))]
 letI h:=toInt (ag g 0)
 letI i:=toStr (ag g 1)
 letI j:=toInt (ag g 2)
 letI k:=af (ag g 3)
 letI m:=c [b h,d i,b j,f 38 k]
 letI n:=hG (bM 25) [(2,AV.ptr 2 0 [] 0),(4,AV.ptr 3 0 [] 0),(11,f 38 a.m),(12,b (↑(a.m.length):Int)),(13,b a.i),(14,AV.bool true),
  (15,AV.jj 38 g),(16,c [b h,d i,b j,f 38 k]),(17,c [b h,d i,b j,f 38 k]),(18,AV.bm 198
  [AV.ptr 4 0 [] 0])]
 ∃(e0:List AV),o=AV.aH [c [b (toInt (ag u 0)),d (toStr (ag u 1)),b (toInt (ag u 2)),f 38 (af (ag u 3))]]::e0/\Q [Obj.ext
 (some e0),e 38 l,e 186 (AV.cf 0),e 38 m,Obj.dead,Dn.Obj.loop (iG Tryz.prog 198 6 LoopState.ready none n)]/\K2 [Obj.ext none,e
 38 l,e 186 (AV.cf 0),e 38 m,Obj.dead,Dn.Obj.loop (iG Tryz.prog 198 6 LoopState.done (some Code.ret) n),e 38 (c [b (toInt (ag
 u 0)),d (toStr (ag u 1)),b (toInt (ag u 2)),f 38 (af (ag u 3))])]):=by kernel_rfl
theorem k56 κ a xs:(AV.cf 0::fE (ij (bV (sc κ a) [.ptr 4 0 [] 0])) [.ptr 4 0 [] 0],Obj.ext (some xs)::gg (ij (bV (sc κ a) [.ptr 4 0 [] 0])) (fY (sc κ a) (bV (sc κ a) [.ptr 4 0 [] 0])))=([.cf 0, .ptr 1 0 [] 0],[.ext (some xs), .box 38 (JL a)]):=by kernel_rfl
theorem o56 κ a:lD (sc κ a) [.ptr 4 0 [] 0]=true:=by kernel_rfl
noncomputable def Pn(κ:Kp)(r:Nat):ee:=fun b st K=>∃a,(b,st)=([AV.ptr 4 0 [] 0],sc κ a)/\((cI (nth a.m a.i.toNat)).mL<r/\(cI (nth a.m a.i.toNat)).mL<=100000/\a.xs=pR 38 (nth a.m a.i.toNat)++a.more)/\
 K (BW κ a (some a.more) .ready none)/\∀u,K (BW κ a none .done (some .ret)++[.box 38 (pV 38 u)])
theorem GV κ r:(Pn κ r).fU:=by
 rintro b st K g c ⟨a,d,e,f,h⟩;exact⟨a,d,e,c _ f,by grind⟩
theorem Q1 κ r a st K(h: ∃m,m<r/\R7 m a st K):(Jt κ r).call 198 a st K:=h
theorem al7 κ r:ir (Jt κ r) 12 198 (Pn κ r):=by
 rintro c st K ⟨a,k,⟨l,f,o⟩,p,g⟩;obtain⟨rfl,rfl⟩:=Prod.mk.inj k;refine⟨pR 38 (nth a.m a.i.toNat),fun b st'=>(∀x,x∈b->sq 38 x)/\st'=BW κ a (some (b++a.more)) .ready none,⟨o56 κ a,?_,?_,?_,?_⟩⟩
 ·refine Q1 κ r _ _ _ ⟨_,l,nth a.m a.i.toNat,?_,⟨rfl,f⟩,fun st' h=>h⟩
  rw[k56];rfl
 ·rw[show(Jt κ r).P=Pr κ from rfl,show(sc κ a).length=6 from rfl,s56]
  exact⟨nc _ _ _ (Nat.lt_succ_self _),by rw[o];rfl⟩
 ·rintro n e st' ⟨d,rfl⟩
  obtain⟨u,q⟩:=d (.aH n) (by simp);obtain rfl:=AV.aH.inj q;refine Eq.mpr (r56 κ r a _ u _ _) ?_;exact⟨_,rfl,⟨fun x j=>d x (by simp[j]),rfl⟩,g u⟩
 ·rintro st' ⟨_,rfl⟩
  exact p
noncomputable def EK κ r:=((Jt κ r).addRange 198 6 198 (Pn κ r)).cV fun f=>iH f Rs
theorem Zr κ r:aj (Jt κ r):=(m20 _).aw fun _ _ _ _ b ⟨m,c,a⟩=>⟨m,c,aI _ _ _ _ b a⟩
theorem x56(κ:Kp) r(a:Qa) I n K:(vc (EK κ r) 12 198 none 2 (ad (Pr κ).toProgram 198 3) (sp 25 [(2, .ptr 2 0 [] 0),(11, .ah 38 a.m),(12, .int a.m.length),(13, .int a.i)] [.ext (some a.xs), .box 38 (pV 38 a.t), .box 186 (.cf 0)]) (bj (EK κ r) 198 3 2 I n K))=(
 letI b:=AV.int
 letI c:=AV.ptr
 letI d:=AV.agg
 letI e:=AV.str
 letI f:=Obj.box
 letI g:=Obj.ext
 letI h:=AV.ah
 letI k:=nth a.m a.i.toNat
 letI s:=d [b (toInt (ag a.t 0)),e (toStr (ag a.t 1)),b (toInt (ag a.t 2)),h 38 (af (ag a.t 3))]
 letI t:=a.i<(↑(a.m.length):Int)
 letI m:=toInt (ag k 0)
 letI o:=toStr (ag k 1)
 letI p:=toInt (ag k 2)
 letI q:=af (ag k 3)
 letI u:=d [b m,e o,b p,h 38 q]
 aq (decide t) (aV (decide ((0:Int)<=a.i)&&decide t) (∃(e1:Qa),letI i:=nth e1.m e1.i.toNat;letI l:=[b (toInt (ag i 0)),e (toStr (ag i 1)),b (toInt (ag i 2)),h 38 (af (ag i 3))];letI j:=d [b (toInt (ag e1.t 0)),e (toStr (ag e1.t 1)),b (toInt (ag e1.t 2)),h 38 (af (ag e1.t 3))];([c 4 0 [] 0],[g (some a.xs),f 38 s,f 186 (AV.cf 0),f 38 u,f 38 u,Dn.Obj.loop (iG Tryz.prog 198 6 LoopState.ready none (hG (bM 25) [(2,c 2 0 [] 0),(4,c 3 0 [] 0),(11,h 38 a.m),(12,b (↑(a.m.length):Int)),(13,b a.i),(14,AV.bool true),(15,AV.jj 38 k),(16,d [b m,e o,b p,h 38 q]),(17,d [b m,e o,b p,h 38 q]),(18,AV.bm 198 [c 4 0 [] 0])]))])=([c 4 0 [] 0],[g (some e1.xs),f 38 j,f 186 (AV.cf 0),f 38 (d l),f 38 (d l),Dn.Obj.loop (iG Tryz.prog 198 6 LoopState.ready none (hG (bM 25) [(2,c 2 0 [] 0),(4,c 3 0 [] 0),(11,h 38 e1.m),(12,b (↑(e1.m.length):Int)),(13,b e1.i),(14,AV.bool true),(15,AV.jj 38 i),(16,d l),(17,d l),(18,AV.bm 198 [c 4 0 [] 0])]))])/\(Tm.mL (cI i)<r/\Tm.mL (cI i)<=100000/\e1.xs=pR 38 i++e1.more)/\(∃(e0:Nat),e0<n/\I e0 (sp 25 [(2,c 2 0 [] 0),(11,h 38 a.m),(12,b (↑(a.m.length):Int)),(13,b (IntKind.wrap IntKind.i64 (a.i+(1:Int))))] [g (some e1.more),f 38 j,f 186 (AV.cf 0)]))/\∀(e0:AV),K Exit.ret (sp 25 [] [g none,f 38 j]))) (K (Exit.exit 0) (sp 25 [] [g (some a.xs),f 38 s]))):=by kernel_rfl
abbrev TY(a:Qa):=sp 25 [(2, .ptr 2 0 [] 0),(11, .ah 38 a.m),(12, .int a.m.length),(13, .int a.i)] [.ext (some a.xs), .box 38 (pV 38 a.t), .box 186 (.cf 0)]
def IL r(a:Qa):=a.m.length<=aW/\0<=a.i/\a.i<=a.m.length/\bk (aa (a.m.drop a.i.toNat))<r/\bk (aa (a.m.drop a.i.toNat))<=100000/\a.xs=fI 38 (a.m.drop a.i.toNat)
def NY(a:Qa):Out (Exit×S):= .all (fun _=>True) fun b=> .aq b (.one (.exit 0,sp 25 [] [.ext (some []), .box 38 (pV 38 a.t)])) (.one (.ret,sp 25 [] [.ext none, .box 38 (pV 38 a.t)]))
theorem vX l i(h:i<l.length):bk (aa (l.drop i))=(cI (nth l i)).mL+bk (aa (l.drop (i+1))):=by
 grind [eT,bk]
theorem l56 κ r:aU (EK κ r) 12 198 3 (aG 2 TY (IL r) NY):=by
 refine aC (fun a=>a.m.length - a.i.toNat) ?_;rintro⟨xs,b,t,m,i⟩ K ⟨f,h,o,l,k,d⟩ g;simp only at f h o l k d;rw[show(EK κ r).P=Pr κ from rfl];refine Eq.mpr (x56 κ r ⟨xs,b,t,m,i⟩ _ _ K) ?_;have c:=g true trivial;have e:=g false trivial;simp only[Out.run,aq] at c e;simp only[aW] at f;simp only[ae,ai,ar4,ar6,ar5];refine⟨fun j=>⟨⟨h,j⟩,?_⟩,fun j=>?_⟩
 ·have p:=vX m i.toNat (by omega)
  rw[x5 _ m i.toNat (by omega)] at d;rw[az (n:=i+1) (by omega) (by omega)];refine⟨⟨xs,fI 38 (m.drop (i.toNat+1)),t,m,i⟩,rfl,⟨by simp only;omega,by simp only;omega,d⟩,⟨_,?_,⟨_,b,t,m,i+1⟩,rfl,⟨by simpa[aW] using f,by simp only;omega,by simp only;omega,?_,?_,?_⟩,rfl,g⟩,fun _=>e⟩
  ·simp only;omega
  ·simp only[show(i+1).toNat=i.toNat+1 by omega];omega
  ·simp only[show(i+1).toNat=i.toNat+1 by omega];omega
  ·simp only[show(i+1).toNat=i.toNat+1 by omega]
 ·rw[as2 (by omega)] at d
  subst d;exact c
noncomputable def LY κ r:=(EK κ r).an 198 3 (aG 2 TY (IL r) NY)
theorem y56(κ:Kp)(r:Nat)(t:AV)(xs:List AV)(K:AV->List Dn.Obj->Prop):(a0 (LY κ r) 12 198 [.cf 0, .ptr 1 0 [] 0] [.ext (some xs), .box 38 (pV 38 t)] K)=(
 letI a:=AV.int
 letI b:=Obj.box
 letI c:=Obj.ext
 letI d:=af (ag t 3)
 letI g:=AV.agg [a (toInt (ag t 0)),AV.str (toStr (ag t 1)),a (toInt (ag t 2)),AV.ah 38 d]
 letI h:=Pg.toProgram (Env.P (EK κ r))
 ∃(e2:List AV),xs=AV.aH [AV.agg [a (toInt (ag t 0)),AV.str (toStr (ag t 1)),a (toInt (ag t 2)),AV.ah 38 d]]::e2/\(ad h 198 3=ad h 198 3/\∃(e1:Qa),letI e:=AV.agg [a (toInt (ag e1.t 0)),AV.str (toStr (ag e1.t 1)),a (toInt (ag e1.t 2)),AV.ah 38 (af (ag e1.t 3))];letI f:=List.drop e1.i.toNat e1.m;sp 25 [(2,AV.ptr 2 0 [] 0),(11,AV.ah 38 d),(12,a (↑(List.length d):Int)),(13,a 0)] [c (some e2),b 38 g,b 186 (AV.cf 0)]=sp 25 [(2,AV.ptr 2 0 [] 0),(11,AV.ah 38 e1.m),(12,a (↑(e1.m.length):Int)),(13,a e1.i)] [c (some e1.xs),b 38 e,b 186 (AV.cf 0)]/\(e1.m.length<=9223372036854775807/\(0:Int)<=e1.i/\e1.i<=(↑(e1.m.length):Int)/\bk (aa f)<r/\bk (aa f)<=100000/\e1.xs=fI 38 f)/\∀(e0:Bool),True->aq e0 (K (AV.aH []) [c (some []),b 38 e]) (K (AV.aH []) [c none,b 38 e]))/\K (AV.aH []) [c none,b 38 g]):=by kernel_rfl
theorem ak4 κ r(c: ∀a st K,(∃m,m<r/\R7 m a st K)->b7 (Pr κ) 198 a st K):aE (LY κ r)/\aj (LY κ r)/\(LY κ r).P=Pr κ:=
 have h:=(e20 _).fK c;have d:=(h.addRange (Zr _ r) (al7 _ r)).cV _;have b:=((Zr _ r).addRange (GV _ r)).cV _
 ⟨d.an b (l56 _ r),b.an aJ,rfl⟩
theorem c56 κ r:bc (LY κ r) 12 198 (R7 r):=by
 refine aR ?_;rintro t K ⟨f,g⟩ c;have a: ∀b,K (.aH []) [.ext none,b]:=fun b=>c _ trivial
 have e: ∀b,K (.aH []) [.ext (some []),b]:=fun b=>c _ trivial
 refine Eq.mpr (y56 κ r t _ K) ?_;rw[de,Tm.mL] at f;have d:=gI (aa (af (ag t 3)));rw[eD] at d;rw[BX];refine⟨_,rfl,⟨rfl,⟨_,[],t,af (ag t 3),0⟩,rfl,⟨by simp only;omega,by simp only;omega,by simp only;omega,?_,?_,rfl⟩,?_⟩,a _⟩
 ·grind
 ·simp only[Int.toNat_zero,as4];omega
 ·intro y _
  cases y
  ·exact a _
  ·exact e _
def BF a:=(cI a).mL<=100000
theorem q56 κ: ∀a st K,aO Sc BF H9 a st K->b7 (Pr κ) 198 a st K:=by
 rintro a st K ⟨l,c,d,b⟩;exact aE.pj _ _ (ak4 _) (c56 _) _ _ _ K ⟨l,c,⟨rfl,d⟩,b⟩
noncomputable def LX κ:=(E20 κ).aw 198 (aO Sc BF H9)
theorem e56 κ:aE (LX κ):=(e20 _).fK (q56 _)
theorem m56 κ:aj (LX κ):=(m20 _).aw aI
structure EC where
 xs:List AV
 more:List AV
 r:dh
 bl:List AV
 ts:List AV
 i:Int
abbrev Fm(a:EC):=pV 38 (nth a.ts (0+a.i.toNat))
abbrev I4(a:EC):=sp 46 [(2, .ptr 2 0 [] 0),(3, .ak 3 0 a.ts.length),(14, .ah 80 a.bl),(15, .int a.bl.length),(16, .int a.i)] [.ext (some a.xs), .box 48 (au a.r), .box 186 (.cf 0), .row 38 a.ts]
theorem ap2 κ a I n K:(vc (LX κ) 12 185 none 2 (ad (Pr κ).toProgram 185 3) (I4 a) (bj (LX κ) 185 3 2 I n K))=(
 letI b:=AV.int
 letI c:=Obj.box
 letI d:=nth a.bl a.i.toNat
 letI f:=a.i<(↑(a.bl.length):Int)
 letI e:=ag (ag d 1) 1
 aq (decide f) (aV (decide ((0:Int)<=a.i)&&decide f) (aV (decide ((a.ts.length+2+1)*57<=70368744177664)) (aV (decide ((a.ts.length+2+
 List.length (af e)+1)*57<=70368744177664)) (∃(e0:Nat),e0<n/\I e0 (sp 46 [(2,AV.ptr 2 0 [] 0),(3,AV.ak 3 0 (a.ts.length+2+List.length (af
 e))),(14,AV.ah 80 a.bl),(15,b (↑(a.bl.length):Int)),(16,b (IntKind.wrap IntKind.i64 (a.i+(1:Int))))] [Obj.ext (some a.xs),c 48 (au
 a.r),c 186 (AV.cf 0),Obj.row 38 (List.take (a.ts.length+2) (List.take a.ts.length a.ts++[AV.agg [b (toInt (ag (ag d 2) 0)),AV.str (toStr (ag
 (ag d 2) 1)),b (toInt (ag (ag d 2) 2)),AV.ah 38 (af (ag (ag d 2) 3))],AV.agg [b (toInt (ag (ag d 3) 0)),AV.str (toStr (ag (ag d 3) 1)),
 b (toInt (ag (ag d 3) 2)),AV.ah 38 (af (ag (ag d 3) 3))]])++af e)]))))) (K (Exit.exit 0) (sp 46 [(2,AV.ptr 2 0 [] 0),(3,AV.ak 3 0 a.ts.length)]
 [Obj.ext (some a.xs),c 48 (au a.r),c 186 (AV.cf 0),Obj.row 38 a.ts]))):=by kernel_rfl
def dI(l:List _):=l.flatMap fun a=>[pV 38 (ag a 2),pV 38 (ag a 3)]++af (ag (ag a 1) 1)
def IH(a:EC):=a.bl.length<=aW/\0<=a.i/\a.i<=a.bl.length/\(a.ts++dI (a.bl.drop a.i.toNat)).length<=100000
def Bn(a:EC):Out (Exit×S):= .one (.exit 0,sp 46 [(2, .ptr 2 0 [] 0),(3, .ak 3 0 (a.ts++dI (a.bl.drop a.i.toNat)).length)] [.ext (some a.xs), .box 48 (au a.r), .box 186 (.cf 0), .row 38 (a.ts++dI (a.bl.drop a.i.toNat))])
theorem Gd l i(h:i<l.length):dI (l.drop i)=[pV 38 (ag (nth l i) 2),pV 38 (ag (nth l i) 3)]++af (ag (ag (nth l i) 1) 1)++dI (l.drop (i+1)):=by
 rw[as5 h,aM l i h];rfl
theorem am3 κ:aU (LX κ) 12 185 3 (aG 2 I4 IH Bn):=by
 refine aC (fun a=>a.bl.length - a.i.toNat) ?_;rintro⟨xs,c,r,b,e,i⟩ K ⟨f,h,l,g⟩ d;simp only at f h l g;rw[show(LX κ).P=Pr κ from rfl];refine Eq.mpr (ap2 κ ⟨xs,c,r,b,e,i⟩ _ _ K) ?_;simp only[and_self];simp only[Bn,Out.run] at d;simp only[aW] at f;simp only[ae,ai,ar4,ar6,ar5];refine⟨fun j=>⟨⟨h,j⟩,?_⟩,fun j=>?_⟩
 ·have k:=Gd b i.toNat (by omega)
  rw[k] at g d;rw[az (n:=i+1) (by omega) (by omega)];simp only[as9,List.length_cons,List.length_nil] at g;refine⟨by omega,by omega,_,?_,⟨xs,c,r,b,e++([pV 38 (ag (nth b i.toNat) 2),pV 38 (ag (nth b i.toNat) 3)]++af (ag (ag (nth b i.toNat) 1) 1)),i+1⟩,?_,⟨by simpa[aW] using f,by simp only;omega,by simp only;omega,?_⟩,rfl,?_⟩
  ·simp only;omega
  ·simp only[I4,as9,List.length_cons,List.length_nil,List.take_length]
   rw[List.take_of_length_le (by simp),show e.length+2+(af (ag (ag (nth b i.toNat) 1) 1)).length=e.length+(0+1+1+(af (ag (ag (nth b i.toNat) 1) 1)).length) by omega,List.append_assoc];rfl
  ·simp only[as9,List.length_cons,List.length_nil,show(i+1).toNat=i.toNat+1 by omega];omega
  ·simp only[Bn,Out.run,show(i+1).toNat=i.toNat+1 by omega]
   simpa only[List.append_assoc] using d
 ·rw[as2 (by omega)] at d
  simpa[dI] using d
noncomputable def EH κ:=(LX κ).an 185 3 (aG 2 I4 IH Bn)
theorem aj6 κ:aE (EH κ):=(e56 _).an (m56 _) (am3 _)
theorem Zk κ:aj (EH κ):=(m56 _).an aJ
noncomputable abbrev Y6(a:EC)(κ:Kp)(st:LoopState)(p:Option Code):Dn.Obj:=
 .loop (iG (Pr κ).toProgram 185 11 st p (hG (bM 46) [(2, .ptr 2 0 [] 0),(7, .ptr 4 0 [] 0),(32, .ak 3 0 a.ts.length),(33, .int a.ts.length),(34, .int a.i),(35, .bool true),
  (36, .ptr 3 (0+a.i.toNat) [] 0),(37,Fm a),(38,Fm a),(39, .bm 198 [.ptr 5 0 [] 0])]))
noncomputable abbrev sb κ a:=[.ext (some a.xs), .box 48 (au a.r), .box 186 (.cf 0), .row 38 a.ts, .box 38 (Fm a), .box 38 (Fm a),Y6 a κ .ready none]
noncomputable abbrev BV κ a o st p:=[.ext o, .box 48 (au a.r), .box 186 (.cf 0), .row 38 a.ts, .box 38 (Fm a), .dead,Y6 a κ st p]
theorem s42 κ a Q:(tidy (Pr κ).toProgram 7 (dt (sb κ a) (bV (sb κ a) [.ptr 5 0 [] 0])) Q)=(
 letI b:=AV.int
 letI c:=nth a.ts (0+a.i.toNat)
 letI d:=toInt (ag c 0)
 letI e:=toStr (ag c 1)
 letI f:=toInt (ag c 2)
 letI g:=af (ag c 3)
 Q [Obj.ext (some a.xs),Obj.box 48 (au a.r),Obj.box 186 (AV.cf 0),Obj.row 38 a.ts,Obj.box 38 (AV.agg [b d,AV.str e,b f,AV.ah 38 g]),
 Obj.dead,Dn.Obj.loop (iG Tryz.prog 185 11 LoopState.ready none (hG (bM 46) [(2,AV.ptr 2 0 [] 0),(7,AV.ptr 4 0 [] 0),(32,AV.ak 3 0 a.ts.length),(33,
 b (↑(a.ts.length):Int)),(34,b a.i),(35,AV.bool true),(36,AV.ptr 3 (0+a.i.toNat) [] 0),(37,AV.agg [b d,AV.str e,b f,AV.ah
 38 g]),(38,AV.agg [b d,AV.str e,b f,AV.ah 38 g]),(39,AV.bm 198 [AV.ptr 5 0 [] 0])]))]):=by kernel_rfl
theorem r42(κ:Kp)(a:EC)(o:List AV)(u:AV)(Q:List Dn.Obj->Prop)(K2:List Dn.Obj->Prop):(fQ (vc (EH κ) 12) 6 [pV 38 u] (BV κ a (some o) .ready none) (fun r st''=>match r with| .lit (.bool true)=>tidy (Pr κ).toProgram 7 st'' Q| .lit (.bool false)=>K2 st''|_=>False))=(
 letI b:=AV.int
 letI c:=AV.agg
 letI d:=AV.str
 letI e:=Obj.box
 letI f:=nth a.ts (0+a.i.toNat)
 letI g:=toInt (ag f 0)
 letI h:=toStr (ag f 1)
 letI i:=toInt (ag f 2)
 letI j:=af (ag f 3)
 letI k:=c [b g,d h,b i,AV.ah 38 j]
 letI l:=hG (bM 46) [(2,AV.ptr 2 0 [] 0),(7,AV.ptr 4 0 [] 0),(32,AV.ak 3 0 a.ts.length),(33,b (↑(a.ts.length):Int)),(34,b a.i),(35,
  AV.bool true),(36,AV.ptr 3 (0+a.i.toNat) [] 0),(37,c [b g,d h,b i,AV.ah 38 j]),(38,c [b g,d h,b i,
  AV.ah 38 j]),(39,AV.bm 198 [AV.ptr 5 0 [] 0])]
 ∃(e0:List AV),o=AV.aH [c [b (toInt (ag u 0)),d (toStr (ag u 1)),b (toInt (ag u 2)),AV.ah 38 (af (ag u 3))]]::e0/\Q [Obj.ext
 (some e0),e 48 (au a.r),e 186 (AV.cf 0),Obj.row 38 a.ts,e 38 k,Obj.dead,Dn.Obj.loop (iG Tryz.prog 185 11 LoopState.ready none l)]/\K2
 [Obj.ext none,e 48 (au a.r),e 186 (AV.cf 0),Obj.row 38 a.ts,e 38 k,Obj.dead,Dn.Obj.loop (iG Tryz.prog 185 11 LoopState.done (some
 Code.ret) l),e 38 (c [b (toInt (ag u 0)),d (toStr (ag u 1)),b (toInt (ag u 2)),AV.ah 38 (af (ag u 3))])]):=by kernel_rfl
theorem k42 κ a xs:(AV.cf 0::fE (ij (bV (sb κ a) [.ptr 5 0 [] 0])) [.ptr 5 0 [] 0],Obj.ext (some xs)::gg (ij (bV (sb κ a) [.ptr 5 0 [] 0])) (fY (sb κ a) (bV (sb κ a) [.ptr 5 0 [] 0])))=([.cf 0, .ptr 1 0 [] 0],[.ext (some xs), .box 38 (Fm a)]):=by kernel_rfl
theorem o42 κ a:lD (sb κ a) [.ptr 5 0 [] 0]=true:=by kernel_rfl
noncomputable def Pm(κ:Kp):ee:=fun b st K=>∃a,(b,st)=([AV.ptr 5 0 [] 0],sb κ a)/\((cI (nth a.ts a.i.toNat)).mL<=100000/\a.xs=pR 38 (nth a.ts a.i.toNat)++a.more)/\
 K (BV κ a (some a.more) .ready none)/\∀u,K (BV κ a none .done (some .ret)++[.box 38 (pV 38 u)])
theorem GU κ:(Pm κ).fU:=by
 rintro b st K g c ⟨a,d,e,f,h⟩;exact⟨a,d,e,c _ f,by grind⟩
theorem call42 κ a st K(h:aO Sc BF H9 a st K):(EH κ).call 198 a st K:=h
theorem al6 κ:ir (EH κ) 12 198 (Pm κ):=by
 rintro c st K ⟨a,g,⟨k,f⟩,m,n⟩;obtain⟨rfl,rfl⟩:=Prod.mk.inj g;refine⟨pR 38 (nth a.ts a.i.toNat),fun b st'=>(∀x,x∈b->sq 38 x)/\st'=BV κ a (some (b++a.more)) .ready none,⟨o42 κ a,?_,?_,?_,?_⟩⟩
 ·refine call42 κ _ _ _ ⟨nth a.ts a.i.toNat,?_,k,fun st' h=>h⟩
  rw[k42,Fm,Nat.zero_add];rfl
 ·rw[show(EH κ).P=Pr κ from rfl,show(sb κ a).length=7 from rfl,s42]
  exact⟨nc _ _ _ (Nat.lt_succ_self _),by rw[f];rfl⟩
 ·rintro l e st' ⟨d,rfl⟩
  obtain⟨u,o⟩:=d (.aH l) (by simp);obtain rfl:=AV.aH.inj o;refine Eq.mpr (r42 κ a _ u _ _) ?_;exact⟨_,rfl,⟨fun x j=>d x (by simp[j]),rfl⟩,n u⟩
 ·rintro st' ⟨_,rfl⟩
  exact m
noncomputable def vq κ:=((EH κ).addRange 185 11 198 (Pm κ)).cV fun f=>iH f Rs
theorem aj8 κ:aE (vq κ):=((aj6 _).addRange (Zk _) (al6 _)).cV _
theorem Zm κ:aj (vq κ):=((Zk _).addRange (GU _)).cV _
abbrev I5(a:EC):=sp 46 [(2, .ptr 2 0 [] 0),(32, .ak 3 0 a.ts.length),(33, .int a.ts.length),(34, .int a.i)] [.ext (some a.xs), .box 48 (au a.r), .box 186 (.cf 0), .row 38 a.ts]
theorem ap3 κ a I n K:(vc (vq κ) 12 185 none 2 (ad (Pr κ).toProgram 185 8) (I5 a) (bj (vq κ) 185 8 2 I n K))=(
 letI b:=AV.int
 letI c:=AV.ptr
 letI d:=AV.agg
 letI e:=Obj.box
 letI f:=Obj.ext
 letI g:=nth a.ts (0+a.i.toNat)
 letI h:=a.ts.length
 letI k:=toInt (ag g 0)
 letI l:=toStr (ag g 1)
 letI m:=toInt (ag g 2)
 letI o:=af (ag g 3)
 letI p:=d [b k,AV.str l,b m,AV.ah 38 o]
 aq (decide (a.i<(↑h:Int))) (aV (decide ((0:Int)<=a.i)&&decide (a.i<(↑h:Int))) (∃(e1:EC),letI i:=nth e1.ts (0+e1.i.toNat);letI j:=[b (toInt (ag i 0)),AV.str (toStr (ag i 1)),b (toInt (ag i 2)),AV.ah 38 (af (ag i 3))];([c 5 0 [] 0],[f (some a.xs),e 48 (au a.r),e 186 (AV.cf 0),Obj.row 38 a.ts,e 38 p,e 38 p,Dn.Obj.loop (iG Tryz.prog 185 11 LoopState.ready none (hG (bM 46) [(2,c 2 0 [] 0),(7,c 4 0 [] 0),(32,AV.ak 3 0 a.ts.length),(33,b (↑h:Int)),(34,b a.i),(35,AV.bool true),(36,c 3 (0+a.i.toNat) [] 0),(37,d [b k,AV.str l,b m,AV.ah 38 o]),(38,d [b k,AV.str l,b m,AV.ah 38 o]),(39,AV.bm 198 [c 5 0 [] 0])]))])=([c 5 0 [] 0],[f (some e1.xs),e 48 (au e1.r),e 186 (AV.cf 0),Obj.row 38 e1.ts,e 38 (d j),e 38 (d j),Dn.Obj.loop (iG Tryz.prog 185 11 LoopState.ready none (hG (bM 46) [(2,c 2 0 [] 0),(7,c 4 0 [] 0),(32,AV.ak 3 0 e1.ts.length),(33,b (↑(e1.ts.length):Int)),(34,b e1.i),(35,AV.bool true),(36,c 3 (0+e1.i.toNat) [] 0),(37,d j),(38,d j),(39,AV.bm 198 [c 5 0 [] 0])]))])/\(Tm.mL (cI (nth e1.ts e1.i.toNat))<=100000/\e1.xs=pR 38 (nth e1.ts e1.i.toNat)++e1.more)/\(∃(e0:Nat),e0<n/\I e0 (sp 46 [(2,c 2 0 [] 0),(32,AV.ak 3 0 a.ts.length),(33,b (↑h:Int)),(34,b (IntKind.wrap IntKind.i64 (a.i+(1:Int))))] [f (some e1.more),e 48 (au e1.r),e 186 (AV.cf 0),Obj.row 38 e1.ts]))/\∀(e0:AV),K Exit.ret (sp 46 [] [f none,e 48 (au e1.r)]))) (K (Exit.exit 2) (sp 46 [] [f (some a.xs),e 48 (au a.r)]))):=by kernel_rfl
def BD(a:EC):=a.ts.length<=aW/\0<=a.i/\a.i<=a.ts.length/\bk (aa (a.ts.drop a.i.toNat))<=100000/\a.xs=fI 38 (a.ts.drop a.i.toNat)
def NV(a:EC):Out (Exit×S):= .all (fun _=>True) fun b=> .aq b (.one (.exit 2,sp 46 [] [.ext (some []), .box 48 (au a.r)])) (.one (.ret,sp 46 [] [.ext none, .box 48 (au a.r)]))
theorem am4 κ:aU (vq κ) 12 185 8 (aG 2 I5 BD NV):=by
 refine aC (fun a=>a.ts.length - a.i.toNat) ?_;rintro⟨xs,b,r,f,m,i⟩ K ⟨h,j,l,o,c⟩ g;simp only at h j l o c;rw[show(vq κ).P=Pr κ from rfl];refine Eq.mpr (ap3 κ ⟨xs,b,r,f,m,i⟩ _ _ K) ?_;have e:=g true trivial;have d:=g false trivial;simp only[Out.run,aq] at e d;simp only[aW] at h;simp only[ae,ai,ar4,ar6,ar5];refine⟨fun k=>⟨⟨j,k⟩,?_⟩,fun k=>?_⟩
 ·have p:=vX m i.toNat (by omega)
  rw[x5 _ m i.toNat (by omega)] at c;rw[az (n:=i+1) (by omega) (by omega)];refine⟨⟨xs,fI 38 (m.drop (i.toNat+1)),r,f,m,i⟩,rfl,⟨by simp only;omega,c⟩,⟨_,?_,⟨_,b,r,f,m,i+1⟩,rfl,⟨by simpa[aW] using h,by simp only;omega,by simp only;omega,?_,?_⟩,rfl,g⟩,fun _=>d⟩
  ·simp only;omega
  ·grind
  ·simp only[show(i+1).toNat=i.toNat+1 by omega]
 ·rw[as2 (by omega)] at c
  subst c;exact e
noncomputable def LR κ:=(vq κ).an 185 8 (aG 2 I5 BD NV)
theorem aj7 κ:aE (LR κ):=(aj8 _).an (Zm _) (am4 _)
theorem Zl κ:aj (LR κ):=(Zm _).an aJ
theorem y42 κ a K:(a0 (LR κ) 12 185 [.cf 0, .ptr 1 0 [] 0] [.ext (some a.xs), .box 48 (au a)] K)=(
 letI b:=AV.int
 letI c:=AV.ptr
 letI d:=Obj.box
 letI e:=Obj.row
 letI f:=Obj.ext
 letI g:=AV.ak
 letI h:=AV.cf
 letI i:=Pg.toProgram (Env.P (LX κ))
 letI j:=Pg.toProgram (Env.P (vq κ))
 (NG a.hl=true->ad i 185 3=ad i 185 3/\∃(e2:EC),letI k:=e2.ts++dI (List.drop e2.i.toNat e2.bl);sp 46 [(2,c 2 0 [] 0),(3,g 3 0 0),(14,AV.ah 80 a.bl),(15,b (↑(a.bl.length):Int)),(16,b 0)] [f (some a.xs),d 48 (au a),d 186 (h 0),e 38 []]=sp 46 [(2,c 2 0 [] 0),(3,g 3 0 e2.ts.length),(14,AV.ah 80 e2.bl),(15,b (↑(e2.bl.length):Int)),(16,b e2.i)] [f (some e2.xs),d 48 (au e2.r),d 186 (h 0),e 38 e2.ts]/\(e2.bl.length<=9223372036854775807/\(0:Int)<=e2.i/\e2.i<=(↑(e2.bl.length):Int)/\List.length k<=100000)/\ad j 185 8=ad j 185 8/\∃(e1:EC),letI m:=List.drop e1.i.toNat e1.ts;sp 46 [(2,c 2 0 [] 0),(32,g 3 0 (List.length k)),(33,b (↑(List.length k):Int)),(34,b 0)] [f (some e2.xs),d 48 (au e2.r),d 186 (h 0),e 38 k]=sp 46 [(2,c 2 0 [] 0),(32,g 3 0 e1.ts.length),(33,b (↑(e1.ts.length):Int)),(34,b e1.i)] [f (some e1.xs),d 48 (au e1.r),d 186 (h 0),e 38 e1.ts]/\(e1.ts.length<=9223372036854775807/\(0:Int)<=e1.i/\e1.i<=(↑(e1.ts.length):Int)/\bk (aa m)<=100000/\e1.xs=fI 38 m)/\∀(e0:Bool),True->aq e0 (K (AV.aH []) [f (some []),d 48 (au e1.r)]) (K (AV.aH []) [f none,d 48 (au e1.r)]))/\aV (decide ((0+a.hl.length+1)*57<=70368744177664)) (ad i 185 3=ad i 185 3/\∃(e2:EC),letI l:=e2.ts++dI (List.drop e2.i.toNat e2.bl);sp 46 [(2,c 2 0 [] 0),(3,g 3 0 (0+a.hl.length)),(14,AV.ah 80 a.bl),(15,b (↑(a.bl.length):Int)),(16,b 0)] [f (some a.xs),d 48 (au a),d 186 (h 0),e 38 ([]++a.hl)]=sp 46 [(2,c 2 0 [] 0),(3,g 3 0 e2.ts.length),(14,AV.ah 80 e2.bl),(15,b (↑(e2.bl.length):Int)),(16,b e2.i)] [f (some e2.xs),d 48 (au e2.r),d 186 (h 0),e 38 e2.ts]/\(e2.bl.length<=9223372036854775807/\(0:Int)<=e2.i/\e2.i<=(↑(e2.bl.length):Int)/\List.length l<=100000)/\ad j 185 8=ad j 185 8/\∃(e1:EC),letI n:=List.drop e1.i.toNat e1.ts;sp 46 [(2,c 2 0 [] 0),(32,g 3 0 (List.length l)),(33,b (↑(List.length l):Int)),(34,b 0)] [f (some e2.xs),d 48 (au e2.r),d 186 (h 0),e 38 l]=sp 46 [(2,c 2 0 [] 0),(32,g 3 0 e1.ts.length),(33,b (↑(e1.ts.length):Int)),(34,b e1.i)] [f (some e1.xs),d 48 (au e1.r),d 186 (h 0),e 38 e1.ts]/\(e1.ts.length<=9223372036854775807/\(0:Int)<=e1.i/\e1.i<=(↑(e1.ts.length):Int)/\bk (aa n)<=100000/\e1.xs=fI 38 n)/\∀(e0:Bool),True->aq e0 (K (AV.aH []) [f (some []),d 48 (au e1.r)]) (K (AV.aH []) [f none,d 48 (au e1.r)]))):=by kernel_rfl
def WA(a:dh):List AV×List Dn.Obj:=([.cf 0, .ptr 1 0 [] 0],[.ext (some (fI 38 (bo 38 a.hl a.bl))), .box 48 (au a)])
def dd(a:dh):=bk (aa (bo 38 a.hl a.bl))<=100000/\a.bl.length<=100000
def NU(_:dh):Out (AV×List Dn.Obj):= .all (fun st'=>se st') fun st'=> .one (.aH [],st')
theorem c42 κ:bc (LR κ) 12 185 (aO WA dd NU):=by
 refine aR ?_;rintro⟨xs,g,k,d,c,f,i⟩ K ⟨o,u⟩ p;have s: ∀b,K (.aH []) [.ext none,b]:=fun b=>p _ trivial
 have q: ∀b,K (.aH []) [.ext (some []),b]:=fun b=>p _ trivial
 simp only at o u;have l:=gI (aa (bo 38 d c));rw[eD] at l;have t:d.length<=100000:=by
  have:(bo 38 d c).length=d.length+(dI c).length:=by simp[bo,dI]
  omega
 refine Eq.mpr (y42 κ ⟨fI 38 (bo 38 d c),g,k,d,c,f,i⟩ K) ?_;have n: ∀j:List AV,j=d->(j++dI (List.drop (Int.toNat 0) c))=bo 38 d c:=fun j h=>by subst h;rfl
 have m: ∀j:List AV,j=d->∃a:EC,sp 46 [(2, .ptr 2 0 [] 0),(32, .ak 3 0 (j++dI (List.drop (Int.toNat 0) c)).length),(33, .int (j++dI (List.drop (Int.toNat 0) c)).length),(34, .int 0)] [.ext (some (fI 38 (bo 38 d c))), .box 48 (au ⟨fI 38 (bo 38 d c),g,k,d,c,f,i⟩), .box 186 (.cf 0), .row 38 (j++dI (List.drop (Int.toNat 0) c))]=I5 a/\BD a/\∀y:Bool,True->aq y (K (.aH []) [.ext (some []), .box 48 (au a.r)]) (K (.aH []) [.ext none, .box 48 (au a.r)]):=by
  intro j h;refine⟨⟨_,[],⟨fI 38 (bo 38 d c),g,k,d,c,f,i⟩,c,j++dI (List.drop (Int.toNat 0) c),0⟩,rfl,⟨?_,?_,?_,?_,?_⟩,fun y _=>?_⟩
  ·simp only[n j h,aW];omega
  ·simp only;omega
  ·simp only;omega
  ·show bk (aa (List.drop (Int.toNat 0) (j++dI (List.drop (Int.toNat 0) c))))<=100000
   rw[n j h];exact o
  ·rw[n j h];rfl
  ·cases y
   ·exact s _
   ·exact q _
 refine⟨fun e=>?_,?_⟩
 ·obtain rfl:d=[]:=by
   cases d with
   |nil=>rfl
   |cons=>cases e
  refine⟨rfl,⟨_,[],⟨fI 38 (bo 38 [] c),g,k,[],c,f,i⟩,c,[],0⟩,rfl,⟨by simp only;omega,by simp only;omega,by simp only;omega,?_⟩,rfl,m [] rfl⟩;rw[n [] rfl];exact Nat.le_trans l o
 ·rw[ai,ar4]
  refine⟨by simp only;omega,rfl,⟨_,[],⟨fI 38 (bo 38 d c),g,k,d,c,f,i⟩,c,[]++d,0⟩,?_,⟨by simp only;omega,by simp only;omega,by simp only;omega,?_⟩,rfl,m ([]++d) rfl⟩
  ·rw[Nat.zero_add];rfl
  ·rw[n ([]++d) rfl];exact Nat.le_trans l o
set_option maxRecDepth 20000 in
noncomputable def SY(κ:Kp):Env:=(LR κ).aw 185 (aO WA dd NU)
theorem e42 κ:aE (SY κ):=(aj7 _).aw (Zl _) (c42 _)
theorem m42 κ:aj (SY κ):=(Zl _).aw aI
def aQ(a:dh):Rl:=⟨⟨a.rel,aa a.hl⟩,dw a.bl⟩
noncomputable abbrev Y4(a:dh)(κ:Kp)(st:LoopState)(p:Option Code):Dn.Obj:=
 .loop (iG (Pr κ).toProgram 115 6 st p (hG (bM 31) [(0,au a),(1, .ptr 0 0 [] 0),(2, .nil),(3, .ptr 1 0 [] 0),(4, .ptr 3 0 [] 0),(6,au a),(7, .bool (a8 (aQ a))),(8, .bool false),(9, .mp 2),(10,au a),(11, .bm 185 [.ptr 4 0 [] 0])]))
noncomputable abbrev qf κ a:=[.box 48 (au a), .box 36 .nil, .map 9 4 [], .box 177 (.mp 2), .box 48 (au a),Y4 a κ .ready none]
theorem s12 κ a Q:(tidy (Pr κ).toProgram 6 (dt (qf κ a) (bV (qf κ a) [.ptr 4 0 [] 0])) Q)=(
 Q [Obj.box 48 (au a),Obj.box 36 (AV.ak 6 0 0),Dn.Obj.map 9 4 [],Obj.box 177 (AV.mp 2),Obj.dead,Dn.Obj.loop (iG Tryz.prog 115 6 LoopState.ready none (hG (bM
 31) [(0,au a),(1,AV.ptr 0 0 [] 0),(2,AV.nil),(3,AV.ptr 1 0 [] 0),(4,AV.ptr 3 0 [] 0),(6,au a),(7,AV.bool (a8 (aQ a))),(8,AV.bool false),(9,
 AV.mp 2),(10,au a),(11,AV.bm 185 [AV.ptr 4 0 [] 0])])),Obj.row 9 []]):=by kernel_rfl
noncomputable abbrev BU κ a b c:=[.box 48 (au a), .box 36 (.ak 6 0 b.length), .map 9 4 c, .box 177 (.mp 2), .dead,Y4 a κ .ready none, .row 9 (strs b)]
theorem r12 κ a vs es u Q(K2:List Dn.Obj->Prop):(fQ (vc (SY κ) 12) 5 [pV 38 u] (BU κ a vs es) (fun r st''=>match r with| .lit (.bool true)=>tidy (Pr κ).toProgram 6 st'' Q| .lit (.bool false)=>K2 st''|_=>False))=(
 letI b:=AV.bool
 letI c:=Obj.box
 letI d:=iG Tryz.prog 115 6 LoopState.ready none (hG (bM 31) [(0,au a),(1,AV.ptr 0 0 [] 0),(2,AV.nil),(3,AV.ptr 1 0 [] 0),(4,AV.ptr 3 0 [] 0),(6,au
  a),(7,b (a8 (aQ a))),(8,b false),(9,AV.mp 2),(10,au a),(11,AV.bm 185 [AV.ptr 4 0 [] 0])])
 letI e:=Q [c 48 (au a),c 36 (AV.ak 6 0 vs.length),Dn.Obj.map 9 4 es,c 177 (AV.mp 2),Obj.dead,Dn.Obj.loop d,Obj.row 9 (strs vs)]
 letI f:=Value.string (toStr (ag u 1))
 aq (toInt (ag u 0) != (1:Int)) e (aq (Dn.toBool (c6 es f (b false))) e (aV (decide ((vs.length+1+1)*17<=70368744177664)) (Q [c 48 (au
 a),c 36 (AV.ak 6 0 (vs.length+1)),Dn.Obj.map 9 4 (eE es f (b true)),c 177 (AV.mp 2),Obj.dead,Dn.Obj.loop d,Obj.row 9 (List.take
 vs.length (strs vs)++[AV.str (toStr (ag u 1))])])))):=by kernel_rfl
theorem k12 κ a xs:(AV.cf 0::fE (ij (bV (qf κ a) [.ptr 4 0 [] 0])) [.ptr 4 0 [] 0],Obj.ext (some xs)::gg (ij (bV (qf κ a) [.ptr 4 0 [] 0])) (fY (qf κ a) (bV (qf κ a) [.ptr 4 0 [] 0])))=([.cf 0, .ptr 1 0 [] 0],[.ext (some xs), .box 48 (au a)]):=by kernel_rfl
theorem o12 κ a:lD (qf κ a) [.ptr 4 0 [] 0]=true:=by kernel_rfl
noncomputable def Pl(κ:Kp):ee:=fun b st K=>∃a,(b,st)=([AV.ptr 4 0 [] 0],qf κ a)/\dd a/\K (BU κ a (mX [] (fB (aQ a))) (bU (mX [] (fB (aQ a)))))
theorem GS κ:(Pl κ).fU:=by
 rintro b st K g e ⟨a,d,f,c⟩;exact⟨a,d,f,e _ c⟩
theorem call12 κ a st K(h:aO WA dd NU a st K):(SY κ).call 185 a st K:=h
theorem al4 κ:ir (SY κ) 12 185 (Pl κ):=by
 rintro l st K ⟨a,q,o,v⟩;obtain⟨rfl,rfl⟩:=Prod.mk.inj q;have k:=iO 38 a.rel a.hl a.bl;rw[←ue 38] at k;have w:(fB (aQ a)).length<=100000:=by
  have n:=cK (aa (bo 38 a.hl a.bl));rw[iO 38 a.rel a.hl a.bl] at n;exact Nat.le_trans n o.1
 have hd:=kJ (fB (aQ a)) [];refine⟨fI 38 (bo 38 a.hl a.bl),fun c st'=>∃b,(∀x,x∈c->sq 38 x)/\st'=BU κ a b (bU b)/\b++mX b (c.flatMap yZ)=mX [] (fB (aQ a)),⟨o12 κ a,?_,?_,?_,?_⟩⟩
 ·refine call12 κ _ _ _ ⟨a,?_,o,fun st' h=>h⟩
  rw[k12];rfl
 ·rw[show(SY κ).P=Pr κ from rfl,show(qf κ a).length=6 from rfl,s12]
  exact⟨[],CQ _ _,rfl,by rw[k];rfl⟩
 ·rintro p g st' ⟨b,m,rfl,d⟩
  obtain⟨u,t⟩:=m (.aH p) (by simp);obtain rfl:=AV.aH.inj t;rw[show(SY κ).P=Pr κ from rfl,show(qf κ a).length=6 from rfl];refine Eq.mpr (r12 κ a b _ u _ _) ?_;have f: ∀x,x∈g->sq 38 x:=fun x r=>m x (by simp[r])
  have s:yZ (.aH [pV 38 u])=bif decide (toInt (ag u 0)=1) then[toStr (ag u 1)] else[]:=rfl
  rw[List.flatMap_cons,s] at d;have j:Dn.toBool (c6 (bU b) (.string (toStr (ag u 1))) (.lit (.bool false)))=b.contains (toStr (ag u 1)):=pA _ _;rw[j];simp only[ae,ai,bne_iff_ne,bne_eq_false_iff_eq,ar4];refine⟨fun e=>⟨b,f,rfl,?_⟩,fun e=>⟨fun i=>⟨b,f,rfl,?_⟩,fun i=>⟨?_,b++[toStr (ag u 1)],f,?_,?_⟩⟩⟩
  ·rw[ar8 e] at d;exact d
  ·rw[as0 e,as1,List.singleton_append,mX,i] at d;exact d
  ·have:=congrArg List.length d
   rw[as9] at this;omega
  ·rw[SP,←ba b,List.take_length]
   simp only[BU,jq,ba,as9,List.length_cons,List.length_nil];rfl
  ·rw[as0 e,as1,List.singleton_append,mX,i,ar9] at d
   simpa using d
 ·rintro st' ⟨b,_,rfl,d⟩
  have i:b=mX [] (fB (aQ a)):=by simpa[mX] using d
  rw[i];exact v
noncomputable def LI κ:=((SY κ).addRange 115 6 185 (Pl κ)).cV fun f=>iH f Rs
theorem ai4 κ:aE (LI κ):=((e42 _).addRange (m42 _) (al4 _)).cV _
theorem Zb κ:aj (LI κ):=((m42 _).addRange (GS _)).cV _
theorem y12 κ a K:(a0 (LI κ) 12 115 [au a] [] K)=(
 letI b:=AV.int
 letI c:=AV.ptr
 letI d:=AV.agg
 letI e:=AV.str
 letI f:=Obj.box
 letI g:=AV.ah
 letI h:=AV.nil
 letI j:=d [d [e a.rel,g 38 a.hl],g 80 a.bl,b a.line]
 aV (decide (a.hl.length<=9223372036854775807)&&decide (a.bl.length<=9223372036854775807)) (aq (!a8 {head:={rel:=a.rel,l:=aa a.hl},body:=dw a.bl}) (K h []) (∃(e0:dh),letI i:=[d [e e0.rel,g 38 e0.hl],g 80 e0.bl,b e0.line];([c 4 0 [] 0],[f 48 j,f 36 h,Dn.Obj.map 9 4 [],f 177 (AV.mp 2),f 48 j,Dn.Obj.loop (iG Tryz.prog 115 6 LoopState.ready none (hG (bM 31) [(0,d [d [e a.rel,g 38 a.hl],g 80 a.bl,b a.line]),(1,c 0 0 [] 0),(2,h),(3,c 1 0 [] 0),(4,c 3 0 [] 0),(6,d [d [e a.rel,g 38 a.hl],g 80 a.bl,b a.line]),(7,AV.lit (Value.bool (a8 {head:={rel:=a.rel,l:=aa a.hl},body:=dw a.bl}))),(8,AV.bool false),(9,AV.mp 2),(10,d [d [e a.rel,g 38 a.hl],g 80 a.bl,b a.line]),(11,AV.bm 185 [c 4 0 [] 0])]))])=([c 4 0 [] 0],[f 48 (d i),f 36 h,Dn.Obj.map 9 4 [],f 177 (AV.mp 2),f 48 (d i),Dn.Obj.loop (iG Tryz.prog 115 6 LoopState.ready none (hG (bM 31) [(0,d i),(1,c 0 0 [] 0),(2,h),(3,c 1 0 [] 0),(4,c 3 0 [] 0),(6,d i),(7,AV.bool (a8 (aQ e0))),(8,AV.bool false),(9,AV.mp 2),(10,d i),(11,AV.bm 185 [c 4 0 [] 0])]))])/\(bk (aa (bo 38 e0.hl e0.bl))<=100000/\e0.bl.length<=100000)/\K (AV.ak 0 0 (List.length (mX [] (fB (aQ e0))))) [Obj.row 9 (strs (mX [] (fB (aQ e0))))]))):=by kernel_rfl
def ac0(a:dh):List AV×List Dn.Obj:=([au a],[])
def OC a:=a8 (aQ a)=true/\dd a
def NO(a:dh):Out (AV×List Dn.Obj):= .one (.ak 0 0 (dg (aQ a)).length,[.row 9 (strs (dg (aQ a)))])
theorem c12 κ:bc (LI κ) 12 115 (aO ac0 OC NO):=by
 refine aR ?_;rintro⟨xs,b,c,d,f,a,i⟩ K ⟨h,j,k⟩ l;refine Eq.mpr (y12 κ ⟨xs,b,c,d,f,a,i⟩ K) ?_;have m:a8 ⟨⟨c,aa d⟩,dw f⟩=true:=h;simp only at j k;have g:=gI (aa (bo 38 d f));rw[eD] at g;have n:d.length<=100000:=by
  grind [bo,dI]
 simp only[m,ai,ae,ar5,ar4];refine⟨⟨by omega,by omega⟩,(fun e=>nomatch e),fun _=>⟨⟨xs,b,c,d,f,a,i⟩,?_,⟨j,k⟩,?_⟩⟩
 ·grind
 ·simp only[NO,Out.run,dg,h,as1] at l
  exact l
set_option maxRecDepth 20000 in
noncomputable def LH(κ:Kp):Env:=(LI κ).aw 115 (aO ac0 OC NO)
theorem e12 κ:aE (LH κ):=(ai4 _).aw (Zb _) (c12 _)
theorem m12 κ:aj (LH κ):=(Zb _).aw aI
theorem oe: ∀l m,bk (l++m)=bk l+bk m
 |[],m=>by simp[bk]
 |t::l,m=>by simp[bk,oe l m];omega
theorem pJ{a}(h:dd a):bk (aa a.hl)<=100000:=by
 have:=h.1
 unfold bo aa at this;rw[List.map_append,oe] at this
 grind [aa]
theorem HX: ∀l x,x∈l->jS (c9 x)<=bk (aa (dI l))
 |[],_,h=>by grind
 | y::l,x,h=>by
  have e:bk (aa (dI (y::l)))=jS (c9 y)+bk (aa (dI l)):=by
   unfold dI aa;rw[List.flatMap_cons,List.map_append,oe,List.map_append,oe];simp[jS,c9,Mm,aa,at3,List.map_nil,sg]
  rcases List.mem_cons.1 h with rfl|h
  ·omega
  ·have:=HX l x h;omega
theorem lg{a}(h:dd a){i}(c:i<a.bl.length):jS (c9 (nth a.bl i))<=100000:=by
 have b:=h.1;have e:bo _ _ a.bl=a.hl++dI _:=rfl;rw[e] at b;unfold aa at b;rw[List.map_append,oe] at b;have:=HX a.bl (nth a.bl i) (by grind [aM])
 grind [aa]
theorem kB l{i}(a:i<l.length):dV (dw l) i=c9 (nth l i):=by
 grind [dV,dw,aM]
def sQ(x:AV):LA:=⟨toInt (ag x 0),toStr (ag (ag x 1) 0),af (ag (ag x 1) 1),toInt (ag (ag x 2) 0),toStr (ag (ag x 2) 1),toInt (ag (ag x 2) 2),af (ag (ag x 2) 3),toInt (ag (ag x 3) 0),toStr (ag (ag x 3) 1),toInt (ag (ag x 3) 2),af (ag (ag x 3) 3)⟩
theorem ez x:(sQ x).lt=c9 x:=by rw[lt_eq];rfl
structure Xb where
 a:dh
 k:Int
 i:Int
 vs:List ByteArray
abbrev TW(a:Xb):=sp 53 [(1, .int a.k),(2, .ptr 0 0 [] 0),(5, .ptr 1 0 [] 0),(17, .ah 80 a.a.bl),(18, .int a.a.bl.length),(19, .int a.i)] [.box 48 (au a.a), .box 178 (.mp 2), .map 9 4 (bU a.vs)]
theorem x39 κ a k i es I n K:(vc (LH κ) 12 159 none 0 (ad (Pr κ).toProgram 159 4) (sp 53 [(1, .int k),(2, .ptr 0 0 [] 0),(5, .ptr 1 0 [] 0),(17, .ah 80 a.bl),(18, .int a.bl.length),(19, .int i)] [.box 48 (au a), .box 178 (.mp 2), .map 9 4 es]) (bj (LH κ) 159 4 0 I n K))=(
 letI b:=AV.ptr 0 0 []
 letI c:=AV.int
 letI d:=AV.agg
 letI e:=AV.str
 letI f:=Obj.box
 letI g:=Dn.Obj.map
 letI h:=AV.ah
 letI j:=AV.mp
 letI l:=nth a.bl i.toNat
 letI p:=IntKind.wrap IntKind.i64 (i+(1:Int))
 letI m:=a.bl.length
 letI o:=∃(e2:List AV),([h 38 [d [c (toInt (ag (ag l 2) 0)),e (toStr (ag (ag l 2) 1)),c (toInt (ag (ag l 2) 2)),h 38 (af
  (ag (ag l 2) 3))]]],aL)=([h 38 e2],aL)/\bE e2/\∃(e1:List AV×List (Value×AV)),([j 0,h 9 (List.take (List.length (ax (aa e2)))
  (List.drop 0 (strs (ax (aa e2)))))],[g 9 4 es])=([j 0,h 9 e1.1],[g 9 4 e1.2])/\bq e1/\∃(e0:Nat),e0<n/\I e0 (sp 53 [(1,
  c k),(2,b 0),(5,AV.ptr 1 0 [] 0),(17,h 80 a.bl),(18,c (↑m:Int)),(19,c p)] [f 48 (au a),f 178 (j
  2),g 9 4 (fD e1.2 e1.1)])
 letI q:=∃(e2:LA),([d [c (toInt (ag l 0)),d [e (toStr (ag (ag l 1) 0)),h 38 (af (ag (ag l 1) 1))],d [c (toInt (ag
  (ag l 2) 0)),e (toStr (ag (ag l 2) 1)),c (toInt (ag (ag l 2) 2)),h 38 (af (ag (ag l 2) 3))],d [c (toInt (ag (ag l 3) 0)),
  e (toStr (ag (ag l 3) 1)),c (toInt (ag (ag l 3) 2)),h 38 (af (ag (ag l 3) 3))]]],aL)=([d [c e2.op,d [e e2.s,h 38
  e2.l],d [c e2.o1,e e2.s1,c e2.n1,h 38 e2.l1],d [c e2.o2,e e2.s2,c e2.n2,h 38 e2.l2]]],aL)/\gp e2/\∃
  (e1:List AV×List (Value×AV)),([j 0,h 9 (List.take (List.length (er (LA.lt e2))) (List.drop 0 (strs (er (LA.lt e2)))))],[g 9 4 es])=
  ([j 0,h 9 e1.1],[g 9 4 e1.2])/\bq e1/\∃(e0:Nat),e0<n/\I e0 (sp 53 [(1,c k),(2,b 0),(5,AV.ptr 1 0 [] 0),(17,
  h 80 a.bl),(18,c (↑m:Int)),(19,c p)] [f 48 (au a),f 178 (j 2),g 9 4 (fD e1.2 e1.1)])
 aq (decide (i<(↑m:Int))) (aV (decide ((0:Int)<=i)&&decide (i<(↑m:Int))) (aq (i==k) (o/\o/\o) (q/\q))) (K (Exit.exit 0) (sp 53 [(1,
 c k),(2,b 0),(5,AV.ptr 1 0 [] 0)] [f 48 (au a),f 178 (j 2),g 9 4 es]))):=by kernel_rfl
def IG(a:Xb):=dd a.a/\0<=a.k/\0<=a.i/\a.i<=a.a.bl.length
def og(a:Xb):=a.vs++Cx a.k.toNat (dw (a.a.bl.drop a.i.toNat)) a.i.toNat
def xn(a:Xb):Out (Exit×S):= .one (.exit 0,sp 53 [(1, .int a.k),(2, .ptr 0 0 [] 0),(5, .ptr 1 0 [] 0)] [.box 48 (au a.a), .box 178 (.mp 2), .map 9 4 (bU (og a))])
theorem l39 κ:aU (LH κ) 12 159 4 (aG 0 TW IG xn):=by
 refine aC (fun a=>a.a.bl.length - a.i.toNat) ?_;rintro⟨a,k,i,d⟩ K ⟨f,g,j,p⟩ b;simp only at f g j p;rw[show(LH κ).P=Pr κ from rfl];refine Eq.mpr (x39 κ a k i (bU d) _ _ K) ?_;simp only[and_self];have t:=f.2;simp only[xn,og,Out.run] at b;simp only[ae,ai,ar4,ar6,ar5,beq_iff_eq,beq_eq_false_iff_ne];refine⟨fun m=>⟨⟨j,m⟩,?_⟩,fun m=>?_⟩
 ·have c:=lg f (i:=i.toNat) (by omega)
  rw[oE a.bl i.toNat (by omega),Cx] at b;rw[az (n:=i+1) (by omega) (by omega)];refine⟨fun e=>?_,fun e=>?_⟩
  ·subst e
   rw[Nat.beq_refl,as1,←List.append_assoc] at b;have h:aa [pV 38 (ag (nth a.bl i.toNat) 2)]=[(c9 (nth a.bl i.toNat)).x]:=by
    simp only[aa,at3,List.map_nil,sg];rfl
   have r:bk [(c9 (nth a.bl i.toNat)).x]<=100000:=by
    have:jS (c9 (nth a.bl i.toNat))=bk [(c9 (nth a.bl i.toNat)).x,(c9 (nth a.bl i.toNat)).y]+bk (c9 (nth a.bl i.toNat)).a.l:=rfl
    simp only[bk] at this⊢;omega
   have q:=cK [(c9 (nth a.bl i.toNat)).x];refine⟨[pV 38 (ag (nth a.bl i.toNat) 2)],rfl,by simp only[bE,h];exact r,⟨strs (ax [(c9 (nth a.bl i.toNat)).x]),bU d⟩,?_,?_,_,?_,⟨a,i,i+1,d++ax [(c9 (nth a.bl i.toNat)).x]⟩,?_,⟨f,g,by simp only;omega,by simp only;omega⟩,rfl,?_⟩
   ·simp only[as4,cQ,h]
   ·simp only[bq,ba,aW];omega
   ·simp only;omega
   ·simp only[mF]
   ·simp only[xn,og,Out.run,show(i+1).toNat=i.toNat+1 by omega]
    exact b
  ·rw[sB (show i.toNat≠k.toNat by omega),ar9,←List.append_assoc] at b
   have q:=cK [(c9 (nth a.bl i.toNat)).x,(c9 (nth a.bl i.toNat)).y];have s:=cK (c9 (nth a.bl i.toNat)).a.l;have o:(er (c9 (nth a.bl i.toNat))).length<=100000:=by
    simp only[er,jS,as9] at c⊢;omega
   refine⟨sQ (nth a.bl i.toNat),rfl,by rw[gp,ez];exact c,⟨strs (er (c9 (nth a.bl i.toNat))),bU d⟩,?_,?_,_,?_,⟨a,k,i+1,d++er (c9 (nth a.bl i.toNat))⟩,?_,⟨f,g,by simp only;omega,by simp only;omega⟩,rfl,?_⟩
   ·simp only[as4,cQ,ez]
   ·simp only[bq,ba,aW];omega
   ·simp only;omega
   ·simp only[mF]
   ·simp only[xn,og,Out.run,show(i+1).toNat=i.toNat+1 by omega]
    exact b
 ·rw[as2 (by omega)] at b
  simpa[dw,Cx] using b
noncomputable def nU κ:=(LH κ).an 159 4 (aG 0 TW IG xn)
theorem VG κ:aE (nU κ):=(e12 _).an (m12 _) (l39 _)
theorem Nr κ:aj (nU κ):=(m12 _).an aJ
def dA jx jv s:=yq jx s&&yq jv s
structure DO where
 vs:List ByteArray
 i:Int
 jx:List (Value×AV)
 jv:List (Value×AV)
abbrev Eg(R:List AV)(a:List (Value×AV))(b:List (Value×AV)):List Dn.Obj:=[.row 9 R, .box 178 (.mp 2), .map 9 4 a, .box 178 (.mp 4), .map 9 4 b]
abbrev Q5:AV:= .bm 184 [.ptr 1 0 [] 0, .ptr 3 0 [] 0]
abbrev K4(a:DO):=sp 19 [(0, .ak 0 0 (strs a.vs).length),(1,Q5),(7, .int (strs a.vs).length),(8, .int a.i)] (Eg (strs a.vs) a.jx a.jv)
theorem xFO κ a I n K:(vc (nU κ) 12 161 none 5 (ad (Pr κ).toProgram 161 2) (K4 a) (bj (nU κ) 161 2 5 I n K))=(
 letI b:=Obj.box
 letI c:=Dn.Obj.map
 letI d:=AV.mp
 letI f:=K Exit.ret (sp 19 [(4,AV.int a.i)] [Obj.row 9 (strs a.vs),b 178 (d 2),c 9 4 a.jx,b 178 (d 4),c 9 4 a.jv])
 letI e:=List.length (strs a.vs)
 letI g:=Value.string (toStr (nth (strs a.vs) (0+a.i.toNat)))
 aq (decide (a.i<(↑e:Int))) (aV (decide ((0:Int)<=a.i)&&decide (a.i<(↑e:Int))) (aq (!Dn.toBool (c6 a.jx g (AV.bool false))) f (aq (!Dn.toBool
 (c6 a.jv g (AV.bool false))) f (∃(e0:Nat),e0<n/\I e0 (sp 19 [(0,AV.ak 0 0 e),(1,AV.bm 184 [AV.ptr 1 0 [] 0,AV.ptr 3 0 [] 0]),(7,AV.int (↑e:
 Int)),(8,AV.int (IntKind.wrap IntKind.i64 (a.i+(1:Int))))] [Obj.row 9 (strs a.vs),b 178 (d 2),c 9 4 a.jx,b 178 (d 4),
 c 9 4 a.jv]))))) (K (Exit.exit 0) (sp 19 [] [Obj.row 9 (strs a.vs),b 178 (d 2),c 9 4 a.jx,b 178 (d 4),c 9 4
 a.jv]))):=by kernel_rfl
def GC(a:DO):=a.vs.length<=aW/\0<=a.i/\a.i<=a.vs.length/\∀s,s∈a.vs.take a.i.toNat->dA a.jx a.jv s=true
def Dm(a:DO):Out (Exit×S):=
 .aq (a.vs.all (dA a.jx a.jv)) (.one (.exit 0,sp 19 [] (Eg (strs a.vs) a.jx a.jv)))
  (.all (fun j=>wb (dA a.jx a.jv) a.vs j) fun j=> .one (.ret,sp 19 [(4, .int j)] (Eg (strs a.vs) a.jx a.jv)))
theorem lFO κ:aU (nU κ) 12 161 2 (aG 5 K4 GC Dm):=by
 refine aC (fun a=>a.vs.length - a.i.toNat) ?_;rintro⟨b,i,d,c⟩ K ⟨l,o,t,k⟩ j;simp only at l o t k;rw[show(nU κ).P=Pr κ from rfl];refine Eq.mpr (xFO κ ⟨b,i,d,c⟩ _ _ K) ?_;simp only[aW] at l;simp only[Dm,Out.run,ae] at j;have v:=ba b;simp only[ba,Nat.zero_add];have u:i<b.length->∀(g:i.toNat<b.length),(dA d c b[i.toNat]=false->K .ret (sp 19 [(4, .int i)] (Eg (strs b) d c)))/\
   (dA d c b[i.toNat]=true->∃m,m<b.length - i.toNat/\ep K4 GC Dm (fun a=>a.vs.length - a.i.toNat) K m (K4 ⟨b,i+1,d,c⟩)):=by
  intro r g;refine⟨fun e=>j.2 ?_ i ⟨o,g,k,e⟩,fun e=>⟨_,?_,⟨b,i+1,d,c⟩,rfl,⟨by simpa[aW] using l,by simp only;omega,by simp only;omega,?_⟩,rfl,?_⟩⟩
  ·rw[Bool.eq_false_iff]
   intro h;rw[List.all_eq_true.1 h _ (List.getElem_mem g)] at e;cases e
  ·simp only;omega
  ·intro s f
   simp only at f;rw[show(i+1).toNat=i.toNat+1 by omega,List.take_succ_eq_append_getElem g,List.mem_append,List.mem_singleton] at f;rcases f with f|f
   ·exact k s f
   ·rw[f];exact e
  ·simp only[Dm,Out.run,ae]
   exact j
 simp only[ae,ai,ar4,ar6,ar5,Bool.not_eq_true',as6];refine⟨fun g=>⟨⟨o,g⟩,?_⟩,fun g=>?_⟩
 ·have p:i.toNat<b.length:=by omega
  have q:toStr (nth (strs b) i.toNat)=b[i.toNat]:=by rw[x4 b _ p];rfl
  rw[az (n:=i+1) (by omega) (by omega),q]
  simp_all[K4,ba,dA,yq]
 ·refine j.1 (List.all_eq_true.2 fun s f=>k s ?_)
  rw[List.take_of_length_le (by omega)];exact f
noncomputable def QF κ:=(nU κ).an 161 2 (aG 5 K4 GC Dm)
theorem eFO κ:aE (QF κ):=(VG _).an (Nr _) (lFO _)
theorem mFO κ:aj (QF κ):=(Nr _).an aJ
structure GO where
 R:List AV
 i:Int
 j:Int
 jx:List (Value×AV)
 jv:List (Value×AV)
 P:List ByteArray
 ws:List ByteArray
abbrev D5(a:GO):=sp 42 [(0, .ak 0 0 a.R.length),(1,Q5),(5, .int a.i),(6, .int a.j)] (Eg a.R a.jx a.jv)
theorem xGO κ a I n K:(vc (QF κ) 12 114 none 5 (ad (Pr κ).toProgram 114 5) (D5 a) (bj (QF κ) 114 5 5 I n K))=(
 letI b:=IntKind.wrap IntKind.i64
 letI c:=AV.int
 letI d:=Obj.box
 letI e:=Dn.Obj.map
 letI f:=AV.mp
 letI g:=toStr (nth a.R (0+a.j.toNat))
 letI h:=b (a.j+(1:Int))
 letI i:=∃(e0:Nat),e0<n/\I e0 (sp 42 [(0,AV.ak 0 0 a.R.length),(1,AV.bm 184 [AV.ptr 1 0 [] 0,AV.ptr 3 0 [] 0]),(5,c a.i),(6,c h)]
  [Obj.row 9 a.R,d 178 (f 2),e 9 4 a.jx,d 178 (f 4),e 9 4 a.jv])
 letI j:=a.j<(↑(a.R.length):Int)
 aq (decide j) (aV (decide ((0:Int)<=a.j)&&decide j) (aq (!Dn.toBool (c6 a.jx (Value.string g) (AV.bool false))) i (aq (!!Dn.toBool (c6 a.jv
 (Value.string g) (AV.bool false))) (aV (decide ((0:Int)<=a.i)&&decide (a.i<(↑(a.R.length):Int))) (∃(e0:Nat),e0<n/\I e0 (sp 42 [(0,AV.ak 0 0
 a.R.length),(1,AV.bm 184 [AV.ptr 1 0 [] 0,AV.ptr 3 0 [] 0]),(5,c (b (a.i+(1:Int)))),(6,c h)] [Obj.row 9 (bH a.R (0
 +a.i.toNat) (AV.str g)),d 178 (f 2),e 9 4 a.jx,d 178 (f 4),e 9 4 a.jv]))) i))) (K (Exit.exit 0) (sp 42 [(0,AV.ak 0
 0 a.R.length),(5,c a.i)] [Obj.row 9 a.R,d 178 (f 2),e 9 4 a.jx,d 178 (f 4),e 9 4 a.jv]))):=by kernel_rfl
def BK(a:GO):=a.R.length<=aW/\0<=a.i/\a.i<a.j/\a.j<=a.R.length/\a.R.take a.i.toNat=strs a.P/\a.R.drop a.j.toNat=strs a.ws
def Dq(a:GO):Out (Exit×S):= .all (fun R=>R.length=a.R.length/\R.take (a.P++a.ws.filter (dA a.jx a.jv)).length=strs (a.P++a.ws.filter (dA a.jx a.jv)))
 fun R=> .one (.exit 0,sp 42 [(0, .ak 0 0 a.R.length),(5, .int (a.P++a.ws.filter (dA a.jx a.jv)).length)] (Eg R a.jx a.jv))
theorem lGO κ:aU (QF κ) 12 114 5 (aG 5 D5 BK Dq):=by
 refine aC (fun a=>a.R.length - a.j.toNat) ?_;rintro⟨R,i,j,b,c,P,h⟩ K ⟨o,t,A,C,d,g⟩ k;simp only at o t A C d g;rw[show(QF κ).P=Pr κ from rfl];refine Eq.mpr (xGO κ ⟨R,i,j,b,c,P,h⟩ _ _ K) ?_;simp only[aW] at o;simp only[Dq,Out.run] at k;simp only[Nat.zero_add];have x:P.length=i.toNat:=by
  have:=congrArg List.length d
  rw[List.length_take,ba] at this;omega
 have r: ∀(s:ByteArray) (l:List ByteArray),h=s::l->j<R.length->nth R j.toNat= .lit (.string s)->
   (dA b c s=false->∃m,m<R.length - j.toNat/\ep D5 BK Dq (fun a=>a.R.length - a.j.toNat) K m (D5 ⟨R,i,j+1,b,c,P,l⟩))/\
   (dA b c s=true->∃m,m<R.length - j.toNat/\ep D5 BK Dq (fun a=>a.R.length - a.j.toNat) K m (D5 ⟨bH R i.toNat (.lit (.string s)),i+1,j+1,b,c,P++[s],l⟩)):=by
  rintro s l rfl p u;obtain⟨_,_,z⟩:=jK (l:=strs l) g;refine⟨fun e=>⟨_,?_,_,rfl,⟨by simpa[aW] using o,t,by simp only;omega,by simp only;omega,d,?_⟩,rfl,?_⟩,fun e=>⟨_,?_,_,rfl,⟨by simpa[aW,gL] using o,by simp only;omega,by simp only;omega,by simp only[gL];omega,?_,?_⟩,rfl,?_⟩⟩
  ·simp only;omega
  ·simp only[show(j+1).toNat=j.toNat+1 by omega];exact z
  ·intro y f
   have:=k y
   simp only[List.filter_cons,e,Bool.false_eq_true,if_false] at f this⊢;exact this f
  ·simp only[gL];omega
  ·simp only[show(i+1).toNat=i.toNat+1 by omega]
   rw[tt _ _ _ (by omega),d,jq];rfl
  ·simp only[show(j+1).toNat=j.toNat+1 by omega]
   rw[tr _ _ _ _ (by omega)];exact z
  ·intro y f
   have:=k y
   simp only[List.filter_cons,e,if_true,gL,List.append_assoc,List.singleton_append] at f this⊢;exact this f
 simp only[ae,ai,ar4,ar6,ar5,Bool.not_eq_true',as6];refine⟨fun p=>⟨⟨by omega,p⟩,?_⟩,fun p=>?_⟩
 ·cases h with
  |nil=>
   have:=congrArg List.length g
   rw[List.length_drop,ba] at this;simp at this;omega
  |cons s l=>
   obtain⟨_,u,_⟩:=jK (l:=strs l) g;have v:toStr (nth R j.toNat)=s:=by rw[u];rfl
   have q:=r s l rfl p u;simp only[D5,gL] at q;rw[az (n:=i+1) (by omega) (by omega),az (n:=j+1) (by omega) (by omega),v];exact⟨fun e=>q.1 (by unfold dA yq;rw[e];rfl),fun e=>⟨fun w=>⟨⟨by omega,by omega⟩,q.2 (by unfold dA yq;rw[e,w];rfl)⟩,fun w=>q.1 (by unfold dA yq;rw[e,w];rfl)⟩⟩
 ·have B:h=[]:=by
   have:=congrArg List.length g
   rw[List.length_drop,ba] at this;cases h with
   |nil=>rfl
   |cons=>simp at this;omega
  subst B;have:=k R ⟨rfl,by simp only[List.filter_nil,List.append_nil,x];exact d⟩
  simp only[List.filter_nil,List.append_nil,x,Int.toNat_of_nonneg t] at this;exact this
noncomputable def EGO κ:=(QF κ).an 114 5 (aG 5 D5 BK Dq)
theorem eGO κ:aE (EGO κ):=(eFO _).an (mFO _) (lGO _)
theorem mGO κ:aj (EGO κ):=(mFO _).an aJ
theorem yGO κ(a:DO) K:(a0 (EGO κ) 12 114 [.ak 0 0 (strs a.vs).length,Q5] (Eg (strs a.vs) a.jx a.jv) K)=(
 letI b:=AV.int
 letI c:=AV.ptr
 letI d:=Obj.box
 letI e:=Dn.Obj.map
 letI f:=AV.mp
 letI l:=List.length (strs a.vs)
 letI m:=Pg.toProgram (Env.P (nU κ))
 letI n:=Pg.toProgram (Env.P (QF κ))
 ad m 161 2=ad m 161 2/\∃(e3:DO),letI g:=strs e3.vs;letI o:=K (AV.ah 9 (List.take l (List.drop 0 g))) [Obj.lk 9 g,d 178 (f 2),e 9 4 e3.jx,d 178 (f 4),e 9 4 e3.jv];letI p:=[Obj.row 9 g,d 178 (f 2),e 9 4 e3.jx,d 178 (f 4),e 9 4 e3.jv];sp 19 [(0,AV.ak 0 0 l),(1,AV.bm 184 [c 1 0 [] 0,c 3 0 [] 0]),(7,b (↑l:Int)),(8,b 0)] [Obj.row 9 (strs a.vs),d 178 (f 2),e 9 4 a.jx,d 178 (f 4),e 9 4 a.jv]=sp 19 [(0,AV.ak 0 0 (List.length g)),(1,AV.bm 184 [c 1 0 [] 0,c 3 0 [] 0]),(7,b (↑(List.length g):Int)),(8,b e3.i)] p/\(e3.vs.length<=9223372036854775807/\(0:Int)<=e3.i/\e3.i<=(↑(e3.vs.length):Int)/\∀(e0:ByteArray),List.Mem e0 (List.take e3.i.toNat e3.vs)->dA e3.jx e3.jv e0=true)/\aq (List.all e3.vs (dA e3.jx e3.jv)) o (∀(e2:Int),((0:Int)<=e2/\∃(e1:e2.toNat<e3.vs.length),(∀(e0:ByteArray),List.Mem e0 (List.take e2.toNat e3.vs)->dA e3.jx e3.jv e0=true)/\dA e3.jx e3.jv e3.vs[e2.toNat]=false)->aq (e2==(-1:Int)) o (ad n 114 5=ad n 114 5/\∃(e1:GO),letI q:=e1.P++List.filter (dA e1.jx e1.jv) e1.ws;letI h:=List.length q;letI i:=e1.R.length;sp 42 [(0,AV.ak 0 0 l),(1,AV.bm 184 [c 1 0 [] 0,c 3 0 [] 0]),(5,b e2),(6,b (IntKind.wrap IntKind.i64 (e2+(1:Int))))] p=sp 42 [(0,AV.ak 0 0 e1.R.length),(1,AV.bm 184 [c 1 0 [] 0,c 3 0 [] 0]),(5,b e1.i),(6,b e1.j)] [Obj.row 9 e1.R,d 178 (f 2),e 9 4 e1.jx,d 178 (f 4),e 9 4 e1.jv]/\(e1.R.length<=9223372036854775807/\(0:Int)<=e1.i/\e1.i<e1.j/\e1.j<=(↑i:Int)/\List.take e1.i.toNat e1.R=strs e1.P/\List.drop e1.j.toNat e1.R=strs e1.ws)/\∀(e0:List AV),letI j:=dc e0 (0+Int.toNat (↑h:Int)) (Int.toNat ((↑i:Int) - (↑h:Int))) (AV.str {data:= #[]});letI k:=(↑h:Int)<=(↑i:Int);e0.length=e1.R.length/\List.take h e0=strs q->aV (true&&decide k&&decide ((↑i:Int)<=(↑i:Int))) (aV (true&&decide k) (K (AV.ah 9 (List.take (Int.toNat ((↑h:Int) - (0:Int))) (List.drop 0 j))) [Obj.lk 9 j,d 178 (f 2),e 9 4 e1.jx,d 178 (f 4),e 9 4 e1.jv]))))):=by kernel_rfl
def I1(a:DO):=([.ak 0 0 a.vs.length,Q5],Eg (strs a.vs) a.jx a.jv)
def kt(a:DO):=a.vs.length<=aW
def F2(a:DO):Out (AV×List Dn.Obj):= .all (fun _=>True) fun R=> .one (.ah 9 (strs (a.vs.filter (dA a.jx a.jv))),[.lk 9 R, .box 178 (.mp 2), .map 9 4 a.jx, .box 178 (.mp 4), .map 9 4 a.jv])
theorem ah3 κ:bc (EGO κ) 12 114 (aO I1 kt F2):=by
 refine aR ?_;rintro⟨c,i,a,b⟩ K f j;simp only[kt] at f;simp only[I1];rw[←ba c];refine Eq.mpr (yGO κ ⟨c,i,a,b⟩ K) ?_;refine⟨rfl,⟨c,0,a,b⟩,rfl,⟨f,by simp only;omega,by simp only;omega,fun s q=>nomatch q⟩,?_⟩;rw[ae];refine⟨fun e=>?_,fun e y h=>?_⟩
 ·have l:c.filter (dA a b)=c:=List.filter_eq_self.2 (List.all_eq_true.1 e)
  have:=j (strs c) trivial
  simp only[l] at this;rw[as4,List.take_length];exact this
 ·have p:=rj h
  obtain⟨k,o,u,r⟩:=h;simp only at k o;simp only[aW] at f;rw[ae,beq_iff_eq,beq_eq_false_iff_ne];refine⟨fun t=>by omega,fun _=>⟨rfl,⟨strs c,y,y+1,a,b,c.take y.toNat,c.drop (y.toNat+1)⟩,?_,⟨by simp only[ba];omega,k,by simp only;omega,by simp only[ba];omega,?_,?_⟩,?_⟩⟩
  ·rw[az (n:=y+1) (by omega) (by omega)]
  ·simp only[strs,List.map_take]
  ·simp only[strs,List.map_drop,show(y+1).toNat=y.toNat+1 by omega]
  ·rintro R ⟨m,g⟩
   simp only at m g;rw[←p] at g⊢;have d:(c.filter (dA a b)).length<=c.length:=List.length_filter_le _ _;rw[ai,ai];refine⟨by simp[ba,d],by simp[ba,d],?_⟩;have:=j (dc R (0+Int.toNat ((c.filter (dA a b)).length:Int)) (Int.toNat (((strs c).length:Int) - ((c.filter (dA a b)).length:Int))) (.lit (.string (ByteArray.mk #[])))) trivial
   simp only[Int.toNat_natCast,Nat.zero_add,Int.sub_zero,as4,n9,g] at this⊢;exact this
theorem ai2 κ: ∀a st K,aO I1 kt F2 a st K->b7 (Pr κ) 114 a st K:=fun a st K h=>gP (eGO _) (mGO _) (ah3 _ _ _ K h)
noncomputable def LL κ:=(nU κ).aw 114 (aO I1 kt F2)
theorem aj0 κ:aE (LL κ):=(VG _).fK (ai2 _)
theorem Zf κ:aj (LL κ):=(Nr _).aw aI
theorem y39 κ a k K:(a0 (LL κ) 12 159 [au a, .int k] [] K)=(
 letI b:=AV.int
 letI c:=AV.ptr
 letI d:=Obj.box
 letI e:=Obj.row
 letI f:=Dn.Obj.map
 letI g:=AV.ah
 letI h:=AV.mp
 letI j:=Pg.toProgram (Env.P (LH κ))
 letI l:=∃(e7:List AV),([g 38 a.hl],aL)=([g 38 e7],aL)/\bE e7/\∃(e6:List AV×List (Value×AV)),([h 0,g 9 (List.take (List.length (ax (aa e7))) (List.drop 0 (strs (ax (aa e7)))))],[f 9 4 []])=([h 0,g 9 e6.1],[f 9 4 e6.2])/\bq e6/\ad j 159 4=ad j 159 4/\∃(e5:Xb),letI m:=[g 38 (af (ag (ag (nth e5.a.bl e5.k.toNat) 1) 1))];letI i:=List.length e5.a.bl;sp 53 [(1,b k),(2,c 0 0 [] 0),(5,c 1 0 [] 0),(17,g 80 a.bl),(18,b (↑(a.bl.length):Int)),(19,b 0)] [d 48 (au a),d 178 (h 2),f 9 4 (fD e6.2 e6.1)]=sp 53 [(1,b e5.k),(2,c 0 0 [] 0),(5,c 1 0 [] 0),(17,g 80 e5.a.bl),(18,b (↑i:Int)),(19,b e5.i)] [d 48 (au e5.a),d 178 (h 2),f 9 4 (bU e5.vs)]/\((bk (aa (bo 38 e5.a.hl e5.a.bl))<=100000/\List.length e5.a.bl<=100000)/\(0:Int)<=e5.k/\(0:Int)<=e5.i/\e5.i<=(↑i:Int))/\aV (decide ((0:Int)<=e5.k)&&decide (e5.k<(↑i:Int))) ((∃(e4:List AV),(m,aL)=([g 38 e4],aL)/\bE e4/\∃(e3:List AV×List (Value×AV)),([h 0,g 9 (List.take (List.length (ax (aa e4))) (List.drop 0 (strs (ax (aa e4)))))],[f 9 4 []])=([h 0,g 9 e3.1],[f 9 4 e3.2])/\bq e3/\∃(e2:dh),([au e5.a],aL)=([au e2],aL)/\(a8 (aQ e2)=true/\bk (aa (bo 38 e2.hl e2.bl))<=100000/\e2.bl.length<=100000)/\∃(e1:DO),([AV.ak 0 0 (List.length (dg (aQ e2))),AV.bm 184 [c 1 0 [] 0,c 3 0 [] 0]],[e 9 (strs (dg (aQ e2))),d 178 (h 2),f 9 4 (fD e3.2 e3.1),d 178 (h 4),f 9 4 (bU (og e5))])=([AV.ak 0 0 e1.vs.length,AV.bm 184 [c 1 0 [] 0,c 3 0 [] 0]],[e 9 (strs e1.vs),d 178 (h 2),f 9 4 e1.jx,d 178 (h 4),f 9 4 e1.jv])/\kt e1/\∀(e0:List AV),True->K (g 9 (strs (List.filter (dA e1.jx e1.jv) e1.vs))) [])/\∃(e4:List AV),(m,aL)=([g 38 e4],aL)/\bE e4/\∃(e3:List AV×List (Value×AV)),([h 0,g 9 (List.take (List.length (ax (aa e4))) (List.drop 0 (strs (ax (aa e4)))))],[f 9 4 []])=([h 0,g 9 e3.1],[f 9 4 e3.2])/\bq e3/\∃(e2:dh),([au e5.a],aL)=([au e2],aL)/\(a8 (aQ e2)=true/\bk (aa (bo 38 e2.hl e2.bl))<=100000/\e2.bl.length<=100000)/\∃(e1:DO),([AV.ak 0 0 (List.length (dg (aQ e2))),AV.bm 184 [c 1 0 [] 0,c 3 0 [] 0]],[e 9 (strs (dg (aQ e2))),d 178 (h 2),f 9 4 (fD e3.2 e3.1),d 178 (h 4),f 9 4 (bU (og e5))])=([AV.ak 0 0 e1.vs.length,AV.bm 184 [c 1 0 [] 0,c 3 0 [] 0]],[e 9 (strs e1.vs),d 178 (h 2),f 9 4 e1.jx,d 178 (h 4),f 9 4 e1.jv])/\kt e1/\∀(e0:List AV),True->K (g 9 (strs (List.filter (dA e1.jx e1.jv) e1.vs))) [])
 l/\l):=by kernel_rfl
def Sb(a:dh×Int):List AV×List Dn.Obj:=([au a.1, .int a.2],[])
def BC(a:dh×Int):=a8 (aQ a.1)=true/\dd a.1/\0<=a.2/\a.2<a.1.bl.length
def To(a:dh×Int):Out (AV×List Dn.Obj):= .one (.ah 9 (strs (ej (aQ a.1) a.2.toNat)),[])
theorem c39 κ:bc (LL κ) 12 159 (aO Sb BC To):=by
 refine aR ?_;rintro⟨a,k⟩ K ⟨g,c,h,m⟩ p;refine Eq.mpr (y39 κ a k K) ?_;simp only at g c h m;have o:=pJ c;have r:=cK (aa a.hl);have j:k.toNat<a.bl.length:=by omega
 have b:=lg c j;simp only[and_self];refine⟨a.hl,rfl,o,⟨strs (ax (aa a.hl)),[]⟩,?_,?_,trivial,⟨a,k,0,ax (aa a.hl)⟩,rfl,⟨c,h,by simp only;omega,by simp only;omega⟩,?_⟩
 ·simp only[as4,cQ]
 ·simp only[bq,ba,aW];omega
 rw[ai,ar5,ar4,ar4];have e:ax (aa (af (ag (ag (nth a.bl k.toNat) 1) 1)))=ax (dV (aQ a).body k.toNat).a.l:=by
  rw[show(aQ a).body=dw a.bl from rfl,kB _ j,lt_eq]
 have f:bk (aa (af (ag (ag (nth a.bl k.toNat) 1) 1)))<=100000:=by
  rw[lt_eq] at b;simp only[jS] at b;omega
 have q:=cK (aa (af (ag (ag (nth a.bl k.toNat) 1) 1)));refine⟨⟨h,m⟩,_,rfl,f,⟨strs (ax (aa (af (ag (ag (nth a.bl k.toNat) 1) 1)))),[]⟩,?_,?_,a,rfl,⟨g,c⟩,⟨dg (aQ a),0,fD [] (strs (ax (aa (af (ag (ag (nth a.bl k.toNat) 1) 1))))),bU (og ⟨a,k,0,ax (aa a.hl)⟩)⟩,rfl,?_,?_⟩
 ·simp only[as4,cQ]
 ·simp only[bq,ba,aW];omega
 ·have t:(fB (aQ a)).length<=100000:=by
   have n:=cK (aa (bo 38 a.hl a.bl));rw[iO 38 a.rel a.hl a.bl] at n;exact Nat.le_trans n c.1
  have u:=kJ (fB (aQ a)) [];simp only[kt,dg,g,as1,aW];omega
 ·intro R _
  have i:(fun s=>dA (fD [] (strs (ax (aa (af (ag (ag (nth a.bl k.toNat) 1) 1)))))) (bU (og ⟨a,k,0,ax (aa a.hl)⟩)) s)=fun v=>(ax (dV (aQ a).body k.toNat).a.l).contains v&&(Tg (aQ a) k.toNat).contains v:=by
   funext s
   unfold dA;rw[pA,e];congr 1
   exact pA _ s
  have d:List.filter (dA (fD [] (strs (ax (aa (af (ag (ag (nth a.bl k.toNat) 1) 1)))))) (bU (og ⟨a,k,0,ax (aa a.hl)⟩))) (dg (aQ a))=ej (aQ a) k.toNat:=by
   unfold ej;exact congrFun (congrArg _ i) _
  simp only[d];exact p
noncomputable def Qs κ:=(LL κ).aw 159 (aO Sb BC To)
theorem e39 κ:aE (Qs κ):=(aj0 _).aw (Zf _) (c39 _)
theorem m39 κ:aj (Qs κ):=(Zf _).aw aI
end Go.Proofs.YtioeffnadipbaaaGreatDoor
