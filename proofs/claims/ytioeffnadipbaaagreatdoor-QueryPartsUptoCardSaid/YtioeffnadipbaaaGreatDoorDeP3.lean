import Derived.Test.YtioeffnadipbaaaGreatDoorDeP1
namespace Go.Proofs.YtioeffnadipbaaaGreatDoor
open Go Go.Dn Go.Rl Go.Proofs
attribute [local irreducible] a8 vc
set_option maxRecDepth 20000
structure OY where
 xs:List AV
 more:List AV
 t:AV
 m:List AV
 i:Int
abbrev I3(a:OY):=qo 38 (nth a.m a.i.toNat)
def P8:List Nat:=[171,198,185]
def Q0(a:AV):List AV×List Dn.Obj:=([.bJ 0, .ptr 1 0 [] 0],[.ext (some (qk 38 a)), .box 38 (qo 38 a)])
def UC n a:=(bX a).eT=n/\n<=100000
def Hh(_:AV):Out (AV×List Dn.Obj):= .all (fun st'=>uT st') fun st'=> .one (.aK [],st')
def QM n:=aX Q0 (UC n) Hh
noncomputable def IF κ r:=(ZP κ).aB 198 fun a st K=>∃m,m<r/\QM m a st K
noncomputable abbrev W2(a:OY)(κ:Kp)(st:LoopState)(p:Option Code):Dn.Obj:=
 .loop (iE (Pr κ).toProgram 198 6 st p (ig (bL 25) [(2, .ptr 2 0 [] 0),(4, .ptr 3 0 [] 0),(11, .ad 38 a.m),(12, .int a.m.length),(13, .int a.i),(14, .bool true),
  (15, .jA 38 (nth a.m a.i.toNat)),(16,I3 a),(17,I3 a),(18, .bp 198 [.ptr 4 0 [] 0])]))
noncomputable abbrev sR κ a:=[.ext (some a.xs), .box 38 (qo 38 a.t), .box 186 (.bJ 0), .box 38 (I3 a), .box 38 (I3 a),W2 a κ .ready none]
noncomputable abbrev BY κ a o st p:=[.ext o, .box 38 (qo 38 a.t), .box 186 (.bJ 0), .box 38 (I3 a), .dead,W2 a κ st p]
theorem s56 κ a Q:(tidy (Pr κ).toProgram 6 (ei (sR κ a) (dc (sR κ a) [.ptr 4 0 [] 0])) Q)=(
 letI b:=AV.int
 letI c:=nth a.m a.i.toNat
 letI d:=toInt (af c 0)
 letI e:=toStr (af c 1)
 letI f:=toInt (af c 2)
 letI g:=aa (af c 3)
 Q [Obj.ext (some a.xs),Obj.box 38 (AV.agg [b (toInt (af a.t 0)),AV.str (toStr (af a.t 1)),b (toInt (af a.t 2)),AV.ad 38 (aa (af a.t 3))]),Obj.box
 186 (AV.bJ 0),Obj.box 38 (AV.agg [b d,AV.str e,b f,AV.ad 38 g]),Obj.dead,Dn.Obj.loop (iE Tryz.prog 198 6 LoopState.ready none (ig (bL 25)
 [(2,AV.ptr 2 0 [] 0),(4,AV.ptr 3 0 [] 0),(11,AV.ad 38 a.m),(12,b (↑(a.m.length):Int)),(13,b a.i),(14,AV.bool true),(15,AV.jA 38 c),
 (16,AV.agg [b d,AV.str e,b f,AV.ad 38 g]),(17,AV.agg [b d,AV.str e,b f,AV.ad 38 g]),(18,AV.bp 198 [AV.ptr 4 0 [] 0])]))]):=by kernel_rfl
theorem r56(κ:Kp)(r:Nat)(a:OY)(o:List AV)(u:AV)(Q:List Dn.Obj->Prop)(K2:List Dn.Obj->Prop):(jo (vc (IF κ r) 12) 5 [qo 38 u] (BY κ a (some o) .ready none) (fun r st''=>match r with| .lit (.bool true)=>tidy (Pr κ).toProgram 6 st'' Q| .lit (.bool false)=>K2 st''|_=>False))=(
 letI b:=AV.int
 letI c:=AV.agg
 letI d:=AV.str
 letI e:=Obj.box
 letI f:=AV.ad
 letI g:=nth a.m a.i.toNat
 letI l:=c [b (toInt (af a.t 0)),d (toStr (af a.t 1)),b (toInt (af a.t 2)),f 38 (aa (af a.t 3))]
 letI h:=toInt (af g 0)
 letI i:=toStr (af g 1)
 letI j:=toInt (af g 2)
 letI k:=aa (af g 3)
 letI m:=c [b h,d i,b j,f 38 k]
 letI n:=ig (bL 25) [(2,AV.ptr 2 0 [] 0),(4,AV.ptr 3 0 [] 0),(11,f 38 a.m),(12,b (↑(a.m.length):Int)),(13,b a.i),(14,AV.bool true),
  (15,AV.jA 38 g),(16,c [b h,d i,b j,f 38 k]),(17,c [b h,d i,b j,f 38 k]),(18,AV.bp 198
  [AV.ptr 4 0 [] 0])]
 ∃(e0:List AV),o=AV.aK [c [b (toInt (af u 0)),d (toStr (af u 1)),b (toInt (af u 2)),f 38 (aa (af u 3))]]::e0/\Q [Obj.ext
 (some e0),e 38 l,e 186 (AV.bJ 0),e 38 m,Obj.dead,Dn.Obj.loop (iE Tryz.prog 198 6 LoopState.ready none n)]/\K2 [Obj.ext none,e
 38 l,e 186 (AV.bJ 0),e 38 m,Obj.dead,Dn.Obj.loop (iE Tryz.prog 198 6 LoopState.done (some Code.ret) n),e 38 (c [b (toInt (af
 u 0)),d (toStr (af u 1)),b (toInt (af u 2)),f 38 (aa (af u 3))])]):=by kernel_rfl
theorem k56 κ a xs:(AV.bJ 0::gG (kx (dc (sR κ a) [.ptr 4 0 [] 0])) [.ptr 4 0 [] 0],Obj.ext (some xs)::iy (kx (dc (sR κ a) [.ptr 4 0 [] 0])) (iw (sR κ a) (dc (sR κ a) [.ptr 4 0 [] 0])))=([.bJ 0, .ptr 1 0 [] 0],[.ext (some xs), .box 38 (I3 a)]):=by kernel_rfl
theorem o56 κ a:qq (sR κ a) [.ptr 4 0 [] 0]=true:=by kernel_rfl
noncomputable def N3(κ:Kp)(r:Nat):fJ:=fun b st K=>∃a,(b,st)=([AV.ptr 4 0 [] 0],sR κ a)/\((bX (nth a.m a.i.toNat)).eT<r/\(bX (nth a.m a.i.toNat)).eT<=100000/\a.xs=qk 38 (nth a.m a.i.toNat)++a.more)/\
 K (BY κ a (some a.more) .ready none)/\∀u,K (BY κ a none .done (some .ret)++[.box 38 (qo 38 u)])
theorem Gc κ r:(N3 κ r).gA:=by
 rintro b st K g c ⟨a,d,e,f,h⟩;exact⟨a,d,e,c _ f,by grind⟩
theorem PL κ r a st K(h: ∃m,m<r/\QM m a st K):(IF κ r).call 198 a st K:=h
theorem af2 κ r:nc (IF κ r) 12 198 (N3 κ r):=by
 rintro c st K ⟨a,k,⟨l,f,o⟩,p,g⟩;obtain⟨rfl,rfl⟩:=Prod.mk.inj k;refine⟨qk 38 (nth a.m a.i.toNat),fun b st'=>(∀x,x∈b->s6 38 x)/\st'=BY κ a (some (b++a.more)) .ready none,⟨o56 κ a,?_,?_,?_,?_⟩⟩
 ·refine PL κ r _ _ _ ⟨_,l,nth a.m a.i.toNat,?_,⟨rfl,f⟩,fun st' h=>h⟩
  rw[k56];rfl
 ·rw[show(IF κ r).P=Pr κ from rfl,show(sR κ a).length=6 from rfl,s56]
  exact⟨nD _ _ _ (Nat.lt_succ_self _),by rw[o];rfl⟩
 ·rintro n e st' ⟨d,rfl⟩
  obtain⟨u,q⟩:=d (.aK n) (by simp);obtain rfl:=AV.aK.inj q;refine Eq.mpr (r56 κ r a _ u _ _) ?_;exact⟨_,rfl,⟨fun x j=>d x (by simp[j]),rfl⟩,g u⟩
 ·rintro st' ⟨_,rfl⟩
  exact p
noncomputable def Eo κ r:=((IF κ r).addRange 198 6 198 (N3 κ r)).dO fun f=>ic f P8
theorem Xk κ r:aj (IF κ r):=(m20 _).aB fun _ _ _ _ b ⟨m,c,a⟩=>⟨m,c,aZ _ _ _ _ b a⟩
theorem x56(κ:Kp) r(a:OY) I n K:(vc (Eo κ r) 12 198 none 2 (ah (Pr κ).toProgram 198 3) (sp 25 [(2, .ptr 2 0 [] 0),(11, .ad 38 a.m),(12, .int a.m.length),(13, .int a.i)] [.ext (some a.xs), .box 38 (qo 38 a.t), .box 186 (.bJ 0)]) (bh (Eo κ r) 198 3 2 I n K))=(
 letI b:=AV.int
 letI c:=AV.ptr
 letI d:=AV.agg
 letI e:=AV.str
 letI f:=Obj.box
 letI g:=Obj.ext
 letI h:=AV.ad
 letI k:=nth a.m a.i.toNat
 letI s:=d [b (toInt (af a.t 0)),e (toStr (af a.t 1)),b (toInt (af a.t 2)),h 38 (aa (af a.t 3))]
 letI t:=a.i<(↑(a.m.length):Int)
 letI m:=toInt (af k 0)
 letI o:=toStr (af k 1)
 letI p:=toInt (af k 2)
 letI q:=aa (af k 3)
 letI u:=d [b m,e o,b p,h 38 q]
 an (decide t) (aG (decide ((0:Int)<=a.i)&&decide t) (∃(e1:OY),letI i:=nth e1.m e1.i.toNat;letI l:=[b (toInt (af i 0)),e (toStr (af i 1)),b (toInt (af i 2)),h 38 (aa (af i 3))];letI j:=d [b (toInt (af e1.t 0)),e (toStr (af e1.t 1)),b (toInt (af e1.t 2)),h 38 (aa (af e1.t 3))];([c 4 0 [] 0],[g (some a.xs),f 38 s,f 186 (AV.bJ 0),f 38 u,f 38 u,Dn.Obj.loop (iE Tryz.prog 198 6 LoopState.ready none (ig (bL 25) [(2,c 2 0 [] 0),(4,c 3 0 [] 0),(11,h 38 a.m),(12,b (↑(a.m.length):Int)),(13,b a.i),(14,AV.bool true),(15,AV.jA 38 k),(16,d [b m,e o,b p,h 38 q]),(17,d [b m,e o,b p,h 38 q]),(18,AV.bp 198 [c 4 0 [] 0])]))])=([c 4 0 [] 0],[g (some e1.xs),f 38 j,f 186 (AV.bJ 0),f 38 (d l),f 38 (d l),Dn.Obj.loop (iE Tryz.prog 198 6 LoopState.ready none (ig (bL 25) [(2,c 2 0 [] 0),(4,c 3 0 [] 0),(11,h 38 e1.m),(12,b (↑(e1.m.length):Int)),(13,b e1.i),(14,AV.bool true),(15,AV.jA 38 i),(16,d l),(17,d l),(18,AV.bp 198 [c 4 0 [] 0])]))])/\(Tm.eT (bX i)<r/\Tm.eT (bX i)<=100000/\e1.xs=qk 38 i++e1.more)/\(∃(e0:Nat),e0<n/\I e0 (sp 25 [(2,c 2 0 [] 0),(11,h 38 a.m),(12,b (↑(a.m.length):Int)),(13,b (IntKind.wrap IntKind.i64 (a.i+(1:Int))))] [g (some e1.more),f 38 j,f 186 (AV.bJ 0)]))/\∀(e0:AV),K Exit.ret (sp 25 [] [g none,f 38 j]))) (K (Exit.exit 0) (sp 25 [] [g (some a.xs),f 38 s]))):=by kernel_rfl
abbrev Sj(a:OY):=sp 25 [(2, .ptr 2 0 [] 0),(11, .ad 38 a.m),(12, .int a.m.length),(13, .int a.i)] [.ext (some a.xs), .box 38 (qo 38 a.t), .box 186 (.bJ 0)]
def HL r(a:OY):=a.m.length<=aU/\0<=a.i/\a.i<=a.m.length/\aM (ae (a.m.drop a.i.toNat))<r/\aM (ae (a.m.drop a.i.toNat))<=100000/\a.xs=fZ 38 (a.m.drop a.i.toNat)
def MP(a:OY):Out (Exit×S):= .all (fun _=>True) fun b=> .an b (.one (.exit 0,sp 25 [] [.ext (some []), .box 38 (qo 38 a.t)])) (.one (.ret,sp 25 [] [.ext none, .box 38 (qo 38 a.t)]))
theorem wb l i(h:i<l.length):aM (ae (l.drop i))=(bX (nth l i)).eT+aM (ae (l.drop (i+1))):=by
 grind [eg,aM]
theorem l56 κ r:aP (Eo κ r) 12 198 3 (aI 2 Sj (HL r) MP):=by
 refine aD (fun a=>a.m.length - a.i.toNat) ?_;rintro⟨xs,b,t,m,i⟩ K ⟨f,h,o,l,k,d⟩ g;simp only at f h o l k d;rw[show(Eo κ r).P=Pr κ from rfl];refine Eq.mpr (x56 κ r ⟨xs,b,t,m,i⟩ _ _ K) ?_;have c:=g true trivial;have e:=g false trivial;simp only[Out.run,an] at c e;simp only[aU] at f;simp only[ag,ai,an2,an4,an3];refine⟨fun j=>⟨⟨h,j⟩,?_⟩,fun j=>?_⟩
 ·have p:=wb m i.toNat (by omega)
  rw[yb _ m i.toNat (by omega)] at d;rw[ay (n:=i+1) (by omega) (by omega)];refine⟨⟨xs,fZ 38 (m.drop (i.toNat+1)),t,m,i⟩,rfl,⟨by simp only;omega,by simp only;omega,d⟩,⟨_,?_,⟨_,b,t,m,i+1⟩,rfl,⟨by simpa[aU] using f,by simp only;omega,by simp only;omega,?_,?_,?_⟩,rfl,g⟩,fun _=>e⟩
  ·simp only;omega
  ·simp only[show(i+1).toNat=i.toNat+1 by omega];omega
  ·simp only[show(i+1).toNat=i.toNat+1 by omega];omega
  ·simp only[show(i+1).toNat=i.toNat+1 by omega]
 ·rw[ao0 (by omega)] at d
  subst d;exact c
noncomputable def K6 κ r:=(Eo κ r).aq 198 3 (aI 2 Sj (HL r) MP)
theorem y56(κ:Kp)(r:Nat)(t:AV)(xs:List AV)(K:AV->List Dn.Obj->Prop):(a8 (K6 κ r) 12 198 [.bJ 0, .ptr 1 0 [] 0] [.ext (some xs), .box 38 (qo 38 t)] K)=(
 letI a:=AV.int
 letI b:=Obj.box
 letI c:=Obj.ext
 letI d:=aa (af t 3)
 letI g:=AV.agg [a (toInt (af t 0)),AV.str (toStr (af t 1)),a (toInt (af t 2)),AV.ad 38 d]
 letI h:=Pg.toProgram (Env.P (Eo κ r))
 ∃(e2:List AV),xs=AV.aK [AV.agg [a (toInt (af t 0)),AV.str (toStr (af t 1)),a (toInt (af t 2)),AV.ad 38 d]]::e2/\(ah h 198 3=ah h 198 3/\∃(e1:OY),letI e:=AV.agg [a (toInt (af e1.t 0)),AV.str (toStr (af e1.t 1)),a (toInt (af e1.t 2)),AV.ad 38 (aa (af e1.t 3))];letI f:=List.drop e1.i.toNat e1.m;sp 25 [(2,AV.ptr 2 0 [] 0),(11,AV.ad 38 d),(12,a (↑(List.length d):Int)),(13,a 0)] [c (some e2),b 38 g,b 186 (AV.bJ 0)]=sp 25 [(2,AV.ptr 2 0 [] 0),(11,AV.ad 38 e1.m),(12,a (↑(e1.m.length):Int)),(13,a e1.i)] [c (some e1.xs),b 38 e,b 186 (AV.bJ 0)]/\(e1.m.length<=9223372036854775807/\(0:Int)<=e1.i/\e1.i<=(↑(e1.m.length):Int)/\aM (ae f)<r/\aM (ae f)<=100000/\e1.xs=fZ 38 f)/\∀(e0:Bool),True->an e0 (K (AV.aK []) [c (some []),b 38 e]) (K (AV.aK []) [c none,b 38 e]))/\K (AV.aK []) [c none,b 38 g]):=by kernel_rfl
theorem ad8 κ r(c: ∀a st K,(∃m,m<r/\QM m a st K)->bt (Pr κ) 198 a st K):aF (K6 κ r)/\aj (K6 κ r)/\(K6 κ r).P=Pr κ:=
 have h:=(e20 _).eX c;have d:=(h.addRange (Xk _ r) (af2 _ r)).dO _;have b:=((Xk _ r).addRange (Gc _ r)).dO _
 ⟨d.aq b (l56 _ r),b.aq a0,rfl⟩
theorem c56 κ r:bq (K6 κ r) 12 198 (QM r):=by
 refine a7 ?_;rintro t K ⟨f,g⟩ c;have a: ∀b,K (.aK []) [.ext none,b]:=fun b=>c _ trivial
 have e: ∀b,K (.aK []) [.ext (some []),b]:=fun b=>c _ trivial
 refine Eq.mpr (y56 κ r t _ K) ?_;rw[cF,Tm.eT] at f;have d:=eu (ae (aa (af t 3)));rw[dz] at d;rw[BZ];refine⟨_,rfl,⟨rfl,⟨_,[],t,aa (af t 3),0⟩,rfl,⟨by simp only;omega,by simp only;omega,by simp only;omega,?_,?_,rfl⟩,?_⟩,a _⟩
 ·grind
 ·simp only[Int.toNat_zero,ao2];omega
 ·intro y _
  cases y
  ·exact a _
  ·exact e _
def BJ a:=(bX a).eT<=100000
theorem q56 κ: ∀a st K,aX Q0 BJ Hh a st K->bt (Pr κ) 198 a st K:=by
 rintro a st K ⟨l,c,d,b⟩;exact aF.nf _ _ (ad8 _) (c56 _) _ _ _ K ⟨l,c,⟨rfl,d⟩,b⟩
noncomputable def K5 κ:=(ZP κ).aB 198 (aX Q0 BJ Hh)
theorem e56 κ:aF (K5 κ):=(e20 _).eX (q56 _)
theorem m56 κ:aj (K5 κ):=(m20 _).aB aZ
structure Eg where
 xs:List AV
 more:List AV
 r:dt
 bl:List AV
 ts:List AV
 i:Int
abbrev EN(a:Eg):=qo 38 (nth a.ts (0+a.i.toNat))
abbrev H3(a:Eg):=sp 46 [(2, .ptr 2 0 [] 0),(3, .ax 3 0 a.ts.length),(14, .ad 80 a.bl),(15, .int a.bl.length),(16, .int a.i)] [.ext (some a.xs), .box 48 (aw a.r), .box 186 (.bJ 0), .row 38 a.ts]
theorem aj7 κ a I n K:(vc (K5 κ) 12 185 none 2 (ah (Pr κ).toProgram 185 3) (H3 a) (bh (K5 κ) 185 3 2 I n K))=(
 letI b:=AV.int
 letI c:=Obj.box
 letI d:=nth a.bl a.i.toNat
 letI f:=a.i<(↑(a.bl.length):Int)
 letI e:=af (af d 1) 1
 an (decide f) (aG (decide ((0:Int)<=a.i)&&decide f) (aG (decide ((a.ts.length+2+1)*57<=70368744177664)) (aG (decide ((a.ts.length+2+
 List.length (aa e)+1)*57<=70368744177664)) (∃(e0:Nat),e0<n/\I e0 (sp 46 [(2,AV.ptr 2 0 [] 0),(3,AV.ax 3 0 (a.ts.length+2+List.length (aa
 e))),(14,AV.ad 80 a.bl),(15,b (↑(a.bl.length):Int)),(16,b (IntKind.wrap IntKind.i64 (a.i+(1:Int))))] [Obj.ext (some a.xs),c 48 (aw
 a.r),c 186 (AV.bJ 0),Obj.row 38 (List.take (a.ts.length+2) (List.take a.ts.length a.ts++[AV.agg [b (toInt (af (af d 2) 0)),AV.str (toStr (af
 (af d 2) 1)),b (toInt (af (af d 2) 2)),AV.ad 38 (aa (af (af d 2) 3))],AV.agg [b (toInt (af (af d 3) 0)),AV.str (toStr (af (af d 3) 1)),
 b (toInt (af (af d 3) 2)),AV.ad 38 (aa (af (af d 3) 3))]])++aa e)]))))) (K (Exit.exit 0) (sp 46 [(2,AV.ptr 2 0 [] 0),(3,AV.ax 3 0 a.ts.length)]
 [Obj.ext (some a.xs),c 48 (aw a.r),c 186 (AV.bJ 0),Obj.row 38 a.ts]))):=by kernel_rfl
def dK(l:List _):=l.flatMap fun a=>[qo 38 (af a 2),qo 38 (af a 3)]++aa (af (af a 1) 1)
def HH(a:Eg):=a.bl.length<=aU/\0<=a.i/\a.i<=a.bl.length/\(a.ts++dK (a.bl.drop a.i.toNat)).length<=100000
def Bo(a:Eg):Out (Exit×S):= .one (.exit 0,sp 46 [(2, .ptr 2 0 [] 0),(3, .ax 3 0 (a.ts++dK (a.bl.drop a.i.toNat)).length)] [.ext (some a.xs), .box 48 (aw a.r), .box 186 (.bJ 0), .row 38 (a.ts++dK (a.bl.drop a.i.toNat))])
theorem FG l i(h:i<l.length):dK (l.drop i)=[qo 38 (af (nth l i) 2),qo 38 (af (nth l i) 3)]++aa (af (af (nth l i) 1) 1)++dK (l.drop (i+1)):=by
 rw[ao3 h,aJ l i h];rfl
theorem af8 κ:aP (K5 κ) 12 185 3 (aI 2 H3 HH Bo):=by
 refine aD (fun a=>a.bl.length - a.i.toNat) ?_;rintro⟨xs,c,r,b,e,i⟩ K ⟨f,h,l,g⟩ d;simp only at f h l g;rw[show(K5 κ).P=Pr κ from rfl];refine Eq.mpr (aj7 κ ⟨xs,c,r,b,e,i⟩ _ _ K) ?_;simp only[and_self];simp only[Bo,Out.run] at d;simp only[aU] at f;simp only[ag,ai,an2,an4,an3];refine⟨fun j=>⟨⟨h,j⟩,?_⟩,fun j=>?_⟩
 ·have k:=FG b i.toNat (by omega)
  rw[k] at g d;rw[ay (n:=i+1) (by omega) (by omega)];simp only[ao6,List.length_cons,List.length_nil] at g;refine⟨by omega,by omega,_,?_,⟨xs,c,r,b,e++([qo 38 (af (nth b i.toNat) 2),qo 38 (af (nth b i.toNat) 3)]++aa (af (af (nth b i.toNat) 1) 1)),i+1⟩,?_,⟨by simpa[aU] using f,by simp only;omega,by simp only;omega,?_⟩,rfl,?_⟩
  ·simp only;omega
  ·simp only[H3,ao6,List.length_cons,List.length_nil,List.take_length]
   rw[List.take_of_length_le (by simp),show e.length+2+(aa (af (af (nth b i.toNat) 1) 1)).length=e.length+(0+1+1+(aa (af (af (nth b i.toNat) 1) 1)).length) by omega,List.append_assoc];rfl
  ·simp only[ao6,List.length_cons,List.length_nil,show(i+1).toNat=i.toNat+1 by omega];omega
  ·simp only[Bo,Out.run,show(i+1).toNat=i.toNat+1 by omega]
   simpa only[List.append_assoc] using d
 ·rw[ao0 (by omega)] at d
  simpa[dK] using d
noncomputable def Em κ:=(K5 κ).aq 185 3 (aI 2 H3 HH Bo)
theorem ad0 κ:aF (Em κ):=(e56 _).aq (m56 _) (af8 _)
theorem Xd κ:aj (Em κ):=(m56 _).aq a0
noncomputable abbrev W1(a:Eg)(κ:Kp)(st:LoopState)(p:Option Code):Dn.Obj:=
 .loop (iE (Pr κ).toProgram 185 11 st p (ig (bL 46) [(2, .ptr 2 0 [] 0),(7, .ptr 4 0 [] 0),(32, .ax 3 0 a.ts.length),(33, .int a.ts.length),(34, .int a.i),(35, .bool true),
  (36, .ptr 3 (0+a.i.toNat) [] 0),(37,EN a),(38,EN a),(39, .bp 198 [.ptr 5 0 [] 0])]))
noncomputable abbrev sP κ a:=[.ext (some a.xs), .box 48 (aw a.r), .box 186 (.bJ 0), .row 38 a.ts, .box 38 (EN a), .box 38 (EN a),W1 a κ .ready none]
noncomputable abbrev BX κ a o st p:=[.ext o, .box 48 (aw a.r), .box 186 (.bJ 0), .row 38 a.ts, .box 38 (EN a), .dead,W1 a κ st p]
theorem s42 κ a Q:(tidy (Pr κ).toProgram 7 (ei (sP κ a) (dc (sP κ a) [.ptr 5 0 [] 0])) Q)=(
 letI b:=AV.int
 letI c:=nth a.ts (0+a.i.toNat)
 letI d:=toInt (af c 0)
 letI e:=toStr (af c 1)
 letI f:=toInt (af c 2)
 letI g:=aa (af c 3)
 Q [Obj.ext (some a.xs),Obj.box 48 (aw a.r),Obj.box 186 (AV.bJ 0),Obj.row 38 a.ts,Obj.box 38 (AV.agg [b d,AV.str e,b f,AV.ad 38 g]),
 Obj.dead,Dn.Obj.loop (iE Tryz.prog 185 11 LoopState.ready none (ig (bL 46) [(2,AV.ptr 2 0 [] 0),(7,AV.ptr 4 0 [] 0),(32,AV.ax 3 0 a.ts.length),(33,
 b (↑(a.ts.length):Int)),(34,b a.i),(35,AV.bool true),(36,AV.ptr 3 (0+a.i.toNat) [] 0),(37,AV.agg [b d,AV.str e,b f,AV.ad
 38 g]),(38,AV.agg [b d,AV.str e,b f,AV.ad 38 g]),(39,AV.bp 198 [AV.ptr 5 0 [] 0])]))]):=by kernel_rfl
theorem r42(κ:Kp)(a:Eg)(o:List AV)(u:AV)(Q:List Dn.Obj->Prop)(K2:List Dn.Obj->Prop):(jo (vc (Em κ) 12) 6 [qo 38 u] (BX κ a (some o) .ready none) (fun r st''=>match r with| .lit (.bool true)=>tidy (Pr κ).toProgram 7 st'' Q| .lit (.bool false)=>K2 st''|_=>False))=(
 letI b:=AV.int
 letI c:=AV.agg
 letI d:=AV.str
 letI e:=Obj.box
 letI f:=nth a.ts (0+a.i.toNat)
 letI g:=toInt (af f 0)
 letI h:=toStr (af f 1)
 letI i:=toInt (af f 2)
 letI j:=aa (af f 3)
 letI k:=c [b g,d h,b i,AV.ad 38 j]
 letI l:=ig (bL 46) [(2,AV.ptr 2 0 [] 0),(7,AV.ptr 4 0 [] 0),(32,AV.ax 3 0 a.ts.length),(33,b (↑(a.ts.length):Int)),(34,b a.i),(35,
  AV.bool true),(36,AV.ptr 3 (0+a.i.toNat) [] 0),(37,c [b g,d h,b i,AV.ad 38 j]),(38,c [b g,d h,b i,
  AV.ad 38 j]),(39,AV.bp 198 [AV.ptr 5 0 [] 0])]
 ∃(e0:List AV),o=AV.aK [c [b (toInt (af u 0)),d (toStr (af u 1)),b (toInt (af u 2)),AV.ad 38 (aa (af u 3))]]::e0/\Q [Obj.ext
 (some e0),e 48 (aw a.r),e 186 (AV.bJ 0),Obj.row 38 a.ts,e 38 k,Obj.dead,Dn.Obj.loop (iE Tryz.prog 185 11 LoopState.ready none l)]/\K2
 [Obj.ext none,e 48 (aw a.r),e 186 (AV.bJ 0),Obj.row 38 a.ts,e 38 k,Obj.dead,Dn.Obj.loop (iE Tryz.prog 185 11 LoopState.done (some
 Code.ret) l),e 38 (c [b (toInt (af u 0)),d (toStr (af u 1)),b (toInt (af u 2)),AV.ad 38 (aa (af u 3))])]):=by kernel_rfl
theorem k42 κ a xs:(AV.bJ 0::gG (kx (dc (sP κ a) [.ptr 5 0 [] 0])) [.ptr 5 0 [] 0],Obj.ext (some xs)::iy (kx (dc (sP κ a) [.ptr 5 0 [] 0])) (iw (sP κ a) (dc (sP κ a) [.ptr 5 0 [] 0])))=([.bJ 0, .ptr 1 0 [] 0],[.ext (some xs), .box 38 (EN a)]):=by kernel_rfl
theorem o42 κ a:qq (sP κ a) [.ptr 5 0 [] 0]=true:=by kernel_rfl
noncomputable def N2(κ:Kp):fJ:=fun b st K=>∃a,(b,st)=([AV.ptr 5 0 [] 0],sP κ a)/\((bX (nth a.ts a.i.toNat)).eT<=100000/\a.xs=qk 38 (nth a.ts a.i.toNat)++a.more)/\
 K (BX κ a (some a.more) .ready none)/\∀u,K (BX κ a none .done (some .ret)++[.box 38 (qo 38 u)])
theorem Gb κ:(N2 κ).gA:=by
 rintro b st K g c ⟨a,d,e,f,h⟩;exact⟨a,d,e,c _ f,by grind⟩
theorem call42 κ a st K(h:aX Q0 BJ Hh a st K):(Em κ).call 198 a st K:=h
theorem af1 κ:nc (Em κ) 12 198 (N2 κ):=by
 rintro c st K ⟨a,g,⟨k,f⟩,m,n⟩;obtain⟨rfl,rfl⟩:=Prod.mk.inj g;refine⟨qk 38 (nth a.ts a.i.toNat),fun b st'=>(∀x,x∈b->s6 38 x)/\st'=BX κ a (some (b++a.more)) .ready none,⟨o42 κ a,?_,?_,?_,?_⟩⟩
 ·refine call42 κ _ _ _ ⟨nth a.ts a.i.toNat,?_,k,fun st' h=>h⟩
  rw[k42,EN,Nat.zero_add];rfl
 ·rw[show(Em κ).P=Pr κ from rfl,show(sP κ a).length=7 from rfl,s42]
  exact⟨nD _ _ _ (Nat.lt_succ_self _),by rw[f];rfl⟩
 ·rintro l e st' ⟨d,rfl⟩
  obtain⟨u,o⟩:=d (.aK l) (by simp);obtain rfl:=AV.aK.inj o;refine Eq.mpr (r42 κ a _ u _ _) ?_;exact⟨_,rfl,⟨fun x j=>d x (by simp[j]),rfl⟩,n u⟩
 ·rintro st' ⟨_,rfl⟩
  exact m
noncomputable def vJ κ:=((Em κ).addRange 185 11 198 (N2 κ)).dO fun f=>ic f P8
theorem ad2 κ:aF (vJ κ):=((ad0 _).addRange (Xd _) (af1 _)).dO _
theorem Xf κ:aj (vJ κ):=((Xd _).addRange (Gb _)).dO _
abbrev H4(a:Eg):=sp 46 [(2, .ptr 2 0 [] 0),(32, .ax 3 0 a.ts.length),(33, .int a.ts.length),(34, .int a.i)] [.ext (some a.xs), .box 48 (aw a.r), .box 186 (.bJ 0), .row 38 a.ts]
theorem aj8 κ a I n K:(vc (vJ κ) 12 185 none 2 (ah (Pr κ).toProgram 185 8) (H4 a) (bh (vJ κ) 185 8 2 I n K))=(
 letI b:=AV.int
 letI c:=AV.ptr
 letI d:=AV.agg
 letI e:=Obj.box
 letI f:=Obj.ext
 letI g:=nth a.ts (0+a.i.toNat)
 letI h:=a.ts.length
 letI k:=toInt (af g 0)
 letI l:=toStr (af g 1)
 letI m:=toInt (af g 2)
 letI o:=aa (af g 3)
 letI p:=d [b k,AV.str l,b m,AV.ad 38 o]
 an (decide (a.i<(↑h:Int))) (aG (decide ((0:Int)<=a.i)&&decide (a.i<(↑h:Int))) (∃(e1:Eg),letI i:=nth e1.ts (0+e1.i.toNat);letI j:=[b (toInt (af i 0)),AV.str (toStr (af i 1)),b (toInt (af i 2)),AV.ad 38 (aa (af i 3))];([c 5 0 [] 0],[f (some a.xs),e 48 (aw a.r),e 186 (AV.bJ 0),Obj.row 38 a.ts,e 38 p,e 38 p,Dn.Obj.loop (iE Tryz.prog 185 11 LoopState.ready none (ig (bL 46) [(2,c 2 0 [] 0),(7,c 4 0 [] 0),(32,AV.ax 3 0 a.ts.length),(33,b (↑h:Int)),(34,b a.i),(35,AV.bool true),(36,c 3 (0+a.i.toNat) [] 0),(37,d [b k,AV.str l,b m,AV.ad 38 o]),(38,d [b k,AV.str l,b m,AV.ad 38 o]),(39,AV.bp 198 [c 5 0 [] 0])]))])=([c 5 0 [] 0],[f (some e1.xs),e 48 (aw e1.r),e 186 (AV.bJ 0),Obj.row 38 e1.ts,e 38 (d j),e 38 (d j),Dn.Obj.loop (iE Tryz.prog 185 11 LoopState.ready none (ig (bL 46) [(2,c 2 0 [] 0),(7,c 4 0 [] 0),(32,AV.ax 3 0 e1.ts.length),(33,b (↑(e1.ts.length):Int)),(34,b e1.i),(35,AV.bool true),(36,c 3 (0+e1.i.toNat) [] 0),(37,d j),(38,d j),(39,AV.bp 198 [c 5 0 [] 0])]))])/\(Tm.eT (bX (nth e1.ts e1.i.toNat))<=100000/\e1.xs=qk 38 (nth e1.ts e1.i.toNat)++e1.more)/\(∃(e0:Nat),e0<n/\I e0 (sp 46 [(2,c 2 0 [] 0),(32,AV.ax 3 0 a.ts.length),(33,b (↑h:Int)),(34,b (IntKind.wrap IntKind.i64 (a.i+(1:Int))))] [f (some e1.more),e 48 (aw e1.r),e 186 (AV.bJ 0),Obj.row 38 e1.ts]))/\∀(e0:AV),K Exit.ret (sp 46 [] [f none,e 48 (aw e1.r)]))) (K (Exit.exit 2) (sp 46 [] [f (some a.xs),e 48 (aw a.r)]))):=by kernel_rfl
def BG(a:Eg):=a.ts.length<=aU/\0<=a.i/\a.i<=a.ts.length/\aM (ae (a.ts.drop a.i.toNat))<=100000/\a.xs=fZ 38 (a.ts.drop a.i.toNat)
def MM(a:Eg):Out (Exit×S):= .all (fun _=>True) fun b=> .an b (.one (.exit 2,sp 46 [] [.ext (some []), .box 48 (aw a.r)])) (.one (.ret,sp 46 [] [.ext none, .box 48 (aw a.r)]))
theorem af9 κ:aP (vJ κ) 12 185 8 (aI 2 H4 BG MM):=by
 refine aD (fun a=>a.ts.length - a.i.toNat) ?_;rintro⟨xs,b,r,f,m,i⟩ K ⟨h,j,l,o,c⟩ g;simp only at h j l o c;rw[show(vJ κ).P=Pr κ from rfl];refine Eq.mpr (aj8 κ ⟨xs,b,r,f,m,i⟩ _ _ K) ?_;have e:=g true trivial;have d:=g false trivial;simp only[Out.run,an] at e d;simp only[aU] at h;simp only[ag,ai,an2,an4,an3];refine⟨fun k=>⟨⟨j,k⟩,?_⟩,fun k=>?_⟩
 ·have p:=wb m i.toNat (by omega)
  rw[yb _ m i.toNat (by omega)] at c;rw[ay (n:=i+1) (by omega) (by omega)];refine⟨⟨xs,fZ 38 (m.drop (i.toNat+1)),r,f,m,i⟩,rfl,⟨by simp only;omega,c⟩,⟨_,?_,⟨_,b,r,f,m,i+1⟩,rfl,⟨by simpa[aU] using h,by simp only;omega,by simp only;omega,?_,?_⟩,rfl,g⟩,fun _=>d⟩
  ·simp only;omega
  ·grind
  ·simp only[show(i+1).toNat=i.toNat+1 by omega]
 ·rw[ao0 (by omega)] at c
  subst c;exact e
noncomputable def KZ κ:=(vJ κ).aq 185 8 (aI 2 H4 BG MM)
theorem ad1 κ:aF (KZ κ):=(ad2 _).aq (Xf _) (af9 _)
theorem Xe κ:aj (KZ κ):=(Xf _).aq a0
theorem y42 κ a K:(a8 (KZ κ) 12 185 [.bJ 0, .ptr 1 0 [] 0] [.ext (some a.xs), .box 48 (aw a)] K)=(
 letI b:=AV.int
 letI c:=AV.ptr
 letI d:=Obj.box
 letI e:=Obj.row
 letI f:=Obj.ext
 letI g:=AV.ax
 letI h:=AV.bJ
 letI i:=Pg.toProgram (Env.P (K5 κ))
 letI j:=Pg.toProgram (Env.P (vJ κ))
 (My a.hl=true->ah i 185 3=ah i 185 3/\∃(e2:Eg),letI k:=e2.ts++dK (List.drop e2.i.toNat e2.bl);sp 46 [(2,c 2 0 [] 0),(3,g 3 0 0),(14,AV.ad 80 a.bl),(15,b (↑(a.bl.length):Int)),(16,b 0)] [f (some a.xs),d 48 (aw a),d 186 (h 0),e 38 []]=sp 46 [(2,c 2 0 [] 0),(3,g 3 0 e2.ts.length),(14,AV.ad 80 e2.bl),(15,b (↑(e2.bl.length):Int)),(16,b e2.i)] [f (some e2.xs),d 48 (aw e2.r),d 186 (h 0),e 38 e2.ts]/\(e2.bl.length<=9223372036854775807/\(0:Int)<=e2.i/\e2.i<=(↑(e2.bl.length):Int)/\List.length k<=100000)/\ah j 185 8=ah j 185 8/\∃(e1:Eg),letI m:=List.drop e1.i.toNat e1.ts;sp 46 [(2,c 2 0 [] 0),(32,g 3 0 (List.length k)),(33,b (↑(List.length k):Int)),(34,b 0)] [f (some e2.xs),d 48 (aw e2.r),d 186 (h 0),e 38 k]=sp 46 [(2,c 2 0 [] 0),(32,g 3 0 e1.ts.length),(33,b (↑(e1.ts.length):Int)),(34,b e1.i)] [f (some e1.xs),d 48 (aw e1.r),d 186 (h 0),e 38 e1.ts]/\(e1.ts.length<=9223372036854775807/\(0:Int)<=e1.i/\e1.i<=(↑(e1.ts.length):Int)/\aM (ae m)<=100000/\e1.xs=fZ 38 m)/\∀(e0:Bool),True->an e0 (K (AV.aK []) [f (some []),d 48 (aw e1.r)]) (K (AV.aK []) [f none,d 48 (aw e1.r)]))/\aG (decide ((0+a.hl.length+1)*57<=70368744177664)) (ah i 185 3=ah i 185 3/\∃(e2:Eg),letI l:=e2.ts++dK (List.drop e2.i.toNat e2.bl);sp 46 [(2,c 2 0 [] 0),(3,g 3 0 (0+a.hl.length)),(14,AV.ad 80 a.bl),(15,b (↑(a.bl.length):Int)),(16,b 0)] [f (some a.xs),d 48 (aw a),d 186 (h 0),e 38 ([]++a.hl)]=sp 46 [(2,c 2 0 [] 0),(3,g 3 0 e2.ts.length),(14,AV.ad 80 e2.bl),(15,b (↑(e2.bl.length):Int)),(16,b e2.i)] [f (some e2.xs),d 48 (aw e2.r),d 186 (h 0),e 38 e2.ts]/\(e2.bl.length<=9223372036854775807/\(0:Int)<=e2.i/\e2.i<=(↑(e2.bl.length):Int)/\List.length l<=100000)/\ah j 185 8=ah j 185 8/\∃(e1:Eg),letI n:=List.drop e1.i.toNat e1.ts;sp 46 [(2,c 2 0 [] 0),(32,g 3 0 (List.length l)),(33,b (↑(List.length l):Int)),(34,b 0)] [f (some e2.xs),d 48 (aw e2.r),d 186 (h 0),e 38 l]=sp 46 [(2,c 2 0 [] 0),(32,g 3 0 e1.ts.length),(33,b (↑(e1.ts.length):Int)),(34,b e1.i)] [f (some e1.xs),d 48 (aw e1.r),d 186 (h 0),e 38 e1.ts]/\(e1.ts.length<=9223372036854775807/\(0:Int)<=e1.i/\e1.i<=(↑(e1.ts.length):Int)/\aM (ae n)<=100000/\e1.xs=fZ 38 n)/\∀(e0:Bool),True->an e0 (K (AV.aK []) [f (some []),d 48 (aw e1.r)]) (K (AV.aK []) [f none,d 48 (aw e1.r)]))):=by kernel_rfl
def UJ(a:dt):List AV×List Dn.Obj:=([.bJ 0, .ptr 1 0 [] 0],[.ext (some (fZ 38 (bk 38 a.hl a.bl))), .box 48 (aw a)])
def dk(a:dt):=aM (ae (bk 38 a.hl a.bl))<=100000/\a.bl.length<=100000
def MK(_:dt):Out (AV×List Dn.Obj):= .all (fun st'=>uT st') fun st'=> .one (.aK [],st')
theorem c42 κ:bq (KZ κ) 12 185 (aX UJ dk MK):=by
 refine a7 ?_;rintro⟨xs,g,k,d,c,f,i⟩ K ⟨o,u⟩ p;have s: ∀b,K (.aK []) [.ext none,b]:=fun b=>p _ trivial
 have q: ∀b,K (.aK []) [.ext (some []),b]:=fun b=>p _ trivial
 simp only at o u;have l:=eu (ae (bk 38 d c));rw[dz] at l;have t:d.length<=100000:=by
  have:(bk 38 d c).length=d.length+(dK c).length:=by simp[bk,dK]
  omega
 refine Eq.mpr (y42 κ ⟨fZ 38 (bk 38 d c),g,k,d,c,f,i⟩ K) ?_;have n: ∀j:List AV,j=d->(j++dK (List.drop (Int.toNat 0) c))=bk 38 d c:=fun j h=>by subst h;rfl
 have m: ∀j:List AV,j=d->∃a:Eg,sp 46 [(2, .ptr 2 0 [] 0),(32, .ax 3 0 (j++dK (List.drop (Int.toNat 0) c)).length),(33, .int (j++dK (List.drop (Int.toNat 0) c)).length),(34, .int 0)] [.ext (some (fZ 38 (bk 38 d c))), .box 48 (aw ⟨fZ 38 (bk 38 d c),g,k,d,c,f,i⟩), .box 186 (.bJ 0), .row 38 (j++dK (List.drop (Int.toNat 0) c))]=H4 a/\BG a/\∀y:Bool,True->an y (K (.aK []) [.ext (some []), .box 48 (aw a.r)]) (K (.aK []) [.ext none, .box 48 (aw a.r)]):=by
  intro j h;refine⟨⟨_,[],⟨fZ 38 (bk 38 d c),g,k,d,c,f,i⟩,c,j++dK (List.drop (Int.toNat 0) c),0⟩,rfl,⟨?_,?_,?_,?_,?_⟩,fun y _=>?_⟩
  ·simp only[n j h,aU];omega
  ·simp only;omega
  ·simp only;omega
  ·show aM (ae (List.drop (Int.toNat 0) (j++dK (List.drop (Int.toNat 0) c))))<=100000
   rw[n j h];exact o
  ·rw[n j h];rfl
  ·cases y
   ·exact s _
   ·exact q _
 refine⟨fun e=>?_,?_⟩
 ·obtain rfl:d=[]:=by
   cases d with
   |nil=>rfl
   |cons=>cases e
  refine⟨rfl,⟨_,[],⟨fZ 38 (bk 38 [] c),g,k,[],c,f,i⟩,c,[],0⟩,rfl,⟨by simp only;omega,by simp only;omega,by simp only;omega,?_⟩,rfl,m [] rfl⟩;rw[n [] rfl];exact Nat.le_trans l o
 ·rw[ai,an2]
  refine⟨by simp only;omega,rfl,⟨_,[],⟨fZ 38 (bk 38 d c),g,k,d,c,f,i⟩,c,[]++d,0⟩,?_,⟨by simp only;omega,by simp only;omega,by simp only;omega,?_⟩,rfl,m ([]++d) rfl⟩
  ·rw[Nat.zero_add];rfl
  ·rw[n ([]++d) rfl];exact Nat.le_trans l o
set_option maxRecDepth 20000 in
noncomputable def RA(κ:Kp):Env:=(KZ κ).aB 185 (aX UJ dk MK)
theorem e42 κ:aF (RA κ):=(ad1 _).aB (Xe _) (c42 _)
theorem m42 κ:aj (RA κ):=(Xe _).aB aZ
def aH(a:dt):Rl:=⟨⟨a.rel,ae a.hl⟩,dB a.bl⟩
noncomputable abbrev WZ(a:dt)(κ:Kp)(st:LoopState)(p:Option Code):Dn.Obj:=
 .loop (iE (Pr κ).toProgram 115 6 st p (ig (bL 31) [(0,aw a),(1, .ptr 0 0 [] 0),(2, .nil),(3, .ptr 1 0 [] 0),(4, .ptr 3 0 [] 0),(6,aw a),(7, .bool (ba (aH a))),(8, .bool false),(9, .mp 2),(10,aw a),(11, .bp 185 [.ptr 4 0 [] 0])]))
noncomputable abbrev qE κ a:=[.box 48 (aw a), .box 36 .nil, .map 9 4 [], .box 177 (.mp 2), .box 48 (aw a),WZ a κ .ready none]
theorem s12 κ a Q:(tidy (Pr κ).toProgram 6 (ei (qE κ a) (dc (qE κ a) [.ptr 4 0 [] 0])) Q)=(
 Q [Obj.box 48 (aw a),Obj.box 36 (AV.ax 6 0 0),Dn.Obj.map 9 4 [],Obj.box 177 (AV.mp 2),Obj.dead,Dn.Obj.loop (iE Tryz.prog 115 6 LoopState.ready none (ig (bL
 31) [(0,aw a),(1,AV.ptr 0 0 [] 0),(2,AV.nil),(3,AV.ptr 1 0 [] 0),(4,AV.ptr 3 0 [] 0),(6,aw a),(7,AV.bool (ba (aH a))),(8,AV.bool false),(9,
 AV.mp 2),(10,aw a),(11,AV.bp 185 [AV.ptr 4 0 [] 0])])),Obj.row 9 []]):=by kernel_rfl
noncomputable abbrev BW κ a b c:=[.box 48 (aw a), .box 36 (.ax 6 0 b.length), .map 9 4 c, .box 177 (.mp 2), .dead,WZ a κ .ready none, .row 9 (strs b)]
theorem r12 κ a vs es u Q(K2:List Dn.Obj->Prop):(jo (vc (RA κ) 12) 5 [qo 38 u] (BW κ a vs es) (fun r st''=>match r with| .lit (.bool true)=>tidy (Pr κ).toProgram 6 st'' Q| .lit (.bool false)=>K2 st''|_=>False))=(
 letI b:=AV.bool
 letI c:=Obj.box
 letI d:=iE Tryz.prog 115 6 LoopState.ready none (ig (bL 31) [(0,aw a),(1,AV.ptr 0 0 [] 0),(2,AV.nil),(3,AV.ptr 1 0 [] 0),(4,AV.ptr 3 0 [] 0),(6,aw
  a),(7,b (ba (aH a))),(8,b false),(9,AV.mp 2),(10,aw a),(11,AV.bp 185 [AV.ptr 4 0 [] 0])])
 letI e:=Q [c 48 (aw a),c 36 (AV.ax 6 0 vs.length),Dn.Obj.map 9 4 es,c 177 (AV.mp 2),Obj.dead,Dn.Obj.loop d,Obj.row 9 (strs vs)]
 letI f:=Value.string (toStr (af u 1))
 an (toInt (af u 0) != (1:Int)) e (an (Dn.toBool (de es f (b false))) e (aG (decide ((vs.length+1+1)*17<=70368744177664)) (Q [c 48 (aw
 a),c 36 (AV.ax 6 0 (vs.length+1)),Dn.Obj.map 9 4 (fw es f (b true)),c 177 (AV.mp 2),Obj.dead,Dn.Obj.loop d,Obj.row 9 (List.take
 vs.length (strs vs)++[AV.str (toStr (af u 1))])])))):=by kernel_rfl
theorem k12 κ a xs:(AV.bJ 0::gG (kx (dc (qE κ a) [.ptr 4 0 [] 0])) [.ptr 4 0 [] 0],Obj.ext (some xs)::iy (kx (dc (qE κ a) [.ptr 4 0 [] 0])) (iw (qE κ a) (dc (qE κ a) [.ptr 4 0 [] 0])))=([.bJ 0, .ptr 1 0 [] 0],[.ext (some xs), .box 48 (aw a)]):=by kernel_rfl
theorem o12 κ a:qq (qE κ a) [.ptr 4 0 [] 0]=true:=by kernel_rfl
noncomputable def N1(κ:Kp):fJ:=fun b st K=>∃a,(b,st)=([AV.ptr 4 0 [] 0],qE κ a)/\dk a/\K (BW κ a (nr [] (fS (aH a))) (bP (nr [] (fS (aH a)))))
theorem Ga κ:(N1 κ).gA:=by
 rintro b st K g e ⟨a,d,f,c⟩;exact⟨a,d,f,e _ c⟩
theorem call12 κ a st K(h:aX UJ dk MK a st K):(RA κ).call 185 a st K:=h
theorem ae9 κ:nc (RA κ) 12 185 (N1 κ):=by
 rintro l st K ⟨a,q,o,v⟩;obtain⟨rfl,rfl⟩:=Prod.mk.inj q;have k:=iU 38 a.rel a.hl a.bl;rw[←uG 38] at k;have w:(fS (aH a)).length<=100000:=by
  have n:=cU (ae (bk 38 a.hl a.bl));rw[iU 38 a.rel a.hl a.bl] at n;exact Nat.le_trans n o.1
 have hd:=kU (fS (aH a)) [];refine⟨fZ 38 (bk 38 a.hl a.bl),fun c st'=>∃b,(∀x,x∈c->s6 38 x)/\st'=BW κ a b (bP b)/\b++nr b (c.flatMap y6)=nr [] (fS (aH a)),⟨o12 κ a,?_,?_,?_,?_⟩⟩
 ·refine call12 κ _ _ _ ⟨a,?_,o,fun st' h=>h⟩
  rw[k12];rfl
 ·rw[show(RA κ).P=Pr κ from rfl,show(qE κ a).length=6 from rfl,s12]
  exact⟨[],CI _ _,rfl,by rw[k];rfl⟩
 ·rintro p g st' ⟨b,m,rfl,d⟩
  obtain⟨u,t⟩:=m (.aK p) (by simp);obtain rfl:=AV.aK.inj t;rw[show(RA κ).P=Pr κ from rfl,show(qE κ a).length=6 from rfl];refine Eq.mpr (r12 κ a b _ u _ _) ?_;have f: ∀x,x∈g->s6 38 x:=fun x r=>m x (by simp[r])
  have s:y6 (.aK [qo 38 u])=bif decide (toInt (af u 0)=1) then[toStr (af u 1)] else[]:=rfl
  rw[List.flatMap_cons,s] at d;have j:Dn.toBool (de (bP b) (.string (toStr (af u 1))) (.lit (.bool false)))=b.contains (toStr (af u 1)):=pS _ _;rw[j];simp only[ag,ai,bne_iff_ne,bne_eq_false_iff_eq,an2];refine⟨fun e=>⟨b,f,rfl,?_⟩,fun e=>⟨fun i=>⟨b,f,rfl,?_⟩,fun i=>⟨?_,b++[toStr (af u 1)],f,?_,?_⟩⟩⟩
  ·rw[an6 e] at d;exact d
  ·rw[an8 e,an9,List.singleton_append,nr,i] at d;exact d
  ·have:=congrArg List.length d
   rw[ao6] at this;omega
  ·rw[Rs,←aR b,List.take_length]
   simp only[BW,iz,aR,ao6,List.length_cons,List.length_nil];rfl
  ·rw[an8 e,an9,List.singleton_append,nr,i,an7] at d
   simpa using d
 ·rintro st' ⟨b,_,rfl,d⟩
  have i:b=nr [] (fS (aH a)):=by simpa[nr] using d
  rw[i];exact v
noncomputable def KQ κ:=((RA κ).addRange 115 6 185 (N1 κ)).dO fun f=>ic f P8
theorem ab8 κ:aF (KQ κ):=((e42 _).addRange (m42 _) (ae9 _)).dO _
theorem W4 κ:aj (KQ κ):=((m42 _).addRange (Ga _)).dO _
theorem y12 κ a K:(a8 (KQ κ) 12 115 [aw a] [] K)=(
 letI b:=AV.int
 letI c:=AV.ptr
 letI d:=AV.agg
 letI e:=AV.str
 letI f:=Obj.box
 letI g:=AV.ad
 letI h:=AV.nil
 letI j:=d [d [e a.rel,g 38 a.hl],g 80 a.bl,b a.line]
 aG (decide (a.hl.length<=9223372036854775807)&&decide (a.bl.length<=9223372036854775807)) (an (!ba {head:={rel:=a.rel,l:=ae a.hl},body:=dB a.bl}) (K h []) (∃(e0:dt),letI i:=[d [e e0.rel,g 38 e0.hl],g 80 e0.bl,b e0.line];([c 4 0 [] 0],[f 48 j,f 36 h,Dn.Obj.map 9 4 [],f 177 (AV.mp 2),f 48 j,Dn.Obj.loop (iE Tryz.prog 115 6 LoopState.ready none (ig (bL 31) [(0,d [d [e a.rel,g 38 a.hl],g 80 a.bl,b a.line]),(1,c 0 0 [] 0),(2,h),(3,c 1 0 [] 0),(4,c 3 0 [] 0),(6,d [d [e a.rel,g 38 a.hl],g 80 a.bl,b a.line]),(7,AV.lit (Value.bool (ba {head:={rel:=a.rel,l:=ae a.hl},body:=dB a.bl}))),(8,AV.bool false),(9,AV.mp 2),(10,d [d [e a.rel,g 38 a.hl],g 80 a.bl,b a.line]),(11,AV.bp 185 [c 4 0 [] 0])]))])=([c 4 0 [] 0],[f 48 (d i),f 36 h,Dn.Obj.map 9 4 [],f 177 (AV.mp 2),f 48 (d i),Dn.Obj.loop (iE Tryz.prog 115 6 LoopState.ready none (ig (bL 31) [(0,d i),(1,c 0 0 [] 0),(2,h),(3,c 1 0 [] 0),(4,c 3 0 [] 0),(6,d i),(7,AV.bool (ba (aH e0))),(8,AV.bool false),(9,AV.mp 2),(10,d i),(11,AV.bp 185 [c 4 0 [] 0])]))])/\(aM (ae (bk 38 e0.hl e0.bl))<=100000/\e0.bl.length<=100000)/\K (AV.ax 0 0 (List.length (nr [] (fS (aH e0))))) [Obj.row 9 (strs (nr [] (fS (aH e0))))]))):=by kernel_rfl
def YE(a:dt):List AV×List Dn.Obj:=([aw a],[])
def Nw a:=ba (aH a)=true/\dk a
def ME(a:dt):Out (AV×List Dn.Obj):= .one (.ax 0 0 (dm (aH a)).length,[.row 9 (strs (dm (aH a)))])
theorem c12 κ:bq (KQ κ) 12 115 (aX YE Nw ME):=by
 refine a7 ?_;rintro⟨xs,b,c,d,f,a,i⟩ K ⟨h,j,k⟩ l;refine Eq.mpr (y12 κ ⟨xs,b,c,d,f,a,i⟩ K) ?_;have m:ba ⟨⟨c,ae d⟩,dB f⟩=true:=h;simp only at j k;have g:=eu (ae (bk 38 d f));rw[dz] at g;have n:d.length<=100000:=by
  grind [bk,dK]
 simp only[m,ai,ag,an3,an2];refine⟨⟨by omega,by omega⟩,(fun e=>nomatch e),fun _=>⟨⟨xs,b,c,d,f,a,i⟩,?_,⟨j,k⟩,?_⟩⟩
 ·grind
 ·simp only[ME,Out.run,dm,h,an9] at l
  exact l
set_option maxRecDepth 20000 in
noncomputable def KP(κ:Kp):Env:=(KQ κ).aB 115 (aX YE Nw ME)
theorem e12 κ:aF (KP κ):=(ab8 _).aB (W4 _) (c12 _)
theorem m12 κ:aj (KP κ):=(W4 _).aB aZ
theorem oG: ∀l m,aM (l++m)=aM l+aM m
 |[],m=>by simp[aM]
 |t::l,m=>by simp[aM,oG l m];omega
theorem qb{a}(h:dk a):aM (ae a.hl)<=100000:=by
 have:=h.1
 unfold bk ae at this;rw[List.map_append,oG] at this
 grind [ae]
theorem Ha: ∀l x,x∈l->jh (c9 x)<=aM (ae (dK l))
 |[],_,h=>by grind
 | y::l,x,h=>by
  have e:aM (ae (dK (y::l)))=jh (c9 y)+aM (ae (dK l)):=by
   unfold dK ae;rw[List.flatMap_cons,List.map_append,oG,List.map_append,oG];simp[jh,c9,Ls,ae,ao9,List.map_nil,sV]
  rcases List.mem_cons.1 h with rfl|h
  ·omega
  ·have:=Ha l x h;omega
theorem ly{a}(h:dk a){i}(c:i<a.bl.length):jh (c9 (nth a.bl i))<=100000:=by
 have b:=h.1;have e:bk _ _ a.bl=a.hl++dK _:=rfl;rw[e] at b;unfold ae at b;rw[List.map_append,oG] at b;have:=Ha a.bl (nth a.bl i) (by grind [aJ])
 grind [ae]
theorem kJ l{i}(a:i<l.length):dZ (dB l) i=c9 (nth l i):=by
 grind [dZ,dB,aJ]
def tv(x:AV):LA:=⟨toInt (af x 0),toStr (af (af x 1) 0),aa (af (af x 1) 1),toInt (af (af x 2) 0),toStr (af (af x 2) 1),toInt (af (af x 2) 2),aa (af (af x 2) 3),toInt (af (af x 3) 0),toStr (af (af x 3) 1),toInt (af (af x 3) 2),aa (af (af x 3) 3)⟩
theorem eG x:(tv x).lt=c9 x:=by rw[lt_eq];rfl
structure Vd where
 a:dt
 k:Int
 i:Int
 vs:List ByteArray
abbrev Sh(a:Vd):=sp 53 [(1, .int a.k),(2, .ptr 0 0 [] 0),(5, .ptr 1 0 [] 0),(17, .ad 80 a.a.bl),(18, .int a.a.bl.length),(19, .int a.i)] [.box 48 (aw a.a), .box 178 (.mp 2), .map 9 4 (bP a.vs)]
theorem x39 κ a k i es I n K:(vc (KP κ) 12 159 none 0 (ah (Pr κ).toProgram 159 4) (sp 53 [(1, .int k),(2, .ptr 0 0 [] 0),(5, .ptr 1 0 [] 0),(17, .ad 80 a.bl),(18, .int a.bl.length),(19, .int i)] [.box 48 (aw a), .box 178 (.mp 2), .map 9 4 es]) (bh (KP κ) 159 4 0 I n K))=(
 letI b:=AV.ptr 0 0 []
 letI c:=AV.int
 letI d:=AV.agg
 letI e:=AV.str
 letI f:=Obj.box
 letI g:=Dn.Obj.map
 letI h:=AV.ad
 letI j:=AV.mp
 letI l:=nth a.bl i.toNat
 letI p:=IntKind.wrap IntKind.i64 (i+(1:Int))
 letI m:=a.bl.length
 letI o:=∃(e2:List AV),([h 38 [d [c (toInt (af (af l 2) 0)),e (toStr (af (af l 2) 1)),c (toInt (af (af l 2) 2)),h 38 (aa
  (af (af l 2) 3))]]],aO)=([h 38 e2],aO)/\bE e2/\∃(e1:List AV×List (Value×AV)),([j 0,h 9 (List.take (List.length (ar (ae e2)))
  (List.drop 0 (strs (ar (ae e2)))))],[g 9 4 es])=([j 0,h 9 e1.1],[g 9 4 e1.2])/\bm e1/\∃(e0:Nat),e0<n/\I e0 (sp 53 [(1,
  c k),(2,b 0),(5,AV.ptr 1 0 [] 0),(17,h 80 a.bl),(18,c (↑m:Int)),(19,c p)] [f 48 (aw a),f 178 (j
  2),g 9 4 (fU e1.2 e1.1)])
 letI q:=∃(e2:LA),([d [c (toInt (af l 0)),d [e (toStr (af (af l 1) 0)),h 38 (aa (af (af l 1) 1))],d [c (toInt (af
  (af l 2) 0)),e (toStr (af (af l 2) 1)),c (toInt (af (af l 2) 2)),h 38 (aa (af (af l 2) 3))],d [c (toInt (af (af l 3) 0)),
  e (toStr (af (af l 3) 1)),c (toInt (af (af l 3) 2)),h 38 (aa (af (af l 3) 3))]]],aO)=([d [c e2.op,d [e e2.s,h 38
  e2.l],d [c e2.o1,e e2.s1,c e2.n1,h 38 e2.l1],d [c e2.o2,e e2.s2,c e2.n2,h 38 e2.l2]]],aO)/\gE e2/\∃
  (e1:List AV×List (Value×AV)),([j 0,h 9 (List.take (List.length (ew (LA.lt e2))) (List.drop 0 (strs (ew (LA.lt e2)))))],[g 9 4 es])=
  ([j 0,h 9 e1.1],[g 9 4 e1.2])/\bm e1/\∃(e0:Nat),e0<n/\I e0 (sp 53 [(1,c k),(2,b 0),(5,AV.ptr 1 0 [] 0),(17,
  h 80 a.bl),(18,c (↑m:Int)),(19,c p)] [f 48 (aw a),f 178 (j 2),g 9 4 (fU e1.2 e1.1)])
 an (decide (i<(↑m:Int))) (aG (decide ((0:Int)<=i)&&decide (i<(↑m:Int))) (an (i==k) (o/\o/\o) (q/\q))) (K (Exit.exit 0) (sp 53 [(1,
 c k),(2,b 0),(5,AV.ptr 1 0 [] 0)] [f 48 (aw a),f 178 (j 2),g 9 4 es]))):=by kernel_rfl
def HG(a:Vd):=dk a.a/\0<=a.k/\0<=a.i/\a.i<=a.a.bl.length
def oH(a:Vd):=a.vs++Ct a.k.toNat (dB (a.a.bl.drop a.i.toNat)) a.i.toNat
def xt(a:Vd):Out (Exit×S):= .one (.exit 0,sp 53 [(1, .int a.k),(2, .ptr 0 0 [] 0),(5, .ptr 1 0 [] 0)] [.box 48 (aw a.a), .box 178 (.mp 2), .map 9 4 (bP (oH a))])
theorem l39 κ:aP (KP κ) 12 159 4 (aI 0 Sh HG xt):=by
 refine aD (fun a=>a.a.bl.length - a.i.toNat) ?_;rintro⟨a,k,i,d⟩ K ⟨f,g,j,p⟩ b;simp only at f g j p;rw[show(KP κ).P=Pr κ from rfl];refine Eq.mpr (x39 κ a k i (bP d) _ _ K) ?_;simp only[and_self];have t:=f.2;simp only[xt,oH,Out.run] at b;simp only[ag,ai,an2,an4,an3,beq_iff_eq,beq_eq_false_iff_ne];refine⟨fun m=>⟨⟨j,m⟩,?_⟩,fun m=>?_⟩
 ·have c:=ly f (i:=i.toNat) (by omega)
  rw[oT a.bl i.toNat (by omega),Ct] at b;rw[ay (n:=i+1) (by omega) (by omega)];refine⟨fun e=>?_,fun e=>?_⟩
  ·subst e
   rw[Nat.beq_refl,an9,←List.append_assoc] at b;have h:ae [qo 38 (af (nth a.bl i.toNat) 2)]=[(c9 (nth a.bl i.toNat)).x]:=by
    simp only[ae,ao9,List.map_nil,sV];rfl
   have r:aM [(c9 (nth a.bl i.toNat)).x]<=100000:=by
    have:jh (c9 (nth a.bl i.toNat))=aM [(c9 (nth a.bl i.toNat)).x,(c9 (nth a.bl i.toNat)).y]+aM (c9 (nth a.bl i.toNat)).a.l:=rfl
    simp only[aM] at this⊢;omega
   have q:=cU [(c9 (nth a.bl i.toNat)).x];refine⟨[qo 38 (af (nth a.bl i.toNat) 2)],rfl,by simp only[bE,h];exact r,⟨strs (ar [(c9 (nth a.bl i.toNat)).x]),bP d⟩,?_,?_,_,?_,⟨a,i,i+1,d++ar [(c9 (nth a.bl i.toNat)).x]⟩,?_,⟨f,g,by simp only;omega,by simp only;omega⟩,rfl,?_⟩
   ·simp only[ao2,c6,h]
   ·simp only[bm,aR,aU];omega
   ·simp only;omega
   ·simp only[mS]
   ·simp only[xt,oH,Out.run,show(i+1).toNat=i.toNat+1 by omega]
    exact b
  ·rw[td (show i.toNat≠k.toNat by omega),an7,←List.append_assoc] at b
   have q:=cU [(c9 (nth a.bl i.toNat)).x,(c9 (nth a.bl i.toNat)).y];have s:=cU (c9 (nth a.bl i.toNat)).a.l;have o:(ew (c9 (nth a.bl i.toNat))).length<=100000:=by
    simp only[ew,jh,ao6] at c⊢;omega
   refine⟨tv (nth a.bl i.toNat),rfl,by rw[gE,eG];exact c,⟨strs (ew (c9 (nth a.bl i.toNat))),bP d⟩,?_,?_,_,?_,⟨a,k,i+1,d++ew (c9 (nth a.bl i.toNat))⟩,?_,⟨f,g,by simp only;omega,by simp only;omega⟩,rfl,?_⟩
   ·simp only[ao2,c6,eG]
   ·simp only[bm,aR,aU];omega
   ·simp only;omega
   ·simp only[mS]
   ·simp only[xt,oH,Out.run,show(i+1).toNat=i.toNat+1 by omega]
    exact b
 ·rw[ao0 (by omega)] at b
  simpa[dB,Ct] using b
noncomputable def ou κ:=(KP κ).aq 159 4 (aI 0 Sh HG xt)
theorem TL κ:aF (ou κ):=(e12 _).aq (m12 _) (l39 _)
theorem Mm κ:aj (ou κ):=(m12 _).aq a0
def dF jD jC s:=mu jD s&&mu jC s
structure DO where
 vs:List ByteArray
 i:Int
 jD:List (Value×AV)
 jC:List (Value×AV)
abbrev DY(R:List AV)(a:List (Value×AV))(b:List (Value×AV)):List Dn.Obj:=[.row 9 R, .box 178 (.mp 2), .map 9 4 a, .box 178 (.mp 4), .map 9 4 b]
abbrev PQ:AV:= .bp 184 [.ptr 1 0 [] 0, .ptr 3 0 [] 0]
abbrev Ko(a:DO):=sp 19 [(0, .ax 0 0 (strs a.vs).length),(1,PQ),(7, .int (strs a.vs).length),(8, .int a.i)] (DY (strs a.vs) a.jD a.jC)
theorem xFO κ a I n K:(vc (ou κ) 12 161 none 5 (ah (Pr κ).toProgram 161 2) (Ko a) (bh (ou κ) 161 2 5 I n K))=(
 letI b:=Obj.box
 letI c:=Dn.Obj.map
 letI d:=AV.mp
 letI f:=K Exit.ret (sp 19 [(4,AV.int a.i)] [Obj.row 9 (strs a.vs),b 178 (d 2),c 9 4 a.jD,b 178 (d 4),c 9 4 a.jC])
 letI e:=List.length (strs a.vs)
 letI g:=Value.string (toStr (nth (strs a.vs) (0+a.i.toNat)))
 an (decide (a.i<(↑e:Int))) (aG (decide ((0:Int)<=a.i)&&decide (a.i<(↑e:Int))) (an (!Dn.toBool (de a.jD g (AV.bool false))) f (an (!Dn.toBool
 (de a.jC g (AV.bool false))) f (∃(e0:Nat),e0<n/\I e0 (sp 19 [(0,AV.ax 0 0 e),(1,AV.bp 184 [AV.ptr 1 0 [] 0,AV.ptr 3 0 [] 0]),(7,AV.int (↑e:
 Int)),(8,AV.int (IntKind.wrap IntKind.i64 (a.i+(1:Int))))] [Obj.row 9 (strs a.vs),b 178 (d 2),c 9 4 a.jD,b 178 (d 4),
 c 9 4 a.jC]))))) (K (Exit.exit 0) (sp 19 [] [Obj.row 9 (strs a.vs),b 178 (d 2),c 9 4 a.jD,b 178 (d 4),c 9 4
 a.jC]))):=by kernel_rfl
def F0(a:DO):=a.vs.length<=aU/\0<=a.i/\a.i<=a.vs.length/\∀s,s∈a.vs.take a.i.toNat->dF a.jD a.jC s=true
def C9(a:DO):Out (Exit×S):=
 .an (a.vs.all (dF a.jD a.jC)) (.one (.exit 0,sp 19 [] (DY (strs a.vs) a.jD a.jC)))
  (.all (fun j=>wm (dF a.jD a.jC) a.vs j) fun j=> .one (.ret,sp 19 [(4, .int j)] (DY (strs a.vs) a.jD a.jC)))
theorem lFO κ:aP (ou κ) 12 161 2 (aI 5 Ko F0 C9):=by
 refine aD (fun a=>a.vs.length - a.i.toNat) ?_;rintro⟨b,i,d,c⟩ K ⟨l,o,t,k⟩ j;simp only at l o t k;rw[show(ou κ).P=Pr κ from rfl];refine Eq.mpr (xFO κ ⟨b,i,d,c⟩ _ _ K) ?_;simp only[aU] at l;simp only[C9,Out.run,ag] at j;have v:=aR b;simp only[aR,Nat.zero_add];have u:i<b.length->∀(g:i.toNat<b.length),(dF d c b[i.toNat]=false->K .ret (sp 19 [(4, .int i)] (DY (strs b) d c)))/\
   (dF d c b[i.toNat]=true->∃m,m<b.length - i.toNat/\gq Ko F0 C9 (fun a=>a.vs.length - a.i.toNat) K m (Ko ⟨b,i+1,d,c⟩)):=by
  intro r g;refine⟨fun e=>j.2 ?_ i ⟨o,g,k,e⟩,fun e=>⟨_,?_,⟨b,i+1,d,c⟩,rfl,⟨by simpa[aU] using l,by simp only;omega,by simp only;omega,?_⟩,rfl,?_⟩⟩
  ·rw[Bool.eq_false_iff]
   intro h;rw[List.all_eq_true.1 h _ (List.getElem_mem g)] at e;cases e
  ·simp only;omega
  ·intro s f
   simp only at f;rw[show(i+1).toNat=i.toNat+1 by omega,List.take_succ_eq_append_getElem g,List.mem_append,List.mem_singleton] at f;rcases f with f|f
   ·exact k s f
   ·rw[f];exact e
  ·simp only[C9,Out.run,ag]
   exact j
 simp only[ag,ai,an2,an4,an3,Bool.not_eq_true',ao4];refine⟨fun g=>⟨⟨o,g⟩,?_⟩,fun g=>?_⟩
 ·have p:i.toNat<b.length:=by omega
  have q:toStr (nth (strs b) i.toNat)=b[i.toNat]:=by rw[ya b _ p];rfl
  rw[ay (n:=i+1) (by omega) (by omega),q]
  simp_all[Ko,aR,dF,mu]
 ·refine j.1 (List.all_eq_true.2 fun s f=>k s ?_)
  rw[List.take_of_length_le (by omega)];exact f
noncomputable def Pt κ:=(ou κ).aq 161 2 (aI 5 Ko F0 C9)
theorem eFO κ:aF (Pt κ):=(TL _).aq (Mm _) (lFO _)
theorem mFO κ:aj (Pt κ):=(Mm _).aq a0
structure GO where
 R:List AV
 i:Int
 j:Int
 jD:List (Value×AV)
 jC:List (Value×AV)
 P:List ByteArray
 ws:List ByteArray
abbrev DN(a:GO):=sp 42 [(0, .ax 0 0 a.R.length),(1,PQ),(5, .int a.i),(6, .int a.j)] (DY a.R a.jD a.jC)
theorem xGO κ a I n K:(vc (Pt κ) 12 114 none 5 (ah (Pr κ).toProgram 114 5) (DN a) (bh (Pt κ) 114 5 5 I n K))=(
 letI b:=IntKind.wrap IntKind.i64
 letI c:=AV.int
 letI d:=Obj.box
 letI e:=Dn.Obj.map
 letI f:=AV.mp
 letI g:=toStr (nth a.R (0+a.j.toNat))
 letI h:=b (a.j+(1:Int))
 letI i:=∃(e0:Nat),e0<n/\I e0 (sp 42 [(0,AV.ax 0 0 a.R.length),(1,AV.bp 184 [AV.ptr 1 0 [] 0,AV.ptr 3 0 [] 0]),(5,c a.i),(6,c h)]
  [Obj.row 9 a.R,d 178 (f 2),e 9 4 a.jD,d 178 (f 4),e 9 4 a.jC])
 letI j:=a.j<(↑(a.R.length):Int)
 an (decide j) (aG (decide ((0:Int)<=a.j)&&decide j) (an (!Dn.toBool (de a.jD (Value.string g) (AV.bool false))) i (an (!!Dn.toBool (de a.jC
 (Value.string g) (AV.bool false))) (aG (decide ((0:Int)<=a.i)&&decide (a.i<(↑(a.R.length):Int))) (∃(e0:Nat),e0<n/\I e0 (sp 42 [(0,AV.ax 0 0
 a.R.length),(1,AV.bp 184 [AV.ptr 1 0 [] 0,AV.ptr 3 0 [] 0]),(5,c (b (a.i+(1:Int)))),(6,c h)] [Obj.row 9 (bQ a.R (0
 +a.i.toNat) (AV.str g)),d 178 (f 2),e 9 4 a.jD,d 178 (f 4),e 9 4 a.jC]))) i))) (K (Exit.exit 0) (sp 42 [(0,AV.ax 0
 0 a.R.length),(5,c a.i)] [Obj.row 9 a.R,d 178 (f 2),e 9 4 a.jD,d 178 (f 4),e 9 4 a.jC]))):=by kernel_rfl
def BO(a:GO):=a.R.length<=aU/\0<=a.i/\a.i<a.j/\a.j<=a.R.length/\a.R.take a.i.toNat=strs a.P/\a.R.drop a.j.toNat=strs a.ws
def Db(a:GO):Out (Exit×S):= .all (fun R=>R.length=a.R.length/\R.take (a.P++a.ws.filter (dF a.jD a.jC)).length=strs (a.P++a.ws.filter (dF a.jD a.jC)))
 fun R=> .one (.exit 0,sp 42 [(0, .ax 0 0 a.R.length),(5, .int (a.P++a.ws.filter (dF a.jD a.jC)).length)] (DY R a.jD a.jC))
theorem lGO κ:aP (Pt κ) 12 114 5 (aI 5 DN BO Db):=by
 refine aD (fun a=>a.R.length - a.j.toNat) ?_;rintro⟨R,i,j,b,c,P,h⟩ K ⟨o,t,A,C,d,g⟩ k;simp only at o t A C d g;rw[show(Pt κ).P=Pr κ from rfl];refine Eq.mpr (xGO κ ⟨R,i,j,b,c,P,h⟩ _ _ K) ?_;simp only[aU] at o;simp only[Db,Out.run] at k;simp only[Nat.zero_add];have x:P.length=i.toNat:=by
  have:=congrArg List.length d
  rw[List.length_take,aR] at this;omega
 have r: ∀(s:ByteArray) (l:List ByteArray),h=s::l->j<R.length->nth R j.toNat= .lit (.string s)->
   (dF b c s=false->∃m,m<R.length - j.toNat/\gq DN BO Db (fun a=>a.R.length - a.j.toNat) K m (DN ⟨R,i,j+1,b,c,P,l⟩))/\
   (dF b c s=true->∃m,m<R.length - j.toNat/\gq DN BO Db (fun a=>a.R.length - a.j.toNat) K m (DN ⟨bQ R i.toNat (.lit (.string s)),i+1,j+1,b,c,P++[s],l⟩)):=by
  rintro s l rfl p u;obtain⟨_,_,z⟩:=jQ (l:=strs l) g;refine⟨fun e=>⟨_,?_,_,rfl,⟨by simpa[aU] using o,t,by simp only;omega,by simp only;omega,d,?_⟩,rfl,?_⟩,fun e=>⟨_,?_,_,rfl,⟨by simpa[aU,gW] using o,by simp only;omega,by simp only;omega,by simp only[gW];omega,?_,?_⟩,rfl,?_⟩⟩
  ·simp only;omega
  ·simp only[show(j+1).toNat=j.toNat+1 by omega];exact z
  ·intro y f
   have:=k y
   simp only[List.filter_cons,e,Bool.false_eq_true,if_false] at f this⊢;exact this f
  ·simp only[gW];omega
  ·simp only[show(i+1).toNat=i.toNat+1 by omega]
   rw[tV _ _ _ (by omega),d,iz];rfl
  ·simp only[show(j+1).toNat=j.toNat+1 by omega]
   rw[tU _ _ _ _ (by omega)];exact z
  ·intro y f
   have:=k y
   simp only[List.filter_cons,e,if_true,gW,List.append_assoc,List.singleton_append] at f this⊢;exact this f
 simp only[ag,ai,an2,an4,an3,Bool.not_eq_true',ao4];refine⟨fun p=>⟨⟨by omega,p⟩,?_⟩,fun p=>?_⟩
 ·cases h with
  |nil=>
   have:=congrArg List.length g
   rw[List.length_drop,aR] at this;simp at this;omega
  |cons s l=>
   obtain⟨_,u,_⟩:=jQ (l:=strs l) g;have v:toStr (nth R j.toNat)=s:=by rw[u];rfl
   have q:=r s l rfl p u;simp only[DN,gW] at q;rw[ay (n:=i+1) (by omega) (by omega),ay (n:=j+1) (by omega) (by omega),v];exact⟨fun e=>q.1 (by unfold dF mu;rw[e];rfl),fun e=>⟨fun w=>⟨⟨by omega,by omega⟩,q.2 (by unfold dF mu;rw[e,w];rfl)⟩,fun w=>q.1 (by unfold dF mu;rw[e,w];rfl)⟩⟩
 ·have B:h=[]:=by
   have:=congrArg List.length g
   rw[List.length_drop,aR] at this;cases h with
   |nil=>rfl
   |cons=>simp at this;omega
  subst B;have:=k R ⟨rfl,by simp only[List.filter_nil,List.append_nil,x];exact d⟩
  simp only[List.filter_nil,List.append_nil,x,Int.toNat_of_nonneg t] at this;exact this
noncomputable def ZS κ:=(Pt κ).aq 114 5 (aI 5 DN BO Db)
theorem eGO κ:aF (ZS κ):=(eFO _).aq (mFO _) (lGO _)
theorem mGO κ:aj (ZS κ):=(mFO _).aq a0
theorem yGO κ(a:DO) K:(a8 (ZS κ) 12 114 [.ax 0 0 (strs a.vs).length,PQ] (DY (strs a.vs) a.jD a.jC) K)=(
 letI b:=AV.int
 letI c:=AV.ptr
 letI d:=Obj.box
 letI e:=Dn.Obj.map
 letI f:=AV.mp
 letI l:=List.length (strs a.vs)
 letI m:=Pg.toProgram (Env.P (ou κ))
 letI n:=Pg.toProgram (Env.P (Pt κ))
 ah m 161 2=ah m 161 2/\∃(e3:DO),letI g:=strs e3.vs;letI o:=K (AV.ad 9 (List.take l (List.drop 0 g))) [Obj.lD 9 g,d 178 (f 2),e 9 4 e3.jD,d 178 (f 4),e 9 4 e3.jC];letI p:=[Obj.row 9 g,d 178 (f 2),e 9 4 e3.jD,d 178 (f 4),e 9 4 e3.jC];sp 19 [(0,AV.ax 0 0 l),(1,AV.bp 184 [c 1 0 [] 0,c 3 0 [] 0]),(7,b (↑l:Int)),(8,b 0)] [Obj.row 9 (strs a.vs),d 178 (f 2),e 9 4 a.jD,d 178 (f 4),e 9 4 a.jC]=sp 19 [(0,AV.ax 0 0 (List.length g)),(1,AV.bp 184 [c 1 0 [] 0,c 3 0 [] 0]),(7,b (↑(List.length g):Int)),(8,b e3.i)] p/\(e3.vs.length<=9223372036854775807/\(0:Int)<=e3.i/\e3.i<=(↑(e3.vs.length):Int)/\∀(e0:ByteArray),List.Mem e0 (List.take e3.i.toNat e3.vs)->dF e3.jD e3.jC e0=true)/\an (List.all e3.vs (dF e3.jD e3.jC)) o (∀(e2:Int),((0:Int)<=e2/\∃(e1:e2.toNat<e3.vs.length),(∀(e0:ByteArray),List.Mem e0 (List.take e2.toNat e3.vs)->dF e3.jD e3.jC e0=true)/\dF e3.jD e3.jC e3.vs[e2.toNat]=false)->an (e2==(-1:Int)) o (ah n 114 5=ah n 114 5/\∃(e1:GO),letI q:=e1.P++List.filter (dF e1.jD e1.jC) e1.ws;letI h:=List.length q;letI i:=e1.R.length;sp 42 [(0,AV.ax 0 0 l),(1,AV.bp 184 [c 1 0 [] 0,c 3 0 [] 0]),(5,b e2),(6,b (IntKind.wrap IntKind.i64 (e2+(1:Int))))] p=sp 42 [(0,AV.ax 0 0 e1.R.length),(1,AV.bp 184 [c 1 0 [] 0,c 3 0 [] 0]),(5,b e1.i),(6,b e1.j)] [Obj.row 9 e1.R,d 178 (f 2),e 9 4 e1.jD,d 178 (f 4),e 9 4 e1.jC]/\(e1.R.length<=9223372036854775807/\(0:Int)<=e1.i/\e1.i<e1.j/\e1.j<=(↑i:Int)/\List.take e1.i.toNat e1.R=strs e1.P/\List.drop e1.j.toNat e1.R=strs e1.ws)/\∀(e0:List AV),letI j:=di e0 (0+Int.toNat (↑h:Int)) (Int.toNat ((↑i:Int) - (↑h:Int))) (AV.str {data:= #[]});letI k:=(↑h:Int)<=(↑i:Int);e0.length=e1.R.length/\List.take h e0=strs q->aG (true&&decide k&&decide ((↑i:Int)<=(↑i:Int))) (aG (true&&decide k) (K (AV.ad 9 (List.take (Int.toNat ((↑h:Int) - (0:Int))) (List.drop 0 j))) [Obj.lD 9 j,d 178 (f 2),e 9 4 e1.jD,d 178 (f 4),e 9 4 e1.jC]))))):=by kernel_rfl
def HZ(a:DO):=([.ax 0 0 a.vs.length,PQ],DY (strs a.vs) a.jD a.jC)
def kD(a:DO):=a.vs.length<=aU
def Fu(a:DO):Out (AV×List Dn.Obj):= .all (fun _=>True) fun R=> .one (.ad 9 (strs (a.vs.filter (dF a.jD a.jC))),[.lD 9 R, .box 178 (.mp 2), .map 9 4 a.jD, .box 178 (.mp 4), .map 9 4 a.jC])
theorem aa8 κ:bq (ZS κ) 12 114 (aX HZ kD Fu):=by
 refine a7 ?_;rintro⟨c,i,a,b⟩ K f j;simp only[kD] at f;simp only[HZ];rw[←aR c];refine Eq.mpr (yGO κ ⟨c,i,a,b⟩ K) ?_;refine⟨rfl,⟨c,0,a,b⟩,rfl,⟨f,by simp only;omega,by simp only;omega,fun s q=>nomatch q⟩,?_⟩;rw[ag];refine⟨fun e=>?_,fun e y h=>?_⟩
 ·have l:c.filter (dF a b)=c:=List.filter_eq_self.2 (List.all_eq_true.1 e)
  have:=j (strs c) trivial
  simp only[l] at this;rw[ao2,List.take_length];exact this
 ·have p:=rW h
  obtain⟨k,o,u,r⟩:=h;simp only at k o;simp only[aU] at f;rw[ag,beq_iff_eq,beq_eq_false_iff_ne];refine⟨fun t=>by omega,fun _=>⟨rfl,⟨strs c,y,y+1,a,b,c.take y.toNat,c.drop (y.toNat+1)⟩,?_,⟨by simp only[aR];omega,k,by simp only;omega,by simp only[aR];omega,?_,?_⟩,?_⟩⟩
  ·rw[ay (n:=y+1) (by omega) (by omega)]
  ·simp only[strs,List.map_take]
  ·simp only[strs,List.map_drop,show(y+1).toNat=y.toNat+1 by omega]
  ·rintro R ⟨m,g⟩
   simp only at m g;rw[←p] at g⊢;have d:(c.filter (dF a b)).length<=c.length:=List.length_filter_le _ _;rw[ai,ai];refine⟨by simp[aR,d],by simp[aR,d],?_⟩;have:=j (di R (0+Int.toNat ((c.filter (dF a b)).length:Int)) (Int.toNat (((strs c).length:Int) - ((c.filter (dF a b)).length:Int))) (.lit (.string (ByteArray.mk #[])))) trivial
   simp only[Int.toNat_natCast,Nat.zero_add,Int.sub_zero,ao2,oD,g] at this⊢;exact this
theorem ab6 κ: ∀a st K,aX HZ kD Fu a st K->bt (Pr κ) 114 a st K:=fun a st K h=>cZ (eGO _) (mGO _) (aa8 _ _ _ K h)
noncomputable def KT κ:=(ou κ).aB 114 (aX HZ kD Fu)
theorem ac4 κ:aF (KT κ):=(TL _).eX (ab6 _)
theorem W8 κ:aj (KT κ):=(Mm _).aB aZ
theorem y39 κ a k K:(a8 (KT κ) 12 159 [aw a, .int k] [] K)=(
 letI b:=AV.int
 letI c:=AV.ptr
 letI d:=Obj.box
 letI e:=Obj.row
 letI f:=Dn.Obj.map
 letI g:=AV.ad
 letI h:=AV.mp
 letI j:=Pg.toProgram (Env.P (KP κ))
 letI l:=∃(e7:List AV),([g 38 a.hl],aO)=([g 38 e7],aO)/\bE e7/\∃(e6:List AV×List (Value×AV)),([h 0,g 9 (List.take (List.length (ar (ae e7))) (List.drop 0 (strs (ar (ae e7)))))],[f 9 4 []])=([h 0,g 9 e6.1],[f 9 4 e6.2])/\bm e6/\ah j 159 4=ah j 159 4/\∃(e5:Vd),letI m:=[g 38 (aa (af (af (nth e5.a.bl e5.k.toNat) 1) 1))];letI i:=List.length e5.a.bl;sp 53 [(1,b k),(2,c 0 0 [] 0),(5,c 1 0 [] 0),(17,g 80 a.bl),(18,b (↑(a.bl.length):Int)),(19,b 0)] [d 48 (aw a),d 178 (h 2),f 9 4 (fU e6.2 e6.1)]=sp 53 [(1,b e5.k),(2,c 0 0 [] 0),(5,c 1 0 [] 0),(17,g 80 e5.a.bl),(18,b (↑i:Int)),(19,b e5.i)] [d 48 (aw e5.a),d 178 (h 2),f 9 4 (bP e5.vs)]/\((aM (ae (bk 38 e5.a.hl e5.a.bl))<=100000/\List.length e5.a.bl<=100000)/\(0:Int)<=e5.k/\(0:Int)<=e5.i/\e5.i<=(↑i:Int))/\aG (decide ((0:Int)<=e5.k)&&decide (e5.k<(↑i:Int))) ((∃(e4:List AV),(m,aO)=([g 38 e4],aO)/\bE e4/\∃(e3:List AV×List (Value×AV)),([h 0,g 9 (List.take (List.length (ar (ae e4))) (List.drop 0 (strs (ar (ae e4)))))],[f 9 4 []])=([h 0,g 9 e3.1],[f 9 4 e3.2])/\bm e3/\∃(e2:dt),([aw e5.a],aO)=([aw e2],aO)/\(ba (aH e2)=true/\aM (ae (bk 38 e2.hl e2.bl))<=100000/\e2.bl.length<=100000)/\∃(e1:DO),([AV.ax 0 0 (List.length (dm (aH e2))),AV.bp 184 [c 1 0 [] 0,c 3 0 [] 0]],[e 9 (strs (dm (aH e2))),d 178 (h 2),f 9 4 (fU e3.2 e3.1),d 178 (h 4),f 9 4 (bP (oH e5))])=([AV.ax 0 0 e1.vs.length,AV.bp 184 [c 1 0 [] 0,c 3 0 [] 0]],[e 9 (strs e1.vs),d 178 (h 2),f 9 4 e1.jD,d 178 (h 4),f 9 4 e1.jC])/\kD e1/\∀(e0:List AV),True->K (g 9 (strs (List.filter (dF e1.jD e1.jC) e1.vs))) [])/\∃(e4:List AV),(m,aO)=([g 38 e4],aO)/\bE e4/\∃(e3:List AV×List (Value×AV)),([h 0,g 9 (List.take (List.length (ar (ae e4))) (List.drop 0 (strs (ar (ae e4)))))],[f 9 4 []])=([h 0,g 9 e3.1],[f 9 4 e3.2])/\bm e3/\∃(e2:dt),([aw e5.a],aO)=([aw e2],aO)/\(ba (aH e2)=true/\aM (ae (bk 38 e2.hl e2.bl))<=100000/\e2.bl.length<=100000)/\∃(e1:DO),([AV.ax 0 0 (List.length (dm (aH e2))),AV.bp 184 [c 1 0 [] 0,c 3 0 [] 0]],[e 9 (strs (dm (aH e2))),d 178 (h 2),f 9 4 (fU e3.2 e3.1),d 178 (h 4),f 9 4 (bP (oH e5))])=([AV.ax 0 0 e1.vs.length,AV.bp 184 [c 1 0 [] 0,c 3 0 [] 0]],[e 9 (strs e1.vs),d 178 (h 2),f 9 4 e1.jD,d 178 (h 4),f 9 4 e1.jC])/\kD e1/\∀(e0:List AV),True->K (g 9 (strs (List.filter (dF e1.jD e1.jC) e1.vs))) [])
 l/\l):=by kernel_rfl
def QZ(a:dt×Int):List AV×List Dn.Obj:=([aw a.1, .int a.2],[])
def BF(a:dt×Int):=ba (aH a.1)=true/\dk a.1/\0<=a.2/\a.2<a.1.bl.length
def RX(a:dt×Int):Out (AV×List Dn.Obj):= .one (.ad 9 (strs (ep (aH a.1) a.2.toNat)),[])
theorem c39 κ:bq (KT κ) 12 159 (aX QZ BF RX):=by
 refine a7 ?_;rintro⟨a,k⟩ K ⟨g,c,h,m⟩ p;refine Eq.mpr (y39 κ a k K) ?_;simp only at g c h m;have o:=qb c;have r:=cU (ae a.hl);have j:k.toNat<a.bl.length:=by omega
 have b:=ly c j;simp only[and_self];refine⟨a.hl,rfl,o,⟨strs (ar (ae a.hl)),[]⟩,?_,?_,trivial,⟨a,k,0,ar (ae a.hl)⟩,rfl,⟨c,h,by simp only;omega,by simp only;omega⟩,?_⟩
 ·simp only[ao2,c6]
 ·simp only[bm,aR,aU];omega
 rw[ai,an3,an2,an2];have e:ar (ae (aa (af (af (nth a.bl k.toNat) 1) 1)))=ar (dZ (aH a).body k.toNat).a.l:=by
  rw[show(aH a).body=dB a.bl from rfl,kJ _ j,lt_eq]
 have f:aM (ae (aa (af (af (nth a.bl k.toNat) 1) 1)))<=100000:=by
  rw[lt_eq] at b;simp only[jh] at b;omega
 have q:=cU (ae (aa (af (af (nth a.bl k.toNat) 1) 1)));refine⟨⟨h,m⟩,_,rfl,f,⟨strs (ar (ae (aa (af (af (nth a.bl k.toNat) 1) 1)))),[]⟩,?_,?_,a,rfl,⟨g,c⟩,⟨dm (aH a),0,fU [] (strs (ar (ae (aa (af (af (nth a.bl k.toNat) 1) 1))))),bP (oH ⟨a,k,0,ar (ae a.hl)⟩)⟩,rfl,?_,?_⟩
 ·simp only[ao2,c6]
 ·simp only[bm,aR,aU];omega
 ·have t:(fS (aH a)).length<=100000:=by
   have n:=cU (ae (bk 38 a.hl a.bl));rw[iU 38 a.rel a.hl a.bl] at n;exact Nat.le_trans n c.1
  have u:=kU (fS (aH a)) [];simp only[kD,dm,g,an9,aU];omega
 ·intro R _
  have i:(fun s=>dF (fU [] (strs (ar (ae (aa (af (af (nth a.bl k.toNat) 1) 1)))))) (bP (oH ⟨a,k,0,ar (ae a.hl)⟩)) s)=fun v=>(ar (dZ (aH a).body k.toNat).a.l).contains v&&(RP (aH a) k.toNat).contains v:=by
   funext s
   unfold dF;rw[pS,e];congr 1
   exact pS _ s
  have d:List.filter (dF (fU [] (strs (ar (ae (aa (af (af (nth a.bl k.toNat) 1) 1)))))) (bP (oH ⟨a,k,0,ar (ae a.hl)⟩))) (dm (aH a))=ep (aH a) k.toNat:=by
   unfold ep;exact congrFun (congrArg _ i) _
  simp only[d];exact p
noncomputable def Pd κ:=(KT κ).aB 159 (aX QZ BF RX)
theorem e39 κ:aF (Pd κ):=(ac4 _).aB (W8 _) (c39 _)
theorem m39 κ:aj (Pd κ):=(W8 _).aB aZ
end Go.Proofs.YtioeffnadipbaaaGreatDoor
