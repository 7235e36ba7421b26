import Derived.Test.YtioeffnadipbaaaGreatDoorDeP2
import Derived.Test.YtioeffnadipbaaaGreatDoorDeP1
namespace Go.Proofs.YtioeffnadipbaaaGreatDoor
open Go Go.Dn Go.Rl Go.Proofs
attribute [local irreducible] a7 vc
set_option maxRecDepth 20000
structure Tg where
 xs:List AV
 more:List AV
 t:AV
 m:List AV
 i:Int
abbrev KJ(a:Tg):=qx 38 (nth a.m a.i.toNat)
def Rq:List Nat:=[171,198,185]
def Qo(a:AV):List AV×List Dn.Obj:=([.cf 0, .ptr 1 0 [] 0],[.ext (some (qh 38 a)), .box 38 (qx 38 a)])
def Vs n a:=(cE a).mS=n/\n<=100000
def Ig(_:AV):Out (AV×List Dn.Obj):= .all (fun st'=>sv st') fun st'=> .one (.aJ [],st')
def Rz n:=aO Qo (Vs n) Ig
noncomputable def JD κ r:=(E20 κ).aw 198 fun args st K=>∃m,m<r/\Rz m args st K
noncomputable abbrev Zi(a:Tg)(κ:Kp)(st:LoopState)(p:Option Code):Dn.Obj:=
 .loop (iO (Pr κ).toProgram 198 6 st p (ik (bO 25) [(2, .ptr 2 0 [] 0),(4, .ptr 3 0 [] 0),(11, .ah 38 a.m),(12, .int a.m.length),(13, .int a.i),(14, .bool true),
  (15, .js 38 (nth a.m a.i.toNat)),(16,KJ a),(17,KJ a),(18, .bm 198 [.ptr 4 0 [] 0])]))
noncomputable abbrev rm κ a:=[.ext (some a.xs), .box 38 (qx 38 a.t), .box 186 (.cf 0), .box 38 (KJ a), .box 38 (KJ a),Zi a κ .ready none]
noncomputable abbrev AP κ a o st p:=[.ext o, .box 38 (qx 38 a.t), .box 186 (.cf 0), .box 38 (KJ a), .dead,Zi a κ st p]
theorem s56 κ a Q:(tidy (Pr κ).toProgram 6 (dy (rm κ a) (b8 (rm κ a) [.ptr 4 0 [] 0])) Q)=(
 letI b:=AV.int
 letI c:=nth a.m a.i.toNat
 letI d:=toInt (af c 0)
 letI e:=toStr (af c 1)
 letI f:=toInt (af c 2)
 letI g:=ag (af c 3)
 Q [Obj.ext (some a.xs),Obj.box 38 (AV.agg [b (toInt (af a.t 0)),AV.str (toStr (af a.t 1)),b (toInt (af a.t 2)),AV.ah 38 (ag (af a.t 3))]),Obj.box
 186 (AV.cf 0),Obj.box 38 (AV.agg [b d,AV.str e,b f,AV.ah 38 g]),Obj.dead,Dn.Obj.loop (iO Tryz.prog 198 6 LoopState.ready none (ik (bO 25)
 [(2,AV.ptr 2 0 [] 0),(4,AV.ptr 3 0 [] 0),(11,AV.ah 38 a.m),(12,b (↑(a.m.length):Int)),(13,b a.i),(14,AV.bool true),(15,AV.js 38 c),
 (16,AV.agg [b d,AV.str e,b f,AV.ah 38 g]),(17,AV.agg [b d,AV.str e,b f,AV.ah 38 g]),(18,AV.bm 198 [AV.ptr 4 0 [] 0])]))]):=by kernel_rfl
theorem r56 κ r a o u Q(K2:List Dn.Obj->Prop):(gu (vc (JD κ r) 12) 5 [qx 38 u] (AP κ a (some o) .ready none) (fun r st''=>match r with| .lit (.bool true)=>tidy (Pr κ).toProgram 6 st'' Q| .lit (.bool false)=>K2 st''|_=>False))=(
 letI b:=AV.int
 letI c:=AV.agg
 letI d:=AV.str
 letI e:=Obj.box
 letI f:=AV.ah
 letI g:=nth a.m a.i.toNat
 letI l:=c [b (toInt (af a.t 0)),d (toStr (af a.t 1)),b (toInt (af a.t 2)),f 38 (ag (af a.t 3))]
 letI h:=toInt (af g 0)
 letI i:=toStr (af g 1)
 letI j:=toInt (af g 2)
 letI k:=ag (af g 3)
 letI m:=c [b h,d i,b j,f 38 k]
 letI n:=ik (bO 25) [(2,AV.ptr 2 0 [] 0),(4,AV.ptr 3 0 [] 0),(11,f 38 a.m),(12,b (↑(a.m.length):Int)),(13,b a.i),(14,AV.bool true),
  (15,AV.js 38 g),(16,c [b h,d i,b j,f 38 k]),(17,c [b h,d i,b j,f 38 k]),(18,AV.bm 198
  [AV.ptr 4 0 [] 0])]
 ∃(e0:List AV),o=AV.aJ [c [b (toInt (af u 0)),d (toStr (af u 1)),b (toInt (af u 2)),f 38 (ag (af u 3))]]::e0/\Q [Obj.ext
 (some e0),e 38 l,e 186 (AV.cf 0),e 38 m,Obj.dead,Dn.Obj.loop (iO Tryz.prog 198 6 LoopState.ready none n)]/\K2 [Obj.ext none,e
 38 l,e 186 (AV.cf 0),e 38 m,Obj.dead,Dn.Obj.loop (iO Tryz.prog 198 6 LoopState.done (some Code.ret) n),e 38 (c [b (toInt (af
 u 0)),d (toStr (af u 1)),b (toInt (af u 2)),f 38 (ag (af u 3))])]):=by kernel_rfl
theorem k56 κ a xs:(AV.cf 0::fP (iW (b8 (rm κ a) [.ptr 4 0 [] 0])) [.ptr 4 0 [] 0],Obj.ext (some xs)::gx (iW (b8 (rm κ a) [.ptr 4 0 [] 0])) (gz (rm κ a) (b8 (rm κ a) [.ptr 4 0 [] 0])))=([.cf 0, .ptr 1 0 [] 0],[.ext (some xs), .box 38 (KJ a)]):=by kernel_rfl
theorem o56 κ a:my (rm κ a) [.ptr 4 0 [] 0]=true:=by kernel_rfl
noncomputable def MF(κ:Kp)(r:Nat):eH:=fun caps st K=>∃a,(caps,st)=([AV.ptr 4 0 [] 0],rm κ a)/\((cE (nth a.m a.i.toNat)).mS<r/\(cE (nth a.m a.i.toNat)).mS<=100000/\a.xs=qh 38 (nth a.m a.i.toNat)++a.more)/\
 K (AP κ a (some a.more) .ready none)/\∀u,K (AP κ a none .done (some .ret)++[.box 38 (qx 38 u)])
theorem FG κ r:(MF κ r).gw:=by
 rintro caps st K K' hK ⟨a,h1,h2,h3,h4⟩;exact⟨a,h1,h2,hK _ h3,by grind⟩
theorem Rn κ r args st K(h: ∃m,m<r/\Rz m args st K):(JD κ r).call 198 args st K:=h
theorem ae2 κ r:jb (JD κ r) 12 198 (MF κ r):=by
 rintro caps st K ⟨a,h1,⟨h2,h3,h4⟩,h5,h6⟩;obtain⟨rfl,rfl⟩:=Prod.mk.inj h1;refine⟨qh 38 (nth a.m a.i.toNat),fun items st'=>(∀x,x∈items->th 38 x)/\st'=AP κ a (some (items++a.more)) .ready none,⟨o56 κ a,?_,?_,?_,?_⟩⟩
 ·refine Rn κ r _ _ _ ⟨_,h2,nth a.m a.i.toNat,?_,⟨rfl,h3⟩,fun st' h=>h⟩
  rw[k56];rfl
 ·rw[show(JD κ r).P=Pr κ from rfl,show(rm κ a).length=6 from rfl,s56]
  exact⟨nh _ _ _ (Nat.lt_succ_self _),by rw[h4];rfl⟩
 ·rintro us rest st' ⟨e1,rfl⟩
  obtain⟨u,hu⟩:=e1 (.aJ us) (by simp);obtain rfl:=AV.aJ.inj hu;refine Eq.mpr (r56 κ r a _ u _ _) ?_;exact⟨_,rfl,⟨fun x hx=>e1 x (by simp[hx]),rfl⟩,h6 u⟩
 ·rintro st' ⟨_,rfl⟩
  exact h5
noncomputable def FJ κ r:=((JD κ r).addRange 198 6 198 (MF κ r)).cO fun f=>iS f Rq
theorem XS κ r:aj (JD κ r):=(m20 _).aw fun _ _ _ _ hK ⟨m,h1,h2⟩=>⟨m,h1,aH _ _ _ _ hK h2⟩
theorem x56(κ:Kp) r(a:Tg) I n K:(vc (FJ κ r) 12 198 none 2 (ad (Pr κ).toProgram 198 3) (sp 25 [(2, .ptr 2 0 [] 0),(11, .ah 38 a.m),(12, .int a.m.length),(13, .int a.i)] [.ext (some a.xs), .box 38 (qx 38 a.t), .box 186 (.cf 0)]) (bh (FJ κ r) 198 3 2 I n K))=(
 letI b:=AV.int
 letI c:=AV.ptr
 letI d:=AV.agg
 letI e:=AV.str
 letI f:=Obj.box
 letI g:=Obj.ext
 letI h:=AV.ah
 letI k:=nth a.m a.i.toNat
 letI s:=d [b (toInt (af a.t 0)),e (toStr (af a.t 1)),b (toInt (af a.t 2)),h 38 (ag (af a.t 3))]
 letI t:=a.i<(↑(a.m.length):Int)
 letI m:=toInt (af k 0)
 letI o:=toStr (af k 1)
 letI p:=toInt (af k 2)
 letI q:=ag (af k 3)
 letI u:=d [b m,e o,b p,h 38 q]
 aq (decide t) (aW (decide ((0:Int)<=a.i)&&decide t) (∃(e1:Tg),letI i:=nth e1.m e1.i.toNat;letI l:=[b (toInt (af i 0)),e (toStr (af i 1)),b (toInt (af i 2)),h 38 (ag (af i 3))];letI j:=d [b (toInt (af e1.t 0)),e (toStr (af e1.t 1)),b (toInt (af e1.t 2)),h 38 (ag (af e1.t 3))];([c 4 0 [] 0],[g (some a.xs),f 38 s,f 186 (AV.cf 0),f 38 u,f 38 u,Dn.Obj.loop (iO Tryz.prog 198 6 LoopState.ready none (ik (bO 25) [(2,c 2 0 [] 0),(4,c 3 0 [] 0),(11,h 38 a.m),(12,b (↑(a.m.length):Int)),(13,b a.i),(14,AV.bool true),(15,AV.js 38 k),(16,d [b m,e o,b p,h 38 q]),(17,d [b m,e o,b p,h 38 q]),(18,AV.bm 198 [c 4 0 [] 0])]))])=([c 4 0 [] 0],[g (some e1.xs),f 38 j,f 186 (AV.cf 0),f 38 (d l),f 38 (d l),Dn.Obj.loop (iO Tryz.prog 198 6 LoopState.ready none (ik (bO 25) [(2,c 2 0 [] 0),(4,c 3 0 [] 0),(11,h 38 e1.m),(12,b (↑(e1.m.length):Int)),(13,b e1.i),(14,AV.bool true),(15,AV.js 38 i),(16,d l),(17,d l),(18,AV.bm 198 [c 4 0 [] 0])]))])/\(Tm.mS (cE i)<r/\Tm.mS (cE i)<=100000/\e1.xs=qh 38 i++e1.more)/\(∃(e0:Nat),e0<n/\I e0 (sp 25 [(2,c 2 0 [] 0),(11,h 38 a.m),(12,b (↑(a.m.length):Int)),(13,b (IntKind.wrap IntKind.i64 (a.i+(1:Int))))] [g (some e1.more),f 38 j,f 186 (AV.cf 0)]))/\∀(_e0:AV),K Exit.ret (sp 25 [] [g none,f 38 j]))) (K (Exit.exit 0) (sp 25 [] [g (some a.xs),f 38 s]))):=by kernel_rfl
abbrev SN(a:Tg):=sp 25 [(2, .ptr 2 0 [] 0),(11, .ah 38 a.m),(12, .int a.m.length),(13, .int a.i)] [.ext (some a.xs), .box 38 (qx 38 a.t), .box 186 (.cf 0)]
def Hg r(a:Tg):=a.m.length<=aU/\0<=a.i/\a.i<=a.m.length/\bj (aa (a.m.drop a.i.toNat))<r/\bj (aa (a.m.drop a.i.toNat))<=100000/\a.xs=fM 38 (a.m.drop a.i.toNat)
def Ms(a:Tg):Out (Exit×S):= .all (fun _=>True) fun b=> .aq b (.one (.exit 0,sp 25 [] [.ext (some []), .box 38 (qx 38 a.t)])) (.one (.ret,sp 25 [] [.ext none, .box 38 (qx 38 a.t)]))
theorem vV l i(h:i<l.length):bj (aa (l.drop i))=(cE (nth l i)).mS+bj (aa (l.drop (i+1))):=by
 grind [eR,bj]
theorem l56 κ r:aR (FJ κ r) 12 198 3 (aG 2 SN (Hg r) Ms):=by
 refine aD (fun a=>a.m.length - a.i.toNat) ?_;rintro⟨xs,more,t,m,i⟩ K ⟨h1,h2,h3,h4,h5,h6⟩ ho;simp only at h1 h2 h3 h4 h5 h6;rw[show(FJ κ r).P=Pr κ from rfl];refine Eq.mpr (x56 κ r ⟨xs,more,t,m,i⟩ _ _ K) ?_;have ho1:=ho true trivial;have ho2:=ho false trivial;simp only[Out.run,aq] at ho1 ho2;simp only[aU] at h1;simp only[ae,ai,an2,an4,an3];refine⟨fun hi=>⟨⟨h2,hi⟩,?_⟩,fun hi=>?_⟩
 ·have hc:=vV m i.toNat (by omega)
  rw[x5 _ m i.toNat (by omega)] at h6;rw[az (n:=i+1) (by omega) (by omega)];refine⟨⟨xs,fM 38 (m.drop (i.toNat+1)),t,m,i⟩,rfl,⟨by simp only;omega,by simp only;omega,h6⟩,⟨_,?_,⟨_,more,t,m,i+1⟩,rfl,⟨by simpa[aU] using h1,by simp only;omega,by simp only;omega,?_,?_,?_⟩,rfl,ho⟩,fun _=>ho2⟩
  ·simp only;omega
  ·simp only[show(i+1).toNat=i.toNat+1 by omega];omega
  ·simp only[show(i+1).toNat=i.toNat+1 by omega];omega
  ·simp only[show(i+1).toNat=i.toNat+1 by omega]
 ·rw[ao0 (by omega)] at h6
  subst h6;exact ho1
noncomputable def NX κ r:=(FJ κ r).an 198 3 (aG 2 SN (Hg r) Ms)
theorem y56 κ r t xs K:(a7 (NX κ r) 12 198 [.cf 0, .ptr 1 0 [] 0] [.ext (some xs), .box 38 (qx 38 t)] K)=(
 letI a:=AV.int
 letI b:=Obj.box
 letI c:=Obj.ext
 letI d:=ag (af t 3)
 letI g:=AV.agg [a (toInt (af t 0)),AV.str (toStr (af t 1)),a (toInt (af t 2)),AV.ah 38 d]
 letI h:=Pg.toProgram (Env.P (FJ κ r))
 ∃(e2:List AV),xs=AV.aJ [AV.agg [a (toInt (af t 0)),AV.str (toStr (af t 1)),a (toInt (af t 2)),AV.ah 38 d]]::e2/\(ad h 198 3=ad h 198 3/\∃(e1:Tg),letI e:=AV.agg [a (toInt (af e1.t 0)),AV.str (toStr (af e1.t 1)),a (toInt (af e1.t 2)),AV.ah 38 (ag (af e1.t 3))];letI f:=List.drop e1.i.toNat e1.m;sp 25 [(2,AV.ptr 2 0 [] 0),(11,AV.ah 38 d),(12,a (↑(List.length d):Int)),(13,a 0)] [c (some e2),b 38 g,b 186 (AV.cf 0)]=sp 25 [(2,AV.ptr 2 0 [] 0),(11,AV.ah 38 e1.m),(12,a (↑(e1.m.length):Int)),(13,a e1.i)] [c (some e1.xs),b 38 e,b 186 (AV.cf 0)]/\(e1.m.length<=9223372036854775807/\(0:Int)<=e1.i/\e1.i<=(↑(e1.m.length):Int)/\bj (aa f)<r/\bj (aa f)<=100000/\e1.xs=fM 38 f)/\∀(e0:Bool),True->aq e0 (K (AV.aJ []) [c (some []),b 38 e]) (K (AV.aJ []) [c none,b 38 e]))/\K (AV.aJ []) [c none,b 38 g]):=by kernel_rfl
theorem ah8 κ r(hp: ∀args st K,(∃m,m<r/\Rz m args st K)->b6 (Pr κ) 198 args st K):aE (NX κ r)/\aj (NX κ r)/\(NX κ r).P=Pr κ:=
 have h:=(e20 _).fV hp;have h2:=(h.addRange (XS _ r) (ae2 _ r)).cO _;have hm:=((XS _ r).addRange (FG _ r)).cO _
 ⟨h2.an hm (l56 _ r),hm.an aI,rfl⟩
theorem c56 κ r:bg (NX κ r) 12 198 (Rz r):=by
 refine aQ ?_;rintro t K ⟨h1,h2⟩ ho;have hn: ∀b,K (.aJ []) [.ext none,b]:=fun b=>ho _ trivial
 have h0: ∀b,K (.aJ []) [.ext (some []),b]:=fun b=>ho _ trivial
 refine Eq.mpr (y56 κ r t _ K) ?_;rw[da,Tm.mS] at h1;have hl:=gI (aa (ag (af t 3)));rw[er] at hl;rw[B0];refine⟨_,rfl,⟨rfl,⟨_,[],t,ag (af t 3),0⟩,rfl,⟨by simp only;omega,by simp only;omega,by simp only;omega,?_,?_,rfl⟩,?_⟩,hn _⟩
 ·grind
 ·simp only[Int.toNat_zero,ao2];omega
 ·intro y _
  cases y
  ·exact hn _
  ·exact h0 _
def B5 a:=(cE a).mS<=100000
theorem q56 κ: ∀args st K,aO Qo B5 Ig args st K->b6 (Pr κ) 198 args st K:=by
 rintro args st K ⟨l,h1,h2,h3⟩;exact aE.pJ _ _ (ah8 _) (c56 _) _ _ _ K ⟨l,h1,⟨rfl,h2⟩,h3⟩
noncomputable def NL κ:=(E20 κ).aw 198 (aO Qo B5 Ig)
theorem e56 κ:aE (NL κ):=(e20 _).fV (q56 _)
theorem m56 κ:aj (NL κ):=(m20 _).aw aH
structure Jc where
 xs:List AV
 more:List AV
 r:dh
 bl:List AV
 ts:List AV
 i:Int
abbrev GS(a:Jc):=qx 38 (nth a.ts (0+a.i.toNat))
abbrev H2(a:Jc):=sp 46 [(2, .ptr 2 0 [] 0),(3, .ak 3 0 a.ts.length),(14, .ah 80 a.bl),(15, .int a.bl.length),(16, .int a.i)] [.ext (some a.xs), .box 48 (au a.r), .box 186 (.cf 0), .row 38 a.ts]
theorem af0 κ a I n K:(vc (NL κ) 12 185 none 2 (ad (Pr κ).toProgram 185 3) (H2 a) (bh (NL κ) 185 3 2 I n K))=(
 letI b:=AV.int
 letI c:=Obj.box
 letI d:=nth a.bl a.i.toNat
 letI f:=a.i<(↑(a.bl.length):Int)
 letI e:=af (af d 1) 1
 aq (decide f) (aW (decide ((0:Int)<=a.i)&&decide f) (aW (decide ((a.ts.length+2+1)*57<=70368744177664)) (aW (decide ((a.ts.length+2+
 List.length (ag e)+1)*57<=70368744177664)) (∃(e0:Nat),e0<n/\I e0 (sp 46 [(2,AV.ptr 2 0 [] 0),(3,AV.ak 3 0 (a.ts.length+2+List.length (ag
 e))),(14,AV.ah 80 a.bl),(15,b (↑(a.bl.length):Int)),(16,b (IntKind.wrap IntKind.i64 (a.i+(1:Int))))] [Obj.ext (some a.xs),c 48 (au
 a.r),c 186 (AV.cf 0),Obj.row 38 (List.take (a.ts.length+2) (List.take a.ts.length a.ts++[AV.agg [b (toInt (af (af d 2) 0)),AV.str (toStr (af
 (af d 2) 1)),b (toInt (af (af d 2) 2)),AV.ah 38 (ag (af (af d 2) 3))],AV.agg [b (toInt (af (af d 3) 0)),AV.str (toStr (af (af d 3) 1)),
 b (toInt (af (af d 3) 2)),AV.ah 38 (ag (af (af d 3) 3))]])++ag e)]))))) (K (Exit.exit 0) (sp 46 [(2,AV.ptr 2 0 [] 0),(3,AV.ak 3 0 a.ts.length)]
 [Obj.ext (some a.xs),c 48 (au a.r),c 186 (AV.cf 0),Obj.row 38 a.ts]))):=by kernel_rfl
def dH(l:List _):=l.flatMap fun a=>[qx 38 (af a 2),qx 38 (af a 3)]++ag (af (af a 1) 1)
def HH(a:Jc):=a.bl.length<=aU/\0<=a.i/\a.i<=a.bl.length/\(a.ts++dH (a.bl.drop a.i.toNat)).length<=100000
def Bq(a:Jc):Out (Exit×S):= .one (.exit 0,sp 46 [(2, .ptr 2 0 [] 0),(3, .ak 3 0 (a.ts++dH (a.bl.drop a.i.toNat)).length)] [.ext (some a.xs), .box 48 (au a.r), .box 186 (.cf 0), .row 38 (a.ts++dH (a.bl.drop a.i.toNat))])
theorem FI l i(h:i<l.length):dH (l.drop i)=[qx 38 (af (nth l i) 2),qx 38 (af (nth l i) 3)]++ag (af (af (nth l i) 1) 1)++dH (l.drop (i+1)):=by
 rw[ao3 h,aX l i h];rfl
theorem aj1 κ:aR (NL κ) 12 185 3 (aG 2 H2 HH Bq):=by
 refine aD (fun a=>a.bl.length - a.i.toNat) ?_;rintro⟨xs,more,r,bl,ts,i⟩ K ⟨h1,h2,h3,h4⟩ ho;simp only at h1 h2 h3 h4;rw[show(NL κ).P=Pr κ from rfl];refine Eq.mpr (af0 κ ⟨xs,more,r,bl,ts,i⟩ _ _ K) ?_;simp only;simp only[Bq,Out.run] at ho;simp only[aU] at h1;simp only[ae,ai,an2,an4,an3];refine⟨fun hi=>⟨⟨h2,hi⟩,?_⟩,fun hi=>?_⟩
 ·have hp:=FI bl i.toNat (by omega)
  rw[hp] at h4 ho;rw[az (n:=i+1) (by omega) (by omega)];simp only[ao7,List.length_cons,List.length_nil] at h4;refine⟨by omega,by omega,_,?_,⟨xs,more,r,bl,ts++([qx 38 (af (nth bl i.toNat) 2),qx 38 (af (nth bl i.toNat) 3)]++ag (af (af (nth bl i.toNat) 1) 1)),i+1⟩,?_,⟨by simpa[aU] using h1,by simp only;omega,by simp only;omega,?_⟩,rfl,?_⟩
  ·simp only;omega
  ·simp only[H2,ao7,List.length_cons,List.length_nil,List.take_length]
   rw[List.take_of_length_le (by simp),show ts.length+2+(ag (af (af (nth bl i.toNat) 1) 1)).length=ts.length+(0+1+1+(ag (af (af (nth bl i.toNat) 1) 1)).length) by omega,List.append_assoc];rfl
  ·simp only[ao7,List.length_cons,List.length_nil,show(i+1).toNat=i.toNat+1 by omega];omega
  ·simp only[Bq,Out.run,show(i+1).toNat=i.toNat+1 by omega]
   simpa only[List.append_assoc] using ho
 ·rw[ao0 (by omega)] at ho
  simpa[dH] using ho
noncomputable def Fy κ:=(NL κ).an 185 3 (aG 2 H2 HH Bq)
theorem ah1 κ:aE (Fy κ):=(e56 _).an (m56 _) (aj1 _)
theorem Zl κ:aj (Fy κ):=(m56 _).an aI
noncomputable abbrev ZT(a:Jc)(κ:Kp)(st:LoopState)(p:Option Code):Dn.Obj:=
 .loop (iO (Pr κ).toProgram 185 11 st p (ik (bO 46) [(2, .ptr 2 0 [] 0),(7, .ptr 4 0 [] 0),(32, .ak 3 0 a.ts.length),(33, .int a.ts.length),(34, .int a.i),(35, .bool true),
  (36, .ptr 3 (0+a.i.toNat) [] 0),(37,GS a),(38,GS a),(39, .bm 198 [.ptr 5 0 [] 0])]))
noncomputable abbrev sl κ a:=[.ext (some a.xs), .box 48 (au a.r), .box 186 (.cf 0), .row 38 a.ts, .box 38 (GS a), .box 38 (GS a),ZT a κ .ready none]
noncomputable abbrev AY κ a o st p:=[.ext o, .box 48 (au a.r), .box 186 (.cf 0), .row 38 a.ts, .box 38 (GS a), .dead,ZT a κ st p]
theorem s42 κ a Q:(tidy (Pr κ).toProgram 7 (dy (sl κ a) (b8 (sl κ a) [.ptr 5 0 [] 0])) Q)=(
 letI b:=AV.int
 letI c:=nth a.ts (0+a.i.toNat)
 letI d:=toInt (af c 0)
 letI e:=toStr (af c 1)
 letI f:=toInt (af c 2)
 letI g:=ag (af c 3)
 Q [Obj.ext (some a.xs),Obj.box 48 (au a.r),Obj.box 186 (AV.cf 0),Obj.row 38 a.ts,Obj.box 38 (AV.agg [b d,AV.str e,b f,AV.ah 38 g]),
 Obj.dead,Dn.Obj.loop (iO Tryz.prog 185 11 LoopState.ready none (ik (bO 46) [(2,AV.ptr 2 0 [] 0),(7,AV.ptr 4 0 [] 0),(32,AV.ak 3 0 a.ts.length),(33,
 b (↑(a.ts.length):Int)),(34,b a.i),(35,AV.bool true),(36,AV.ptr 3 (0+a.i.toNat) [] 0),(37,AV.agg [b d,AV.str e,b f,AV.ah
 38 g]),(38,AV.agg [b d,AV.str e,b f,AV.ah 38 g]),(39,AV.bm 198 [AV.ptr 5 0 [] 0])]))]):=by kernel_rfl
theorem r42 κ a o u Q(K2:List Dn.Obj->Prop):(gu (vc (Fy κ) 12) 6 [qx 38 u] (AY κ a (some o) .ready none) (fun r st''=>match r with| .lit (.bool true)=>tidy (Pr κ).toProgram 7 st'' Q| .lit (.bool false)=>K2 st''|_=>False))=(
 letI b:=AV.int
 letI c:=AV.agg
 letI d:=AV.str
 letI e:=Obj.box
 letI f:=nth a.ts (0+a.i.toNat)
 letI g:=toInt (af f 0)
 letI h:=toStr (af f 1)
 letI i:=toInt (af f 2)
 letI j:=ag (af f 3)
 letI k:=c [b g,d h,b i,AV.ah 38 j]
 letI l:=ik (bO 46) [(2,AV.ptr 2 0 [] 0),(7,AV.ptr 4 0 [] 0),(32,AV.ak 3 0 a.ts.length),(33,b (↑(a.ts.length):Int)),(34,b a.i),(35,
  AV.bool true),(36,AV.ptr 3 (0+a.i.toNat) [] 0),(37,c [b g,d h,b i,AV.ah 38 j]),(38,c [b g,d h,b i,
  AV.ah 38 j]),(39,AV.bm 198 [AV.ptr 5 0 [] 0])]
 ∃(e0:List AV),o=AV.aJ [c [b (toInt (af u 0)),d (toStr (af u 1)),b (toInt (af u 2)),AV.ah 38 (ag (af u 3))]]::e0/\Q [Obj.ext
 (some e0),e 48 (au a.r),e 186 (AV.cf 0),Obj.row 38 a.ts,e 38 k,Obj.dead,Dn.Obj.loop (iO Tryz.prog 185 11 LoopState.ready none l)]/\K2
 [Obj.ext none,e 48 (au a.r),e 186 (AV.cf 0),Obj.row 38 a.ts,e 38 k,Obj.dead,Dn.Obj.loop (iO Tryz.prog 185 11 LoopState.done (some
 Code.ret) l),e 38 (c [b (toInt (af u 0)),d (toStr (af u 1)),b (toInt (af u 2)),AV.ah 38 (ag (af u 3))])]):=by kernel_rfl
theorem k42 κ a xs:(AV.cf 0::fP (iW (b8 (sl κ a) [.ptr 5 0 [] 0])) [.ptr 5 0 [] 0],Obj.ext (some xs)::gx (iW (b8 (sl κ a) [.ptr 5 0 [] 0])) (gz (sl κ a) (b8 (sl κ a) [.ptr 5 0 [] 0])))=([.cf 0, .ptr 1 0 [] 0],[.ext (some xs), .box 38 (GS a)]):=by kernel_rfl
theorem o42 κ a:my (sl κ a) [.ptr 5 0 [] 0]=true:=by kernel_rfl
noncomputable def Ow(κ:Kp):eH:=fun caps st K=>∃a,(caps,st)=([AV.ptr 5 0 [] 0],sl κ a)/\((cE (nth a.ts a.i.toNat)).mS<=100000/\a.xs=qh 38 (nth a.ts a.i.toNat)++a.more)/\
 K (AY κ a (some a.more) .ready none)/\∀u,K (AY κ a none .done (some .ret)++[.box 38 (qx 38 u)])
theorem FX κ:(Ow κ).gw:=by
 rintro caps st K K' hK ⟨a,h1,h2,h3,h4⟩;exact⟨a,h1,h2,hK _ h3,by grind⟩
theorem call42 κ args st K(h:aO Qo B5 Ig args st K):(Fy κ).call 198 args st K:=h
theorem ag7 κ:jb (Fy κ) 12 198 (Ow κ):=by
 rintro caps st K ⟨a,h1,⟨h3,h4⟩,h5,h6⟩;obtain⟨rfl,rfl⟩:=Prod.mk.inj h1;refine⟨qh 38 (nth a.ts a.i.toNat),fun items st'=>(∀x,x∈items->th 38 x)/\st'=AY κ a (some (items++a.more)) .ready none,⟨o42 κ a,?_,?_,?_,?_⟩⟩
 ·refine call42 κ _ _ _ ⟨nth a.ts a.i.toNat,?_,h3,fun st' h=>h⟩
  rw[k42,GS,Nat.zero_add];rfl
 ·rw[show(Fy κ).P=Pr κ from rfl,show(sl κ a).length=7 from rfl,s42]
  exact⟨nh _ _ _ (Nat.lt_succ_self _),by rw[h4];rfl⟩
 ·rintro us rest st' ⟨e1,rfl⟩
  obtain⟨u,hu⟩:=e1 (.aJ us) (by simp);obtain rfl:=AV.aJ.inj hu;refine Eq.mpr (r42 κ a _ u _ _) ?_;exact⟨_,rfl,⟨fun x hx=>e1 x (by simp[hx]),rfl⟩,h6 u⟩
 ·rintro st' ⟨_,rfl⟩
  exact h5
noncomputable def xR κ:=((Fy κ).addRange 185 11 198 (Ow κ)).cO fun f=>iS f Rq
theorem al9 κ:aE (xR κ):=((ah1 _).addRange (Zl _) (ag7 _)).cO _
theorem ZO κ:aj (xR κ):=((Zl _).addRange (FX _)).cO _
abbrev Hw(a:Jc):=sp 46 [(2, .ptr 2 0 [] 0),(32, .ak 3 0 a.ts.length),(33, .int a.ts.length),(34, .int a.i)] [.ext (some a.xs), .box 48 (au a.r), .box 186 (.cf 0), .row 38 a.ts]
theorem ag2 κ a I n K:(vc (xR κ) 12 185 none 2 (ad (Pr κ).toProgram 185 8) (Hw a) (bh (xR κ) 185 8 2 I n K))=(
 letI b:=AV.int
 letI c:=AV.ptr
 letI d:=AV.agg
 letI e:=Obj.box
 letI f:=Obj.ext
 letI g:=nth a.ts (0+a.i.toNat)
 letI h:=a.ts.length
 letI k:=toInt (af g 0)
 letI l:=toStr (af g 1)
 letI m:=toInt (af g 2)
 letI o:=ag (af g 3)
 letI p:=d [b k,AV.str l,b m,AV.ah 38 o]
 aq (decide (a.i<(↑h:Int))) (aW (decide ((0:Int)<=a.i)&&decide (a.i<(↑h:Int))) (∃(e1:Jc),letI i:=nth e1.ts (0+e1.i.toNat);letI j:=[b (toInt (af i 0)),AV.str (toStr (af i 1)),b (toInt (af i 2)),AV.ah 38 (ag (af i 3))];([c 5 0 [] 0],[f (some a.xs),e 48 (au a.r),e 186 (AV.cf 0),Obj.row 38 a.ts,e 38 p,e 38 p,Dn.Obj.loop (iO Tryz.prog 185 11 LoopState.ready none (ik (bO 46) [(2,c 2 0 [] 0),(7,c 4 0 [] 0),(32,AV.ak 3 0 a.ts.length),(33,b (↑h:Int)),(34,b a.i),(35,AV.bool true),(36,c 3 (0+a.i.toNat) [] 0),(37,d [b k,AV.str l,b m,AV.ah 38 o]),(38,d [b k,AV.str l,b m,AV.ah 38 o]),(39,AV.bm 198 [c 5 0 [] 0])]))])=([c 5 0 [] 0],[f (some e1.xs),e 48 (au e1.r),e 186 (AV.cf 0),Obj.row 38 e1.ts,e 38 (d j),e 38 (d j),Dn.Obj.loop (iO Tryz.prog 185 11 LoopState.ready none (ik (bO 46) [(2,c 2 0 [] 0),(7,c 4 0 [] 0),(32,AV.ak 3 0 e1.ts.length),(33,b (↑(e1.ts.length):Int)),(34,b e1.i),(35,AV.bool true),(36,c 3 (0+e1.i.toNat) [] 0),(37,d j),(38,d j),(39,AV.bm 198 [c 5 0 [] 0])]))])/\(Tm.mS (cE (nth e1.ts e1.i.toNat))<=100000/\e1.xs=qh 38 (nth e1.ts e1.i.toNat)++e1.more)/\(∃(e0:Nat),e0<n/\I e0 (sp 46 [(2,c 2 0 [] 0),(32,AV.ak 3 0 a.ts.length),(33,b (↑h:Int)),(34,b (IntKind.wrap IntKind.i64 (a.i+(1:Int))))] [f (some e1.more),e 48 (au e1.r),e 186 (AV.cf 0),Obj.row 38 e1.ts]))/\∀(_e0:AV),K Exit.ret (sp 46 [] [f none,e 48 (au e1.r)]))) (K (Exit.exit 2) (sp 46 [] [f (some a.xs),e 48 (au a.r)]))):=by kernel_rfl
def BK(a:Jc):=a.ts.length<=aU/\0<=a.i/\a.i<=a.ts.length/\bj (aa (a.ts.drop a.i.toNat))<=100000/\a.xs=fM 38 (a.ts.drop a.i.toNat)
def Mr(a:Jc):Out (Exit×S):= .all (fun _=>True) fun b=> .aq b (.one (.exit 2,sp 46 [] [.ext (some []), .box 48 (au a.r)])) (.one (.ret,sp 46 [] [.ext none, .box 48 (au a.r)]))
theorem ai1 κ:aR (xR κ) 12 185 8 (aG 2 Hw BK Mr):=by
 refine aD (fun a=>a.ts.length - a.i.toNat) ?_;rintro⟨xs,more,r,bl,m,i⟩ K ⟨h1,h2,h3,h5,h6⟩ ho;simp only at h1 h2 h3 h5 h6;rw[show(xR κ).P=Pr κ from rfl];refine Eq.mpr (ag2 κ ⟨xs,more,r,bl,m,i⟩ _ _ K) ?_;have ho1:=ho true trivial;have ho2:=ho false trivial;simp only[Out.run,aq] at ho1 ho2;simp only[aU] at h1;simp only[ae,ai,an2,an4,an3];refine⟨fun hi=>⟨⟨h2,hi⟩,?_⟩,fun hi=>?_⟩
 ·have hc:=vV m i.toNat (by omega)
  rw[x5 _ m i.toNat (by omega)] at h6;rw[az (n:=i+1) (by omega) (by omega)];refine⟨⟨xs,fM 38 (m.drop (i.toNat+1)),r,bl,m,i⟩,rfl,⟨by simp only;omega,h6⟩,⟨_,?_,⟨_,more,r,bl,m,i+1⟩,rfl,⟨by simpa[aU] using h1,by simp only;omega,by simp only;omega,?_,?_⟩,rfl,ho⟩,fun _=>ho2⟩
  ·simp only;omega
  ·grind
  ·simp only[show(i+1).toNat=i.toNat+1 by omega]
 ·rw[ao0 (by omega)] at h6
  subst h6;exact ho1
noncomputable def L3 κ:=(xR κ).an 185 8 (aG 2 Hw BK Mr)
theorem ad1 κ:aE (L3 κ):=(al9 _).an (ZO _) (ai1 _)
theorem YA κ:aj (L3 κ):=(ZO _).an aI
theorem y42 κ a K:(a7 (L3 κ) 12 185 [.cf 0, .ptr 1 0 [] 0] [.ext (some a.xs), .box 48 (au a)] K)=(
 letI b:=AV.int
 letI c:=AV.ptr
 letI d:=Obj.box
 letI e:=Obj.row
 letI f:=Obj.ext
 letI g:=AV.ak
 letI h:=AV.cf
 letI i:=Pg.toProgram (Env.P (NL κ))
 letI j:=Pg.toProgram (Env.P (xR κ))
 (LB a.hl=true->ad i 185 3=ad i 185 3/\∃(e2:Jc),letI k:=e2.ts++dH (List.drop e2.i.toNat e2.bl);sp 46 [(2,c 2 0 [] 0),(3,g 3 0 0),(14,AV.ah 80 a.bl),(15,b (↑(a.bl.length):Int)),(16,b 0)] [f (some a.xs),d 48 (au a),d 186 (h 0),e 38 []]=sp 46 [(2,c 2 0 [] 0),(3,g 3 0 e2.ts.length),(14,AV.ah 80 e2.bl),(15,b (↑(e2.bl.length):Int)),(16,b e2.i)] [f (some e2.xs),d 48 (au e2.r),d 186 (h 0),e 38 e2.ts]/\(e2.bl.length<=9223372036854775807/\(0:Int)<=e2.i/\e2.i<=(↑(e2.bl.length):Int)/\List.length k<=100000)/\ad j 185 8=ad j 185 8/\∃(e1:Jc),letI m:=List.drop e1.i.toNat e1.ts;sp 46 [(2,c 2 0 [] 0),(32,g 3 0 (List.length k)),(33,b (↑(List.length k):Int)),(34,b 0)] [f (some e2.xs),d 48 (au e2.r),d 186 (h 0),e 38 k]=sp 46 [(2,c 2 0 [] 0),(32,g 3 0 e1.ts.length),(33,b (↑(e1.ts.length):Int)),(34,b e1.i)] [f (some e1.xs),d 48 (au e1.r),d 186 (h 0),e 38 e1.ts]/\(e1.ts.length<=9223372036854775807/\(0:Int)<=e1.i/\e1.i<=(↑(e1.ts.length):Int)/\bj (aa m)<=100000/\e1.xs=fM 38 m)/\∀(e0:Bool),True->aq e0 (K (AV.aJ []) [f (some []),d 48 (au e1.r)]) (K (AV.aJ []) [f none,d 48 (au e1.r)]))/\aW (decide ((0+a.hl.length+1)*57<=70368744177664)) (ad i 185 3=ad i 185 3/\∃(e2:Jc),letI l:=e2.ts++dH (List.drop e2.i.toNat e2.bl);sp 46 [(2,c 2 0 [] 0),(3,g 3 0 (0+a.hl.length)),(14,AV.ah 80 a.bl),(15,b (↑(a.bl.length):Int)),(16,b 0)] [f (some a.xs),d 48 (au a),d 186 (h 0),e 38 ([]++a.hl)]=sp 46 [(2,c 2 0 [] 0),(3,g 3 0 e2.ts.length),(14,AV.ah 80 e2.bl),(15,b (↑(e2.bl.length):Int)),(16,b e2.i)] [f (some e2.xs),d 48 (au e2.r),d 186 (h 0),e 38 e2.ts]/\(e2.bl.length<=9223372036854775807/\(0:Int)<=e2.i/\e2.i<=(↑(e2.bl.length):Int)/\List.length l<=100000)/\ad j 185 8=ad j 185 8/\∃(e1:Jc),letI n:=List.drop e1.i.toNat e1.ts;sp 46 [(2,c 2 0 [] 0),(32,g 3 0 (List.length l)),(33,b (↑(List.length l):Int)),(34,b 0)] [f (some e2.xs),d 48 (au e2.r),d 186 (h 0),e 38 l]=sp 46 [(2,c 2 0 [] 0),(32,g 3 0 e1.ts.length),(33,b (↑(e1.ts.length):Int)),(34,b e1.i)] [f (some e1.xs),d 48 (au e1.r),d 186 (h 0),e 38 e1.ts]/\(e1.ts.length<=9223372036854775807/\(0:Int)<=e1.i/\e1.i<=(↑(e1.ts.length):Int)/\bj (aa n)<=100000/\e1.xs=fM 38 n)/\∀(e0:Bool),True->aq e0 (K (AV.aJ []) [f (some []),d 48 (au e1.r)]) (K (AV.aJ []) [f none,d 48 (au e1.r)]))):=by kernel_rfl
def Vy(a:dh):List AV×List Dn.Obj:=([.cf 0, .ptr 1 0 [] 0],[.ext (some (fM 38 (bn 38 a.hl a.bl))), .box 48 (au a)])
def c9(a:dh):=bj (aa (bn 38 a.hl a.bl))<=100000/\a.bl.length<=100000
def LC(_:dh):Out (AV×List Dn.Obj):= .all (fun st'=>sv st') fun st'=> .one (.aJ [],st')
theorem c42 κ:bg (L3 κ) 12 185 (aO Vy c9 LC):=by
 refine aQ ?_;rintro⟨xs,more,rel,hl,bl,line,i⟩ K ⟨h1,h2⟩ ho;have hn: ∀b,K (.aJ []) [.ext none,b]:=fun b=>ho _ trivial
 have h0: ∀b,K (.aJ []) [.ext (some []),b]:=fun b=>ho _ trivial
 simp only at h1 h2;have hl1:=gI (aa (bn 38 hl bl));rw[er] at hl1;have hle:hl.length<=100000:=by
  have:(bn 38 hl bl).length=hl.length+(dH bl).length:=by simp[bn,dH]
  omega
 refine Eq.mpr (y42 κ ⟨fM 38 (bn 38 hl bl),more,rel,hl,bl,line,i⟩ K) ?_;have hz: ∀ts:List AV,ts=hl->(ts++dH (List.drop (Int.toNat 0) bl))=bn 38 hl bl:=fun ts h=>by subst h;rfl
 have fin: ∀ts:List AV,ts=hl->∃a:Jc,sp 46 [(2, .ptr 2 0 [] 0),(32, .ak 3 0 (ts++dH (List.drop (Int.toNat 0) bl)).length),(33, .int (ts++dH (List.drop (Int.toNat 0) bl)).length),(34, .int 0)] [.ext (some (fM 38 (bn 38 hl bl))), .box 48 (au ⟨fM 38 (bn 38 hl bl),more,rel,hl,bl,line,i⟩), .box 186 (.cf 0), .row 38 (ts++dH (List.drop (Int.toNat 0) bl))]=Hw a/\BK a/\∀y:Bool,True->aq y (K (.aJ []) [.ext (some []), .box 48 (au a.r)]) (K (.aJ []) [.ext none, .box 48 (au a.r)]):=by
  intro ts h;refine⟨⟨_,[],⟨fM 38 (bn 38 hl bl),more,rel,hl,bl,line,i⟩,bl,ts++dH (List.drop (Int.toNat 0) bl),0⟩,rfl,⟨?_,?_,?_,?_,?_⟩,fun y _=>?_⟩
  ·simp only[hz ts h,aU];omega
  ·simp only;omega
  ·simp only;omega
  ·show bj (aa (List.drop (Int.toNat 0) (ts++dH (List.drop (Int.toNat 0) bl))))<=100000
   rw[hz ts h];exact h1
  ·rw[hz ts h];rfl
  ·cases y
   ·exact hn _
   ·exact h0 _
 refine⟨fun e=>?_,?_⟩
 ·obtain rfl:hl=[]:=by
   cases hl with
   |nil=>rfl
   |cons=>cases e
  refine⟨rfl,⟨_,[],⟨fM 38 (bn 38 [] bl),more,rel,[],bl,line,i⟩,bl,[],0⟩,rfl,⟨by simp only;omega,by simp only;omega,by simp only;omega,?_⟩,rfl,fin [] rfl⟩;rw[hz [] rfl];exact Nat.le_trans hl1 h1
 ·rw[ai,an2]
  refine⟨by simp only;omega,rfl,⟨_,[],⟨fM 38 (bn 38 hl bl),more,rel,hl,bl,line,i⟩,bl,[]++hl,0⟩,?_,⟨by simp only;omega,by simp only;omega,by simp only;omega,?_⟩,rfl,fin ([]++hl) rfl⟩
  ·rw[Nat.zero_add];rfl
  ·rw[hz ([]++hl) rfl];exact Nat.le_trans hl1 h1
set_option maxRecDepth 20000 in
noncomputable def S1(κ:Kp):Env:=(L3 κ).aw 185 (aO Vy c9 LC)
theorem e42 κ:aE (S1 κ):=(ad1 _).aw (YA _) (c42 _)
theorem m42 κ:aj (S1 κ):=(YA _).aw aH
def aM(a:dh):Rl:=⟨⟨a.rel,aa a.hl⟩,dv a.bl⟩
noncomputable abbrev YY(a:dh)(κ:Kp)(st:LoopState)(p:Option Code):Dn.Obj:=
 .loop (iO (Pr κ).toProgram 115 6 st p (ik (bO 31) [(0,au a),(1, .ptr 0 0 [] 0),(2, .nil),(3, .ptr 1 0 [] 0),(4, .ptr 3 0 [] 0),(6,au a),(7, .bool (a9 (aM a))),(8, .bool false),(9, .mp 2),(10,au a),(11, .bm 185 [.ptr 4 0 [] 0])]))
noncomputable abbrev qo κ a:=[.box 48 (au a), .box 36 .nil, .map 9 4 [], .box 177 (.mp 2), .box 48 (au a),YY a κ .ready none]
theorem s12 κ a Q:(tidy (Pr κ).toProgram 6 (dy (qo κ a) (b8 (qo κ a) [.ptr 4 0 [] 0])) Q)=(
 Q [Obj.box 48 (au a),Obj.box 36 (AV.ak 6 0 0),Dn.Obj.map 9 4 [],Obj.box 177 (AV.mp 2),Obj.dead,Dn.Obj.loop (iO Tryz.prog 115 6 LoopState.ready none (ik (bO
 31) [(0,au a),(1,AV.ptr 0 0 [] 0),(2,AV.nil),(3,AV.ptr 1 0 [] 0),(4,AV.ptr 3 0 [] 0),(6,au a),(7,AV.bool (a9 (aM a))),(8,AV.bool false),(9,
 AV.mp 2),(10,au a),(11,AV.bm 185 [AV.ptr 4 0 [] 0])])),Obj.row 9 []]):=by kernel_rfl
noncomputable abbrev Bp κ a vs es:=[.box 48 (au a), .box 36 (.ak 6 0 vs.length), .map 9 4 es, .box 177 (.mp 2), .dead,YY a κ .ready none, .row 9 (strs vs)]
theorem r12 κ a vs es u Q(K2:List Dn.Obj->Prop):(gu (vc (S1 κ) 12) 5 [qx 38 u] (Bp κ a vs es) (fun r st''=>match r with| .lit (.bool true)=>tidy (Pr κ).toProgram 6 st'' Q| .lit (.bool false)=>K2 st''|_=>False))=(
 letI b:=AV.bool
 letI c:=Obj.box
 letI d:=iO Tryz.prog 115 6 LoopState.ready none (ik (bO 31) [(0,au a),(1,AV.ptr 0 0 [] 0),(2,AV.nil),(3,AV.ptr 1 0 [] 0),(4,AV.ptr 3 0 [] 0),(6,au
  a),(7,b (a9 (aM a))),(8,b false),(9,AV.mp 2),(10,au a),(11,AV.bm 185 [AV.ptr 4 0 [] 0])])
 letI e:=Q [c 48 (au a),c 36 (AV.ak 6 0 vs.length),Dn.Obj.map 9 4 es,c 177 (AV.mp 2),Obj.dead,Dn.Obj.loop d,Obj.row 9 (strs vs)]
 letI f:=Value.string (toStr (af u 1))
 aq (toInt (af u 0) != (1:Int)) e (aq (Dn.toBool (cV es f (b false))) e (aW (decide ((vs.length+1+1)*17<=70368744177664)) (Q [c 48 (au
 a),c 36 (AV.ak 6 0 (vs.length+1)),Dn.Obj.map 9 4 (eC es f (b true)),c 177 (AV.mp 2),Obj.dead,Dn.Obj.loop d,Obj.row 9 (List.take
 vs.length (strs vs)++[AV.str (toStr (af u 1))])])))):=by kernel_rfl
theorem k12 κ a xs:(AV.cf 0::fP (iW (b8 (qo κ a) [.ptr 4 0 [] 0])) [.ptr 4 0 [] 0],Obj.ext (some xs)::gx (iW (b8 (qo κ a) [.ptr 4 0 [] 0])) (gz (qo κ a) (b8 (qo κ a) [.ptr 4 0 [] 0])))=([.cf 0, .ptr 1 0 [] 0],[.ext (some xs), .box 48 (au a)]):=by kernel_rfl
theorem o12 κ a:my (qo κ a) [.ptr 4 0 [] 0]=true:=by kernel_rfl
noncomputable def Lx(κ:Kp):eH:=fun caps st K=>∃a,(caps,st)=([AV.ptr 4 0 [] 0],qo κ a)/\c9 a/\K (Bp κ a (ng [] (fB (aM a))) (bU (ng [] (fB (aM a)))))
theorem F0 κ:(Lx κ).gw:=by
 rintro caps st K K' hK ⟨a,h1,h2,h3⟩;exact⟨a,h1,h2,hK _ h3⟩
theorem call12 κ args st K(h:aO Vy c9 LC args st K):(S1 κ).call 185 args st K:=h
theorem al2 κ:jb (S1 κ) 12 185 (Lx κ):=by
 rintro caps st K ⟨a,h1,h3,h5⟩;obtain⟨rfl,rfl⟩:=Prod.mk.inj h1;have hv:=iM 38 a.rel a.hl a.bl;rw[←uz 38] at hv;have hb:(fB (aM a)).length<=100000:=by
  have h6:=cF (aa (bn 38 a.hl a.bl));rw[iM 38 a.rel a.hl a.bl] at h6;exact Nat.le_trans h6 h3.1
 have hd:=kM (fB (aM a)) [];refine⟨fM 38 (bn 38 a.hl a.bl),fun items st'=>∃vs,(∀x,x∈items->th 38 x)/\st'=Bp κ a vs (bU vs)/\vs++ng vs (items.flatMap y3)=ng [] (fB (aM a)),⟨o12 κ a,?_,?_,?_,?_⟩⟩
 ·refine call12 κ _ _ _ ⟨a,?_,h3,fun st' h=>h⟩
  rw[k12];rfl
 ·rw[show(S1 κ).P=Pr κ from rfl,show(qo κ a).length=6 from rfl,s12]
  exact⟨[],CH _ _,rfl,by rw[hv];rfl⟩
 ·rintro us rest st' ⟨vs,e1,rfl,e3⟩
  obtain⟨u,hu⟩:=e1 (.aJ us) (by simp);obtain rfl:=AV.aJ.inj hu;rw[show(S1 κ).P=Pr κ from rfl,show(qo κ a).length=6 from rfl];refine Eq.mpr (r12 κ a vs _ u _ _) ?_;have e1': ∀x,x∈rest->th 38 x:=fun x hx=>e1 x (by simp[hx])
  have hi:y3 (.aJ [qx 38 u])=bif decide (toInt (af u 0)=1) then[toStr (af u 1)] else[]:=rfl
  rw[List.flatMap_cons,hi] at e3;have hin:Dn.toBool (cV (bU vs) (.string (toStr (af u 1))) (.lit (.bool false)))=vs.contains (toStr (af u 1)):=pW _ _;rw[hin];simp only[ae,ai,bne_iff_ne,bne_eq_false_iff_eq,an2];refine⟨fun e=>⟨vs,e1',rfl,?_⟩,fun e=>⟨fun e4=>⟨vs,e1',rfl,?_⟩,fun e4=>⟨?_,vs++[toStr (af u 1)],e1',?_,?_⟩⟩⟩
  ·rw[an6 e] at e3;exact e3
  ·rw[an8 e,an9,List.singleton_append,ng,e4] at e3;exact e3
  ·have:=congrArg List.length e3
   rw[ao7] at this;omega
  ·rw[Rg,←bc vs,List.take_length]
   simp only[Bp,iY,bc,ao7,List.length_cons,List.length_nil];rfl
  ·rw[an8 e,an9,List.singleton_append,ng,e4,an7] at e3
   simpa using e3
 ·rintro st' ⟨vs,_,rfl,e3⟩
  have e4:vs=ng [] (fB (aM a)):=by simpa[ng] using e3
  rw[e4];exact h5
noncomputable def Pb κ:=((S1 κ).addRange 115 6 185 (Lx κ)).cO fun f=>iS f Rq
theorem ai5 κ:aE (Pb κ):=((e42 _).addRange (m42 _) (al2 _)).cO _
theorem XB κ:aj (Pb κ):=((m42 _).addRange (F0 _)).cO _
theorem y12 κ a K:(a7 (Pb κ) 12 115 [au a] [] K)=(
 letI b:=AV.int
 letI c:=AV.ptr
 letI d:=AV.agg
 letI e:=AV.str
 letI f:=Obj.box
 letI g:=AV.ah
 letI h:=AV.nil
 letI j:=d [d [e a.rel,g 38 a.hl],g 80 a.bl,b a.line]
 aW (decide (a.hl.length<=9223372036854775807)&&decide (a.bl.length<=9223372036854775807)) (aq (!a9 {head:={rel:=a.rel,l:=aa a.hl},body:=dv a.bl}) (K h []) (∃(e0:dh),letI i:=[d [e e0.rel,g 38 e0.hl],g 80 e0.bl,b e0.line];([c 4 0 [] 0],[f 48 j,f 36 h,Dn.Obj.map 9 4 [],f 177 (AV.mp 2),f 48 j,Dn.Obj.loop (iO Tryz.prog 115 6 LoopState.ready none (ik (bO 31) [(0,d [d [e a.rel,g 38 a.hl],g 80 a.bl,b a.line]),(1,c 0 0 [] 0),(2,h),(3,c 1 0 [] 0),(4,c 3 0 [] 0),(6,d [d [e a.rel,g 38 a.hl],g 80 a.bl,b a.line]),(7,AV.lit (Value.bool (a9 {head:={rel:=a.rel,l:=aa a.hl},body:=dv a.bl}))),(8,AV.bool false),(9,AV.mp 2),(10,d [d [e a.rel,g 38 a.hl],g 80 a.bl,b a.line]),(11,AV.bm 185 [c 4 0 [] 0])]))])=([c 4 0 [] 0],[f 48 (d i),f 36 h,Dn.Obj.map 9 4 [],f 177 (AV.mp 2),f 48 (d i),Dn.Obj.loop (iO Tryz.prog 115 6 LoopState.ready none (ik (bO 31) [(0,d i),(1,c 0 0 [] 0),(2,h),(3,c 1 0 [] 0),(4,c 3 0 [] 0),(6,d i),(7,AV.bool (a9 (aM e0))),(8,AV.bool false),(9,AV.mp 2),(10,d i),(11,AV.bm 185 [c 4 0 [] 0])]))])/\(bj (aa (bn 38 e0.hl e0.bl))<=100000/\e0.bl.length<=100000)/\K (AV.ak 0 0 (List.length (ng [] (fB (aM e0))))) [Obj.row 9 (strs (ng [] (fB (aM e0))))]))):=by kernel_rfl
def ab4(a:dh):List AV×List Dn.Obj:=([au a],[])
def Nb a:=a9 (aM a)=true/\c9 a
def Py(a:dh):Out (AV×List Dn.Obj):= .one (.ak 0 0 (de (aM a)).length,[.row 9 (strs (de (aM a)))])
theorem c12 κ:bg (Pb κ) 12 115 (aO ab4 Nb Py):=by
 refine aQ ?_;rintro⟨xs,more,rel,hl,bl,line,i⟩ K ⟨h0,h1,h2⟩ ho;refine Eq.mpr (y12 κ ⟨xs,more,rel,hl,bl,line,i⟩ K) ?_;have hr:a9 ⟨⟨rel,aa hl⟩,dv bl⟩=true:=h0;simp only at h1 h2;have hl1:=gI (aa (bn 38 hl bl));rw[er] at hl1;have hle:hl.length<=100000:=by
  grind [bn,dH]
 simp only[hr,ai,ae,an3,an2];refine⟨⟨by omega,by omega⟩,(fun e=>nomatch e),fun _=>⟨⟨xs,more,rel,hl,bl,line,i⟩,?_,⟨h1,h2⟩,?_⟩⟩
 ·grind
 ·simp only[Py,Out.run,de,h0,an9] at ho
  exact ho
set_option maxRecDepth 20000 in
noncomputable def Ox(κ:Kp):Env:=(Pb κ).aw 115 (aO ab4 Nb Py)
theorem e12 κ:aE (Ox κ):=(ai5 _).aw (XB _) (c12 _)
theorem m12 κ:aj (Ox κ):=(XB _).aw aH
theorem oF: ∀l m,bj (l++m)=bj l+bj m
 |[],m=>by simp[bj]
 |t::l,m=>by simp[bj,oF l m];omega
theorem pM{a}(h:c9 a):bj (aa a.hl)<=100000:=by
 have:=h.1
 unfold bn aa at this;rw[List.map_append,oF] at this
 grind [aa]
theorem Ix: ∀l x,x∈l->jZ (cX x)<=bj (aa (dH l))
 |[],_,h=>by grind
 | y::l,x,h=>by
  have e:bj (aa (dH (y::l)))=jZ (cX y)+bj (aa (dH l)):=by
   unfold dH aa;rw[List.flatMap_cons,List.map_append,oF,List.map_append,oF];simp[jZ,cX,PK,aa,List.map_nil,sM]
  rcases List.mem_cons.1 h with rfl|h
  ·omega
  ·have:=Ix l x h;omega
theorem kW{a}(h:c9 a){i}(hi:i<a.bl.length):jZ (cX (nth a.bl i))<=100000:=by
 have h1:=h.1;have e:bn _ _ a.bl=a.hl++dH _:=rfl;rw[e] at h1;unfold aa at h1;rw[List.map_append,oF] at h1;have:=Ix a.bl (nth a.bl i) (by grind [aX])
 grind [aa]
theorem kF l{i}(hi:i<l.length):dS (dv l) i=cX (nth l i):=by
 grind [dS,dv,aX]
def tf(x:AV):LA:=⟨toInt (af x 0),toStr (af (af x 1) 0),ag (af (af x 1) 1),toInt (af (af x 2) 0),toStr (af (af x 2) 1),toInt (af (af x 2) 2),ag (af (af x 2) 3),toInt (af (af x 3) 0),toStr (af (af x 3) 1),toInt (af (af x 3) 2),ag (af (af x 3) 3)⟩
theorem ez x:(tf x).lt=cX x:=by rw[lt_eq];rfl
structure WO where
 a:dh
 k:Int
 i:Int
 vs:List ByteArray
abbrev Tt(a:WO):=sp 53 [(1, .int a.k),(2, .ptr 0 0 [] 0),(5, .ptr 1 0 [] 0),(17, .ah 80 a.a.bl),(18, .int a.a.bl.length),(19, .int a.i)] [.box 48 (au a.a), .box 178 (.mp 2), .map 9 4 (bU a.vs)]
theorem x39 κ a k i es I n K:(vc (Ox κ) 12 159 none 0 (ad (Pr κ).toProgram 159 4) (sp 53 [(1, .int k),(2, .ptr 0 0 [] 0),(5, .ptr 1 0 [] 0),(17, .ah 80 a.bl),(18, .int a.bl.length),(19, .int i)] [.box 48 (au a), .box 178 (.mp 2), .map 9 4 es]) (bh (Ox κ) 159 4 0 I n K))=(
 letI b:=AV.ptr 0 0 []
 letI c:=AV.int
 letI d:=AV.agg
 letI e:=AV.str
 letI f:=Obj.box
 letI g:=Dn.Obj.map
 letI h:=AV.ah
 letI j:=AV.mp
 letI l:=nth a.bl i.toNat
 letI p:=IntKind.wrap IntKind.i64 (i+(1:Int))
 letI m:=a.bl.length
 letI o:=∃(e2:List AV),([h 38 [d [c (toInt (af (af l 2) 0)),e (toStr (af (af l 2) 1)),c (toInt (af (af l 2) 2)),h 38 (ag
  (af (af l 2) 3))]]],aL)=([h 38 e2],aL)/\bE e2/\∃(e1:List AV×List (Value×AV)),([j 0,h 9 (List.take (List.length (ax (aa e2)))
  (List.drop 0 (strs (ax (aa e2)))))],[g 9 4 es])=([j 0,h 9 e1.1],[g 9 4 e1.2])/\bq e1/\∃(e0:Nat),e0<n/\I e0 (sp 53 [(1,
  c k),(2,b 0),(5,AV.ptr 1 0 [] 0),(17,h 80 a.bl),(18,c (↑m:Int)),(19,c p)] [f 48 (au a),f 178 (j
  2),g 9 4 (fK e1.2 e1.1)])
 letI q:=∃(e2:LA),([d [c (toInt (af l 0)),d [e (toStr (af (af l 1) 0)),h 38 (ag (af (af l 1) 1))],d [c (toInt (af
  (af l 2) 0)),e (toStr (af (af l 2) 1)),c (toInt (af (af l 2) 2)),h 38 (ag (af (af l 2) 3))],d [c (toInt (af (af l 3) 0)),
  e (toStr (af (af l 3) 1)),c (toInt (af (af l 3) 2)),h 38 (ag (af (af l 3) 3))]]],aL)=([d [c e2.op,d [e e2.s,h 38
  e2.l],d [c e2.o1,e e2.s1,c e2.n1,h 38 e2.l1],d [c e2.o2,e e2.s2,c e2.n2,h 38 e2.l2]]],aL)/\gr e2/\∃
  (e1:List AV×List (Value×AV)),([j 0,h 9 (List.take (List.length (ej (LA.lt e2))) (List.drop 0 (strs (ej (LA.lt e2)))))],[g 9 4 es])=
  ([j 0,h 9 e1.1],[g 9 4 e1.2])/\bq e1/\∃(e0:Nat),e0<n/\I e0 (sp 53 [(1,c k),(2,b 0),(5,AV.ptr 1 0 [] 0),(17,
  h 80 a.bl),(18,c (↑m:Int)),(19,c p)] [f 48 (au a),f 178 (j 2),g 9 4 (fK e1.2 e1.1)])
 aq (decide (i<(↑m:Int))) (aW (decide ((0:Int)<=i)&&decide (i<(↑m:Int))) (aq (i==k) (o/\o/\o) (q/\q))) (K (Exit.exit 0) (sp 53 [(1,
 c k),(2,b 0),(5,AV.ptr 1 0 [] 0)] [f 48 (au a),f 178 (j 2),g 9 4 es]))):=by kernel_rfl
def Iv(a:WO):=c9 a.a/\0<=a.k/\0<=a.i/\a.i<=a.a.bl.length
def ov(a:WO):=a.vs++DK a.k.toNat (dv (a.a.bl.drop a.i.toNat)) a.i.toNat
def wG(a:WO):Out (Exit×S):= .one (.exit 0,sp 53 [(1, .int a.k),(2, .ptr 0 0 [] 0),(5, .ptr 1 0 [] 0)] [.box 48 (au a.a), .box 178 (.mp 2), .map 9 4 (bU (ov a))])
theorem l39 κ:aR (Ox κ) 12 159 4 (aG 0 Tt Iv wG):=by
 refine aD (fun a=>a.a.bl.length - a.i.toNat) ?_;rintro⟨a,k,i,vs⟩ K ⟨h1,h2,h3,h4⟩ ho;simp only at h1 h2 h3 h4;rw[show(Ox κ).P=Pr κ from rfl];refine Eq.mpr (x39 κ a k i (bU vs) _ _ K) ?_;simp only[and_self];have hl:=h1.2;simp only[wG,ov,Out.run] at ho;simp only[ae,ai,an2,an4,an3,beq_iff_eq,beq_eq_false_iff_ne];refine⟨fun hi=>⟨⟨h3,hi⟩,?_⟩,fun hi=>?_⟩
 ·have hlit:=kW h1 (i:=i.toNat) (by omega)
  rw[o5 a.bl i.toNat (by omega),DK] at ho;rw[az (n:=i+1) (by omega) (by omega)];refine⟨fun e=>?_,fun e=>?_⟩
  ·subst e
   rw[Nat.beq_refl,an9,←List.append_assoc] at ho;have ht:aa [qx 38 (af (nth a.bl i.toNat) 2)]=[(cX (nth a.bl i.toNat)).x]:=by
    simp only[aa,ao9,List.map_nil,sM];rfl
   have hc:bj [(cX (nth a.bl i.toNat)).x]<=100000:=by
    have:jZ (cX (nth a.bl i.toNat))=bj [(cX (nth a.bl i.toNat)).x,(cX (nth a.bl i.toNat)).y]+bj (cX (nth a.bl i.toNat)).a.l:=rfl
    simp only[bj] at this⊢;omega
   have hv:=cF [(cX (nth a.bl i.toNat)).x];refine⟨[qx 38 (af (nth a.bl i.toNat) 2)],rfl,by simp only[bE,ht];exact hc,⟨strs (ax [(cX (nth a.bl i.toNat)).x]),bU vs⟩,?_,?_,_,?_,⟨a,i,i+1,vs++ax [(cX (nth a.bl i.toNat)).x]⟩,?_,⟨h1,h2,by simp only;omega,by simp only;omega⟩,rfl,?_⟩
   ·simp only[ao2,cL,ht]
   ·simp only[bq,bc,aU];omega
   ·simp only;omega
   ·simp only[mx]
   ·simp only[wG,ov,Out.run,show(i+1).toNat=i.toNat+1 by omega]
    exact ho
  ·rw[s7 (show i.toNat≠k.toNat by omega),an7,←List.append_assoc] at ho
   have hv:=cF [(cX (nth a.bl i.toNat)).x,(cX (nth a.bl i.toNat)).y];have hv2:=cF (cX (nth a.bl i.toNat)).a.l;have hlen:(ej (cX (nth a.bl i.toNat))).length<=100000:=by
    simp only[ej,jZ,ao7] at hlit⊢;omega
   refine⟨tf (nth a.bl i.toNat),rfl,by rw[gr,ez];exact hlit,⟨strs (ej (cX (nth a.bl i.toNat))),bU vs⟩,?_,?_,_,?_,⟨a,k,i+1,vs++ej (cX (nth a.bl i.toNat))⟩,?_,⟨h1,h2,by simp only;omega,by simp only;omega⟩,rfl,?_⟩
   ·simp only[ao2,cL,ez]
   ·simp only[bq,bc,aU];omega
   ·simp only;omega
   ·simp only[mx]
   ·simp only[wG,ov,Out.run,show(i+1).toNat=i.toNat+1 by omega]
    exact ho
 ·rw[ao0 (by omega)] at ho
  simpa[dv,DK] using ho
noncomputable def oT κ:=(Ox κ).an 159 4 (aG 0 Tt Iv wG)
theorem UD κ:aE (oT κ):=(e12 _).an (m12 _) (l39 _)
theorem Lu κ:aj (oT κ):=(m12 _).an aI
def dz gf fY s:=yH gf s&&yH fY s
structure DO where
 vs:List ByteArray
 i:Int
 gf:List (Value×AV)
 fY:List (Value×AV)
abbrev CP(R:List AV)(gf:List (Value×AV))(fY:List (Value×AV)):List Dn.Obj:=[.row 9 R, .box 178 (.mp 2), .map 9 4 gf, .box 178 (.mp 4), .map 9 4 fY]
abbrev Q1:AV:= .bm 184 [.ptr 1 0 [] 0, .ptr 3 0 [] 0]
abbrev JA(a:DO):=sp 19 [(0, .ak 0 0 (strs a.vs).length),(1,Q1),(7, .int (strs a.vs).length),(8, .int a.i)] (CP (strs a.vs) a.gf a.fY)
theorem xFO κ a I n K:(vc (oT κ) 12 161 none 5 (ad (Pr κ).toProgram 161 2) (JA a) (bh (oT κ) 161 2 5 I n K))=(
 letI b:=Obj.box
 letI c:=Dn.Obj.map
 letI d:=AV.mp
 letI f:=K Exit.ret (sp 19 [(4,AV.int a.i)] [Obj.row 9 (strs a.vs),b 178 (d 2),c 9 4 a.gf,b 178 (d 4),c 9 4 a.fY])
 letI e:=List.length (strs a.vs)
 letI g:=Value.string (toStr (nth (strs a.vs) (0+a.i.toNat)))
 aq (decide (a.i<(↑e:Int))) (aW (decide ((0:Int)<=a.i)&&decide (a.i<(↑e:Int))) (aq (!Dn.toBool (cV a.gf g (AV.bool false))) f (aq (!Dn.toBool
 (cV a.fY g (AV.bool false))) f (∃(e0:Nat),e0<n/\I e0 (sp 19 [(0,AV.ak 0 0 e),(1,AV.bm 184 [AV.ptr 1 0 [] 0,AV.ptr 3 0 [] 0]),(7,AV.int (↑e:
 Int)),(8,AV.int (IntKind.wrap IntKind.i64 (a.i+(1:Int))))] [Obj.row 9 (strs a.vs),b 178 (d 2),c 9 4 a.gf,b 178 (d 4),
 c 9 4 a.fY]))))) (K (Exit.exit 0) (sp 19 [] [Obj.row 9 (strs a.vs),b 178 (d 2),c 9 4 a.gf,b 178 (d 4),c 9 4
 a.fY]))):=by kernel_rfl
def G5(a:DO):=a.vs.length<=aU/\0<=a.i/\a.i<=a.vs.length/\∀s,s∈a.vs.take a.i.toNat->dz a.gf a.fY s=true
def DJ(a:DO):Out (Exit×S):=
 .aq (a.vs.all (dz a.gf a.fY)) (.one (.exit 0,sp 19 [] (CP (strs a.vs) a.gf a.fY)))
  (.all (fun j=>wy (dz a.gf a.fY) a.vs j) fun j=> .one (.ret,sp 19 [(4, .int j)] (CP (strs a.vs) a.gf a.fY)))
theorem lFO κ:aR (oT κ) 12 161 2 (aG 5 JA G5 DJ):=by
 refine aD (fun a=>a.vs.length - a.i.toNat) ?_;rintro⟨vs,i,gf,fY⟩ K ⟨h1,h2,h3,h4⟩ ho;simp only at h1 h2 h3 h4;rw[show(oT κ).P=Pr κ from rfl];refine Eq.mpr (xFO κ ⟨vs,i,gf,fY⟩ _ _ K) ?_;simp only[aU] at h1;simp only[DJ,Out.run,ae] at ho;have hl:=bc vs;simp only[bc,Nat.zero_add];have fin:i<vs.length->∀(hi:i.toNat<vs.length),(dz gf fY vs[i.toNat]=false->K .ret (sp 19 [(4, .int i)] (CP (strs vs) gf fY)))/\
   (dz gf fY vs[i.toNat]=true->∃m,m<vs.length - i.toNat/\ei JA G5 DJ (fun a=>a.vs.length - a.i.toNat) K m (JA ⟨vs,i+1,gf,fY⟩)):=by
  intro hi0 hi;refine⟨fun e=>ho.2 ?_ i ⟨h2,hi,h4,e⟩,fun e=>⟨_,?_,⟨vs,i+1,gf,fY⟩,rfl,⟨by simpa[aU] using h1,by simp only;omega,by simp only;omega,?_⟩,rfl,?_⟩⟩
  ·rw[Bool.eq_false_iff]
   intro hall;rw[List.all_eq_true.1 hall _ (List.getElem_mem hi)] at e;cases e
  ·simp only;omega
  ·intro s hs
   simp only at hs;rw[show(i+1).toNat=i.toNat+1 by omega,List.take_succ_eq_append_getElem hi,List.mem_append,List.mem_singleton] at hs;rcases hs with hs|hs
   ·exact h4 s hs
   ·rw[hs];exact e
  ·simp only[DJ,Out.run,ae]
   exact ho
 simp only[ae,ai,an2,an4,an3,Bool.not_eq_true',ao4];refine⟨fun hi=>⟨⟨h2,hi⟩,?_⟩,fun hi=>?_⟩
 ·have hi':i.toNat<vs.length:=by omega
  have hn:toStr (nth (strs vs) i.toNat)=vs[i.toNat]:=by rw[xC vs _ hi'];rfl
  rw[az (n:=i+1) (by omega) (by omega),hn]
  simp_all[JA,bc,dz,yH]
 ·refine ho.1 (List.all_eq_true.2 fun s hs=>h4 s ?_)
  rw[List.take_of_length_le (by omega)];exact hs
noncomputable def Ra κ:=(oT κ).an 161 2 (aG 5 JA G5 DJ)
theorem eFO κ:aE (Ra κ):=(UD _).an (Lu _) (lFO _)
theorem mFO κ:aj (Ra κ):=(Lu _).an aI
structure GO where
 R:List AV
 i:Int
 j:Int
 gf:List (Value×AV)
 fY:List (Value×AV)
 P:List ByteArray
 ws:List ByteArray
abbrev Cs(a:GO):=sp 42 [(0, .ak 0 0 a.R.length),(1,Q1),(5, .int a.i),(6, .int a.j)] (CP a.R a.gf a.fY)
theorem xGO κ a I n K:(vc (Ra κ) 12 114 none 5 (ad (Pr κ).toProgram 114 5) (Cs a) (bh (Ra κ) 114 5 5 I n K))=(
 letI b:=IntKind.wrap IntKind.i64
 letI c:=AV.int
 letI d:=Obj.box
 letI e:=Dn.Obj.map
 letI f:=AV.mp
 letI g:=toStr (nth a.R (0+a.j.toNat))
 letI h:=b (a.j+(1:Int))
 letI i:=∃(e0:Nat),e0<n/\I e0 (sp 42 [(0,AV.ak 0 0 a.R.length),(1,AV.bm 184 [AV.ptr 1 0 [] 0,AV.ptr 3 0 [] 0]),(5,c a.i),(6,c h)]
  [Obj.row 9 a.R,d 178 (f 2),e 9 4 a.gf,d 178 (f 4),e 9 4 a.fY])
 letI j:=a.j<(↑(a.R.length):Int)
 aq (decide j) (aW (decide ((0:Int)<=a.j)&&decide j) (aq (!Dn.toBool (cV a.gf (Value.string g) (AV.bool false))) i (aq (!!Dn.toBool (cV a.fY
 (Value.string g) (AV.bool false))) (aW (decide ((0:Int)<=a.i)&&decide (a.i<(↑(a.R.length):Int))) (∃(e0:Nat),e0<n/\I e0 (sp 42 [(0,AV.ak 0 0
 a.R.length),(1,AV.bm 184 [AV.ptr 1 0 [] 0,AV.ptr 3 0 [] 0]),(5,c (b (a.i+(1:Int)))),(6,c h)] [Obj.row 9 (bM a.R (0
 +a.i.toNat) (AV.str g)),d 178 (f 2),e 9 4 a.gf,d 178 (f 4),e 9 4 a.fY]))) i))) (K (Exit.exit 0) (sp 42 [(0,AV.ak 0
 0 a.R.length),(5,c a.i)] [Obj.row 9 a.R,d 178 (f 2),e 9 4 a.gf,d 178 (f 4),e 9 4 a.fY]))):=by kernel_rfl
def Cb(a:GO):=a.R.length<=aU/\0<=a.i/\a.i<a.j/\a.j<=a.R.length/\a.R.take a.i.toNat=strs a.P/\a.R.drop a.j.toNat=strs a.ws
def D0(a:GO):Out (Exit×S):= .all (fun R=>R.length=a.R.length/\R.take (a.P++a.ws.filter (dz a.gf a.fY)).length=strs (a.P++a.ws.filter (dz a.gf a.fY)))
 fun R=> .one (.exit 0,sp 42 [(0, .ak 0 0 a.R.length),(5, .int (a.P++a.ws.filter (dz a.gf a.fY)).length)] (CP R a.gf a.fY))
theorem lGO κ:aR (Ra κ) 12 114 5 (aG 5 Cs Cb D0):=by
 refine aD (fun a=>a.R.length - a.j.toNat) ?_;rintro⟨R,i,j,gf,fY,P,ws⟩ K ⟨h1,h2,h3,h4,h5,h6⟩ ho;simp only at h1 h2 h3 h4 h5 h6;rw[show(Ra κ).P=Pr κ from rfl];refine Eq.mpr (xGO κ ⟨R,i,j,gf,fY,P,ws⟩ _ _ K) ?_;simp only[aU] at h1;simp only[D0,Out.run] at ho;simp only[Nat.zero_add];have hP:P.length=i.toNat:=by
  have:=congrArg List.length h5
  rw[List.length_take,bc] at this;omega
 have fin: ∀(s:ByteArray) (l:List ByteArray),ws=s::l->j<R.length->nth R j.toNat= .lit (.string s)->
   (dz gf fY s=false->∃m,m<R.length - j.toNat/\ei Cs Cb D0 (fun a=>a.R.length - a.j.toNat) K m (Cs ⟨R,i,j+1,gf,fY,P,l⟩))/\
   (dz gf fY s=true->∃m,m<R.length - j.toNat/\ei Cs Cb D0 (fun a=>a.R.length - a.j.toNat) K m (Cs ⟨bM R i.toNat (.lit (.string s)),i+1,j+1,gf,fY,P++[s],l⟩)):=by
  rintro s l rfl hj hn;obtain⟨_,_,h7⟩:=jM (l:=strs l) h6;refine⟨fun e=>⟨_,?_,_,rfl,⟨by simpa[aU] using h1,h2,by simp only;omega,by simp only;omega,h5,?_⟩,rfl,?_⟩,fun e=>⟨_,?_,_,rfl,⟨by simpa[aU,gF] using h1,by simp only;omega,by simp only;omega,by simp only[gF];omega,?_,?_⟩,rfl,?_⟩⟩
  ·simp only;omega
  ·simp only[show(j+1).toNat=j.toNat+1 by omega];exact h7
  ·intro y hy
   have:=ho y
   simp only[List.filter_cons,e,Bool.false_eq_true,if_false] at hy this⊢;exact this hy
  ·simp only[gF];omega
  ·simp only[show(i+1).toNat=i.toNat+1 by omega]
   rw[ui _ _ _ (by omega),h5,iY];rfl
  ·simp only[show(j+1).toNat=j.toNat+1 by omega]
   rw[tc _ _ _ _ (by omega)];exact h7
  ·intro y hy
   have:=ho y
   simp only[List.filter_cons,e,if_true,gF,List.append_assoc,List.singleton_append] at hy this⊢;exact this hy
 simp only[ae,ai,an2,an4,an3,Bool.not_eq_true',ao4];refine⟨fun hj=>⟨⟨by omega,hj⟩,?_⟩,fun hj=>?_⟩
 ·cases ws with
  |nil=>
   have:=congrArg List.length h6
   rw[List.length_drop,bc] at this;simp at this;omega
  |cons s l=>
   obtain⟨_,hn,_⟩:=jM (l:=strs l) h6;have hn':toStr (nth R j.toNat)=s:=by rw[hn];rfl
   have hf:=fin s l rfl hj hn;simp only[Cs,gF] at hf;rw[az (n:=i+1) (by omega) (by omega),az (n:=j+1) (by omega) (by omega),hn'];exact⟨fun e=>hf.1 (by unfold dz yH;rw[e];rfl),fun e=>⟨fun e2=>⟨⟨by omega,by omega⟩,hf.2 (by unfold dz yH;rw[e,e2];rfl)⟩,fun e2=>hf.1 (by unfold dz yH;rw[e,e2];rfl)⟩⟩
 ·have hw:ws=[]:=by
   have:=congrArg List.length h6
   rw[List.length_drop,bc] at this;cases ws with
   |nil=>rfl
   |cons=>simp at this;omega
  subst hw;have:=ho R ⟨rfl,by simp only[List.filter_nil,List.append_nil,hP];exact h5⟩
  simp only[List.filter_nil,List.append_nil,hP,Int.toNat_of_nonneg h2] at this;exact this
noncomputable def EGO κ:=(Ra κ).an 114 5 (aG 5 Cs Cb D0)
theorem eGO κ:aE (EGO κ):=(eFO _).an (mFO _) (lGO _)
theorem mGO κ:aj (EGO κ):=(mFO _).an aI
theorem yGO κ(a:DO) K:(a7 (EGO κ) 12 114 [.ak 0 0 (strs a.vs).length,Q1] (CP (strs a.vs) a.gf a.fY) K)=(
 letI b:=AV.int
 letI c:=AV.ptr
 letI d:=Obj.box
 letI e:=Dn.Obj.map
 letI f:=AV.mp
 letI l:=List.length (strs a.vs)
 letI m:=Pg.toProgram (Env.P (oT κ))
 letI n:=Pg.toProgram (Env.P (Ra κ))
 ad m 161 2=ad m 161 2/\∃(e3:DO),letI g:=strs e3.vs;letI o:=K (AV.ah 9 (List.take l (List.drop 0 g))) [Obj.lz 9 g,d 178 (f 2),e 9 4 e3.gf,d 178 (f 4),e 9 4 e3.fY];letI p:=[Obj.row 9 g,d 178 (f 2),e 9 4 e3.gf,d 178 (f 4),e 9 4 e3.fY];sp 19 [(0,AV.ak 0 0 l),(1,AV.bm 184 [c 1 0 [] 0,c 3 0 [] 0]),(7,b (↑l:Int)),(8,b 0)] [Obj.row 9 (strs a.vs),d 178 (f 2),e 9 4 a.gf,d 178 (f 4),e 9 4 a.fY]=sp 19 [(0,AV.ak 0 0 (List.length g)),(1,AV.bm 184 [c 1 0 [] 0,c 3 0 [] 0]),(7,b (↑(List.length g):Int)),(8,b e3.i)] p/\(e3.vs.length<=9223372036854775807/\(0:Int)<=e3.i/\e3.i<=(↑(e3.vs.length):Int)/\∀(e0:ByteArray),List.Mem e0 (List.take e3.i.toNat e3.vs)->dz e3.gf e3.fY e0=true)/\aq (List.all e3.vs (dz e3.gf e3.fY)) o (∀(e2:Int),((0:Int)<=e2/\∃(e1:e2.toNat<e3.vs.length),(∀(e0:ByteArray),List.Mem e0 (List.take e2.toNat e3.vs)->dz e3.gf e3.fY e0=true)/\dz e3.gf e3.fY e3.vs[e2.toNat]=false)->aq (e2==(-1:Int)) o (ad n 114 5=ad n 114 5/\∃(e1:GO),letI q:=e1.P++List.filter (dz e1.gf e1.fY) e1.ws;letI h:=List.length q;letI i:=e1.R.length;sp 42 [(0,AV.ak 0 0 l),(1,AV.bm 184 [c 1 0 [] 0,c 3 0 [] 0]),(5,b e2),(6,b (IntKind.wrap IntKind.i64 (e2+(1:Int))))] p=sp 42 [(0,AV.ak 0 0 e1.R.length),(1,AV.bm 184 [c 1 0 [] 0,c 3 0 [] 0]),(5,b e1.i),(6,b e1.j)] [Obj.row 9 e1.R,d 178 (f 2),e 9 4 e1.gf,d 178 (f 4),e 9 4 e1.fY]/\(e1.R.length<=9223372036854775807/\(0:Int)<=e1.i/\e1.i<e1.j/\e1.j<=(↑i:Int)/\List.take e1.i.toNat e1.R=strs e1.P/\List.drop e1.j.toNat e1.R=strs e1.ws)/\∀(e0:List AV),letI j:=c6 e0 (0+Int.toNat (↑h:Int)) (Int.toNat ((↑i:Int) - (↑h:Int))) (AV.str {data:= #[]});letI k:=(↑h:Int)<=(↑i:Int);e0.length=e1.R.length/\List.take h e0=strs q->aW (true&&decide k&&decide ((↑i:Int)<=(↑i:Int))) (aW (true&&decide k) (K (AV.ah 9 (List.take (Int.toNat ((↑h:Int) - (0:Int))) (List.drop 0 j))) [Obj.lz 9 j,d 178 (f 2),e 9 4 e1.gf,d 178 (f 4),e 9 4 e1.fY]))))):=by kernel_rfl
def HS(a:DO):=([.ak 0 0 a.vs.length,Q1],CP (strs a.vs) a.gf a.fY)
def kB(a:DO):=a.vs.length<=aU
def Gz(a:DO):Out (AV×List Dn.Obj):= .all (fun _=>True) fun R=> .one (.ah 9 (strs (a.vs.filter (dz a.gf a.fY))),[.lz 9 R, .box 178 (.mp 2), .map 9 4 a.gf, .box 178 (.mp 4), .map 9 4 a.fY])
theorem aj0 κ:bg (EGO κ) 12 114 (aO HS kB Gz):=by
 refine aQ ?_;rintro⟨vs,i,gf,fY⟩ K h1 ho;simp only[kB] at h1;simp only[HS];rw[←bc vs];refine Eq.mpr (yGO κ ⟨vs,i,gf,fY⟩ K) ?_;refine⟨rfl,⟨vs,0,gf,fY⟩,rfl,⟨h1,by simp only;omega,by simp only;omega,fun s hs=>nomatch hs⟩,?_⟩;rw[ae];refine⟨fun e=>?_,fun e y hy=>?_⟩
 ·have hf:vs.filter (dz gf fY)=vs:=List.filter_eq_self.2 (List.all_eq_true.1 e)
  have:=ho (strs vs) trivial
  simp only[hf] at this;rw[ao2,List.take_length];exact this
 ·have hF:=rS hy
  obtain⟨h0,h2,h3,h4⟩:=hy;simp only at h0 h2;simp only[aU] at h1;rw[ae,beq_iff_eq,beq_eq_false_iff_ne];refine⟨fun e2=>by omega,fun _=>⟨rfl,⟨strs vs,y,y+1,gf,fY,vs.take y.toNat,vs.drop (y.toNat+1)⟩,?_,⟨by simp only[bc];omega,h0,by simp only;omega,by simp only[bc];omega,?_,?_⟩,?_⟩⟩
  ·rw[az (n:=y+1) (by omega) (by omega)]
  ·simp only[strs,List.map_take]
  ·simp only[strs,List.map_drop,show(y+1).toNat=y.toNat+1 by omega]
  ·rintro R ⟨r1,r2⟩
   simp only at r1 r2;rw[←hF] at r2⊢;have hle:(vs.filter (dz gf fY)).length<=vs.length:=List.length_filter_le _ _;rw[ai,ai];refine⟨by simp[bc,hle],by simp[bc,hle],?_⟩;have:=ho (c6 R (0+Int.toNat ((vs.filter (dz gf fY)).length:Int)) (Int.toNat (((strs vs).length:Int) - ((vs.filter (dz gf fY)).length:Int))) (.lit (.string (ByteArray.mk #[])))) trivial
   simp only[Int.toNat_natCast,Nat.zero_add,Int.sub_zero,ao2,oC,r2] at this⊢;exact this
theorem ag0 κ: ∀args st K,aO HS kB Gz args st K->b6 (Pr κ) 114 args st K:=fun _args _st K h=>gW (eGO _) (mGO _) (aj0 _ _ _ K h)
noncomputable def Nk κ:=(oT κ).aw 114 (aO HS kB Gz)
theorem am4 κ:aE (Nk κ):=(UD _).fV (ag0 _)
theorem aa1 κ:aj (Nk κ):=(Lu _).aw aH
theorem y39 κ a k K:(a7 (Nk κ) 12 159 [au a, .int k] [] K)=(
 letI b:=AV.int
 letI c:=AV.ptr
 letI d:=Obj.box
 letI e:=Obj.row
 letI f:=Dn.Obj.map
 letI g:=AV.ah
 letI h:=AV.mp
 letI j:=Pg.toProgram (Env.P (Ox κ))
 letI l:=∃(e7:List AV),([g 38 a.hl],aL)=([g 38 e7],aL)/\bE e7/\∃(e6:List AV×List (Value×AV)),([h 0,g 9 (List.take (List.length (ax (aa e7))) (List.drop 0 (strs (ax (aa e7)))))],[f 9 4 []])=([h 0,g 9 e6.1],[f 9 4 e6.2])/\bq e6/\ad j 159 4=ad j 159 4/\∃(e5:WO),letI m:=[g 38 (ag (af (af (nth e5.a.bl e5.k.toNat) 1) 1))];letI i:=List.length e5.a.bl;sp 53 [(1,b k),(2,c 0 0 [] 0),(5,c 1 0 [] 0),(17,g 80 a.bl),(18,b (↑(a.bl.length):Int)),(19,b 0)] [d 48 (au a),d 178 (h 2),f 9 4 (fK e6.2 e6.1)]=sp 53 [(1,b e5.k),(2,c 0 0 [] 0),(5,c 1 0 [] 0),(17,g 80 e5.a.bl),(18,b (↑i:Int)),(19,b e5.i)] [d 48 (au e5.a),d 178 (h 2),f 9 4 (bU e5.vs)]/\((bj (aa (bn 38 e5.a.hl e5.a.bl))<=100000/\List.length e5.a.bl<=100000)/\(0:Int)<=e5.k/\(0:Int)<=e5.i/\e5.i<=(↑i:Int))/\aW (decide ((0:Int)<=e5.k)&&decide (e5.k<(↑i:Int))) ((∃(e4:List AV),(m,aL)=([g 38 e4],aL)/\bE e4/\∃(e3:List AV×List (Value×AV)),([h 0,g 9 (List.take (List.length (ax (aa e4))) (List.drop 0 (strs (ax (aa e4)))))],[f 9 4 []])=([h 0,g 9 e3.1],[f 9 4 e3.2])/\bq e3/\∃(e2:dh),([au e5.a],aL)=([au e2],aL)/\(a9 (aM e2)=true/\bj (aa (bn 38 e2.hl e2.bl))<=100000/\e2.bl.length<=100000)/\∃(e1:DO),([AV.ak 0 0 (List.length (de (aM e2))),AV.bm 184 [c 1 0 [] 0,c 3 0 [] 0]],[e 9 (strs (de (aM e2))),d 178 (h 2),f 9 4 (fK e3.2 e3.1),d 178 (h 4),f 9 4 (bU (ov e5))])=([AV.ak 0 0 e1.vs.length,AV.bm 184 [c 1 0 [] 0,c 3 0 [] 0]],[e 9 (strs e1.vs),d 178 (h 2),f 9 4 e1.gf,d 178 (h 4),f 9 4 e1.fY])/\kB e1/\∀(_e0:List AV),True->K (g 9 (strs (List.filter (dz e1.gf e1.fY) e1.vs))) [])/\∃(e4:List AV),(m,aL)=([g 38 e4],aL)/\bE e4/\∃(e3:List AV×List (Value×AV)),([h 0,g 9 (List.take (List.length (ax (aa e4))) (List.drop 0 (strs (ax (aa e4)))))],[f 9 4 []])=([h 0,g 9 e3.1],[f 9 4 e3.2])/\bq e3/\∃(e2:dh),([au e5.a],aL)=([au e2],aL)/\(a9 (aM e2)=true/\bj (aa (bn 38 e2.hl e2.bl))<=100000/\e2.bl.length<=100000)/\∃(e1:DO),([AV.ak 0 0 (List.length (de (aM e2))),AV.bm 184 [c 1 0 [] 0,c 3 0 [] 0]],[e 9 (strs (de (aM e2))),d 178 (h 2),f 9 4 (fK e3.2 e3.1),d 178 (h 4),f 9 4 (bU (ov e5))])=([AV.ak 0 0 e1.vs.length,AV.bm 184 [c 1 0 [] 0,c 3 0 [] 0]],[e 9 (strs e1.vs),d 178 (h 2),f 9 4 e1.gf,d 178 (h 4),f 9 4 e1.fY])/\kB e1/\∀(_e0:List AV),True->K (g 9 (strs (List.filter (dz e1.gf e1.fY) e1.vs))) [])
 l/\l):=by kernel_rfl
def Qh(a:dh×Int):List AV×List Dn.Obj:=([au a.1, .int a.2],[])
def Bd(a:dh×Int):=a9 (aM a.1)=true/\c9 a.1/\0<=a.2/\a.2<a.1.bl.length
def TS(a:dh×Int):Out (AV×List Dn.Obj):= .one (.ah 9 (strs (eh (aM a.1) a.2.toNat)),[])
theorem c39 κ:bg (Nk κ) 12 159 (aO Qh Bd TS):=by
 refine aQ ?_;rintro⟨a,k⟩ K ⟨h1,h2,h3,h4⟩ ho;refine Eq.mpr (y39 κ a k K) ?_;simp only at h1 h2 h3 h4;have hc:=pM h2;have hv:=cF (aa a.hl);have hk:k.toNat<a.bl.length:=by omega
 have hlit:=kW h2 hk;simp only[and_self];refine⟨a.hl,rfl,hc,⟨strs (ax (aa a.hl)),[]⟩,?_,?_,trivial,⟨a,k,0,ax (aa a.hl)⟩,rfl,⟨h2,h3,by simp only;omega,by simp only;omega⟩,?_⟩
 ·simp only[ao2,cL]
 ·simp only[bq,bc,aU];omega
 rw[ai,an3,an2,an2];have hin:ax (aa (ag (af (af (nth a.bl k.toNat) 1) 1)))=ax (dS (aM a).body k.toNat).a.l:=by
  rw[show(aM a).body=dv a.bl from rfl,kF _ hk,lt_eq]
 have hcl:bj (aa (ag (af (af (nth a.bl k.toNat) 1) 1)))<=100000:=by
  rw[lt_eq] at hlit;simp only[jZ] at hlit;omega
 have hvl:=cF (aa (ag (af (af (nth a.bl k.toNat) 1) 1)));refine⟨⟨h3,h4⟩,_,rfl,hcl,⟨strs (ax (aa (ag (af (af (nth a.bl k.toNat) 1) 1)))),[]⟩,?_,?_,a,rfl,⟨h1,h2⟩,⟨de (aM a),0,fK [] (strs (ax (aa (ag (af (af (nth a.bl k.toNat) 1) 1))))),bU (ov ⟨a,k,0,ax (aa a.hl)⟩)⟩,rfl,?_,?_⟩
 ·simp only[ao2,cL]
 ·simp only[bq,bc,aU];omega
 ·have h5:(fB (aM a)).length<=100000:=by
   have h6:=cF (aa (bn 38 a.hl a.bl));rw[iM 38 a.rel a.hl a.bl] at h6;exact Nat.le_trans h6 h2.1
  have h7:=kM (fB (aM a)) [];simp only[kB,de,h1,an9,aU];omega
 ·intro R _
  have hk2:(fun s=>dz (fK [] (strs (ax (aa (ag (af (af (nth a.bl k.toNat) 1) 1)))))) (bU (ov ⟨a,k,0,ax (aa a.hl)⟩)) s)=fun v=>(ax (dS (aM a).body k.toNat).a.l).contains v&&(S0 (aM a) k.toNat).contains v:=by
   funext s
   unfold dz;rw[pW,hin];congr 1
   exact pW _ s
  have hk3:List.filter (dz (fK [] (strs (ax (aa (ag (af (af (nth a.bl k.toNat) 1) 1)))))) (bU (ov ⟨a,k,0,ax (aa a.hl)⟩))) (de (aM a))=eh (aM a) k.toNat:=by
   unfold eh;exact congrFun (congrArg _ hk2) _
  simp only[hk3];exact ho
noncomputable def RK κ:=(Nk κ).aw 159 (aO Qh Bd TS)
theorem e39 κ:aE (RK κ):=(am4 _).aw (aa1 _) (c39 _)
theorem m39 κ:aj (RK κ):=(aa1 _).aw aH
end Go.Proofs.YtioeffnadipbaaaGreatDoor
