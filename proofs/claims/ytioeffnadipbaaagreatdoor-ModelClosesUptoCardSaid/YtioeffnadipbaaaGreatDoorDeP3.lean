import Derived.Test.YtioeffnadipbaaaGreatDoorDeP1
namespace Go.Proofs.YtioeffnadipbaaaGreatDoor
open Go Go.Dn Go.Rl Go.Proofs
attribute [local irreducible] a8 vc
set_option maxRecDepth 20000
structure R8 where
 xs:List AV
 more:List AV
 t:AV
 m:List AV
 i:Int
abbrev Lr(a:R8):=qV 38 (nth a.m a.i.toNat)
def TD:List Nat:=[171,198,185]
def Uv(a:AV):List AV×List Dn.Obj:=([.cn 0, .ptr 1 0 [] 0],[.ext (some (qR 38 a)), .box 38 (qV 38 a)])
def YG n a:=(cx a).nK=n/\n<=100000
def JQ(_:AV):Out (AV×List Dn.Obj):= .all (fun st'=>tv st') fun st'=> .one (.aH [],st')
def Uo n:=aM Uv (YG n) JQ
noncomputable def K9 κ r:=(E20 κ).ax 198 fun a st K=>∃m,m<r/\Uo m a st K
noncomputable abbrev ad9(a:R8)(κ:Kp)(st:LoopState)(p:Option Code):Dn.Obj:=
 .loop (jq (Pr κ).toProgram 198 6 st p (iO (bR 25) [(2, .ptr 2 0 [] 0),(4, .ptr 3 0 [] 0),(11, .ah 38 a.m),(12, .int a.m.length),(13, .int a.i),(14, .bool true),
  (15, .jK 38 (nth a.m a.i.toNat)),(16,Lr a),(17,Lr a),(18, .bo 198 [.ptr 4 0 [] 0])]))
noncomputable abbrev tt κ a:=[.ext (some a.xs), .box 38 (qV 38 a.t), .box 186 (.cn 0), .box 38 (Lr a), .box 38 (Lr a),ad9 a κ .ready none]
noncomputable abbrev Dx κ a o st p:=[.ext o, .box 38 (qV 38 a.t), .box 186 (.cn 0), .box 38 (Lr a), .dead,ad9 a κ st p]
theorem s56 κ a Q:(tidy (Pr κ).toProgram 6 (dF (tt κ a) (b7 (tt κ a) [.ptr 4 0 [] 0])) Q)=(
 letI b:=AV.int
 letI c:=nth a.m a.i.toNat
 letI d:=toInt (af c 0)
 letI e:=toStr (af c 1)
 letI f:=toInt (af c 2)
 letI g:=ag (af c 3)
 Q [.ext (some a.xs),.box 38 (.agg [b (toInt (af a.t 0)),AV.str (toStr (af a.t 1)),b (toInt (af a.t 2)),.ah 38 (ag (af a.t 3))]),.box
 186 (.cn 0),.box 38 (.agg [b d,AV.str e,b f,.ah 38 g]),.dead,.loop (jq Tryz.prog 198 6 .ready none (iO (bR 25)
 [(2,.ptr 2 0 [] 0),(4,.ptr 3 0 [] 0),(11,.ah 38 a.m),(12,b ↑(a.m.length)),(13,b a.i),(14,AV.bool true),(15,.jK 38 c),
 (16,.agg [b d,AV.str e,b f,.ah 38 g]),(17,.agg [b d,AV.str e,b f,.ah 38 g]),(18,.bo 198 [.ptr 4 0 [] 0])]))]):=by kernel_rfl
theorem r56(κ:Kp)(r:Nat)(a:R8)(o:List AV)(u:AV)(Q:List Dn.Obj->Prop)(K2:List Dn.Obj->Prop):(gx (vc (K9 κ r) 12) 5 [qV 38 u] (Dx κ a (some o) .ready none) (fun r st''=>match r with| .lit (.bool true)=>tidy (Pr κ).toProgram 6 st'' Q| .lit (.bool false)=>K2 st''|_=>False))=(
 letI b:=AV.int
 letI c:=AV.agg
 letI d:=AV.str
 letI e:=Obj.box
 letI f:=AV.ah
 letI g:=nth a.m a.i.toNat
 letI l:=c [b (toInt (af a.t 0)),d (toStr (af a.t 1)),b (toInt (af a.t 2)),f 38 (ag (af a.t 3))]
 letI h:=toInt (af g 0)
 letI i:=toStr (af g 1)
 letI j:=toInt (af g 2)
 letI k:=ag (af g 3)
 letI m:=c [b h,d i,b j,f 38 k]
 letI n:=iO (bR 25) [(2,AV.ptr 2 0 [] 0),(4,AV.ptr 3 0 [] 0),(11,f 38 a.m),(12,b (↑(a.m.length):Int)),(13,b a.i),(14,AV.bool true),
  (15,AV.jK 38 g),(16,c [b h,d i,b j,f 38 k]),(17,c [b h,d i,b j,f 38 k]),(18,AV.bo 198
  [AV.ptr 4 0 [] 0])]
 ∃(e0:List AV),o=AV.aH [c [b (toInt (af u 0)),d (toStr (af u 1)),b (toInt (af u 2)),f 38 (ag (af u 3))]]::e0/\Q [Obj.ext
 (some e0),e 38 l,e 186 (AV.cn 0),e 38 m,Obj.dead,Dn.Obj.loop (jq Tryz.prog 198 6 LoopState.ready none n)]/\K2 [Obj.ext none,e
 38 l,e 186 (AV.cn 0),e 38 m,Obj.dead,Dn.Obj.loop (jq Tryz.prog 198 6 LoopState.done (some Code.ret) n),e 38 (c [b (toInt (af
 u 0)),d (toStr (af u 1)),b (toInt (af u 2)),f 38 (ag (af u 3))])]):=by kernel_rfl
theorem k56 κ a xs:(.cn 0::gf (iX (b7 (tt κ a) [.ptr 4 0 [] 0])) [.ptr 4 0 [] 0],.ext (some xs)::gJ (iX (b7 (tt κ a) [.ptr 4 0 [] 0])) (gF (tt κ a) (b7 (tt κ a) [.ptr 4 0 [] 0])))=([.cn 0, .ptr 1 0 [] 0],[.ext (some xs), .box 38 (Lr a)]):=by kernel_rfl
theorem o56 κ a:mi (tt κ a) [.ptr 4 0 [] 0]=true:=by kernel_rfl
noncomputable def Q9(κ:Kp)(r:Nat):eO:=fun b st K=>∃a,(b,st)=([AV.ptr 4 0 [] 0],tt κ a)/\((cx (nth a.m a.i.toNat)).nK<r/\(cx (nth a.m a.i.toNat)).nK<=100000/\a.xs=qR 38 (nth a.m a.i.toNat)++a.more)/\
 K (Dx κ a (some a.more) .ready none)/\∀u,K (Dx κ a none .done (some .ret)++[.box 38 (qV 38 u)])
theorem Ix κ r:(Q9 κ r).gl:=by
 rintro b st K g c ⟨a,d,e,f,h⟩;exact⟨a,d,e,c _ f,by grind⟩
theorem S8 κ r a st K(h: ∃m,m<r/\Uo m a st K):(K9 κ r).call 198 a st K:=h
theorem aw9 κ r:jf (K9 κ r) 12 198 (Q9 κ r):=by
 rintro c st K ⟨a,k,⟨l,f,o⟩,p,g⟩;obtain⟨rfl,rfl⟩:=Prod.mk.inj k;refine⟨qR 38 (nth a.m a.i.toNat),fun b st'=>(∀x,x∈b->tK 38 x)/\st'=Dx κ a (some (b++a.more)) .ready none,⟨o56 κ a,?_,?_,?_,?_⟩⟩
 ·refine S8 κ r _ _ _ ⟨_,l,nth a.m a.i.toNat,?_,⟨rfl,f⟩,fun st' h=>h⟩
  rw[k56];rfl
 ·rw[show(K9 κ r).P=Pr κ from rfl,show(tt κ a).length=6 from rfl,s56]
  exact⟨n6 _ _ _ (Nat.lt_succ_self _),by rw[o];rfl⟩
 ·rintro n e st' ⟨d,rfl⟩
  obtain⟨u,q⟩:=d (.aH n) (by simp);obtain rfl:=AV.aH.inj q;refine Eq.mpr (r56 κ r a _ u _ _) ?_;exact⟨_,rfl,⟨fun x j=>d x (by simp[j]),rfl⟩,g u⟩
 ·rintro st' ⟨_,rfl⟩
  exact p
noncomputable def Gv κ r:=((K9 κ r).addRange 198 6 198 (Q9 κ r)).dc fun f=>jr f TD
theorem af8 κ r:aj (K9 κ r):=(m20 _).ax fun _ _ _ _ b ⟨m,c,a⟩=>⟨m,c,aJ _ _ _ _ b a⟩
theorem x56(κ:Kp) r(a:R8) I n K:(vc (Gv κ r) 12 198 none 2 (ad (Pr κ).toProgram 198 3) (sp 25 [(2, .ptr 2 0 [] 0),(11, .ah 38 a.m),(12, .int a.m.length),(13, .int a.i)] [.ext (some a.xs), .box 38 (qV 38 a.t), .box 186 (.cn 0)]) (bg (Gv κ r) 198 3 2 I n K))=(
 letI b:=AV.int
 letI c:=AV.ptr
 letI d:=AV.agg
 letI e:=AV.str
 letI f:=Obj.box
 letI g:=Obj.ext
 letI h:=AV.ah
 letI k:=nth a.m a.i.toNat
 letI s:=d [b (toInt (af a.t 0)),e (toStr (af a.t 1)),b (toInt (af a.t 2)),h 38 (ag (af a.t 3))]
 letI t:=a.i<(↑(a.m.length):Int)
 letI m:=toInt (af k 0)
 letI o:=toStr (af k 1)
 letI p:=toInt (af k 2)
 letI q:=ag (af k 3)
 letI u:=d [b m,e o,b p,h 38 q]
 aq (decide t) (aW (decide ((0:Int)<=a.i)&&decide t) (∃(e1:R8),letI i:=nth e1.m e1.i.toNat;letI l:=[b (toInt (af i 0)),e (toStr (af i 1)),b (toInt (af i 2)),h 38 (ag (af i 3))];letI j:=d [b (toInt (af e1.t 0)),e (toStr (af e1.t 1)),b (toInt (af e1.t 2)),h 38 (ag (af e1.t 3))];([c 4 0 [] 0],[g (some a.xs),f 38 s,f 186 (AV.cn 0),f 38 u,f 38 u,Dn.Obj.loop (jq Tryz.prog 198 6 LoopState.ready none (iO (bR 25) [(2,c 2 0 [] 0),(4,c 3 0 [] 0),(11,h 38 a.m),(12,b (↑(a.m.length):Int)),(13,b a.i),(14,AV.bool true),(15,AV.jK 38 k),(16,d [b m,e o,b p,h 38 q]),(17,d [b m,e o,b p,h 38 q]),(18,AV.bo 198 [c 4 0 [] 0])]))])=([c 4 0 [] 0],[g (some e1.xs),f 38 j,f 186 (AV.cn 0),f 38 (d l),f 38 (d l),Dn.Obj.loop (jq Tryz.prog 198 6 LoopState.ready none (iO (bR 25) [(2,c 2 0 [] 0),(4,c 3 0 [] 0),(11,h 38 e1.m),(12,b (↑(e1.m.length):Int)),(13,b e1.i),(14,AV.bool true),(15,AV.jK 38 i),(16,d l),(17,d l),(18,AV.bo 198 [c 4 0 [] 0])]))])/\(Tm.nK (cx i)<r/\Tm.nK (cx i)<=100000/\e1.xs=qR 38 i++e1.more)/\(∃(e0:Nat),e0<n/\I e0 (sp 25 [(2,c 2 0 [] 0),(11,h 38 a.m),(12,b (↑(a.m.length):Int)),(13,b (IntKind.wrap IntKind.i64 (a.i+(1:Int))))] [g (some e1.more),f 38 j,f 186 (AV.cn 0)]))/\∀(e0:AV),K Exit.ret (sp 25 [] [g none,f 38 j]))) (K (Exit.exit 0) (sp 25 [] [g (some a.xs),f 38 s]))):=by kernel_rfl
abbrev Wh(a:R8):=sp 25 [(2, .ptr 2 0 [] 0),(11, .ah 38 a.m),(12, .int a.m.length),(13, .int a.i)] [.ext (some a.xs), .box 38 (qV 38 a.t), .box 186 (.cn 0)]
def Kq r(a:R8):=a.m.length<=aX/\0<=a.i/\a.i<=a.m.length/\bn (aa (a.m.drop a.i.toNat))<r/\bn (aa (a.m.drop a.i.toNat))<=100000/\a.xs=gj 38 (a.m.drop a.i.toNat)
def PR(a:R8):Out (Exit×S):= .all (fun _=>True) fun b=> .aq b (.one (.exit 0,sp 25 [] [.ext (some []), .box 38 (qV 38 a.t)])) (.one (.ret,sp 25 [] [.ext none, .box 38 (qV 38 a.t)]))
theorem xn l i(h:i<l.length):bn (aa (l.drop i))=(cx (nth l i)).nK+bn (aa (l.drop (i+1))):=by
 grind [fo,bn]
theorem l56 κ r:aU (Gv κ r) 12 198 3 (aG 2 Wh (Kq r) PR):=by
 refine aC (fun a=>a.m.length - a.i.toNat) ?_;rintro⟨xs,b,t,m,i⟩ K ⟨f,h,o,l,k,d⟩ g;simp only at f h o l k d;rw[show(Gv κ r).P=Pr κ from rfl];refine Eq.mpr (x56 κ r ⟨xs,b,t,m,i⟩ _ _ K) ?_;have c:=g true trivial;have e:=g false trivial;simp only[Out.run,aq] at c e;simp only[aX] at f;simp only[ae,ai,at3,aC7,aC6];refine⟨fun j=>⟨⟨h,j⟩,?_⟩,fun j=>?_⟩
 ·have p:=xn m i.toNat (by omega)
  rw[zl _ m i.toNat (by omega)] at d;rw[az (n:=i+1) (by omega) (by omega)];refine⟨⟨xs,gj 38 (m.drop (i.toNat+1)),t,m,i⟩,rfl,⟨by simp only;omega,by simp only;omega,d⟩,⟨_,?_,⟨_,b,t,m,i+1⟩,rfl,⟨by simpa[aX] using f,by simp only;omega,by simp only;omega,?_,?_,?_⟩,rfl,g⟩,fun _=>e⟩
  ·simp only;omega
  ·simp only[show(i+1).toNat=i.toNat+1 by omega];omega
  ·simp only[show(i+1).toNat=i.toNat+1 by omega];omega
  ·simp only[show(i+1).toNat=i.toNat+1 by omega]
 ·rw[aD3 (by omega)] at d
  subst d;exact c
noncomputable def NL κ r:=(Gv κ r).an 198 3 (aG 2 Wh (Kq r) PR)
theorem y56(κ:Kp)(r:Nat)(t:AV)(xs:List AV)(K:AV->List Dn.Obj->Prop):(a8 (NL κ r) 12 198 [.cn 0, .ptr 1 0 [] 0] [.ext (some xs), .box 38 (qV 38 t)] K)=(
 letI a:=AV.int
 letI b:=Obj.box
 letI c:=Obj.ext
 letI d:=ag (af t 3)
 letI g:=AV.agg [a (toInt (af t 0)),AV.str (toStr (af t 1)),a (toInt (af t 2)),AV.ah 38 d]
 letI h:=Pg.toProgram (Env.P (Gv κ r))
 ∃(e2:List AV),xs=AV.aH [AV.agg [a (toInt (af t 0)),AV.str (toStr (af t 1)),a (toInt (af t 2)),AV.ah 38 d]]::e2/\(ad h 198 3=ad h 198 3/\∃(e1:R8),letI e:=AV.agg [a (toInt (af e1.t 0)),AV.str (toStr (af e1.t 1)),a (toInt (af e1.t 2)),AV.ah 38 (ag (af e1.t 3))];letI f:=List.drop e1.i.toNat e1.m;sp 25 [(2,AV.ptr 2 0 [] 0),(11,AV.ah 38 d),(12,a (↑(List.length d):Int)),(13,a 0)] [c (some e2),b 38 g,b 186 (AV.cn 0)]=sp 25 [(2,AV.ptr 2 0 [] 0),(11,AV.ah 38 e1.m),(12,a (↑(e1.m.length):Int)),(13,a e1.i)] [c (some e1.xs),b 38 e,b 186 (AV.cn 0)]/\(e1.m.length<=9223372036854775807/\(0:Int)<=e1.i/\e1.i<=(↑(e1.m.length):Int)/\bn (aa f)<r/\bn (aa f)<=100000/\e1.xs=gj 38 f)/\∀(e0:Bool),True->aq e0 (K (AV.aH []) [c (some []),b 38 e]) (K (AV.aH []) [c none,b 38 e]))/\K (AV.aH []) [c none,b 38 g]):=by kernel_rfl
theorem av6 κ r(c: ∀a st K,(∃m,m<r/\Uo m a st K)->cf (Pr κ) 198 a st K):aE (NL κ r)/\aj (NL κ r)/\(NL κ r).P=Pr κ:=
 have h:=(e20 _).fQ c;have d:=(h.addRange (af8 _ r) (aw9 _ r)).dc _;have b:=((af8 _ r).addRange (Ix _ r)).dc _
 ⟨d.an b (l56 _ r),b.an aK,rfl⟩
theorem c56 κ r:bd (NL κ r) 12 198 (Uo r):=by
 refine aQ ?_;rintro t K ⟨f,g⟩ c;have a: ∀b,K (.aH []) [.ext none,b]:=fun b=>c _ trivial
 have e: ∀b,K (.aH []) [.ext (some []),b]:=fun b=>c _ trivial
 refine Eq.mpr (y56 κ r t _ K) ?_;rw[cI,Tm.nK] at f;have d:=im (aa (ag (af t 3)));rw[eS] at d;rw[Dy];refine⟨_,rfl,⟨rfl,⟨_,[],t,ag (af t 3),0⟩,rfl,⟨by simp only;omega,by simp only;omega,by simp only;omega,?_,?_,rfl⟩,?_⟩,a _⟩
 ·grind
 ·simp only[Int.toNat_zero,aD5];omega
 ·intro y _
  cases y
  ·exact a _
  ·exact e _
def De a:=(cx a).nK<=100000
theorem q56 κ: ∀a st K,aM Uv De JQ a st K->cf (Pr κ) 198 a st K:=by
 rintro a st K ⟨l,c,d,b⟩;exact aE.qh _ _ (av6 _) (c56 _) _ _ _ K ⟨l,c,⟨rfl,d⟩,b⟩
noncomputable def NK κ:=(E20 κ).ax 198 (aM Uv De JQ)
theorem e56 κ:aE (NK κ):=(e20 _).fQ (q56 _)
theorem m56 κ:aj (NK κ):=(m20 _).ax aJ
structure Gm where
 xs:List AV
 more:List AV
 r:dx
 bl:List AV
 ts:List AV
 i:Int
abbrev G7(a:Gm):=qV 38 (nth a.ts (0+a.i.toNat))
abbrev KJ(a:Gm):=sp 46 [(2, .ptr 2 0 [] 0),(3, .ak 3 0 a.ts.length),(14, .ah 80 a.bl),(15, .int a.bl.length),(16, .int a.i)] [.ext (some a.xs), .box 48 (aw a.r), .box 186 (.cn 0), .row 38 a.ts]
theorem aA5 κ a I n K:(vc (NK κ) 12 185 none 2 (ad (Pr κ).toProgram 185 3) (KJ a) (bg (NK κ) 185 3 2 I n K))=(
 letI b:=AV.int
 letI c:=Obj.box
 letI d:=nth a.bl a.i.toNat
 letI f:=a.i<↑(a.bl.length)
 letI e:=af (af d 1) 1
 aq (decide f) (aW (decide (0<=a.i)&&decide f) (aW (decide ((a.ts.length+2+1)*57<=70368744177664)) (aW (decide ((a.ts.length+2+
 List.length (ag e)+1)*57<=70368744177664)) (∃e0,e0<n/\I e0 (sp 46 [(2,.ptr 2 0 [] 0),(3,.ak 3 0 (a.ts.length+2+List.length (ag
 e))),(14,.ah 80 a.bl),(15,b ↑(a.bl.length)),(16,b (IntKind.wrap .i64 (a.i+1)))] [.ext (some a.xs),c 48 (aw
 a.r),c 186 (.cn 0),.row 38 (List.take (a.ts.length+2) (List.take a.ts.length a.ts++[.agg [b (toInt (af (af d 2) 0)),AV.str (toStr (af
 (af d 2) 1)),b (toInt (af (af d 2) 2)),.ah 38 (ag (af (af d 2) 3))],.agg [b (toInt (af (af d 3) 0)),AV.str (toStr (af (af d 3) 1)),
 b (toInt (af (af d 3) 2)),.ah 38 (ag (af (af d 3) 3))]])++ag e)]))))) (K (.exit 0) (sp 46 [(2,.ptr 2 0 [] 0),(3,.ak 3 0 a.ts.length)]
 [.ext (some a.xs),c 48 (aw a.r),c 186 (.cn 0),.row 38 a.ts]))):=by kernel_rfl
def ef(l:List _):=l.flatMap fun a=>[qV 38 (af a 2),qV 38 (af a 3)]++ag (af (af a 1) 1)
def Kl(a:Gm):=a.bl.length<=aX/\0<=a.i/\a.i<=a.bl.length/\(a.ts++ef (a.bl.drop a.i.toNat)).length<=100000
def CN(a:Gm):Out (Exit×S):= .one (.exit 0,sp 46 [(2, .ptr 2 0 [] 0),(3, .ak 3 0 (a.ts++ef (a.bl.drop a.i.toNat)).length)] [.ext (some a.xs), .box 48 (aw a.r), .box 186 (.cn 0), .row 38 (a.ts++ef (a.bl.drop a.i.toNat))])
theorem HP l i(h:i<l.length):ef (l.drop i)=[qV 38 (af (nth l i) 2),qV 38 (af (nth l i) 3)]++ag (af (af (nth l i) 1) 1)++ef (l.drop (i+1)):=by
 rw[aD6 h,aV l i h];rfl
theorem ax5 κ:aU (NK κ) 12 185 3 (aG 2 KJ Kl CN):=by
 refine aC (fun a=>a.bl.length - a.i.toNat) ?_;rintro⟨xs,c,r,b,e,i⟩ K ⟨f,h,l,g⟩ d;simp only at f h l g;rw[show(NK κ).P=Pr κ from rfl];refine Eq.mpr (aA5 κ ⟨xs,c,r,b,e,i⟩ _ _ K) ?_;simp only[and_self];simp only[CN,Out.run] at d;simp only[aX] at f;simp only[ae,ai,at3,aC7,aC6];refine⟨fun j=>⟨⟨h,j⟩,?_⟩,fun j=>?_⟩
 ·have k:=HP b i.toNat (by omega)
  rw[k] at g d;rw[az (n:=i+1) (by omega) (by omega)];simp only[aE1,List.length_cons,List.length_nil] at g;refine⟨by omega,by omega,_,?_,⟨xs,c,r,b,e++([qV 38 (af (nth b i.toNat) 2),qV 38 (af (nth b i.toNat) 3)]++ag (af (af (nth b i.toNat) 1) 1)),i+1⟩,?_,⟨by simpa[aX] using f,by simp only;omega,by simp only;omega,?_⟩,rfl,?_⟩
  ·simp only;omega
  ·simp only[KJ,aE1,List.length_cons,List.length_nil,List.take_length]
   rw[List.take_of_length_le (by simp),show e.length+2+(ag (af (af (nth b i.toNat) 1) 1)).length=e.length+(0+1+1+(ag (af (af (nth b i.toNat) 1) 1)).length) by omega,List.append_assoc];rfl
  ·simp only[aE1,List.length_cons,List.length_nil,show(i+1).toNat=i.toNat+1 by omega];omega
  ·simp only[CN,Out.run,show(i+1).toNat=i.toNat+1 by omega]
   simpa only[List.append_assoc] using d
 ·rw[aD3 (by omega)] at d
  simpa[ef] using d
noncomputable def Gt κ:=(NK κ).an 185 3 (aG 2 KJ Kl CN)
theorem au8 κ:aE (Gt κ):=(e56 _).an (m56 _) (ax5 _)
theorem af1 κ:aj (Gt κ):=(m56 _).an aK
noncomputable abbrev ad8(a:Gm)(κ:Kp)(st:LoopState)(p:Option Code):Dn.Obj:=
 .loop (jq (Pr κ).toProgram 185 11 st p (iO (bR 46) [(2, .ptr 2 0 [] 0),(7, .ptr 4 0 [] 0),(32, .ak 3 0 a.ts.length),(33, .int a.ts.length),(34, .int a.i),(35, .bool true),
  (36, .ptr 3 (0+a.i.toNat) [] 0),(37,G7 a),(38,G7 a),(39, .bo 198 [.ptr 5 0 [] 0])]))
noncomputable abbrev tr κ a:=[.ext (some a.xs), .box 48 (aw a.r), .box 186 (.cn 0), .row 38 a.ts, .box 38 (G7 a), .box 38 (G7 a),ad8 a κ .ready none]
noncomputable abbrev Dw κ a o st p:=[.ext o, .box 48 (aw a.r), .box 186 (.cn 0), .row 38 a.ts, .box 38 (G7 a), .dead,ad8 a κ st p]
theorem s42 κ a Q:(tidy (Pr κ).toProgram 7 (dF (tr κ a) (b7 (tr κ a) [.ptr 5 0 [] 0])) Q)=(
 letI b:=AV.int
 letI c:=nth a.ts (0+a.i.toNat)
 letI d:=toInt (af c 0)
 letI e:=toStr (af c 1)
 letI f:=toInt (af c 2)
 letI g:=ag (af c 3)
 Q [.ext (some a.xs),.box 48 (aw a.r),.box 186 (.cn 0),.row 38 a.ts,.box 38 (.agg [b d,AV.str e,b f,.ah 38 g]),
 .dead,.loop (jq Tryz.prog 185 11 .ready none (iO (bR 46) [(2,.ptr 2 0 [] 0),(7,.ptr 4 0 [] 0),(32,.ak 3 0 a.ts.length),(33,
 b ↑(a.ts.length)),(34,b a.i),(35,AV.bool true),(36,.ptr 3 (0+a.i.toNat) [] 0),(37,.agg [b d,AV.str e,b f,.ah
 38 g]),(38,.agg [b d,AV.str e,b f,.ah 38 g]),(39,.bo 198 [.ptr 5 0 [] 0])]))]):=by kernel_rfl
theorem r42(κ:Kp)(a:Gm)(o:List AV)(u:AV)(Q:List Dn.Obj->Prop)(K2:List Dn.Obj->Prop):(gx (vc (Gt κ) 12) 6 [qV 38 u] (Dw κ a (some o) .ready none) (fun r st''=>match r with| .lit (.bool true)=>tidy (Pr κ).toProgram 7 st'' Q| .lit (.bool false)=>K2 st''|_=>False))=(
 letI b:=AV.int
 letI c:=AV.agg
 letI d:=AV.str
 letI e:=Obj.box
 letI f:=nth a.ts (0+a.i.toNat)
 letI g:=toInt (af f 0)
 letI h:=toStr (af f 1)
 letI i:=toInt (af f 2)
 letI j:=ag (af f 3)
 letI k:=c [b g,d h,b i,AV.ah 38 j]
 letI l:=iO (bR 46) [(2,AV.ptr 2 0 [] 0),(7,AV.ptr 4 0 [] 0),(32,AV.ak 3 0 a.ts.length),(33,b (↑(a.ts.length):Int)),(34,b a.i),(35,
  AV.bool true),(36,AV.ptr 3 (0+a.i.toNat) [] 0),(37,c [b g,d h,b i,AV.ah 38 j]),(38,c [b g,d h,b i,
  AV.ah 38 j]),(39,AV.bo 198 [AV.ptr 5 0 [] 0])]
 ∃(e0:List AV),o=AV.aH [c [b (toInt (af u 0)),d (toStr (af u 1)),b (toInt (af u 2)),AV.ah 38 (ag (af u 3))]]::e0/\Q [Obj.ext
 (some e0),e 48 (aw a.r),e 186 (AV.cn 0),Obj.row 38 a.ts,e 38 k,Obj.dead,Dn.Obj.loop (jq Tryz.prog 185 11 LoopState.ready none l)]/\K2
 [Obj.ext none,e 48 (aw a.r),e 186 (AV.cn 0),Obj.row 38 a.ts,e 38 k,Obj.dead,Dn.Obj.loop (jq Tryz.prog 185 11 LoopState.done (some
 Code.ret) l),e 38 (c [b (toInt (af u 0)),d (toStr (af u 1)),b (toInt (af u 2)),AV.ah 38 (ag (af u 3))])]):=by kernel_rfl
theorem k42 κ a xs:(.cn 0::gf (iX (b7 (tr κ a) [.ptr 5 0 [] 0])) [.ptr 5 0 [] 0],.ext (some xs)::gJ (iX (b7 (tr κ a) [.ptr 5 0 [] 0])) (gF (tr κ a) (b7 (tr κ a) [.ptr 5 0 [] 0])))=([.cn 0, .ptr 1 0 [] 0],[.ext (some xs), .box 38 (G7 a)]):=by kernel_rfl
theorem o42 κ a:mi (tr κ a) [.ptr 5 0 [] 0]=true:=by kernel_rfl
noncomputable def Q8(κ:Kp):eO:=fun b st K=>∃a,(b,st)=([AV.ptr 5 0 [] 0],tr κ a)/\((cx (nth a.ts a.i.toNat)).nK<=100000/\a.xs=qR 38 (nth a.ts a.i.toNat)++a.more)/\
 K (Dw κ a (some a.more) .ready none)/\∀u,K (Dw κ a none .done (some .ret)++[.box 38 (qV 38 u)])
theorem Iw κ:(Q8 κ).gl:=by
 rintro b st K g c ⟨a,d,e,f,h⟩;exact⟨a,d,e,c _ f,by grind⟩
theorem call42 κ a st K(h:aM Uv De JQ a st K):(Gt κ).call 198 a st K:=h
theorem aw8 κ:jf (Gt κ) 12 198 (Q8 κ):=by
 rintro c st K ⟨a,g,⟨k,f⟩,m,n⟩;obtain⟨rfl,rfl⟩:=Prod.mk.inj g;refine⟨qR 38 (nth a.ts a.i.toNat),fun b st'=>(∀x,x∈b->tK 38 x)/\st'=Dw κ a (some (b++a.more)) .ready none,⟨o42 κ a,?_,?_,?_,?_⟩⟩
 ·refine call42 κ _ _ _ ⟨nth a.ts a.i.toNat,?_,k,fun st' h=>h⟩
  rw[k42,G7,Nat.zero_add];rfl
 ·rw[show(Gt κ).P=Pr κ from rfl,show(tr κ a).length=7 from rfl,s42]
  exact⟨n6 _ _ _ (Nat.lt_succ_self _),by rw[f];rfl⟩
 ·rintro l e st' ⟨d,rfl⟩
  obtain⟨u,o⟩:=d (.aH l) (by simp);obtain rfl:=AV.aH.inj o;refine Eq.mpr (r42 κ a _ u _ _) ?_;exact⟨_,rfl,⟨fun x j=>d x (by simp[j]),rfl⟩,n u⟩
 ·rintro st' ⟨_,rfl⟩
  exact m
noncomputable def wV κ:=((Gt κ).addRange 185 11 198 (Q8 κ)).dc fun f=>jr f TD
theorem av0 κ:aE (wV κ):=((au8 _).addRange (af1 _) (aw8 _)).dc _
theorem af3 κ:aj (wV κ):=((af1 _).addRange (Iw _)).dc _
abbrev KK(a:Gm):=sp 46 [(2, .ptr 2 0 [] 0),(32, .ak 3 0 a.ts.length),(33, .int a.ts.length),(34, .int a.i)] [.ext (some a.xs), .box 48 (aw a.r), .box 186 (.cn 0), .row 38 a.ts]
theorem aA6 κ a I n K:(vc (wV κ) 12 185 none 2 (ad (Pr κ).toProgram 185 8) (KK a) (bg (wV κ) 185 8 2 I n K))=(
 letI b:=AV.int
 letI c:=AV.ptr
 letI d:=AV.agg
 letI e:=Obj.box
 letI f:=Obj.ext
 letI g:=nth a.ts (0+a.i.toNat)
 letI h:=a.ts.length
 letI k:=toInt (af g 0)
 letI l:=toStr (af g 1)
 letI m:=toInt (af g 2)
 letI o:=ag (af g 3)
 letI p:=d [b k,AV.str l,b m,.ah 38 o]
 aq (decide (a.i<↑h)) (aW (decide (0<=a.i)&&decide (a.i<(↑h:Int))) (∃(e1:Gm),letI i:=nth e1.ts (0+e1.i.toNat);letI j:=[b (toInt (af i 0)),AV.str (toStr (af i 1)),b (toInt (af i 2)),AV.ah 38 (ag (af i 3))];([c 5 0 [] 0],[f (some a.xs),e 48 (aw a.r),e 186 (AV.cn 0),Obj.row 38 a.ts,e 38 p,e 38 p,Dn.Obj.loop (jq Tryz.prog 185 11 LoopState.ready none (iO (bR 46) [(2,c 2 0 [] 0),(7,c 4 0 [] 0),(32,AV.ak 3 0 a.ts.length),(33,b (↑h:Int)),(34,b a.i),(35,AV.bool true),(36,c 3 (0+a.i.toNat) [] 0),(37,d [b k,AV.str l,b m,AV.ah 38 o]),(38,d [b k,AV.str l,b m,AV.ah 38 o]),(39,AV.bo 198 [c 5 0 [] 0])]))])=([c 5 0 [] 0],[f (some e1.xs),e 48 (aw e1.r),e 186 (AV.cn 0),Obj.row 38 e1.ts,e 38 (d j),e 38 (d j),Dn.Obj.loop (jq Tryz.prog 185 11 LoopState.ready none (iO (bR 46) [(2,c 2 0 [] 0),(7,c 4 0 [] 0),(32,AV.ak 3 0 e1.ts.length),(33,b (↑(e1.ts.length):Int)),(34,b e1.i),(35,AV.bool true),(36,c 3 (0+e1.i.toNat) [] 0),(37,d j),(38,d j),(39,AV.bo 198 [c 5 0 [] 0])]))])/\(Tm.nK (cx (nth e1.ts e1.i.toNat))<=100000/\e1.xs=qR 38 (nth e1.ts e1.i.toNat)++e1.more)/\(∃(e0:Nat),e0<n/\I e0 (sp 46 [(2,c 2 0 [] 0),(32,AV.ak 3 0 a.ts.length),(33,b (↑h:Int)),(34,b (IntKind.wrap IntKind.i64 (a.i+(1:Int))))] [f (some e1.more),e 48 (aw e1.r),e 186 (AV.cn 0),Obj.row 38 e1.ts]))/\∀(e0:AV),K Exit.ret (sp 46 [] [f none,e 48 (aw e1.r)]))) (K (Exit.exit 2) (sp 46 [] [f (some a.xs),e 48 (aw a.r)]))):=by kernel_rfl
def Db(a:Gm):=a.ts.length<=aX/\0<=a.i/\a.i<=a.ts.length/\bn (aa (a.ts.drop a.i.toNat))<=100000/\a.xs=gj 38 (a.ts.drop a.i.toNat)
def PN(a:Gm):Out (Exit×S):= .all (fun _=>True) fun b=> .aq b (.one (.exit 2,sp 46 [] [.ext (some []), .box 48 (aw a.r)])) (.one (.ret,sp 46 [] [.ext none, .box 48 (aw a.r)]))
theorem ax6 κ:aU (wV κ) 12 185 8 (aG 2 KK Db PN):=by
 refine aC (fun a=>a.ts.length - a.i.toNat) ?_;rintro⟨xs,b,r,f,m,i⟩ K ⟨h,j,l,o,c⟩ g;simp only at h j l o c;rw[show(wV κ).P=Pr κ from rfl];refine Eq.mpr (aA6 κ ⟨xs,b,r,f,m,i⟩ _ _ K) ?_;have e:=g true trivial;have d:=g false trivial;simp only[Out.run,aq] at e d;simp only[aX] at h;simp only[ae,ai,at3,aC7,aC6];refine⟨fun k=>⟨⟨j,k⟩,?_⟩,fun k=>?_⟩
 ·have p:=xn m i.toNat (by omega)
  rw[zl _ m i.toNat (by omega)] at c;rw[az (n:=i+1) (by omega) (by omega)];refine⟨⟨xs,gj 38 (m.drop (i.toNat+1)),r,f,m,i⟩,rfl,⟨by simp only;omega,c⟩,⟨_,?_,⟨_,b,r,f,m,i+1⟩,rfl,⟨by simpa[aX] using h,by simp only;omega,by simp only;omega,?_,?_⟩,rfl,g⟩,fun _=>d⟩
  ·simp only;omega
  ·grind
  ·simp only[show(i+1).toNat=i.toNat+1 by omega]
 ·rw[aD3 (by omega)] at c
  subst c;exact e
noncomputable def NF κ:=(wV κ).an 185 8 (aG 2 KK Db PN)
theorem au9 κ:aE (NF κ):=(av0 _).an (af3 _) (ax6 _)
theorem af2 κ:aj (NF κ):=(af3 _).an aK
theorem y42 κ a K:(a8 (NF κ) 12 185 [.cn 0, .ptr 1 0 [] 0] [.ext (some a.xs), .box 48 (aw a)] K)=(
 letI b:=AV.int
 letI c:=AV.ptr
 letI d:=Obj.box
 letI e:=Obj.row
 letI f:=Obj.ext
 letI g:=AV.ak
 letI h:=AV.cn
 letI i:=Pg.toProgram (Env.P (NK κ))
 letI j:=Pg.toProgram (Env.P (wV κ))
 (Pw a.hl=true->ad i 185 3=ad i 185 3/\∃(e2:Gm),letI k:=e2.ts++ef (List.drop e2.i.toNat e2.bl);sp 46 [(2,c 2 0 [] 0),(3,g 3 0 0),(14,AV.ah 80 a.bl),(15,b (↑(a.bl.length):Int)),(16,b 0)] [f (some a.xs),d 48 (aw a),d 186 (h 0),e 38 []]=sp 46 [(2,c 2 0 [] 0),(3,g 3 0 e2.ts.length),(14,AV.ah 80 e2.bl),(15,b (↑(e2.bl.length):Int)),(16,b e2.i)] [f (some e2.xs),d 48 (aw e2.r),d 186 (h 0),e 38 e2.ts]/\(e2.bl.length<=9223372036854775807/\(0:Int)<=e2.i/\e2.i<=(↑(e2.bl.length):Int)/\List.length k<=100000)/\ad j 185 8=ad j 185 8/\∃(e1:Gm),letI m:=List.drop e1.i.toNat e1.ts;sp 46 [(2,c 2 0 [] 0),(32,g 3 0 (List.length k)),(33,b (↑(List.length k):Int)),(34,b 0)] [f (some e2.xs),d 48 (aw e2.r),d 186 (h 0),e 38 k]=sp 46 [(2,c 2 0 [] 0),(32,g 3 0 e1.ts.length),(33,b (↑(e1.ts.length):Int)),(34,b e1.i)] [f (some e1.xs),d 48 (aw e1.r),d 186 (h 0),e 38 e1.ts]/\(e1.ts.length<=9223372036854775807/\(0:Int)<=e1.i/\e1.i<=(↑(e1.ts.length):Int)/\bn (aa m)<=100000/\e1.xs=gj 38 m)/\∀(e0:Bool),True->aq e0 (K (AV.aH []) [f (some []),d 48 (aw e1.r)]) (K (AV.aH []) [f none,d 48 (aw e1.r)]))/\aW (decide ((0+a.hl.length+1)*57<=70368744177664)) (ad i 185 3=ad i 185 3/\∃(e2:Gm),letI l:=e2.ts++ef (List.drop e2.i.toNat e2.bl);sp 46 [(2,c 2 0 [] 0),(3,g 3 0 (0+a.hl.length)),(14,AV.ah 80 a.bl),(15,b (↑(a.bl.length):Int)),(16,b 0)] [f (some a.xs),d 48 (aw a),d 186 (h 0),e 38 ([]++a.hl)]=sp 46 [(2,c 2 0 [] 0),(3,g 3 0 e2.ts.length),(14,AV.ah 80 e2.bl),(15,b (↑(e2.bl.length):Int)),(16,b e2.i)] [f (some e2.xs),d 48 (aw e2.r),d 186 (h 0),e 38 e2.ts]/\(e2.bl.length<=9223372036854775807/\(0:Int)<=e2.i/\e2.i<=(↑(e2.bl.length):Int)/\List.length l<=100000)/\ad j 185 8=ad j 185 8/\∃(e1:Gm),letI n:=List.drop e1.i.toNat e1.ts;sp 46 [(2,c 2 0 [] 0),(32,g 3 0 (List.length l)),(33,b (↑(List.length l):Int)),(34,b 0)] [f (some e2.xs),d 48 (aw e2.r),d 186 (h 0),e 38 l]=sp 46 [(2,c 2 0 [] 0),(32,g 3 0 e1.ts.length),(33,b (↑(e1.ts.length):Int)),(34,b e1.i)] [f (some e1.xs),d 48 (aw e1.r),d 186 (h 0),e 38 e1.ts]/\(e1.ts.length<=9223372036854775807/\(0:Int)<=e1.i/\e1.i<=(↑(e1.ts.length):Int)/\bn (aa n)<=100000/\e1.xs=gj 38 n)/\∀(e0:Bool),True->aq e0 (K (AV.aH []) [f (some []),d 48 (aw e1.r)]) (K (AV.aH []) [f none,d 48 (aw e1.r)]))):=by kernel_rfl
def YR(a:dx):List AV×List Dn.Obj:=([.cn 0, .ptr 1 0 [] 0],[.ext (some (gj 38 (bp 38 a.hl a.bl))), .box 48 (aw a)])
def du(a:dx):=bn (aa (bp 38 a.hl a.bl))<=100000/\a.bl.length<=100000
def PM(_:dx):Out (AV×List Dn.Obj):= .all (fun st'=>tv st') fun st'=> .one (.aH [],st')
theorem c42 κ:bd (NF κ) 12 185 (aM YR du PM):=by
 refine aQ ?_;rintro⟨xs,g,k,d,c,f,i⟩ K ⟨o,u⟩ p;have s: ∀b,K (.aH []) [.ext none,b]:=fun b=>p _ trivial
 have q: ∀b,K (.aH []) [.ext (some []),b]:=fun b=>p _ trivial
 simp only at o u;have l:=im (aa (bp 38 d c));rw[eS] at l;have t:d.length<=100000:=by
  have:(bp 38 d c).length=d.length+(ef c).length:=by simp[bp,ef]
  omega
 refine Eq.mpr (y42 κ ⟨gj 38 (bp 38 d c),g,k,d,c,f,i⟩ K) ?_;have n: ∀j:List AV,j=d->(j++ef (List.drop (Int.toNat 0) c))=bp 38 d c:=fun j h=>by subst h;rfl
 have m: ∀j:List AV,j=d->∃a:Gm,sp 46 [(2, .ptr 2 0 [] 0),(32, .ak 3 0 (j++ef (List.drop (Int.toNat 0) c)).length),(33, .int (j++ef (List.drop (Int.toNat 0) c)).length),(34, .int 0)] [.ext (some (gj 38 (bp 38 d c))), .box 48 (aw ⟨gj 38 (bp 38 d c),g,k,d,c,f,i⟩), .box 186 (.cn 0), .row 38 (j++ef (List.drop (Int.toNat 0) c))]=KK a/\Db a/\∀y:Bool,True->aq y (K (.aH []) [.ext (some []), .box 48 (aw a.r)]) (K (.aH []) [.ext none, .box 48 (aw a.r)]):=by
  intro j h;refine⟨⟨_,[],⟨gj 38 (bp 38 d c),g,k,d,c,f,i⟩,c,j++ef (List.drop (Int.toNat 0) c),0⟩,rfl,⟨?_,?_,?_,?_,?_⟩,fun y _=>?_⟩
  ·simp only[n j h,aX];omega
  ·simp only;omega
  ·simp only;omega
  ·show bn (aa (List.drop (Int.toNat 0) (j++ef (List.drop (Int.toNat 0) c))))<=100000
   rw[n j h];exact o
  ·rw[n j h];rfl
  ·cases y
   ·exact s _
   ·exact q _
 refine⟨fun e=>?_,?_⟩
 ·obtain rfl:d=[]:=by
   cases d with
   |nil=>rfl
   |cons=>cases e
  refine⟨rfl,⟨_,[],⟨gj 38 (bp 38 [] c),g,k,[],c,f,i⟩,c,[],0⟩,rfl,⟨by simp only;omega,by simp only;omega,by simp only;omega,?_⟩,rfl,m [] rfl⟩;rw[n [] rfl];exact Nat.le_trans l o
 ·rw[ai,at3]
  refine⟨by simp only;omega,rfl,⟨_,[],⟨gj 38 (bp 38 d c),g,k,d,c,f,i⟩,c,[]++d,0⟩,?_,⟨by simp only;omega,by simp only;omega,by simp only;omega,?_⟩,rfl,m ([]++d) rfl⟩
  ·rw[Nat.zero_add];rfl
  ·rw[n ([]++d) rfl];exact Nat.le_trans l o
set_option maxRecDepth 20000 in
noncomputable def Vj(κ:Kp):Env:=(NF κ).ax 185 (aM YR du PM)
theorem e42 κ:aE (Vj κ):=(au9 _).ax (af2 _) (c42 _)
theorem m42 κ:aj (Vj κ):=(af2 _).ax aJ
def aL(a:dx):Rl:=⟨⟨a.rel,aa a.hl⟩,dI a.bl⟩
noncomputable abbrev ad6(a:dx)(κ:Kp)(st:LoopState)(p:Option Code):Dn.Obj:=
 .loop (jq (Pr κ).toProgram 115 6 st p (iO (bR 31) [(0,aw a),(1, .ptr 0 0 [] 0),(2, .nil),(3, .ptr 1 0 [] 0),(4, .ptr 3 0 [] 0),(6,aw a),(7, .bool (ba (aL a))),(8, .bool false),(9, .mp 2),(10,aw a),(11, .bo 185 [.ptr 4 0 [] 0])]))
noncomputable abbrev rk κ a:=[.box 48 (aw a), .box 36 .nil, .map 9 4 [], .box 177 (.mp 2), .box 48 (aw a),ad6 a κ .ready none]
theorem s12 κ a Q:(tidy (Pr κ).toProgram 6 (dF (rk κ a) (b7 (rk κ a) [.ptr 4 0 [] 0])) Q)=(
 Q [.box 48 (aw a),.box 36 (.ak 6 0 0),.map 9 4 [],.box 177 (.mp 2),.dead,.loop (jq Tryz.prog 115 6 .ready none (iO (bR
 31) [(0,aw a),(1,.ptr 0 0 [] 0),(2,AV.nil),(3,.ptr 1 0 [] 0),(4,.ptr 3 0 [] 0),(6,aw a),(7,AV.bool (ba (aL a))),(8,AV.bool false),(9,
 .mp 2),(10,aw a),(11,.bo 185 [.ptr 4 0 [] 0])])),.row 9 []]):=by kernel_rfl
noncomputable abbrev Dv κ a b c:=[.box 48 (aw a), .box 36 (.ak 6 0 b.length), .map 9 4 c, .box 177 (.mp 2), .dead,ad6 a κ .ready none, .row 9 (strs b)]
theorem r12 κ a vs es u Q(K2:List Dn.Obj->Prop):(gx (vc (Vj κ) 12) 5 [qV 38 u] (Dv κ a vs es) (fun r st''=>match r with| .lit (.bool true)=>tidy (Pr κ).toProgram 6 st'' Q| .lit (.bool false)=>K2 st''|_=>False))=(
 letI b:=AV.bool
 letI c:=Obj.box
 letI d:=jq Tryz.prog 115 6 .ready none (iO (bR 31) [(0,aw a),(1,.ptr 0 0 [] 0),(2,AV.nil),(3,.ptr 1 0 [] 0),(4,.ptr 3 0 [] 0),(6,aw
  a),(7,b (ba (aL a))),(8,b false),(9,.mp 2),(10,aw a),(11,.bo 185 [.ptr 4 0 [] 0])])
 letI e:=Q [c 48 (aw a),c 36 (.ak 6 0 vs.length),.map 9 4 es,c 177 (.mp 2),.dead,.loop d,.row 9 (strs vs)]
 letI f:=.string (toStr (af u 1))
 aq (toInt (af u 0) != 1) e (aq (Dn.toBool (dj es f (b false))) e (aW (decide ((vs.length+1+1)*17<=70368744177664)) (Q [c 48 (aw
 a),c 36 (.ak 6 0 (vs.length+1)),.map 9 4 (fb es f (b true)),c 177 (.mp 2),.dead,.loop d,.row 9 (List.take
 vs.length (strs vs)++[AV.str (toStr (af u 1))])])))):=by kernel_rfl
theorem k12 κ a xs:(.cn 0::gf (iX (b7 (rk κ a) [.ptr 4 0 [] 0])) [.ptr 4 0 [] 0],.ext (some xs)::gJ (iX (b7 (rk κ a) [.ptr 4 0 [] 0])) (gF (rk κ a) (b7 (rk κ a) [.ptr 4 0 [] 0])))=([.cn 0, .ptr 1 0 [] 0],[.ext (some xs), .box 48 (aw a)]):=by kernel_rfl
theorem o12 κ a:mi (rk κ a) [.ptr 4 0 [] 0]=true:=by kernel_rfl
noncomputable def Q7(κ:Kp):eO:=fun b st K=>∃a,(b,st)=([AV.ptr 4 0 [] 0],rk κ a)/\du a/\K (Dv κ a (kV [] (eL (aL a))) (b6 (kV [] (eL (aL a)))))
theorem Iv κ:(Q7 κ).gl:=by
 rintro b st K g e ⟨a,d,f,c⟩;exact⟨a,d,f,e _ c⟩
theorem call12 κ a st K(h:aM YR du PM a st K):(Vj κ).call 185 a st K:=h
theorem aw6 κ:jf (Vj κ) 12 185 (Q7 κ):=by
 rintro l st K ⟨a,q,o,v⟩;obtain⟨rfl,rfl⟩:=Prod.mk.inj q;have k:=jw 38 a.rel a.hl a.bl;rw[←vr 38] at k;have w:(eL (aL a)).length<=100000:=by
  have n:=cZ (aa (bp 38 a.hl a.bl));rw[jw 38 a.rel a.hl a.bl] at n;exact Nat.le_trans n o.1
 have hd:=lB (eL (aL a)) [];refine⟨gj 38 (bp 38 a.hl a.bl),fun c st'=>∃b,(∀x,x∈c->tK 38 x)/\st'=Dv κ a b (b6 b)/\b++kV b (c.flatMap Au)=kV [] (eL (aL a)),⟨o12 κ a,?_,?_,?_,?_⟩⟩
 ·refine call12 κ _ _ _ ⟨a,?_,o,fun st' h=>h⟩
  rw[k12];rfl
 ·rw[show(Vj κ).P=Pr κ from rfl,show(rk κ a).length=6 from rfl,s12]
  exact⟨[],Et _ _,rfl,by rw[k];rfl⟩
 ·rintro p g st' ⟨b,m,rfl,d⟩
  obtain⟨u,t⟩:=m (.aH p) (by simp);obtain rfl:=AV.aH.inj t;rw[show(Vj κ).P=Pr κ from rfl,show(rk κ a).length=6 from rfl];refine Eq.mpr (r12 κ a b _ u _ _) ?_;have f: ∀x,x∈g->tK 38 x:=fun x r=>m x (by simp[r])
  have s:Au (.aH [qV 38 u])=bif decide (toInt (af u 0)=1) then[toStr (af u 1)] else[]:=rfl
  rw[List.flatMap_cons,s] at d;have j:Dn.toBool (dj (b6 b) (.string (toStr (af u 1))) (.lit (.bool false)))=b.contains (toStr (af u 1)):=qq _ _;rw[j];simp only[ae,ai,bne_iff_ne,bne_eq_false_iff_eq,at3];refine⟨fun e=>⟨b,f,rfl,?_⟩,fun e=>⟨fun i=>⟨b,f,rfl,?_⟩,fun i=>⟨?_,b++[toStr (af u 1)],f,?_,?_⟩⟩⟩
  ·rw[aC9 e] at d;exact d
  ·rw[aD1 e,aD2,List.singleton_append,kV,i] at d;exact d
  ·have:=congrArg List.length d
   rw[aE1] at this;omega
  ·rw[U8,←bf b,List.take_length]
   simp only[Dv,jQ,bf,aE1,List.length_cons,List.length_nil];rfl
  ·rw[aD1 e,aD2,List.singleton_append,kV,i,aD0] at d
   simpa using d
 ·rintro st' ⟨b,_,rfl,d⟩
  have i:b=kV [] (eL (aL a)):=by simpa[kV] using d
  rw[i];exact v
noncomputable def Nv κ:=((Vj κ).addRange 115 6 185 (Q7 κ)).dc fun f=>jr f TD
theorem at4 κ:aE (Nv κ):=((e42 _).addRange (m42 _) (aw6 _)).dc _
theorem ae2 κ:aj (Nv κ):=((m42 _).addRange (Iv _)).dc _
theorem y12 κ a K:(a8 (Nv κ) 12 115 [aw a] [] K)=(
 letI b:=AV.int
 letI c:=AV.ptr
 letI d:=AV.agg
 letI e:=AV.str
 letI f:=Obj.box
 letI g:=AV.ah
 letI h:=AV.nil
 letI j:=d [d [e a.rel,g 38 a.hl],g 80 a.bl,b a.line]
 aW (decide (a.hl.length<=9223372036854775807)&&decide (a.bl.length<=9223372036854775807)) (aq (!ba {head:={rel:=a.rel,l:=aa a.hl},body:=dI a.bl}) (K h []) (∃e0,letI i:=[d [e e0.rel,g 38 e0.hl],g 80 e0.bl,b e0.line];([c 4 0 [] 0],[f 48 j,f 36 h,.map 9 4 [],f 177 (.mp 2),f 48 j,.loop (jq Tryz.prog 115 6 .ready none (iO (bR 31) [(0,d [d [e a.rel,g 38 a.hl],g 80 a.bl,b a.line]),(1,c 0 0 [] 0),(2,h),(3,c 1 0 [] 0),(4,c 3 0 [] 0),(6,d [d [e a.rel,g 38 a.hl],g 80 a.bl,b a.line]),(7,.lit (.bool (ba {head:={rel:=a.rel,l:=aa a.hl},body:=dI a.bl}))),(8,AV.bool false),(9,.mp 2),(10,d [d [e a.rel,g 38 a.hl],g 80 a.bl,b a.line]),(11,.bo 185 [c 4 0 [] 0])]))])=([c 4 0 [] 0],[f 48 (d i),f 36 h,.map 9 4 [],f 177 (.mp 2),f 48 (d i),.loop (jq Tryz.prog 115 6 .ready none (iO (bR 31) [(0,d i),(1,c 0 0 [] 0),(2,h),(3,c 1 0 [] 0),(4,c 3 0 [] 0),(6,d i),(7,AV.bool (ba (aL e0))),(8,AV.bool false),(9,.mp 2),(10,d i),(11,.bo 185 [c 4 0 [] 0])]))])/\(bn (aa (bp 38 e0.hl e0.bl))<=100000/\e0.bl.length<=100000)/\K (.ak 0 0 (List.length (kV [] (eL (aL e0))))) [.row 9 (strs (kV [] (eL (aL e0))))]))):=by kernel_rfl
def am9(a:dx):List AV×List Dn.Obj:=([aw a],[])
def Qr a:=ba (aL a)=true/\du a
def PG(a:dx):Out (AV×List Dn.Obj):= .one (.ak 0 0 (bK (aL a)).length,[.row 9 (strs (bK (aL a)))])
theorem c12 κ:bd (Nv κ) 12 115 (aM am9 Qr PG):=by
 refine aQ ?_;rintro⟨xs,b,c,d,f,a,i⟩ K ⟨h,j,k⟩ l;refine Eq.mpr (y12 κ ⟨xs,b,c,d,f,a,i⟩ K) ?_;have m:ba ⟨⟨c,aa d⟩,dI f⟩=true:=h;simp only at j k;have g:=im (aa (bp 38 d f));rw[eS] at g;have n:d.length<=100000:=by
  grind [bp,ef]
 simp only[m,ai,ae,aC6,at3];refine⟨⟨by omega,by omega⟩,(fun e=>nomatch e),fun _=>⟨⟨xs,b,c,d,f,a,i⟩,?_,⟨j,k⟩,?_⟩⟩
 ·grind
 ·simp only[PG,Out.run,bK,h,aD2] at l
  exact l
set_option maxRecDepth 20000 in
noncomputable def Nu(κ:Kp):Env:=(Nv κ).ax 115 (aM am9 Qr PG)
theorem e12 κ:aE (Nu κ):=(at4 _).ax (ae2 _) (c12 _)
theorem m12 κ:aj (Nu κ):=(ae2 _).ax aJ
theorem pg: ∀l m,bn (l++m)=bn l+bn m
 |[],m=>by simp[bn]
 |t::l,m=>by simp[bn,pg l m];omega
theorem qF{a}(h:du a):bn (aa a.hl)<=100000:=by
 have:=h.1
 unfold bp aa at this;rw[List.map_append,pg] at this
 grind [aa]
theorem JC: ∀l x,x∈l->kt (bQ x)<=bn (aa (ef l))
 |[],_,h=>by grind
 | y::l,x,h=>by
  have e:bn (aa (ef (y::l)))=kt (bQ y)+bn (aa (ef l)):=by
   unfold ef aa;rw[List.flatMap_cons,List.map_append,pg,List.map_append,pg];simp[kt,bQ,Oa,aa,aE4,List.map_nil,tx]
  rcases List.mem_cons.1 h with rfl|h
  ·omega
  ·have:=JC l x h;omega
theorem lU{a}(h:du a){i}(c:i<a.bl.length):kt (bQ (nth a.bl i))<=100000:=by
 have b:=h.1;have e:bp _ _ a.bl=a.hl++ef _:=rfl;rw[e] at b;unfold aa at b;rw[List.map_append,pg] at b;have:=JC a.bl (nth a.bl i) (by grind [aV])
 grind [aa]
theorem j7 l{i}(a:i<l.length):ep (dI l) i=bQ (nth l i):=by
 grind [ep,dI,aV]
def ui(x:AV):LA:=⟨toInt (af x 0),toStr (af (af x 1) 0),ag (af (af x 1) 1),toInt (af (af x 2) 0),toStr (af (af x 2) 1),toInt (af (af x 2) 2),ag (af (af x 2) 3),toInt (af (af x 3) 0),toStr (af (af x 3) 1),toInt (af (af x 3) 2),ag (af (af x 3) 3)⟩
theorem e9 x:(ui x).lt=bQ x:=by rw[lt_eq];rfl
structure Zl where
 a:dx
 k:Int
 i:Int
 vs:List ByteArray
abbrev Wf(a:Zl):=sp 53 [(1, .int a.k),(2, .ptr 0 0 [] 0),(5, .ptr 1 0 [] 0),(17, .ah 80 a.a.bl),(18, .int a.a.bl.length),(19, .int a.i)] [.box 48 (aw a.a), .box 178 (.mp 2), .map 9 4 (b6 a.vs)]
theorem x39 κ a k i es I n K:(vc (Nu κ) 12 159 none 0 (ad (Pr κ).toProgram 159 4) (sp 53 [(1, .int k),(2, .ptr 0 0 [] 0),(5, .ptr 1 0 [] 0),(17, .ah 80 a.bl),(18, .int a.bl.length),(19, .int i)] [.box 48 (aw a), .box 178 (.mp 2), .map 9 4 es]) (bg (Nu κ) 159 4 0 I n K))=(
 letI b:=AV.ptr 0 0 []
 letI c:=AV.int
 letI d:=AV.agg
 letI e:=AV.str
 letI f:=Obj.box
 letI g:=Dn.Obj.map
 letI h:=AV.ah
 letI j:=AV.mp
 letI l:=nth a.bl i.toNat
 letI p:=IntKind.wrap .i64 (i+1)
 letI m:=a.bl.length
 letI o:=∃e2,([h 38 [d [c (toInt (af (af l 2) 0)),e (toStr (af (af l 2) 1)),c (toInt (af (af l 2) 2)),h 38 (ag
  (af (af l 2) 3))]]],aR)=([h 38 e2],aR)/\bH e2/\∃e1,([j 0,h 9 (List.take (List.length (ar (aa e2)))
  (List.drop 0 (strs (ar (aa e2)))))],[g 9 4 es])=([j 0,h 9 e1.1],[g 9 4 e1.2])/\bt e1/\∃e0,e0<n/\I e0 (sp 53 [(1,
  c k),(2,b 0),(5,.ptr 1 0 [] 0),(17,h 80 a.bl),(18,c ↑m),(19,c p)] [f 48 (aw a),f 178 (j
  2),g 9 4 (fZ e1.2 e1.1)])
 letI q:=∃e2,([d [c (toInt (af l 0)),d [e (toStr (af (af l 1) 0)),h 38 (ag (af (af l 1) 1))],d [c (toInt (af
  (af l 2) 0)),e (toStr (af (af l 2) 1)),c (toInt (af (af l 2) 2)),h 38 (ag (af (af l 2) 3))],d [c (toInt (af (af l 3) 0)),
  e (toStr (af (af l 3) 1)),c (toInt (af (af l 3) 2)),h 38 (ag (af (af l 3) 3))]]],aR)=([d [c e2.op,d [e e2.s,h 38
  e2.l],d [c e2.o1,e e2.s1,c e2.n1,h 38 e2.l1],d [c e2.o2,e e2.s2,c e2.n2,h 38 e2.l2]]],aR)/\gV e2/\∃
  e1,([j 0,h 9 (List.take (List.length (dK (LA.lt e2))) (List.drop 0 (strs (dK (LA.lt e2)))))],[g 9 4 es])=
  ([j 0,h 9 e1.1],[g 9 4 e1.2])/\bt e1/\∃e0,e0<n/\I e0 (sp 53 [(1,c k),(2,b 0),(5,.ptr 1 0 [] 0),(17,
  h 80 a.bl),(18,c ↑m),(19,c p)] [f 48 (aw a),f 178 (j 2),g 9 4 (fZ e1.2 e1.1)])
 aq (decide (i<↑m)) (aW (decide (0<=i)&&decide (i<↑m)) (aq (i==k) (o/\o/\o) (q/\q))) (K (.exit 0) (sp 53 [(1,
 c k),(2,b 0),(5,.ptr 1 0 [] 0)] [f 48 (aw a),f 178 (j 2),g 9 4 es]))):=by kernel_rfl
def Kk(a:Zl):=du a.a/\0<=a.k/\0<=a.i/\a.i<=a.a.bl.length
def ph(a:Zl):=a.vs++Eb a.k.toNat (dI (a.a.bl.drop a.i.toNat)) a.i.toNat
def yE(a:Zl):Out (Exit×S):= .one (.exit 0,sp 53 [(1, .int a.k),(2, .ptr 0 0 [] 0),(5, .ptr 1 0 [] 0)] [.box 48 (aw a.a), .box 178 (.mp 2), .map 9 4 (b6 (ph a))])
theorem l39 κ:aU (Nu κ) 12 159 4 (aG 0 Wf Kk yE):=by
 refine aC (fun a=>a.a.bl.length - a.i.toNat) ?_;rintro⟨a,k,i,d⟩ K ⟨f,g,j,p⟩ b;simp only at f g j p;rw[show(Nu κ).P=Pr κ from rfl];refine Eq.mpr (x39 κ a k i (b6 d) _ _ K) ?_;simp only[and_self];have t:=f.2;simp only[yE,ph,Out.run] at b;simp only[ae,ai,at3,aC7,aC6,beq_iff_eq,beq_eq_false_iff_ne];refine⟨fun m=>⟨⟨j,m⟩,?_⟩,fun m=>?_⟩
 ·have c:=lU f (i:=i.toNat) (by omega)
  rw[pC a.bl i.toNat (by omega),Eb] at b;rw[az (n:=i+1) (by omega) (by omega)];refine⟨fun e=>?_,fun e=>?_⟩
  ·subst e
   rw[Nat.beq_refl,aD2,←List.append_assoc] at b;have h:aa [qV 38 (af (nth a.bl i.toNat) 2)]=[(bQ (nth a.bl i.toNat)).x]:=by
    simp only[aa,aE4,List.map_nil,tx];rfl
   have r:bn [(bQ (nth a.bl i.toNat)).x]<=100000:=by
    have:kt (bQ (nth a.bl i.toNat))=bn [(bQ (nth a.bl i.toNat)).x,(bQ (nth a.bl i.toNat)).y]+bn (bQ (nth a.bl i.toNat)).a.l:=rfl
    simp only[bn] at this⊢;omega
   have q:=cZ [(bQ (nth a.bl i.toNat)).x];refine⟨[qV 38 (af (nth a.bl i.toNat) 2)],rfl,by simp only[bH,h];exact r,⟨strs (ar [(bQ (nth a.bl i.toNat)).x]),b6 d⟩,?_,?_,_,?_,⟨a,i,i+1,d++ar [(bQ (nth a.bl i.toNat)).x]⟩,?_,⟨f,g,by simp only;omega,by simp only;omega⟩,rfl,?_⟩
   ·simp only[aD5,db,h]
   ·simp only[bt,bf,aX];omega
   ·simp only;omega
   ·simp only[nH]
   ·simp only[yE,ph,Out.run,show(i+1).toNat=i.toNat+1 by omega]
    exact b
  ·rw[tP (show i.toNat≠k.toNat by omega),aD0,←List.append_assoc] at b
   have q:=cZ [(bQ (nth a.bl i.toNat)).x,(bQ (nth a.bl i.toNat)).y];have s:=cZ (bQ (nth a.bl i.toNat)).a.l;have o:(dK (bQ (nth a.bl i.toNat))).length<=100000:=by
    simp only[dK,kt,aE1] at c⊢;omega
   refine⟨ui (nth a.bl i.toNat),rfl,by rw[gV,e9];exact c,⟨strs (dK (bQ (nth a.bl i.toNat))),b6 d⟩,?_,?_,_,?_,⟨a,k,i+1,d++dK (bQ (nth a.bl i.toNat))⟩,?_,⟨f,g,by simp only;omega,by simp only;omega⟩,rfl,?_⟩
   ·simp only[aD5,db,e9]
   ·simp only[bt,bf,aX];omega
   ·simp only;omega
   ·simp only[nH]
   ·simp only[yE,ph,Out.run,show(i+1).toNat=i.toNat+1 by omega]
    exact b
 ·rw[aD3 (by omega)] at b
  simpa[dI,Eb] using b
noncomputable def oY κ:=(Nu κ).an 159 4 (aG 0 Wf Kk yE)
theorem XU κ:aE (oY κ):=(e12 _).an (m12 _) (l39 _)
theorem Pf κ:aj (oY κ):=(m12 _).an aK
def dS jY jW s:=zH jY s&&zH jW s
structure DO where
 vs:List ByteArray
 i:Int
 jY:List (Value×AV)
 jW:List (Value×AV)
abbrev F2(R:List AV)(a:List (Value×AV))(b:List (Value×AV)):List Dn.Obj:=[.row 9 R, .box 178 (.mp 2), .map 9 4 a, .box 178 (.mp 4), .map 9 4 b]
abbrev Td:AV:= .bo 184 [.ptr 1 0 [] 0, .ptr 3 0 [] 0]
abbrev MW(a:DO):=sp 19 [(0, .ak 0 0 (strs a.vs).length),(1,Td),(7, .int (strs a.vs).length),(8, .int a.i)] (F2 (strs a.vs) a.jY a.jW)
theorem xFO κ a I n K:(vc (oY κ) 12 161 none 5 (ad (Pr κ).toProgram 161 2) (MW a) (bg (oY κ) 161 2 5 I n K))=(
 letI b:=Obj.box
 letI c:=Dn.Obj.map
 letI d:=AV.mp
 letI f:=K .ret (sp 19 [(4,AV.int a.i)] [.row 9 (strs a.vs),b 178 (d 2),c 9 4 a.jY,b 178 (d 4),c 9 4 a.jW])
 letI e:=List.length (strs a.vs)
 letI g:=.string (toStr (nth (strs a.vs) (0+a.i.toNat)))
 aq (decide (a.i<↑e)) (aW (decide (0<=a.i)&&decide (a.i<↑e)) (aq (!Dn.toBool (dj a.jY g (AV.bool false))) f (aq (!Dn.toBool
 (dj a.jW g (AV.bool false))) f (∃e0,e0<n/\I e0 (sp 19 [(0,.ak 0 0 e),(1,.bo 184 [.ptr 1 0 [] 0,.ptr 3 0 [] 0]),(7,AV.int ↑e),(8,AV.int (IntKind.wrap .i64 (a.i+1)))] [.row 9 (strs a.vs),b 178 (d 2),c 9 4 a.jY,b 178 (d 4),
 c 9 4 a.jW]))))) (K (.exit 0) (sp 19 [] [.row 9 (strs a.vs),b 178 (d 2),c 9 4 a.jY,b 178 (d 4),c 9 4
 a.jW]))):=by kernel_rfl
def Ie(a:DO):=a.vs.length<=aX/\0<=a.i/\a.i<=a.vs.length/\∀s,s∈a.vs.take a.i.toNat->dS a.jY a.jW s=true
def E4(a:DO):Out (Exit×S):=
 .aq (a.vs.all (dS a.jY a.jW)) (.one (.exit 0,sp 19 [] (F2 (strs a.vs) a.jY a.jW)))
  (.all (fun j=>xx (dS a.jY a.jW) a.vs j) fun j=> .one (.ret,sp 19 [(4, .int j)] (F2 (strs a.vs) a.jY a.jW)))
theorem lFO κ:aU (oY κ) 12 161 2 (aG 5 MW Ie E4):=by
 refine aC (fun a=>a.vs.length - a.i.toNat) ?_;rintro⟨b,i,d,c⟩ K ⟨l,o,t,k⟩ j;simp only at l o t k;rw[show(oY κ).P=Pr κ from rfl];refine Eq.mpr (xFO κ ⟨b,i,d,c⟩ _ _ K) ?_;simp only[aX] at l;simp only[E4,Out.run,ae] at j;have v:=bf b;simp only[bf,Nat.zero_add];have u:i<b.length->∀(g:i.toNat<b.length),(dS d c b[i.toNat]=false->K .ret (sp 19 [(4, .int i)] (F2 (strs b) d c)))/\
   (dS d c b[i.toNat]=true->∃m,m<b.length - i.toNat/\eW MW Ie E4 (fun a=>a.vs.length - a.i.toNat) K m (MW ⟨b,i+1,d,c⟩)):=by
  intro r g;refine⟨fun e=>j.2 ?_ i ⟨o,g,k,e⟩,fun e=>⟨_,?_,⟨b,i+1,d,c⟩,rfl,⟨by simpa[aX] using l,by simp only;omega,by simp only;omega,?_⟩,rfl,?_⟩⟩
  ·rw[Bool.eq_false_iff]
   intro h;rw[List.all_eq_true.1 h _ (List.getElem_mem g)] at e;cases e
  ·simp only;omega
  ·intro s f
   simp only at f;rw[show(i+1).toNat=i.toNat+1 by omega,List.take_succ_eq_append_getElem g,List.mem_append,List.mem_singleton] at f;rcases f with f|f
   ·exact k s f
   ·rw[f];exact e
  ·simp only[E4,Out.run,ae]
   exact j
 simp only[ae,ai,at3,aC7,aC6,Bool.not_eq_true',aD7];refine⟨fun g=>⟨⟨o,g⟩,?_⟩,fun g=>?_⟩
 ·have p:i.toNat<b.length:=by omega
  have q:toStr (nth (strs b) i.toNat)=b[i.toNat]:=by rw[zk b _ p];rfl
  rw[az (n:=i+1) (by omega) (by omega),q]
  simp_all[MW,bf,dS,zH]
 ·refine j.1 (List.all_eq_true.2 fun s f=>k s ?_)
  rw[List.take_of_length_le (by omega)];exact f
noncomputable def SJ κ:=(oY κ).an 161 2 (aG 5 MW Ie E4)
theorem eFO κ:aE (SJ κ):=(XU _).an (Pf _) (lFO _)
theorem mFO κ:aj (SJ κ):=(Pf _).an aK
structure GO where
 R:List AV
 i:Int
 j:Int
 jY:List (Value×AV)
 jW:List (Value×AV)
 P:List ByteArray
 ws:List ByteArray
abbrev FR(a:GO):=sp 42 [(0, .ak 0 0 a.R.length),(1,Td),(5, .int a.i),(6, .int a.j)] (F2 a.R a.jY a.jW)
theorem xGO κ a I n K:(vc (SJ κ) 12 114 none 5 (ad (Pr κ).toProgram 114 5) (FR a) (bg (SJ κ) 114 5 5 I n K))=(
 letI b:=IntKind.wrap .i64
 letI c:=AV.int
 letI d:=Obj.box
 letI e:=Dn.Obj.map
 letI f:=AV.mp
 letI g:=toStr (nth a.R (0+a.j.toNat))
 letI h:=b (a.j+1)
 letI i:=∃e0,e0<n/\I e0 (sp 42 [(0,.ak 0 0 a.R.length),(1,.bo 184 [.ptr 1 0 [] 0,.ptr 3 0 [] 0]),(5,c a.i),(6,c h)]
  [.row 9 a.R,d 178 (f 2),e 9 4 a.jY,d 178 (f 4),e 9 4 a.jW])
 letI j:=a.j<↑(a.R.length)
 aq (decide j) (aW (decide (0<=a.j)&&decide j) (aq (!Dn.toBool (dj a.jY (.string g) (AV.bool false))) i (aq (!!Dn.toBool (dj a.jW
 (.string g) (AV.bool false))) (aW (decide (0<=a.i)&&decide (a.i<↑(a.R.length))) (∃e0,e0<n/\I e0 (sp 42 [(0,.ak 0 0
 a.R.length),(1,.bo 184 [.ptr 1 0 [] 0,.ptr 3 0 [] 0]),(5,c (b (a.i+1))),(6,c h)] [.row 9 (bP a.R (0
 +a.i.toNat) (AV.str g)),d 178 (f 2),e 9 4 a.jY,d 178 (f 4),e 9 4 a.jW]))) i))) (K (.exit 0) (sp 42 [(0,.ak 0
 0 a.R.length),(5,c a.i)] [.row 9 a.R,d 178 (f 2),e 9 4 a.jY,d 178 (f 4),e 9 4 a.jW]))):=by kernel_rfl
def Dh(a:GO):=a.R.length<=aX/\0<=a.i/\a.i<a.j/\a.j<=a.R.length/\a.R.take a.i.toNat=strs a.P/\a.R.drop a.j.toNat=strs a.ws
def E6(a:GO):Out (Exit×S):= .all (fun R=>R.length=a.R.length/\R.take (a.P++a.ws.filter (dS a.jY a.jW)).length=strs (a.P++a.ws.filter (dS a.jY a.jW)))
 fun R=> .one (.exit 0,sp 42 [(0, .ak 0 0 a.R.length),(5, .int (a.P++a.ws.filter (dS a.jY a.jW)).length)] (F2 R a.jY a.jW))
theorem lGO κ:aU (SJ κ) 12 114 5 (aG 5 FR Dh E6):=by
 refine aC (fun a=>a.R.length - a.j.toNat) ?_;rintro⟨R,i,j,b,c,P,h⟩ K ⟨o,t,A,C,d,g⟩ k;simp only at o t A C d g;rw[show(SJ κ).P=Pr κ from rfl];refine Eq.mpr (xGO κ ⟨R,i,j,b,c,P,h⟩ _ _ K) ?_;simp only[aX] at o;simp only[E6,Out.run] at k;simp only[Nat.zero_add];have x:P.length=i.toNat:=by
  have:=congrArg List.length d
  rw[List.length_take,bf] at this;omega
 have r: ∀(s:ByteArray) (l:List ByteArray),h=s::l->j<R.length->nth R j.toNat= .lit (.string s)->
   (dS b c s=false->∃m,m<R.length - j.toNat/\eW FR Dh E6 (fun a=>a.R.length - a.j.toNat) K m (FR ⟨R,i,j+1,b,c,P,l⟩))/\
   (dS b c s=true->∃m,m<R.length - j.toNat/\eW FR Dh E6 (fun a=>a.R.length - a.j.toNat) K m (FR ⟨bP R i.toNat (.lit (.string s)),i+1,j+1,b,c,P++[s],l⟩)):=by
  rintro s l rfl p u;obtain⟨_,_,z⟩:=kg (l:=strs l) g;refine⟨fun e=>⟨_,?_,_,rfl,⟨by simpa[aX] using o,t,by simp only;omega,by simp only;omega,d,?_⟩,rfl,?_⟩,fun e=>⟨_,?_,_,rfl,⟨by simpa[aX,iv] using o,by simp only;omega,by simp only;omega,by simp only[iv];omega,?_,?_⟩,rfl,?_⟩⟩
  ·simp only;omega
  ·simp only[show(j+1).toNat=j.toNat+1 by omega];exact z
  ·intro y f
   have:=k y
   simp only[List.filter_cons,e,Bool.false_eq_true,if_false] at f this⊢;exact this f
  ·simp only[iv];omega
  ·simp only[show(i+1).toNat=i.toNat+1 by omega]
   rw[uL _ _ _ (by omega),d,jQ];rfl
  ·simp only[show(j+1).toNat=j.toNat+1 by omega]
   rw[uK _ _ _ _ (by omega)];exact z
  ·intro y f
   have:=k y
   simp only[List.filter_cons,e,if_true,iv,List.append_assoc,List.singleton_append] at f this⊢;exact this f
 simp only[ae,ai,at3,aC7,aC6,Bool.not_eq_true',aD7];refine⟨fun p=>⟨⟨by omega,p⟩,?_⟩,fun p=>?_⟩
 ·cases h with
  |nil=>
   have:=congrArg List.length g
   rw[List.length_drop,bf] at this;simp at this;omega
  |cons s l=>
   obtain⟨_,u,_⟩:=kg (l:=strs l) g;have v:toStr (nth R j.toNat)=s:=by rw[u];rfl
   have q:=r s l rfl p u;simp only[FR,iv] at q;rw[az (n:=i+1) (by omega) (by omega),az (n:=j+1) (by omega) (by omega),v];exact⟨fun e=>q.1 (by unfold dS zH;rw[e];rfl),fun e=>⟨fun w=>⟨⟨by omega,by omega⟩,q.2 (by unfold dS zH;rw[e,w];rfl)⟩,fun w=>q.1 (by unfold dS zH;rw[e,w];rfl)⟩⟩
 ·have B:h=[]:=by
   have:=congrArg List.length g
   rw[List.length_drop,bf] at this;cases h with
   |nil=>rfl
   |cons=>simp at this;omega
  subst B;have:=k R ⟨rfl,by simp only[List.filter_nil,List.append_nil,x];exact d⟩
  simp only[List.filter_nil,List.append_nil,x,Int.toNat_of_nonneg t] at this;exact this
noncomputable def EGO κ:=(SJ κ).an 114 5 (aG 5 FR Dh E6)
theorem eGO κ:aE (EGO κ):=(eFO _).an (mFO _) (lGO _)
theorem mGO κ:aj (EGO κ):=(mFO _).an aK
theorem yGO κ(a:DO) K:(a8 (EGO κ) 12 114 [.ak 0 0 (strs a.vs).length,Td] (F2 (strs a.vs) a.jY a.jW) K)=(
 letI b:=AV.int
 letI c:=AV.ptr
 letI d:=Obj.box
 letI e:=Dn.Obj.map
 letI f:=AV.mp
 letI l:=List.length (strs a.vs)
 letI m:=Pg.toProgram (Env.P (oY κ))
 letI n:=Pg.toProgram (Env.P (SJ κ))
 ad m 161 2=ad m 161 2/\∃(e3:DO),letI g:=strs e3.vs;letI o:=K (AV.ah 9 (List.take l (List.drop 0 g))) [Obj.l3 9 g,d 178 (f 2),e 9 4 e3.jY,d 178 (f 4),e 9 4 e3.jW];letI p:=[Obj.row 9 g,d 178 (f 2),e 9 4 e3.jY,d 178 (f 4),e 9 4 e3.jW];sp 19 [(0,AV.ak 0 0 l),(1,AV.bo 184 [c 1 0 [] 0,c 3 0 [] 0]),(7,b (↑l:Int)),(8,b 0)] [Obj.row 9 (strs a.vs),d 178 (f 2),e 9 4 a.jY,d 178 (f 4),e 9 4 a.jW]=sp 19 [(0,AV.ak 0 0 (List.length g)),(1,AV.bo 184 [c 1 0 [] 0,c 3 0 [] 0]),(7,b (↑(List.length g):Int)),(8,b e3.i)] p/\(e3.vs.length<=9223372036854775807/\(0:Int)<=e3.i/\e3.i<=(↑(e3.vs.length):Int)/\∀(e0:ByteArray),List.Mem e0 (List.take e3.i.toNat e3.vs)->dS e3.jY e3.jW e0=true)/\aq (List.all e3.vs (dS e3.jY e3.jW)) o (∀(e2:Int),((0:Int)<=e2/\∃(e1:e2.toNat<e3.vs.length),(∀(e0:ByteArray),List.Mem e0 (List.take e2.toNat e3.vs)->dS e3.jY e3.jW e0=true)/\dS e3.jY e3.jW e3.vs[e2.toNat]=false)->aq (e2==(-1:Int)) o (ad n 114 5=ad n 114 5/\∃(e1:GO),letI q:=e1.P++List.filter (dS e1.jY e1.jW) e1.ws;letI h:=List.length q;letI i:=e1.R.length;sp 42 [(0,AV.ak 0 0 l),(1,AV.bo 184 [c 1 0 [] 0,c 3 0 [] 0]),(5,b e2),(6,b (IntKind.wrap IntKind.i64 (e2+(1:Int))))] p=sp 42 [(0,AV.ak 0 0 e1.R.length),(1,AV.bo 184 [c 1 0 [] 0,c 3 0 [] 0]),(5,b e1.i),(6,b e1.j)] [Obj.row 9 e1.R,d 178 (f 2),e 9 4 e1.jY,d 178 (f 4),e 9 4 e1.jW]/\(e1.R.length<=9223372036854775807/\(0:Int)<=e1.i/\e1.i<e1.j/\e1.j<=(↑i:Int)/\List.take e1.i.toNat e1.R=strs e1.P/\List.drop e1.j.toNat e1.R=strs e1.ws)/\∀(e0:List AV),letI j:=dt e0 (0+Int.toNat (↑h:Int)) (Int.toNat ((↑i:Int) - (↑h:Int))) (AV.str {data:= #[]});letI k:=(↑h:Int)<=(↑i:Int);e0.length=e1.R.length/\List.take h e0=strs q->aW (true&&decide k&&decide ((↑i:Int)<=(↑i:Int))) (aW (true&&decide k) (K (AV.ah 9 (List.take (Int.toNat ((↑h:Int) - (0:Int))) (List.drop 0 j))) [Obj.l3 9 j,d 178 (f 2),e 9 4 e1.jY,d 178 (f 4),e 9 4 e1.jW]))))):=by kernel_rfl
def KG(a:DO):=([.ak 0 0 a.vs.length,Td],F2 (strs a.vs) a.jY a.jW)
def la(a:DO):=a.vs.length<=aX
def HF(a:DO):Out (AV×List Dn.Obj):= .all (fun _=>True) fun R=> .one (.ah 9 (strs (a.vs.filter (dS a.jY a.jW))),[.l3 9 R, .box 178 (.mp 2), .map 9 4 a.jY, .box 178 (.mp 4), .map 9 4 a.jW])
theorem as0 κ:bd (EGO κ) 12 114 (aM KG la HF):=by
 refine aQ ?_;rintro⟨c,i,a,b⟩ K f j;simp only[la] at f;simp only[KG];rw[←bf c];refine Eq.mpr (yGO κ ⟨c,i,a,b⟩ K) ?_;refine⟨rfl,⟨c,0,a,b⟩,rfl,⟨f,by simp only;omega,by simp only;omega,fun s q=>nomatch q⟩,?_⟩;rw[ae];refine⟨fun e=>?_,fun e y h=>?_⟩
 ·have l:c.filter (dS a b)=c:=List.filter_eq_self.2 (List.all_eq_true.1 e)
  have:=j (strs c) trivial
  simp only[l] at this;rw[aD5,List.take_length];exact this
 ·have p:=so h
  obtain⟨k,o,u,r⟩:=h;simp only at k o;simp only[aX] at f;rw[ae,beq_iff_eq,beq_eq_false_iff_ne];refine⟨fun t=>by omega,fun _=>⟨rfl,⟨strs c,y,y+1,a,b,c.take y.toNat,c.drop (y.toNat+1)⟩,?_,⟨by simp only[bf];omega,k,by simp only;omega,by simp only[bf];omega,?_,?_⟩,?_⟩⟩
  ·rw[az (n:=y+1) (by omega) (by omega)]
  ·simp only[strs,List.map_take]
  ·simp only[strs,List.map_drop,show(y+1).toNat=y.toNat+1 by omega]
  ·rintro R ⟨m,g⟩
   simp only at m g;rw[←p] at g⊢;have d:(c.filter (dS a b)).length<=c.length:=List.length_filter_le _ _;rw[ai,ai];refine⟨by simp[bf,d],by simp[bf,d],?_⟩;have:=j (dt R (0+Int.toNat ((c.filter (dS a b)).length:Int)) (Int.toNat (((strs c).length:Int) - ((c.filter (dS a b)).length:Int))) (.lit (.string (ByteArray.mk #[])))) trivial
   simp only[Int.toNat_natCast,Nat.zero_add,Int.sub_zero,aD5,pc,g] at this⊢;exact this
theorem as9 κ: ∀a st K,aM KG la HF a st K->cf (Pr κ) 114 a st K:=fun a st K h=>gO (eGO _) (mGO _) (as0 _ _ _ K h)
noncomputable def Ny κ:=(oY κ).ax 114 (aM KG la HF)
theorem au2 κ:aE (Ny κ):=(XU _).fQ (as9 _)
theorem ae6 κ:aj (Ny κ):=(Pf _).ax aJ
theorem y39 κ a k K:(a8 (Ny κ) 12 159 [aw a, .int k] [] K)=(
 letI b:=AV.int
 letI c:=AV.ptr
 letI d:=Obj.box
 letI e:=Obj.row
 letI f:=Dn.Obj.map
 letI g:=AV.ah
 letI h:=AV.mp
 letI j:=Pg.toProgram (Env.P (Nu κ))
 letI l:=∃(e7:List AV),([g 38 a.hl],aR)=([g 38 e7],aR)/\bH e7/\∃(e6:List AV×List (Value×AV)),([h 0,g 9 (List.take (List.length (ar (aa e7))) (List.drop 0 (strs (ar (aa e7)))))],[f 9 4 []])=([h 0,g 9 e6.1],[f 9 4 e6.2])/\bt e6/\ad j 159 4=ad j 159 4/\∃(e5:Zl),letI m:=[g 38 (ag (af (af (nth e5.a.bl e5.k.toNat) 1) 1))];letI i:=List.length e5.a.bl;sp 53 [(1,b k),(2,c 0 0 [] 0),(5,c 1 0 [] 0),(17,g 80 a.bl),(18,b (↑(a.bl.length):Int)),(19,b 0)] [d 48 (aw a),d 178 (h 2),f 9 4 (fZ e6.2 e6.1)]=sp 53 [(1,b e5.k),(2,c 0 0 [] 0),(5,c 1 0 [] 0),(17,g 80 e5.a.bl),(18,b (↑i:Int)),(19,b e5.i)] [d 48 (aw e5.a),d 178 (h 2),f 9 4 (b6 e5.vs)]/\((bn (aa (bp 38 e5.a.hl e5.a.bl))<=100000/\List.length e5.a.bl<=100000)/\(0:Int)<=e5.k/\(0:Int)<=e5.i/\e5.i<=(↑i:Int))/\aW (decide ((0:Int)<=e5.k)&&decide (e5.k<(↑i:Int))) ((∃(e4:List AV),(m,aR)=([g 38 e4],aR)/\bH e4/\∃(e3:List AV×List (Value×AV)),([h 0,g 9 (List.take (List.length (ar (aa e4))) (List.drop 0 (strs (ar (aa e4)))))],[f 9 4 []])=([h 0,g 9 e3.1],[f 9 4 e3.2])/\bt e3/\∃(e2:dx),([aw e5.a],aR)=([aw e2],aR)/\(ba (aL e2)=true/\bn (aa (bp 38 e2.hl e2.bl))<=100000/\e2.bl.length<=100000)/\∃(e1:DO),([AV.ak 0 0 (List.length (bK (aL e2))),AV.bo 184 [c 1 0 [] 0,c 3 0 [] 0]],[e 9 (strs (bK (aL e2))),d 178 (h 2),f 9 4 (fZ e3.2 e3.1),d 178 (h 4),f 9 4 (b6 (ph e5))])=([AV.ak 0 0 e1.vs.length,AV.bo 184 [c 1 0 [] 0,c 3 0 [] 0]],[e 9 (strs e1.vs),d 178 (h 2),f 9 4 e1.jY,d 178 (h 4),f 9 4 e1.jW])/\la e1/\∀(e0:List AV),True->K (g 9 (strs (List.filter (dS e1.jY e1.jW) e1.vs))) [])/\∃(e4:List AV),(m,aR)=([g 38 e4],aR)/\bH e4/\∃(e3:List AV×List (Value×AV)),([h 0,g 9 (List.take (List.length (ar (aa e4))) (List.drop 0 (strs (ar (aa e4)))))],[f 9 4 []])=([h 0,g 9 e3.1],[f 9 4 e3.2])/\bt e3/\∃(e2:dx),([aw e5.a],aR)=([aw e2],aR)/\(ba (aL e2)=true/\bn (aa (bp 38 e2.hl e2.bl))<=100000/\e2.bl.length<=100000)/\∃(e1:DO),([AV.ak 0 0 (List.length (bK (aL e2))),AV.bo 184 [c 1 0 [] 0,c 3 0 [] 0]],[e 9 (strs (bK (aL e2))),d 178 (h 2),f 9 4 (fZ e3.2 e3.1),d 178 (h 4),f 9 4 (b6 (ph e5))])=([AV.ak 0 0 e1.vs.length,AV.bo 184 [c 1 0 [] 0,c 3 0 [] 0]],[e 9 (strs e1.vs),d 178 (h 2),f 9 4 e1.jY,d 178 (h 4),f 9 4 e1.jW])/\la e1/\∀(e0:List AV),True->K (g 9 (strs (List.filter (dS e1.jY e1.jW) e1.vs))) [])
 l/\l):=by kernel_rfl
def Uu(a:dx×Int):List AV×List Dn.Obj:=([aw a.1, .int a.2],[])
def Da(a:dx×Int):=ba (aL a.1)=true/\du a.1/\0<=a.2/\a.2<a.1.bl.length
def VJ(a:dx×Int):Out (AV×List Dn.Obj):= .one (.ah 9 (strs (eI (aL a.1) a.2.toNat)),[])
theorem c39 κ:bd (Ny κ) 12 159 (aM Uu Da VJ):=by
 refine aQ ?_;rintro⟨a,k⟩ K ⟨g,c,h,m⟩ p;refine Eq.mpr (y39 κ a k K) ?_;simp only at g c h m;have o:=qF c;have r:=cZ (aa a.hl);have j:k.toNat<a.bl.length:=by omega
 have b:=lU c j;simp only[and_self];refine⟨a.hl,rfl,o,⟨strs (ar (aa a.hl)),[]⟩,?_,?_,trivial,⟨a,k,0,ar (aa a.hl)⟩,rfl,⟨c,h,by simp only;omega,by simp only;omega⟩,?_⟩
 ·simp only[aD5,db]
 ·simp only[bt,bf,aX];omega
 rw[ai,aC6,at3,at3];have e:ar (aa (ag (af (af (nth a.bl k.toNat) 1) 1)))=ar (ep (aL a).body k.toNat).a.l:=by
  rw[show(aL a).body=dI a.bl from rfl,j7 _ j,lt_eq]
 have f:bn (aa (ag (af (af (nth a.bl k.toNat) 1) 1)))<=100000:=by
  rw[lt_eq] at b;simp only[kt] at b;omega
 have q:=cZ (aa (ag (af (af (nth a.bl k.toNat) 1) 1)));refine⟨⟨h,m⟩,_,rfl,f,⟨strs (ar (aa (ag (af (af (nth a.bl k.toNat) 1) 1)))),[]⟩,?_,?_,a,rfl,⟨g,c⟩,⟨bK (aL a),0,fZ [] (strs (ar (aa (ag (af (af (nth a.bl k.toNat) 1) 1))))),b6 (ph ⟨a,k,0,ar (aa a.hl)⟩)⟩,rfl,?_,?_⟩
 ·simp only[aD5,db]
 ·simp only[bt,bf,aX];omega
 ·have t:(eL (aL a)).length<=100000:=by
   have n:=cZ (aa (bp 38 a.hl a.bl));rw[jw 38 a.rel a.hl a.bl] at n;exact Nat.le_trans n c.1
  have u:=lB (eL (aL a)) [];simp only[la,bK,g,aD2,aX];omega
 ·intro R _
  have i:(fun s=>dS (fZ [] (strs (ar (aa (ag (af (af (nth a.bl k.toNat) 1) 1)))))) (b6 (ph ⟨a,k,0,ar (aa a.hl)⟩)) s)=fun v=>(ar (ep (aL a).body k.toNat).a.l).contains v&&(VA (aL a) k.toNat).contains v:=by
   funext s
   unfold dS;rw[qq,e];congr 1
   exact qq _ s
  have d:List.filter (dS (fZ [] (strs (ar (aa (ag (af (af (nth a.bl k.toNat) 1) 1)))))) (b6 (ph ⟨a,k,0,ar (aa a.hl)⟩))) (bK (aL a))=eI (aL a) k.toNat:=by
   unfold eI;exact congrFun (congrArg _ i) _
  simp only[d];exact p
noncomputable def Sv κ:=(Ny κ).ax 159 (aM Uu Da VJ)
theorem e39 κ:aE (Sv κ):=(au2 _).ax (ae6 _) (c39 _)
theorem m39 κ:aj (Sv κ):=(ae6 _).ax aJ
end Go.Proofs.YtioeffnadipbaaaGreatDoor
