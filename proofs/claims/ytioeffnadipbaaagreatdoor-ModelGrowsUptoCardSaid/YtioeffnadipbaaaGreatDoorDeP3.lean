import Derived.Test.YtioeffnadipbaaaGreatDoorDeP1
namespace Go.Proofs.YtioeffnadipbaaaGreatDoor
open Go Go.Dn Go.Rl Go.Proofs
attribute [local irreducible] a0 vc
set_option maxRecDepth 20000
structure S6 where
 xs:List AV
 more:List AV
 t:AV
 m:List AV
 i:Int
abbrev Jw(a:S6):=pT 38 (nth a.m a.i.toNat)
def R6:List Nat:=[171,198,185]
def RR(a:AV):List AV×List Dn.Obj:=([.cf 0, .ptr 1 0 [] 0],[.ext (some (pN 38 a)), .box 38 (pT 38 a)])
def Wt n a:=(cI a).mL=n/\n<=100000
def Hu(_:AV):Out (AV×List Dn.Obj):= .all (fun st'=>sm st') fun st'=> .one (.aH [],st')
def Sv n:=aO RR (Wt n) Hu
noncomputable def Ky κ r:=(E20 κ).aw 198 fun a st K=>∃m,m<r/\Sv m a st K
noncomputable abbrev YY(a:S6)(κ:Kp)(st:LoopState)(p:Option Code):Dn.Obj:=
 .loop (iI (Pr κ).toProgram 198 6 st p (gX (bM 25) [(2, .ptr 2 0 [] 0),(4, .ptr 3 0 [] 0),(11, .ah 38 a.m),(12, .int a.m.length),(13, .int a.i),(14, .bool true),
  (15, .je 38 (nth a.m a.i.toNat)),(16,Jw a),(17,Jw a),(18, .bm 198 [.ptr 4 0 [] 0])]))
noncomputable abbrev sc κ a:=[.ext (some a.xs), .box 38 (pT 38 a.t), .box 186 (.cf 0), .box 38 (Jw a), .box 38 (Jw a),YY a κ .ready none]
noncomputable abbrev Bl κ a o st p:=[.ext o, .box 38 (pT 38 a.t), .box 186 (.cf 0), .box 38 (Jw a), .dead,YY a κ st p]
theorem s56 κ a Q:(tidy (Pr κ).toProgram 6 (dt (sc κ a) (bV (sc κ a) [.ptr 4 0 [] 0])) Q)=(
 letI b:=AV.int
 letI c:=nth a.m a.i.toNat
 letI d:=toInt (ag c 0)
 letI e:=toStr (ag c 1)
 letI f:=toInt (ag c 2)
 letI g:=af (ag c 3)
 Q [Obj.ext (some a.xs),Obj.box 38 (AV.agg [b (toInt (ag a.t 0)),AV.str (toStr (ag a.t 1)),b (toInt (ag a.t 2)),AV.ah 38 (af (ag a.t 3))]),Obj.box
 186 (AV.cf 0),Obj.box 38 (AV.agg [b d,AV.str e,b f,AV.ah 38 g]),Obj.dead,Dn.Obj.loop (iI Tryz.prog 198 6 LoopState.ready none (gX (bM 25)
 [(2,AV.ptr 2 0 [] 0),(4,AV.ptr 3 0 [] 0),(11,AV.ah 38 a.m),(12,b (↑(a.m.length):Int)),(13,b a.i),(14,AV.bool true),(15,AV.je 38 c),
 (16,AV.agg [b d,AV.str e,b f,AV.ah 38 g]),(17,AV.agg [b d,AV.str e,b f,AV.ah 38 g]),(18,AV.bm 198 [AV.ptr 4 0 [] 0])]))]):=by kernel_rfl
theorem r56 κ r a o u Q(K2:List Dn.Obj->Prop):(fQ (vc (Ky κ r) 12) 5 [pT 38 u] (Bl κ a (some o) .ready none) (fun r st''=>match r with| .lit (.bool true)=>tidy (Pr κ).toProgram 6 st'' Q| .lit (.bool false)=>K2 st''|_=>False))=(
 letI b:=AV.int
 letI c:=AV.agg
 letI d:=AV.str
 letI e:=Obj.box
 letI f:=AV.ah
 letI g:=nth a.m a.i.toNat
 letI l:=c [b (toInt (ag a.t 0)),d (toStr (ag a.t 1)),b (toInt (ag a.t 2)),f 38 (af (ag a.t 3))]
 letI h:=toInt (ag g 0)
 letI i:=toStr (ag g 1)
 letI j:=toInt (ag g 2)
 letI k:=af (ag g 3)
 letI m:=c [b h,d i,b j,f 38 k]
 letI n:=gX (bM 25) [(2,AV.ptr 2 0 [] 0),(4,AV.ptr 3 0 [] 0),(11,f 38 a.m),(12,b (↑(a.m.length):Int)),(13,b a.i),(14,AV.bool true),
  (15,AV.je 38 g),(16,c [b h,d i,b j,f 38 k]),(17,c [b h,d i,b j,f 38 k]),(18,AV.bm 198
  [AV.ptr 4 0 [] 0])]
 ∃(e0:List AV),o=AV.aH [c [b (toInt (ag u 0)),d (toStr (ag u 1)),b (toInt (ag u 2)),f 38 (af (ag u 3))]]::e0/\Q [Obj.ext
 (some e0),e 38 l,e 186 (AV.cf 0),e 38 m,Obj.dead,Dn.Obj.loop (iI Tryz.prog 198 6 LoopState.ready none n)]/\K2 [Obj.ext none,e
 38 l,e 186 (AV.cf 0),e 38 m,Obj.dead,Dn.Obj.loop (iI Tryz.prog 198 6 LoopState.done (some Code.ret) n),e 38 (c [b (toInt (ag
 u 0)),d (toStr (ag u 1)),b (toInt (ag u 2)),f 38 (af (ag u 3))])]):=by kernel_rfl
theorem k56 κ a xs:(AV.cf 0::fC (ia (bV (sc κ a) [.ptr 4 0 [] 0])) [.ptr 4 0 [] 0],Obj.ext (some xs)::fU (ia (bV (sc κ a) [.ptr 4 0 [] 0])) (fV (sc κ a) (bV (sc κ a) [.ptr 4 0 [] 0])))=([.cf 0, .ptr 1 0 [] 0],[.ext (some xs), .box 38 (Jw a)]):=by kernel_rfl
theorem o56 κ a:lT (sc κ a) [.ptr 4 0 [] 0]=true:=by kernel_rfl
noncomputable def PQ(κ:Kp)(r:Nat):eh:=fun b st K=>∃a,(b,st)=([AV.ptr 4 0 [] 0],sc κ a)/\((cI (nth a.m a.i.toNat)).mL<r/\(cI (nth a.m a.i.toNat)).mL<=100000/\a.xs=pN 38 (nth a.m a.i.toNat)++a.more)/\
 K (Bl κ a (some a.more) .ready none)/\∀u,K (Bl κ a none .done (some .ret)++[.box 38 (pT 38 u)])
theorem Fj κ r:(PQ κ r).fY:=by
 rintro b st K g c ⟨a,d,e,f,h⟩;exact⟨a,d,e,c _ f,by grind⟩
theorem Q4 κ r a st K(h: ∃m,m<r/\Sv m a st K):(Ky κ r).call 198 a st K:=h
theorem an0 κ r:iw (Ky κ r) 12 198 (PQ κ r):=by
 rintro c st K ⟨a,k,⟨l,f,o⟩,p,g⟩;obtain⟨rfl,rfl⟩:=Prod.mk.inj k;refine⟨pN 38 (nth a.m a.i.toNat),fun b st'=>(∀x,x∈b->tG 38 x)/\st'=Bl κ a (some (b++a.more)) .ready none,⟨o56 κ a,?_,?_,?_,?_⟩⟩
 ·refine Q4 κ r _ _ _ ⟨_,l,nth a.m a.i.toNat,?_,⟨rfl,f⟩,fun st' h=>h⟩
  rw[k56];rfl
 ·rw[show(Ky κ r).P=Pr κ from rfl,show(sc κ a).length=6 from rfl,s56]
  exact⟨na _ _ _ (Nat.lt_succ_self _),by rw[o];rfl⟩
 ·rintro n e st' ⟨d,rfl⟩
  obtain⟨u,q⟩:=d (.aH n) (by simp);obtain rfl:=AV.aH.inj q;refine Eq.mpr (r56 κ r a _ u _ _) ?_;exact⟨_,rfl,⟨fun x j=>d x (by simp[j]),rfl⟩,g u⟩
 ·rintro st' ⟨_,rfl⟩
  exact p
noncomputable def Eu κ r:=((Ky κ r).addRange 198 6 198 (PQ κ r)).cV fun f=>iD f R6
theorem ab1 κ r:aj (Ky κ r):=(m20 _).aw fun _ _ _ _ b ⟨m,c,a⟩=>⟨m,c,aJ _ _ _ _ b a⟩
theorem x56(κ:Kp) r(a:S6) I n K:(vc (Eu κ r) 12 198 none 2 (ad (Pr κ).toProgram 198 3) (sp 25 [(2, .ptr 2 0 [] 0),(11, .ah 38 a.m),(12, .int a.m.length),(13, .int a.i)] [.ext (some a.xs), .box 38 (pT 38 a.t), .box 186 (.cf 0)]) (bj (Eu κ r) 198 3 2 I n K))=(
 letI b:=AV.int
 letI c:=AV.ptr
 letI d:=AV.agg
 letI e:=AV.str
 letI f:=Obj.box
 letI g:=Obj.ext
 letI h:=AV.ah
 letI k:=nth a.m a.i.toNat
 letI s:=d [b (toInt (ag a.t 0)),e (toStr (ag a.t 1)),b (toInt (ag a.t 2)),h 38 (af (ag a.t 3))]
 letI t:=a.i<(↑(a.m.length):Int)
 letI m:=toInt (ag k 0)
 letI o:=toStr (ag k 1)
 letI p:=toInt (ag k 2)
 letI q:=af (ag k 3)
 letI u:=d [b m,e o,b p,h 38 q]
 aq (decide t) (aV (decide ((0:Int)<=a.i)&&decide t) (∃(e1:S6),letI i:=nth e1.m e1.i.toNat;letI l:=[b (toInt (ag i 0)),e (toStr (ag i 1)),b (toInt (ag i 2)),h 38 (af (ag i 3))];letI j:=d [b (toInt (ag e1.t 0)),e (toStr (ag e1.t 1)),b (toInt (ag e1.t 2)),h 38 (af (ag e1.t 3))];([c 4 0 [] 0],[g (some a.xs),f 38 s,f 186 (AV.cf 0),f 38 u,f 38 u,Dn.Obj.loop (iI Tryz.prog 198 6 LoopState.ready none (gX (bM 25) [(2,c 2 0 [] 0),(4,c 3 0 [] 0),(11,h 38 a.m),(12,b (↑(a.m.length):Int)),(13,b a.i),(14,AV.bool true),(15,AV.je 38 k),(16,d [b m,e o,b p,h 38 q]),(17,d [b m,e o,b p,h 38 q]),(18,AV.bm 198 [c 4 0 [] 0])]))])=([c 4 0 [] 0],[g (some e1.xs),f 38 j,f 186 (AV.cf 0),f 38 (d l),f 38 (d l),Dn.Obj.loop (iI Tryz.prog 198 6 LoopState.ready none (gX (bM 25) [(2,c 2 0 [] 0),(4,c 3 0 [] 0),(11,h 38 e1.m),(12,b (↑(e1.m.length):Int)),(13,b e1.i),(14,AV.bool true),(15,AV.je 38 i),(16,d l),(17,d l),(18,AV.bm 198 [c 4 0 [] 0])]))])/\(Tm.mL (cI i)<r/\Tm.mL (cI i)<=100000/\e1.xs=pN 38 i++e1.more)/\(∃(e0:Nat),e0<n/\I e0 (sp 25 [(2,c 2 0 [] 0),(11,h 38 a.m),(12,b (↑(a.m.length):Int)),(13,b (IntKind.wrap IntKind.i64 (a.i+(1:Int))))] [g (some e1.more),f 38 j,f 186 (AV.cf 0)]))/\∀(e0:AV),K Exit.ret (sp 25 [] [g none,f 38 j]))) (K (Exit.exit 0) (sp 25 [] [g (some a.xs),f 38 s]))):=by kernel_rfl
abbrev TG(a:S6):=sp 25 [(2, .ptr 2 0 [] 0),(11, .ah 38 a.m),(12, .int a.m.length),(13, .int a.i)] [.ext (some a.xs), .box 38 (pT 38 a.t), .box 186 (.cf 0)]
def Je r(a:S6):=a.m.length<=aW/\0<=a.i/\a.i<=a.m.length/\bk (aa (a.m.drop a.i.toNat))<r/\bk (aa (a.m.drop a.i.toNat))<=100000/\a.xs=fG 38 (a.m.drop a.i.toNat)
def Ml(a:S6):Out (Exit×S):= .all (fun _=>True) fun b=> .aq b (.one (.exit 0,sp 25 [] [.ext (some []), .box 38 (pT 38 a.t)])) (.one (.ret,sp 25 [] [.ext none, .box 38 (pT 38 a.t)]))
theorem xf l i(h:i<l.length):bk (aa (l.drop i))=(cI (nth l i)).mL+bk (aa (l.drop (i+1))):=by
 grind [eK,bk]
theorem l56 κ r:aU (Eu κ r) 12 198 3 (aG 2 TG (Je r) Ml):=by
 refine aC (fun a=>a.m.length - a.i.toNat) ?_;rintro⟨xs,b,t,m,i⟩ K ⟨f,h,o,l,k,d⟩ g;simp only at f h o l k d;rw[show(Eu κ r).P=Pr κ from rfl];refine Eq.mpr (x56 κ r ⟨xs,b,t,m,i⟩ _ _ K) ?_;have c:=g true trivial;have e:=g false trivial;simp only[Out.run,aq] at c e;simp only[aW] at f;simp only[ae,ai,ap6,ap8,ap7];refine⟨fun j=>⟨⟨h,j⟩,?_⟩,fun j=>?_⟩
 ·have p:=xf m i.toNat (by omega)
  rw[vH _ m i.toNat (by omega)] at d;rw[az (n:=i+1) (by omega) (by omega)];refine⟨⟨xs,fG 38 (m.drop (i.toNat+1)),t,m,i⟩,rfl,⟨by simp only;omega,by simp only;omega,d⟩,⟨_,?_,⟨_,b,t,m,i+1⟩,rfl,⟨by simpa[aW] using f,by simp only;omega,by simp only;omega,?_,?_,?_⟩,rfl,g⟩,fun _=>e⟩
  ·simp only;omega
  ·simp only[show(i+1).toNat=i.toNat+1 by omega];omega
  ·simp only[show(i+1).toNat=i.toNat+1 by omega];omega
  ·simp only[show(i+1).toNat=i.toNat+1 by omega]
 ·rw[aq4 (by omega)] at d
  subst d;exact c
noncomputable def OG κ r:=(Eu κ r).an 198 3 (aG 2 TG (Je r) Ml)
theorem y56 κ r t xs K:(a0 (OG κ r) 12 198 [.cf 0, .ptr 1 0 [] 0] [.ext (some xs), .box 38 (pT 38 t)] K)=(
 letI a:=AV.int
 letI b:=Obj.box
 letI c:=Obj.ext
 letI d:=af (ag t 3)
 letI g:=AV.agg [a (toInt (ag t 0)),AV.str (toStr (ag t 1)),a (toInt (ag t 2)),AV.ah 38 d]
 letI h:=Pg.toProgram (Env.P (Eu κ r))
 ∃(e2:List AV),xs=AV.aH [AV.agg [a (toInt (ag t 0)),AV.str (toStr (ag t 1)),a (toInt (ag t 2)),AV.ah 38 d]]::e2/\(ad h 198 3=ad h 198 3/\∃(e1:S6),letI e:=AV.agg [a (toInt (ag e1.t 0)),AV.str (toStr (ag e1.t 1)),a (toInt (ag e1.t 2)),AV.ah 38 (af (ag e1.t 3))];letI f:=List.drop e1.i.toNat e1.m;sp 25 [(2,AV.ptr 2 0 [] 0),(11,AV.ah 38 d),(12,a (↑(List.length d):Int)),(13,a 0)] [c (some e2),b 38 g,b 186 (AV.cf 0)]=sp 25 [(2,AV.ptr 2 0 [] 0),(11,AV.ah 38 e1.m),(12,a (↑(e1.m.length):Int)),(13,a e1.i)] [c (some e1.xs),b 38 e,b 186 (AV.cf 0)]/\(e1.m.length<=9223372036854775807/\(0:Int)<=e1.i/\e1.i<=(↑(e1.m.length):Int)/\bk (aa f)<r/\bk (aa f)<=100000/\e1.xs=fG 38 f)/\∀(e0:Bool),True->aq e0 (K (AV.aH []) [c (some []),b 38 e]) (K (AV.aH []) [c none,b 38 e]))/\K (AV.aH []) [c none,b 38 g]):=by kernel_rfl
theorem ah1 κ r(c: ∀a st K,(∃m,m<r/\Sv m a st K)->b7 (Pr κ) 198 a st K):aE (OG κ r)/\aj (OG κ r)/\(OG κ r).P=Pr κ:=
 have h:=(e20 _).fT c;have d:=(h.addRange (ab1 _ r) (an0 _ r)).cV _;have b:=((ab1 _ r).addRange (Fj _ r)).cV _
 ⟨d.an b (l56 _ r),b.an aI,rfl⟩
theorem c56 κ r:bd (OG κ r) 12 198 (Sv r):=by
 refine aR ?_;rintro t K ⟨f,g⟩ c;have a: ∀b,K (.aH []) [.ext none,b]:=fun b=>c _ trivial
 have e: ∀b,K (.aH []) [.ext (some []),b]:=fun b=>c _ trivial
 refine Eq.mpr (y56 κ r t _ K) ?_;rw[de,Tm.mL] at f;have d:=gH (aa (af (ag t 3)));rw[eD] at d;rw[AL];refine⟨_,rfl,⟨rfl,⟨_,[],t,af (ag t 3),0⟩,rfl,⟨by simp only;omega,by simp only;omega,by simp only;omega,?_,?_,rfl⟩,?_⟩,a _⟩
 ·grind
 ·simp only[Int.toNat_zero,aq6];omega
 ·intro y _
  cases y
  ·exact a _
  ·exact e _
def Bs a:=(cI a).mL<=100000
theorem q56 κ: ∀a st K,aO RR Bs Hu a st K->b7 (Pr κ) 198 a st K:=by
 rintro a st K ⟨l,c,d,b⟩;exact aE.ph _ _ (ah1 _) (c56 _) _ _ _ K ⟨l,c,⟨rfl,d⟩,b⟩
noncomputable def NA κ:=(E20 κ).aw 198 (aO RR Bs Hu)
theorem e56 κ:aE (NA κ):=(e20 _).fT (q56 _)
theorem m56 κ:aj (NA κ):=(m20 _).aw aJ
structure He where
 xs:List AV
 more:List AV
 r:dk
 bl:List AV
 ts:List AV
 i:Int
abbrev Ew(a:He):=pT 38 (nth a.ts (0+a.i.toNat))
abbrev HJ(a:He):=sp 46 [(2, .ptr 2 0 [] 0),(3, .ak 3 0 a.ts.length),(14, .ah 80 a.bl),(15, .int a.bl.length),(16, .int a.i)] [.ext (some a.xs), .box 48 (au a.r), .box 186 (.cf 0), .row 38 a.ts]
theorem al8 κ a I n K:(vc (NA κ) 12 185 none 2 (ad (Pr κ).toProgram 185 3) (HJ a) (bj (NA κ) 185 3 2 I n K))=(
 letI b:=AV.int
 letI c:=Obj.box
 letI d:=nth a.bl a.i.toNat
 letI f:=a.i<(↑(a.bl.length):Int)
 letI e:=ag (ag d 1) 1
 aq (decide f) (aV (decide ((0:Int)<=a.i)&&decide f) (aV (decide ((a.ts.length+2+1)*57<=70368744177664)) (aV (decide ((a.ts.length+2+
 List.length (af e)+1)*57<=70368744177664)) (∃(e0:Nat),e0<n/\I e0 (sp 46 [(2,AV.ptr 2 0 [] 0),(3,AV.ak 3 0 (a.ts.length+2+List.length (af
 e))),(14,AV.ah 80 a.bl),(15,b (↑(a.bl.length):Int)),(16,b (IntKind.wrap IntKind.i64 (a.i+(1:Int))))] [Obj.ext (some a.xs),c 48 (au
 a.r),c 186 (AV.cf 0),Obj.row 38 (List.take (a.ts.length+2) (List.take a.ts.length a.ts++[AV.agg [b (toInt (ag (ag d 2) 0)),AV.str (toStr (ag
 (ag d 2) 1)),b (toInt (ag (ag d 2) 2)),AV.ah 38 (af (ag (ag d 2) 3))],AV.agg [b (toInt (ag (ag d 3) 0)),AV.str (toStr (ag (ag d 3) 1)),
 b (toInt (ag (ag d 3) 2)),AV.ah 38 (af (ag (ag d 3) 3))]])++af e)]))))) (K (Exit.exit 0) (sp 46 [(2,AV.ptr 2 0 [] 0),(3,AV.ak 3 0 a.ts.length)]
 [Obj.ext (some a.xs),c 48 (au a.r),c 186 (AV.cf 0),Obj.row 38 a.ts]))):=by kernel_rfl
def dJ(l:List _):=l.flatMap fun a=>[pT 38 (ag a 2),pT 38 (ag a 3)]++af (ag (ag a 1) 1)
def H3(a:He):=a.bl.length<=aW/\0<=a.i/\a.i<=a.bl.length/\(a.ts++dJ (a.bl.drop a.i.toNat)).length<=100000
def BH(a:He):Out (Exit×S):= .one (.exit 0,sp 46 [(2, .ptr 2 0 [] 0),(3, .ak 3 0 (a.ts++dJ (a.bl.drop a.i.toNat)).length)] [.ext (some a.xs), .box 48 (au a.r), .box 186 (.cf 0), .row 38 (a.ts++dJ (a.bl.drop a.i.toNat))])
theorem Fl l i(h:i<l.length):dJ (l.drop i)=[pT 38 (ag (nth l i) 2),pT 38 (ag (nth l i) 3)]++af (ag (ag (nth l i) 1) 1)++dJ (l.drop (i+1)):=by
 rw[aq7 h,aM l i h];rfl
theorem am6 κ:aU (NA κ) 12 185 3 (aG 2 HJ H3 BH):=by
 refine aC (fun a=>a.bl.length - a.i.toNat) ?_;rintro⟨xs,c,r,b,e,i⟩ K ⟨f,h,l,g⟩ d;simp only at f h l g;rw[show(NA κ).P=Pr κ from rfl];refine Eq.mpr (al8 κ ⟨xs,c,r,b,e,i⟩ _ _ K) ?_;simp only[and_self];simp only[BH,Out.run] at d;simp only[aW] at f;simp only[ae,ai,ap6,ap8,ap7];refine⟨fun j=>⟨⟨h,j⟩,?_⟩,fun j=>?_⟩
 ·have k:=Fl b i.toNat (by omega)
  rw[k] at g d;rw[az (n:=i+1) (by omega) (by omega)];simp only[ar1,List.length_cons,List.length_nil] at g;refine⟨by omega,by omega,_,?_,⟨xs,c,r,b,e++([pT 38 (ag (nth b i.toNat) 2),pT 38 (ag (nth b i.toNat) 3)]++af (ag (ag (nth b i.toNat) 1) 1)),i+1⟩,?_,⟨by simpa[aW] using f,by simp only;omega,by simp only;omega,?_⟩,rfl,?_⟩
  ·simp only;omega
  ·simp only[HJ,ar1,List.length_cons,List.length_nil,List.take_length]
   rw[List.take_of_length_le (by simp),show e.length+2+(af (ag (ag (nth b i.toNat) 1) 1)).length=e.length+(0+1+1+(af (ag (ag (nth b i.toNat) 1) 1)).length) by omega,List.append_assoc];rfl
  ·simp only[ar1,List.length_cons,List.length_nil,show(i+1).toNat=i.toNat+1 by omega];omega
  ·simp only[BH,Out.run,show(i+1).toNat=i.toNat+1 by omega]
   simpa only[List.append_assoc] using d
 ·rw[aq4 (by omega)] at d
  simpa[dJ] using d
noncomputable def GZ κ:=(NA κ).an 185 3 (aG 2 HJ H3 BH)
theorem an8 κ:aE (GZ κ):=(e56 _).an (m56 _) (am6 _)
theorem ac5 κ:aj (GZ κ):=(m56 _).an aI
noncomputable abbrev Yr(a:He)(κ:Kp)(st:LoopState)(p:Option Code):Dn.Obj:=
 .loop (iI (Pr κ).toProgram 185 11 st p (gX (bM 46) [(2, .ptr 2 0 [] 0),(7, .ptr 4 0 [] 0),(32, .ak 3 0 a.ts.length),(33, .int a.ts.length),(34, .int a.i),(35, .bool true),
  (36, .ptr 3 (0+a.i.toNat) [] 0),(37,Ew a),(38,Ew a),(39, .bm 198 [.ptr 5 0 [] 0])]))
noncomputable abbrev qZ κ a:=[.ext (some a.xs), .box 48 (au a.r), .box 186 (.cf 0), .row 38 a.ts, .box 38 (Ew a), .box 38 (Ew a),Yr a κ .ready none]
noncomputable abbrev z0 κ a o st p:=[.ext o, .box 48 (au a.r), .box 186 (.cf 0), .row 38 a.ts, .box 38 (Ew a), .dead,Yr a κ st p]
theorem s42 κ a Q:(tidy (Pr κ).toProgram 7 (dt (qZ κ a) (bV (qZ κ a) [.ptr 5 0 [] 0])) Q)=(
 letI b:=AV.int
 letI c:=nth a.ts (0+a.i.toNat)
 letI d:=toInt (ag c 0)
 letI e:=toStr (ag c 1)
 letI f:=toInt (ag c 2)
 letI g:=af (ag c 3)
 Q [Obj.ext (some a.xs),Obj.box 48 (au a.r),Obj.box 186 (AV.cf 0),Obj.row 38 a.ts,Obj.box 38 (AV.agg [b d,AV.str e,b f,AV.ah 38 g]),
 Obj.dead,Dn.Obj.loop (iI Tryz.prog 185 11 LoopState.ready none (gX (bM 46) [(2,AV.ptr 2 0 [] 0),(7,AV.ptr 4 0 [] 0),(32,AV.ak 3 0 a.ts.length),(33,
 b (↑(a.ts.length):Int)),(34,b a.i),(35,AV.bool true),(36,AV.ptr 3 (0+a.i.toNat) [] 0),(37,AV.agg [b d,AV.str e,b f,AV.ah
 38 g]),(38,AV.agg [b d,AV.str e,b f,AV.ah 38 g]),(39,AV.bm 198 [AV.ptr 5 0 [] 0])]))]):=by kernel_rfl
theorem r42 κ a o u Q(K2:List Dn.Obj->Prop):(fQ (vc (GZ κ) 12) 6 [pT 38 u] (z0 κ a (some o) .ready none) (fun r st''=>match r with| .lit (.bool true)=>tidy (Pr κ).toProgram 7 st'' Q| .lit (.bool false)=>K2 st''|_=>False))=(
 letI b:=AV.int
 letI c:=AV.agg
 letI d:=AV.str
 letI e:=Obj.box
 letI f:=nth a.ts (0+a.i.toNat)
 letI g:=toInt (ag f 0)
 letI h:=toStr (ag f 1)
 letI i:=toInt (ag f 2)
 letI j:=af (ag f 3)
 letI k:=c [b g,d h,b i,AV.ah 38 j]
 letI l:=gX (bM 46) [(2,AV.ptr 2 0 [] 0),(7,AV.ptr 4 0 [] 0),(32,AV.ak 3 0 a.ts.length),(33,b (↑(a.ts.length):Int)),(34,b a.i),(35,
  AV.bool true),(36,AV.ptr 3 (0+a.i.toNat) [] 0),(37,c [b g,d h,b i,AV.ah 38 j]),(38,c [b g,d h,b i,
  AV.ah 38 j]),(39,AV.bm 198 [AV.ptr 5 0 [] 0])]
 ∃(e0:List AV),o=AV.aH [c [b (toInt (ag u 0)),d (toStr (ag u 1)),b (toInt (ag u 2)),AV.ah 38 (af (ag u 3))]]::e0/\Q [Obj.ext
 (some e0),e 48 (au a.r),e 186 (AV.cf 0),Obj.row 38 a.ts,e 38 k,Obj.dead,Dn.Obj.loop (iI Tryz.prog 185 11 LoopState.ready none l)]/\K2
 [Obj.ext none,e 48 (au a.r),e 186 (AV.cf 0),Obj.row 38 a.ts,e 38 k,Obj.dead,Dn.Obj.loop (iI Tryz.prog 185 11 LoopState.done (some
 Code.ret) l),e 38 (c [b (toInt (ag u 0)),d (toStr (ag u 1)),b (toInt (ag u 2)),AV.ah 38 (af (ag u 3))])]):=by kernel_rfl
theorem k42 κ a xs:(AV.cf 0::fC (ia (bV (qZ κ a) [.ptr 5 0 [] 0])) [.ptr 5 0 [] 0],Obj.ext (some xs)::fU (ia (bV (qZ κ a) [.ptr 5 0 [] 0])) (fV (qZ κ a) (bV (qZ κ a) [.ptr 5 0 [] 0])))=([.cf 0, .ptr 1 0 [] 0],[.ext (some xs), .box 38 (Ew a)]):=by kernel_rfl
theorem o42 κ a:lT (qZ κ a) [.ptr 5 0 [] 0]=true:=by kernel_rfl
noncomputable def L9(κ:Kp):eh:=fun b st K=>∃a,(b,st)=([AV.ptr 5 0 [] 0],qZ κ a)/\((cI (nth a.ts a.i.toNat)).mL<=100000/\a.xs=pN 38 (nth a.ts a.i.toNat)++a.more)/\
 K (z0 κ a (some a.more) .ready none)/\∀u,K (z0 κ a none .done (some .ret)++[.box 38 (pT 38 u)])
theorem E9 κ:(L9 κ).fY:=by
 rintro b st K g c ⟨a,d,e,f,h⟩;exact⟨a,d,e,c _ f,by grind⟩
theorem call42 κ a st K(h:aO RR Bs Hu a st K):(GZ κ).call 198 a st K:=h
theorem ai9 κ:iw (GZ κ) 12 198 (L9 κ):=by
 rintro c st K ⟨a,g,⟨k,f⟩,m,n⟩;obtain⟨rfl,rfl⟩:=Prod.mk.inj g;refine⟨pN 38 (nth a.ts a.i.toNat),fun b st'=>(∀x,x∈b->tG 38 x)/\st'=z0 κ a (some (b++a.more)) .ready none,⟨o42 κ a,?_,?_,?_,?_⟩⟩
 ·refine call42 κ _ _ _ ⟨nth a.ts a.i.toNat,?_,k,fun st' h=>h⟩
  rw[k42,Ew,Nat.zero_add];rfl
 ·rw[show(GZ κ).P=Pr κ from rfl,show(qZ κ a).length=7 from rfl,s42]
  exact⟨na _ _ _ (Nat.lt_succ_self _),by rw[f];rfl⟩
 ·rintro l e st' ⟨d,rfl⟩
  obtain⟨u,o⟩:=d (.aH l) (by simp);obtain rfl:=AV.aH.inj o;refine Eq.mpr (r42 κ a _ u _ _) ?_;exact⟨_,rfl,⟨fun x j=>d x (by simp[j]),rfl⟩,n u⟩
 ·rintro st' ⟨_,rfl⟩
  exact m
noncomputable def xV κ:=((GZ κ).addRange 185 11 198 (L9 κ)).cV fun f=>iD f R6
theorem af5 κ:aE (xV κ):=((an8 _).addRange (ac5 _) (ai9 _)).cV _
theorem ZL κ:aj (xV κ):=((ac5 _).addRange (E9 _)).cV _
abbrev HQ(a:He):=sp 46 [(2, .ptr 2 0 [] 0),(32, .ak 3 0 a.ts.length),(33, .int a.ts.length),(34, .int a.i)] [.ext (some a.xs), .box 48 (au a.r), .box 186 (.cf 0), .row 38 a.ts]
theorem ae9 κ a I n K:(vc (xV κ) 12 185 none 2 (ad (Pr κ).toProgram 185 8) (HQ a) (bj (xV κ) 185 8 2 I n K))=(
 letI b:=AV.int
 letI c:=AV.ptr
 letI d:=AV.agg
 letI e:=Obj.box
 letI f:=Obj.ext
 letI g:=nth a.ts (0+a.i.toNat)
 letI h:=a.ts.length
 letI k:=toInt (ag g 0)
 letI l:=toStr (ag g 1)
 letI m:=toInt (ag g 2)
 letI o:=af (ag g 3)
 letI p:=d [b k,AV.str l,b m,AV.ah 38 o]
 aq (decide (a.i<(↑h:Int))) (aV (decide ((0:Int)<=a.i)&&decide (a.i<(↑h:Int))) (∃(e1:He),letI i:=nth e1.ts (0+e1.i.toNat);letI j:=[b (toInt (ag i 0)),AV.str (toStr (ag i 1)),b (toInt (ag i 2)),AV.ah 38 (af (ag i 3))];([c 5 0 [] 0],[f (some a.xs),e 48 (au a.r),e 186 (AV.cf 0),Obj.row 38 a.ts,e 38 p,e 38 p,Dn.Obj.loop (iI Tryz.prog 185 11 LoopState.ready none (gX (bM 46) [(2,c 2 0 [] 0),(7,c 4 0 [] 0),(32,AV.ak 3 0 a.ts.length),(33,b (↑h:Int)),(34,b a.i),(35,AV.bool true),(36,c 3 (0+a.i.toNat) [] 0),(37,d [b k,AV.str l,b m,AV.ah 38 o]),(38,d [b k,AV.str l,b m,AV.ah 38 o]),(39,AV.bm 198 [c 5 0 [] 0])]))])=([c 5 0 [] 0],[f (some e1.xs),e 48 (au e1.r),e 186 (AV.cf 0),Obj.row 38 e1.ts,e 38 (d j),e 38 (d j),Dn.Obj.loop (iI Tryz.prog 185 11 LoopState.ready none (gX (bM 46) [(2,c 2 0 [] 0),(7,c 4 0 [] 0),(32,AV.ak 3 0 e1.ts.length),(33,b (↑(e1.ts.length):Int)),(34,b e1.i),(35,AV.bool true),(36,c 3 (0+e1.i.toNat) [] 0),(37,d j),(38,d j),(39,AV.bm 198 [c 5 0 [] 0])]))])/\(Tm.mL (cI (nth e1.ts e1.i.toNat))<=100000/\e1.xs=pN 38 (nth e1.ts e1.i.toNat)++e1.more)/\(∃(e0:Nat),e0<n/\I e0 (sp 46 [(2,c 2 0 [] 0),(32,AV.ak 3 0 a.ts.length),(33,b (↑h:Int)),(34,b (IntKind.wrap IntKind.i64 (a.i+(1:Int))))] [f (some e1.more),e 48 (au e1.r),e 186 (AV.cf 0),Obj.row 38 e1.ts]))/\∀(e0:AV),K Exit.ret (sp 46 [] [f none,e 48 (au e1.r)]))) (K (Exit.exit 2) (sp 46 [] [f (some a.xs),e 48 (au a.r)]))):=by kernel_rfl
def AP(a:He):=a.ts.length<=aW/\0<=a.i/\a.i<=a.ts.length/\bk (aa (a.ts.drop a.i.toNat))<=100000/\a.xs=fG 38 (a.ts.drop a.i.toNat)
def NP(a:He):Out (Exit×S):= .all (fun _=>True) fun b=> .aq b (.one (.exit 2,sp 46 [] [.ext (some []), .box 48 (au a.r)])) (.one (.ret,sp 46 [] [.ext none, .box 48 (au a.r)]))
theorem al6 κ:aU (xV κ) 12 185 8 (aG 2 HQ AP NP):=by
 refine aC (fun a=>a.ts.length - a.i.toNat) ?_;rintro⟨xs,b,r,f,m,i⟩ K ⟨h,j,l,o,c⟩ g;simp only at h j l o c;rw[show(xV κ).P=Pr κ from rfl];refine Eq.mpr (ae9 κ ⟨xs,b,r,f,m,i⟩ _ _ K) ?_;have e:=g true trivial;have d:=g false trivial;simp only[Out.run,aq] at e d;simp only[aW] at h;simp only[ae,ai,ap6,ap8,ap7];refine⟨fun k=>⟨⟨j,k⟩,?_⟩,fun k=>?_⟩
 ·have p:=xf m i.toNat (by omega)
  rw[vH _ m i.toNat (by omega)] at c;rw[az (n:=i+1) (by omega) (by omega)];refine⟨⟨xs,fG 38 (m.drop (i.toNat+1)),r,f,m,i⟩,rfl,⟨by simp only;omega,c⟩,⟨_,?_,⟨_,b,r,f,m,i+1⟩,rfl,⟨by simpa[aW] using h,by simp only;omega,by simp only;omega,?_,?_⟩,rfl,g⟩,fun _=>d⟩
  ·simp only;omega
  ·grind
  ·simp only[show(i+1).toNat=i.toNat+1 by omega]
 ·rw[aq4 (by omega)] at c
  subst c;exact e
noncomputable def Ps κ:=(xV κ).an 185 8 (aG 2 HQ AP NP)
theorem ah2 κ:aE (Ps κ):=(af5 _).an (ZL _) (al6 _)
theorem XI κ:aj (Ps κ):=(ZL _).an aI
theorem y42 κ a K:(a0 (Ps κ) 12 185 [.cf 0, .ptr 1 0 [] 0] [.ext (some a.xs), .box 48 (au a)] K)=(
 letI b:=AV.int
 letI c:=AV.ptr
 letI d:=Obj.box
 letI e:=Obj.row
 letI f:=Obj.ext
 letI g:=AV.ak
 letI h:=AV.cf
 letI i:=Pg.toProgram (Env.P (NA κ))
 letI j:=Pg.toProgram (Env.P (xV κ))
 (Nx a.hl=true->ad i 185 3=ad i 185 3/\∃(e2:He),letI k:=e2.ts++dJ (List.drop e2.i.toNat e2.bl);sp 46 [(2,c 2 0 [] 0),(3,g 3 0 0),(14,AV.ah 80 a.bl),(15,b (↑(a.bl.length):Int)),(16,b 0)] [f (some a.xs),d 48 (au a),d 186 (h 0),e 38 []]=sp 46 [(2,c 2 0 [] 0),(3,g 3 0 e2.ts.length),(14,AV.ah 80 e2.bl),(15,b (↑(e2.bl.length):Int)),(16,b e2.i)] [f (some e2.xs),d 48 (au e2.r),d 186 (h 0),e 38 e2.ts]/\(e2.bl.length<=9223372036854775807/\(0:Int)<=e2.i/\e2.i<=(↑(e2.bl.length):Int)/\List.length k<=100000)/\ad j 185 8=ad j 185 8/\∃(e1:He),letI m:=List.drop e1.i.toNat e1.ts;sp 46 [(2,c 2 0 [] 0),(32,g 3 0 (List.length k)),(33,b (↑(List.length k):Int)),(34,b 0)] [f (some e2.xs),d 48 (au e2.r),d 186 (h 0),e 38 k]=sp 46 [(2,c 2 0 [] 0),(32,g 3 0 e1.ts.length),(33,b (↑(e1.ts.length):Int)),(34,b e1.i)] [f (some e1.xs),d 48 (au e1.r),d 186 (h 0),e 38 e1.ts]/\(e1.ts.length<=9223372036854775807/\(0:Int)<=e1.i/\e1.i<=(↑(e1.ts.length):Int)/\bk (aa m)<=100000/\e1.xs=fG 38 m)/\∀(e0:Bool),True->aq e0 (K (AV.aH []) [f (some []),d 48 (au e1.r)]) (K (AV.aH []) [f none,d 48 (au e1.r)]))/\aV (decide ((0+a.hl.length+1)*57<=70368744177664)) (ad i 185 3=ad i 185 3/\∃(e2:He),letI l:=e2.ts++dJ (List.drop e2.i.toNat e2.bl);sp 46 [(2,c 2 0 [] 0),(3,g 3 0 (0+a.hl.length)),(14,AV.ah 80 a.bl),(15,b (↑(a.bl.length):Int)),(16,b 0)] [f (some a.xs),d 48 (au a),d 186 (h 0),e 38 ([]++a.hl)]=sp 46 [(2,c 2 0 [] 0),(3,g 3 0 e2.ts.length),(14,AV.ah 80 e2.bl),(15,b (↑(e2.bl.length):Int)),(16,b e2.i)] [f (some e2.xs),d 48 (au e2.r),d 186 (h 0),e 38 e2.ts]/\(e2.bl.length<=9223372036854775807/\(0:Int)<=e2.i/\e2.i<=(↑(e2.bl.length):Int)/\List.length l<=100000)/\ad j 185 8=ad j 185 8/\∃(e1:He),letI n:=List.drop e1.i.toNat e1.ts;sp 46 [(2,c 2 0 [] 0),(32,g 3 0 (List.length l)),(33,b (↑(List.length l):Int)),(34,b 0)] [f (some e2.xs),d 48 (au e2.r),d 186 (h 0),e 38 l]=sp 46 [(2,c 2 0 [] 0),(32,g 3 0 e1.ts.length),(33,b (↑(e1.ts.length):Int)),(34,b e1.i)] [f (some e1.xs),d 48 (au e1.r),d 186 (h 0),e 38 e1.ts]/\(e1.ts.length<=9223372036854775807/\(0:Int)<=e1.i/\e1.i<=(↑(e1.ts.length):Int)/\bk (aa n)<=100000/\e1.xs=fG 38 n)/\∀(e0:Bool),True->aq e0 (K (AV.aH []) [f (some []),d 48 (au e1.r)]) (K (AV.aH []) [f none,d 48 (au e1.r)]))):=by kernel_rfl
def VP(a:dk):List AV×List Dn.Obj:=([.cf 0, .ptr 1 0 [] 0],[.ext (some (fG 38 (bo 38 a.hl a.bl))), .box 48 (au a)])
def dc(a:dk):=bk (aa (bo 38 a.hl a.bl))<=100000/\a.bl.length<=100000
def Oh(_:dk):Out (AV×List Dn.Obj):= .all (fun st'=>sm st') fun st'=> .one (.aH [],st')
theorem c42 κ:bd (Ps κ) 12 185 (aO VP dc Oh):=by
 refine aR ?_;rintro⟨xs,g,k,d,c,f,i⟩ K ⟨o,u⟩ p;have s: ∀b,K (.aH []) [.ext none,b]:=fun b=>p _ trivial
 have q: ∀b,K (.aH []) [.ext (some []),b]:=fun b=>p _ trivial
 simp only at o u;have l:=gH (aa (bo 38 d c));rw[eD] at l;have t:d.length<=100000:=by
  have:(bo 38 d c).length=d.length+(dJ c).length:=by simp[bo,dJ]
  omega
 refine Eq.mpr (y42 κ ⟨fG 38 (bo 38 d c),g,k,d,c,f,i⟩ K) ?_;have n: ∀j:List AV,j=d->(j++dJ (List.drop (Int.toNat 0) c))=bo 38 d c:=fun j h=>by subst h;rfl
 have m: ∀j:List AV,j=d->∃a:He,sp 46 [(2, .ptr 2 0 [] 0),(32, .ak 3 0 (j++dJ (List.drop (Int.toNat 0) c)).length),(33, .int (j++dJ (List.drop (Int.toNat 0) c)).length),(34, .int 0)] [.ext (some (fG 38 (bo 38 d c))), .box 48 (au ⟨fG 38 (bo 38 d c),g,k,d,c,f,i⟩), .box 186 (.cf 0), .row 38 (j++dJ (List.drop (Int.toNat 0) c))]=HQ a/\AP a/\∀y:Bool,True->aq y (K (.aH []) [.ext (some []), .box 48 (au a.r)]) (K (.aH []) [.ext none, .box 48 (au a.r)]):=by
  intro j h;refine⟨⟨_,[],⟨fG 38 (bo 38 d c),g,k,d,c,f,i⟩,c,j++dJ (List.drop (Int.toNat 0) c),0⟩,rfl,⟨?_,?_,?_,?_,?_⟩,fun y _=>?_⟩
  ·simp only[n j h,aW];omega
  ·simp only;omega
  ·simp only;omega
  ·show bk (aa (List.drop (Int.toNat 0) (j++dJ (List.drop (Int.toNat 0) c))))<=100000
   rw[n j h];exact o
  ·rw[n j h];rfl
  ·cases y
   ·exact s _
   ·exact q _
 refine⟨fun e=>?_,?_⟩
 ·obtain rfl:d=[]:=by
   cases d with
   |nil=>rfl
   |cons=>cases e
  refine⟨rfl,⟨_,[],⟨fG 38 (bo 38 [] c),g,k,[],c,f,i⟩,c,[],0⟩,rfl,⟨by simp only;omega,by simp only;omega,by simp only;omega,?_⟩,rfl,m [] rfl⟩;rw[n [] rfl];exact Nat.le_trans l o
 ·rw[ai,ap6]
  refine⟨by simp only;omega,rfl,⟨_,[],⟨fG 38 (bo 38 d c),g,k,d,c,f,i⟩,c,[]++d,0⟩,?_,⟨by simp only;omega,by simp only;omega,by simp only;omega,?_⟩,rfl,m ([]++d) rfl⟩
  ·rw[Nat.zero_add];rfl
  ·rw[n ([]++d) rfl];exact Nat.le_trans l o
set_option maxRecDepth 20000 in
noncomputable def S0(κ:Kp):Env:=(Ps κ).aw 185 (aO VP dc Oh)
theorem e42 κ:aE (S0 κ):=(ah2 _).aw (XI _) (c42 _)
theorem m42 κ:aj (S0 κ):=(XI _).aw aJ
def aQ(a:dk):Rl:=⟨⟨a.rel,aa a.hl⟩,dx a.bl⟩
noncomputable abbrev ab0(a:dk)(κ:Kp)(st:LoopState)(p:Option Code):Dn.Obj:=
 .loop (iI (Pr κ).toProgram 115 6 st p (gX (bM 31) [(0,au a),(1, .ptr 0 0 [] 0),(2, .nil),(3, .ptr 1 0 [] 0),(4, .ptr 3 0 [] 0),(6,au a),(7, .bool (a8 (aQ a))),(8, .bool false),(9, .mp 2),(10,au a),(11, .bm 185 [.ptr 4 0 [] 0])]))
noncomputable abbrev p9 κ a:=[.box 48 (au a), .box 36 .nil, .map 9 4 [], .box 177 (.mp 2), .box 48 (au a),ab0 a κ .ready none]
theorem s12 κ a Q:(tidy (Pr κ).toProgram 6 (dt (p9 κ a) (bV (p9 κ a) [.ptr 4 0 [] 0])) Q)=(
 Q [Obj.box 48 (au a),Obj.box 36 (AV.ak 6 0 0),Dn.Obj.map 9 4 [],Obj.box 177 (AV.mp 2),Obj.dead,Dn.Obj.loop (iI Tryz.prog 115 6 LoopState.ready none (gX (bM
 31) [(0,au a),(1,AV.ptr 0 0 [] 0),(2,AV.nil),(3,AV.ptr 1 0 [] 0),(4,AV.ptr 3 0 [] 0),(6,au a),(7,AV.bool (a8 (aQ a))),(8,AV.bool false),(9,
 AV.mp 2),(10,au a),(11,AV.bm 185 [AV.ptr 4 0 [] 0])])),Obj.row 9 []]):=by kernel_rfl
noncomputable abbrev Ad κ a b c:=[.box 48 (au a), .box 36 (.ak 6 0 b.length), .map 9 4 c, .box 177 (.mp 2), .dead,ab0 a κ .ready none, .row 9 (strs b)]
theorem r12 κ a vs es u Q(K2:List Dn.Obj->Prop):(fQ (vc (S0 κ) 12) 5 [pT 38 u] (Ad κ a vs es) (fun r st''=>match r with| .lit (.bool true)=>tidy (Pr κ).toProgram 6 st'' Q| .lit (.bool false)=>K2 st''|_=>False))=(
 letI b:=AV.bool
 letI c:=Obj.box
 letI d:=iI Tryz.prog 115 6 LoopState.ready none (gX (bM 31) [(0,au a),(1,AV.ptr 0 0 [] 0),(2,AV.nil),(3,AV.ptr 1 0 [] 0),(4,AV.ptr 3 0 [] 0),(6,au
  a),(7,b (a8 (aQ a))),(8,b false),(9,AV.mp 2),(10,au a),(11,AV.bm 185 [AV.ptr 4 0 [] 0])])
 letI e:=Q [c 48 (au a),c 36 (AV.ak 6 0 vs.length),Dn.Obj.map 9 4 es,c 177 (AV.mp 2),Obj.dead,Dn.Obj.loop d,Obj.row 9 (strs vs)]
 letI f:=Value.string (toStr (ag u 1))
 aq (toInt (ag u 0) != (1:Int)) e (aq (Dn.toBool (c6 es f (b false))) e (aV (decide ((vs.length+1+1)*17<=70368744177664)) (Q [c 48 (au
 a),c 36 (AV.ak 6 0 (vs.length+1)),Dn.Obj.map 9 4 (eC es f (b true)),c 177 (AV.mp 2),Obj.dead,Dn.Obj.loop d,Obj.row 9 (List.take
 vs.length (strs vs)++[AV.str (toStr (ag u 1))])])))):=by kernel_rfl
theorem k12 κ a xs:(AV.cf 0::fC (ia (bV (p9 κ a) [.ptr 4 0 [] 0])) [.ptr 4 0 [] 0],Obj.ext (some xs)::fU (ia (bV (p9 κ a) [.ptr 4 0 [] 0])) (fV (p9 κ a) (bV (p9 κ a) [.ptr 4 0 [] 0])))=([.cf 0, .ptr 1 0 [] 0],[.ext (some xs), .box 48 (au a)]):=by kernel_rfl
theorem o12 κ a:lT (p9 κ a) [.ptr 4 0 [] 0]=true:=by kernel_rfl
noncomputable def NR(κ:Kp):eh:=fun b st K=>∃a,(b,st)=([AV.ptr 4 0 [] 0],p9 κ a)/\dc a/\K (Ad κ a (nC [] (fx (aQ a))) (bU (nC [] (fx (aQ a)))))
theorem Fg κ:(NR κ).fY:=by
 rintro b st K g e ⟨a,d,f,c⟩;exact⟨a,d,f,e _ c⟩
theorem call12 κ a st K(h:aO VP dc Oh a st K):(S0 κ).call 185 a st K:=h
theorem ao9 κ:iw (S0 κ) 12 185 (NR κ):=by
 rintro l st K ⟨a,q,o,v⟩;obtain⟨rfl,rfl⟩:=Prod.mk.inj q;have k:=iJ 38 a.rel a.hl a.bl;rw[←ua 38] at k;have w:(fx (aQ a)).length<=100000:=by
  have n:=cF (aa (bo 38 a.hl a.bl));rw[iJ 38 a.rel a.hl a.bl] at n;exact Nat.le_trans n o.1
 have hd:=k8 (fx (aQ a)) [];refine⟨fG 38 (bo 38 a.hl a.bl),fun c st'=>∃b,(∀x,x∈c->tG 38 x)/\st'=Ad κ a b (bU b)/\b++nC b (c.flatMap yV)=nC [] (fx (aQ a)),⟨o12 κ a,?_,?_,?_,?_⟩⟩
 ·refine call12 κ _ _ _ ⟨a,?_,o,fun st' h=>h⟩
  rw[k12];rfl
 ·rw[show(S0 κ).P=Pr κ from rfl,show(p9 κ a).length=6 from rfl,s12]
  exact⟨[],CP _ _,rfl,by rw[k];rfl⟩
 ·rintro p g st' ⟨b,m,rfl,d⟩
  obtain⟨u,t⟩:=m (.aH p) (by simp);obtain rfl:=AV.aH.inj t;rw[show(S0 κ).P=Pr κ from rfl,show(p9 κ a).length=6 from rfl];refine Eq.mpr (r12 κ a b _ u _ _) ?_;have f: ∀x,x∈g->tG 38 x:=fun x r=>m x (by simp[r])
  have s:yV (.aH [pT 38 u])=bif decide (toInt (ag u 0)=1) then[toStr (ag u 1)] else[]:=rfl
  rw[List.flatMap_cons,s] at d;have j:Dn.toBool (c6 (bU b) (.string (toStr (ag u 1))) (.lit (.bool false)))=b.contains (toStr (ag u 1)):=pE _ _;rw[j];simp only[ae,ai,bne_iff_ne,bne_eq_false_iff_eq,ap6];refine⟨fun e=>⟨b,f,rfl,?_⟩,fun e=>⟨fun i=>⟨b,f,rfl,?_⟩,fun i=>⟨?_,b++[toStr (ag u 1)],f,?_,?_⟩⟩⟩
  ·rw[aq0 e] at d;exact d
  ·rw[aq2 e,aq3,List.singleton_append,nC,i] at d;exact d
  ·have:=congrArg List.length d
   rw[ar1] at this;omega
  ·rw[RP,←ba b,List.take_length]
   simp only[Ad,jk,ba,ar1,List.length_cons,List.length_nil];rfl
  ·rw[aq2 e,aq3,List.singleton_append,nC,i,aq1] at d
   simpa using d
 ·rintro st' ⟨b,_,rfl,d⟩
  have i:b=nC [] (fx (aQ a)):=by simpa[nC] using d
  rw[i];exact v
noncomputable def ON κ:=((S0 κ).addRange 115 6 185 (NR κ)).cV fun f=>iD f R6
theorem ag7 κ:aE (ON κ):=((e42 _).addRange (m42 _) (ao9 _)).cV _
theorem ae7 κ:aj (ON κ):=((m42 _).addRange (Fg _)).cV _
theorem y12 κ a K:(a0 (ON κ) 12 115 [au a] [] K)=(
 letI b:=AV.int
 letI c:=AV.ptr
 letI d:=AV.agg
 letI e:=AV.str
 letI f:=Obj.box
 letI g:=AV.ah
 letI h:=AV.nil
 letI j:=d [d [e a.rel,g 38 a.hl],g 80 a.bl,b a.line]
 aV (decide (a.hl.length<=9223372036854775807)&&decide (a.bl.length<=9223372036854775807)) (aq (!a8 {head:={rel:=a.rel,l:=aa a.hl},body:=dx a.bl}) (K h []) (∃(e0:dk),letI i:=[d [e e0.rel,g 38 e0.hl],g 80 e0.bl,b e0.line];([c 4 0 [] 0],[f 48 j,f 36 h,Dn.Obj.map 9 4 [],f 177 (AV.mp 2),f 48 j,Dn.Obj.loop (iI Tryz.prog 115 6 LoopState.ready none (gX (bM 31) [(0,d [d [e a.rel,g 38 a.hl],g 80 a.bl,b a.line]),(1,c 0 0 [] 0),(2,h),(3,c 1 0 [] 0),(4,c 3 0 [] 0),(6,d [d [e a.rel,g 38 a.hl],g 80 a.bl,b a.line]),(7,AV.lit (Value.bool (a8 {head:={rel:=a.rel,l:=aa a.hl},body:=dx a.bl}))),(8,AV.bool false),(9,AV.mp 2),(10,d [d [e a.rel,g 38 a.hl],g 80 a.bl,b a.line]),(11,AV.bm 185 [c 4 0 [] 0])]))])=([c 4 0 [] 0],[f 48 (d i),f 36 h,Dn.Obj.map 9 4 [],f 177 (AV.mp 2),f 48 (d i),Dn.Obj.loop (iI Tryz.prog 115 6 LoopState.ready none (gX (bM 31) [(0,d i),(1,c 0 0 [] 0),(2,h),(3,c 1 0 [] 0),(4,c 3 0 [] 0),(6,d i),(7,AV.bool (a8 (aQ e0))),(8,AV.bool false),(9,AV.mp 2),(10,d i),(11,AV.bm 185 [c 4 0 [] 0])]))])/\(bk (aa (bo 38 e0.hl e0.bl))<=100000/\e0.bl.length<=100000)/\K (AV.ak 0 0 (List.length (nC [] (fx (aQ e0))))) [Obj.row 9 (strs (nC [] (fx (aQ e0))))]))):=by kernel_rfl
def Yk(a:dk):List AV×List Dn.Obj:=([au a],[])
def Pp a:=a8 (aQ a)=true/\dc a
def N5(a:dk):Out (AV×List Dn.Obj):= .one (.ak 0 0 (dg (aQ a)).length,[.row 9 (strs (dg (aQ a)))])
theorem c12 κ:bd (ON κ) 12 115 (aO Yk Pp N5):=by
 refine aR ?_;rintro⟨xs,b,c,d,f,a,i⟩ K ⟨h,j,k⟩ l;refine Eq.mpr (y12 κ ⟨xs,b,c,d,f,a,i⟩ K) ?_;have m:a8 ⟨⟨c,aa d⟩,dx f⟩=true:=h;simp only at j k;have g:=gH (aa (bo 38 d f));rw[eD] at g;have n:d.length<=100000:=by
  grind [bo,dJ]
 simp only[m,ai,ae,ap7,ap6];refine⟨⟨by omega,by omega⟩,(fun e=>nomatch e),fun _=>⟨⟨xs,b,c,d,f,a,i⟩,?_,⟨j,k⟩,?_⟩⟩
 ·grind
 ·simp only[N5,Out.run,dg,h,aq3] at l
  exact l
set_option maxRecDepth 20000 in
noncomputable def NW(κ:Kp):Env:=(ON κ).aw 115 (aO Yk Pp N5)
theorem e12 κ:aE (NW κ):=(ag7 _).aw (ae7 _) (c12 _)
theorem m12 κ:aj (NW κ):=(ae7 _).aw aJ
theorem n6: ∀l m,bk (l++m)=bk l+bk m
 |[],m=>by simp[bk]
 |t::l,m=>by simp[bk,n6 l m];omega
theorem pH{a}(h:dc a):bk (aa a.hl)<=100000:=by
 have:=h.1
 unfold bo aa at this;rw[List.map_append,n6] at this
 grind [aa]
theorem G5: ∀l x,x∈l->jR (da x)<=bk (aa (dJ l))
 |[],_,h=>by grind
 | y::l,x,h=>by
  have e:bk (aa (dJ (y::l)))=jR (da y)+bk (aa (dJ l)):=by
   unfold dJ aa;rw[List.flatMap_cons,List.map_append,n6,List.map_append,n6];simp[jR,da,MA,aa,ar3,List.map_nil,qY]
  rcases List.mem_cons.1 h with rfl|h
  ·omega
  ·have:=G5 l x h;omega
theorem kG{a}(h:dc a){i}(c:i<a.bl.length):jR (da (nth a.bl i))<=100000:=by
 have b:=h.1;have e:bo _ _ a.bl=a.hl++dJ _:=rfl;rw[e] at b;unfold aa at b;rw[List.map_append,n6] at b;have:=G5 a.bl (nth a.bl i) (by grind [aM])
 grind [aa]
theorem ky l{i}(a:i<l.length):dW (dx l) i=da (nth l i):=by
 grind [dW,dx,aM]
def s7(x:AV):LA:=⟨toInt (ag x 0),toStr (ag (ag x 1) 0),af (ag (ag x 1) 1),toInt (ag (ag x 2) 0),toStr (ag (ag x 2) 1),toInt (ag (ag x 2) 2),af (ag (ag x 2) 3),toInt (ag (ag x 3) 0),toStr (ag (ag x 3) 1),toInt (ag (ag x 3) 2),af (ag (ag x 3) 3)⟩
theorem eB x:(s7 x).lt=da x:=by rw[lt_eq];rfl
structure Xp where
 a:dk
 k:Int
 i:Int
 vs:List ByteArray
abbrev TV(a:Xp):=sp 53 [(1, .int a.k),(2, .ptr 0 0 [] 0),(5, .ptr 1 0 [] 0),(17, .ah 80 a.a.bl),(18, .int a.a.bl.length),(19, .int a.i)] [.box 48 (au a.a), .box 178 (.mp 2), .map 9 4 (bU a.vs)]
theorem x39 κ a k i es I n K:(vc (NW κ) 12 159 none 0 (ad (Pr κ).toProgram 159 4) (sp 53 [(1, .int k),(2, .ptr 0 0 [] 0),(5, .ptr 1 0 [] 0),(17, .ah 80 a.bl),(18, .int a.bl.length),(19, .int i)] [.box 48 (au a), .box 178 (.mp 2), .map 9 4 es]) (bj (NW κ) 159 4 0 I n K))=(
 letI b:=AV.ptr 0 0 []
 letI c:=AV.int
 letI d:=AV.agg
 letI e:=AV.str
 letI f:=Obj.box
 letI g:=Dn.Obj.map
 letI h:=AV.ah
 letI j:=AV.mp
 letI l:=nth a.bl i.toNat
 letI p:=IntKind.wrap IntKind.i64 (i+(1:Int))
 letI m:=a.bl.length
 letI o:=∃(e2:List AV),([h 38 [d [c (toInt (ag (ag l 2) 0)),e (toStr (ag (ag l 2) 1)),c (toInt (ag (ag l 2) 2)),h 38 (af
  (ag (ag l 2) 3))]]],aL)=([h 38 e2],aL)/\bE e2/\∃(e1:List AV×List (Value×AV)),([j 0,h 9 (List.take (List.length (ax (aa e2)))
  (List.drop 0 (strs (ax (aa e2)))))],[g 9 4 es])=([j 0,h 9 e1.1],[g 9 4 e1.2])/\bq e1/\∃(e0:Nat),e0<n/\I e0 (sp 53 [(1,
  c k),(2,b 0),(5,AV.ptr 1 0 [] 0),(17,h 80 a.bl),(18,c (↑m:Int)),(19,c p)] [f 48 (au a),f 178 (j
  2),g 9 4 (fF e1.2 e1.1)])
 letI q:=∃(e2:LA),([d [c (toInt (ag l 0)),d [e (toStr (ag (ag l 1) 0)),h 38 (af (ag (ag l 1) 1))],d [c (toInt (ag
  (ag l 2) 0)),e (toStr (ag (ag l 2) 1)),c (toInt (ag (ag l 2) 2)),h 38 (af (ag (ag l 2) 3))],d [c (toInt (ag (ag l 3) 0)),
  e (toStr (ag (ag l 3) 1)),c (toInt (ag (ag l 3) 2)),h 38 (af (ag (ag l 3) 3))]]],aL)=([d [c e2.op,d [e e2.s,h 38
  e2.l],d [c e2.o1,e e2.s1,c e2.n1,h 38 e2.l1],d [c e2.o2,e e2.s2,c e2.n2,h 38 e2.l2]]],aL)/\gp e2/\∃
  (e1:List AV×List (Value×AV)),([j 0,h 9 (List.take (List.length (ep (LA.lt e2))) (List.drop 0 (strs (ep (LA.lt e2)))))],[g 9 4 es])=
  ([j 0,h 9 e1.1],[g 9 4 e1.2])/\bq e1/\∃(e0:Nat),e0<n/\I e0 (sp 53 [(1,c k),(2,b 0),(5,AV.ptr 1 0 [] 0),(17,
  h 80 a.bl),(18,c (↑m:Int)),(19,c p)] [f 48 (au a),f 178 (j 2),g 9 4 (fF e1.2 e1.1)])
 aq (decide (i<(↑m:Int))) (aV (decide ((0:Int)<=i)&&decide (i<(↑m:Int))) (aq (i==k) (o/\o/\o) (q/\q))) (K (Exit.exit 0) (sp 53 [(1,
 c k),(2,b 0),(5,AV.ptr 1 0 [] 0)] [f 48 (au a),f 178 (j 2),g 9 4 es]))):=by kernel_rfl
def HN(a:Xp):=dc a.a/\0<=a.k/\0<=a.i/\a.i<=a.a.bl.length
def oR(a:Xp):=a.vs++DV a.k.toNat (dx (a.a.bl.drop a.i.toNat)) a.i.toNat
def w7(a:Xp):Out (Exit×S):= .one (.exit 0,sp 53 [(1, .int a.k),(2, .ptr 0 0 [] 0),(5, .ptr 1 0 [] 0)] [.box 48 (au a.a), .box 178 (.mp 2), .map 9 4 (bU (oR a))])
theorem l39 κ:aU (NW κ) 12 159 4 (aG 0 TV HN w7):=by
 refine aC (fun a=>a.a.bl.length - a.i.toNat) ?_;rintro⟨a,k,i,d⟩ K ⟨f,g,j,p⟩ b;simp only at f g j p;rw[show(NW κ).P=Pr κ from rfl];refine Eq.mpr (x39 κ a k i (bU d) _ _ K) ?_;simp only[and_self];have t:=f.2;simp only[w7,oR,Out.run] at b;simp only[ae,ai,ap6,ap8,ap7,beq_iff_eq,beq_eq_false_iff_ne];refine⟨fun m=>⟨⟨j,m⟩,?_⟩,fun m=>?_⟩
 ·have c:=kG f (i:=i.toNat) (by omega)
  rw[oq a.bl i.toNat (by omega),DV] at b;rw[az (n:=i+1) (by omega) (by omega)];refine⟨fun e=>?_,fun e=>?_⟩
  ·subst e
   rw[Nat.beq_refl,aq3,←List.append_assoc] at b;have h:aa [pT 38 (ag (nth a.bl i.toNat) 2)]=[(da (nth a.bl i.toNat)).x]:=by
    simp only[aa,ar3,List.map_nil,qY];rfl
   have r:bk [(da (nth a.bl i.toNat)).x]<=100000:=by
    have:jR (da (nth a.bl i.toNat))=bk [(da (nth a.bl i.toNat)).x,(da (nth a.bl i.toNat)).y]+bk (da (nth a.bl i.toNat)).a.l:=rfl
    simp only[bk] at this⊢;omega
   have q:=cF [(da (nth a.bl i.toNat)).x];refine⟨[pT 38 (ag (nth a.bl i.toNat) 2)],rfl,by simp only[bE,h];exact r,⟨strs (ax [(da (nth a.bl i.toNat)).x]),bU d⟩,?_,?_,_,?_,⟨a,i,i+1,d++ax [(da (nth a.bl i.toNat)).x]⟩,?_,⟨f,g,by simp only;omega,by simp only;omega⟩,rfl,?_⟩
   ·simp only[aq6,cO,h]
   ·simp only[bq,ba,aW];omega
   ·simp only;omega
   ·simp only[mx]
   ·simp only[w7,oR,Out.run,show(i+1).toNat=i.toNat+1 by omega]
    exact b
  ·rw[tc (show i.toNat≠k.toNat by omega),aq1,←List.append_assoc] at b
   have q:=cF [(da (nth a.bl i.toNat)).x,(da (nth a.bl i.toNat)).y];have s:=cF (da (nth a.bl i.toNat)).a.l;have o:(ep (da (nth a.bl i.toNat))).length<=100000:=by
    simp only[ep,jR,ar1] at c⊢;omega
   refine⟨s7 (nth a.bl i.toNat),rfl,by rw[gp,eB];exact c,⟨strs (ep (da (nth a.bl i.toNat))),bU d⟩,?_,?_,_,?_,⟨a,k,i+1,d++ep (da (nth a.bl i.toNat))⟩,?_,⟨f,g,by simp only;omega,by simp only;omega⟩,rfl,?_⟩
   ·simp only[aq6,cO,eB]
   ·simp only[bq,ba,aW];omega
   ·simp only;omega
   ·simp only[mx]
   ·simp only[w7,oR,Out.run,show(i+1).toNat=i.toNat+1 by omega]
    exact b
 ·rw[aq4 (by omega)] at b
  simpa[dx,DV] using b
noncomputable def oB κ:=(NW κ).an 159 4 (aG 0 TV HN w7)
theorem Uk κ:aE (oB κ):=(e12 _).an (m12 _) (l39 _)
theorem Ph κ:aj (oB κ):=(m12 _).an aI
def dB jw jv s:=yt jw s&&yt jv s
structure DO where
 vs:List ByteArray
 i:Int
 jw:List (Value×AV)
 jv:List (Value×AV)
abbrev DZ(R:List AV)(a:List (Value×AV))(b:List (Value×AV)):List Dn.Obj:=[.row 9 R, .box 178 (.mp 2), .map 9 4 a, .box 178 (.mp 4), .map 9 4 b]
abbrev QP:AV:= .bm 184 [.ptr 1 0 [] 0, .ptr 3 0 [] 0]
abbrev JS(a:DO):=sp 19 [(0, .ak 0 0 (strs a.vs).length),(1,QP),(7, .int (strs a.vs).length),(8, .int a.i)] (DZ (strs a.vs) a.jw a.jv)
theorem xFO κ a I n K:(vc (oB κ) 12 161 none 5 (ad (Pr κ).toProgram 161 2) (JS a) (bj (oB κ) 161 2 5 I n K))=(
 letI b:=Obj.box
 letI c:=Dn.Obj.map
 letI d:=AV.mp
 letI f:=K Exit.ret (sp 19 [(4,AV.int a.i)] [Obj.row 9 (strs a.vs),b 178 (d 2),c 9 4 a.jw,b 178 (d 4),c 9 4 a.jv])
 letI e:=List.length (strs a.vs)
 letI g:=Value.string (toStr (nth (strs a.vs) (0+a.i.toNat)))
 aq (decide (a.i<(↑e:Int))) (aV (decide ((0:Int)<=a.i)&&decide (a.i<(↑e:Int))) (aq (!Dn.toBool (c6 a.jw g (AV.bool false))) f (aq (!Dn.toBool
 (c6 a.jv g (AV.bool false))) f (∃(e0:Nat),e0<n/\I e0 (sp 19 [(0,AV.ak 0 0 e),(1,AV.bm 184 [AV.ptr 1 0 [] 0,AV.ptr 3 0 [] 0]),(7,AV.int (↑e:
 Int)),(8,AV.int (IntKind.wrap IntKind.i64 (a.i+(1:Int))))] [Obj.row 9 (strs a.vs),b 178 (d 2),c 9 4 a.jw,b 178 (d 4),
 c 9 4 a.jv]))))) (K (Exit.exit 0) (sp 19 [] [Obj.row 9 (strs a.vs),b 178 (d 2),c 9 4 a.jw,b 178 (d 4),c 9 4
 a.jv]))):=by kernel_rfl
def F1(a:DO):=a.vs.length<=aW/\0<=a.i/\a.i<=a.vs.length/\∀s,s∈a.vs.take a.i.toNat->dB a.jw a.jv s=true
def DH(a:DO):Out (Exit×S):=
 .aq (a.vs.all (dB a.jw a.jv)) (.one (.exit 0,sp 19 [] (DZ (strs a.vs) a.jw a.jv)))
  (.all (fun j=>xu (dB a.jw a.jv) a.vs j) fun j=> .one (.ret,sp 19 [(4, .int j)] (DZ (strs a.vs) a.jw a.jv)))
theorem lFO κ:aU (oB κ) 12 161 2 (aG 5 JS F1 DH):=by
 refine aC (fun a=>a.vs.length - a.i.toNat) ?_;rintro⟨b,i,d,c⟩ K ⟨l,o,t,k⟩ j;simp only at l o t k;rw[show(oB κ).P=Pr κ from rfl];refine Eq.mpr (xFO κ ⟨b,i,d,c⟩ _ _ K) ?_;simp only[aW] at l;simp only[DH,Out.run,ae] at j;have v:=ba b;simp only[ba,Nat.zero_add];have u:i<b.length->∀(g:i.toNat<b.length),(dB d c b[i.toNat]=false->K .ret (sp 19 [(4, .int i)] (DZ (strs b) d c)))/\
   (dB d c b[i.toNat]=true->∃m,m<b.length - i.toNat/\et JS F1 DH (fun a=>a.vs.length - a.i.toNat) K m (JS ⟨b,i+1,d,c⟩)):=by
  intro r g;refine⟨fun e=>j.2 ?_ i ⟨o,g,k,e⟩,fun e=>⟨_,?_,⟨b,i+1,d,c⟩,rfl,⟨by simpa[aW] using l,by simp only;omega,by simp only;omega,?_⟩,rfl,?_⟩⟩
  ·rw[Bool.eq_false_iff]
   intro h;rw[List.all_eq_true.1 h _ (List.getElem_mem g)] at e;cases e
  ·simp only;omega
  ·intro s f
   simp only at f;rw[show(i+1).toNat=i.toNat+1 by omega,List.take_succ_eq_append_getElem g,List.mem_append,List.mem_singleton] at f;rcases f with f|f
   ·exact k s f
   ·rw[f];exact e
  ·simp only[DH,Out.run,ae]
   exact j
 simp only[ae,ai,ap6,ap8,ap7,Bool.not_eq_true',aq8];refine⟨fun g=>⟨⟨o,g⟩,?_⟩,fun g=>?_⟩
 ·have p:i.toNat<b.length:=by omega
  have q:toStr (nth (strs b) i.toNat)=b[i.toNat]:=by rw[wu b _ p];rfl
  rw[az (n:=i+1) (by omega) (by omega),q]
  simp_all[JS,ba,dB,yt]
 ·refine j.1 (List.all_eq_true.2 fun s f=>k s ?_)
  rw[List.take_of_length_le (by omega)];exact f
noncomputable def Q9 κ:=(oB κ).an 161 2 (aG 5 JS F1 DH)
theorem eFO κ:aE (Q9 κ):=(Uk _).an (Ph _) (lFO _)
theorem mFO κ:aj (Q9 κ):=(Ph _).an aI
structure GO where
 R:List AV
 i:Int
 j:Int
 jw:List (Value×AV)
 jv:List (Value×AV)
 P:List ByteArray
 ws:List ByteArray
abbrev Cz(a:GO):=sp 42 [(0, .ak 0 0 a.R.length),(1,QP),(5, .int a.i),(6, .int a.j)] (DZ a.R a.jw a.jv)
theorem xGO κ a I n K:(vc (Q9 κ) 12 114 none 5 (ad (Pr κ).toProgram 114 5) (Cz a) (bj (Q9 κ) 114 5 5 I n K))=(
 letI b:=IntKind.wrap IntKind.i64
 letI c:=AV.int
 letI d:=Obj.box
 letI e:=Dn.Obj.map
 letI f:=AV.mp
 letI g:=toStr (nth a.R (0+a.j.toNat))
 letI h:=b (a.j+(1:Int))
 letI i:=∃(e0:Nat),e0<n/\I e0 (sp 42 [(0,AV.ak 0 0 a.R.length),(1,AV.bm 184 [AV.ptr 1 0 [] 0,AV.ptr 3 0 [] 0]),(5,c a.i),(6,c h)]
  [Obj.row 9 a.R,d 178 (f 2),e 9 4 a.jw,d 178 (f 4),e 9 4 a.jv])
 letI j:=a.j<(↑(a.R.length):Int)
 aq (decide j) (aV (decide ((0:Int)<=a.j)&&decide j) (aq (!Dn.toBool (c6 a.jw (Value.string g) (AV.bool false))) i (aq (!!Dn.toBool (c6 a.jv
 (Value.string g) (AV.bool false))) (aV (decide ((0:Int)<=a.i)&&decide (a.i<(↑(a.R.length):Int))) (∃(e0:Nat),e0<n/\I e0 (sp 42 [(0,AV.ak 0 0
 a.R.length),(1,AV.bm 184 [AV.ptr 1 0 [] 0,AV.ptr 3 0 [] 0]),(5,c (b (a.i+(1:Int)))),(6,c h)] [Obj.row 9 (bH a.R (0
 +a.i.toNat) (AV.str g)),d 178 (f 2),e 9 4 a.jw,d 178 (f 4),e 9 4 a.jv]))) i))) (K (Exit.exit 0) (sp 42 [(0,AV.ak 0
 0 a.R.length),(5,c a.i)] [Obj.row 9 a.R,d 178 (f 2),e 9 4 a.jw,d 178 (f 4),e 9 4 a.jv]))):=by kernel_rfl
def A0(a:GO):=a.R.length<=aW/\0<=a.i/\a.i<a.j/\a.j<=a.R.length/\a.R.take a.i.toNat=strs a.P/\a.R.drop a.j.toNat=strs a.ws
def DG(a:GO):Out (Exit×S):= .all (fun R=>R.length=a.R.length/\R.take (a.P++a.ws.filter (dB a.jw a.jv)).length=strs (a.P++a.ws.filter (dB a.jw a.jv)))
 fun R=> .one (.exit 0,sp 42 [(0, .ak 0 0 a.R.length),(5, .int (a.P++a.ws.filter (dB a.jw a.jv)).length)] (DZ R a.jw a.jv))
theorem lGO κ:aU (Q9 κ) 12 114 5 (aG 5 Cz A0 DG):=by
 refine aC (fun a=>a.R.length - a.j.toNat) ?_;rintro⟨R,i,j,b,c,P,h⟩ K ⟨o,t,A,C,d,g⟩ k;simp only at o t A C d g;rw[show(Q9 κ).P=Pr κ from rfl];refine Eq.mpr (xGO κ ⟨R,i,j,b,c,P,h⟩ _ _ K) ?_;simp only[aW] at o;simp only[DG,Out.run] at k;simp only[Nat.zero_add];have x:P.length=i.toNat:=by
  have:=congrArg List.length d
  rw[List.length_take,ba] at this;omega
 have r: ∀(s:ByteArray) (l:List ByteArray),h=s::l->j<R.length->nth R j.toNat= .lit (.string s)->
   (dB b c s=false->∃m,m<R.length - j.toNat/\et Cz A0 DG (fun a=>a.R.length - a.j.toNat) K m (Cz ⟨R,i,j+1,b,c,P,l⟩))/\
   (dB b c s=true->∃m,m<R.length - j.toNat/\et Cz A0 DG (fun a=>a.R.length - a.j.toNat) K m (Cz ⟨bH R i.toNat (.lit (.string s)),i+1,j+1,b,c,P++[s],l⟩)):=by
  rintro s l rfl p u;obtain⟨_,_,z⟩:=jJ (l:=strs l) g;refine⟨fun e=>⟨_,?_,_,rfl,⟨by simpa[aW] using o,t,by simp only;omega,by simp only;omega,d,?_⟩,rfl,?_⟩,fun e=>⟨_,?_,_,rfl,⟨by simpa[aW,gF] using o,by simp only;omega,by simp only;omega,by simp only[gF];omega,?_,?_⟩,rfl,?_⟩⟩
  ·simp only;omega
  ·simp only[show(j+1).toNat=j.toNat+1 by omega];exact z
  ·intro y f
   have:=k y
   simp only[List.filter_cons,e,Bool.false_eq_true,if_false] at f this⊢;exact this f
  ·simp only[gF];omega
  ·simp only[show(i+1).toNat=i.toNat+1 by omega]
   rw[tE _ _ _ (by omega),d,jk];rfl
  ·simp only[show(j+1).toNat=j.toNat+1 by omega]
   rw[tF _ _ _ _ (by omega)];exact z
  ·intro y f
   have:=k y
   simp only[List.filter_cons,e,if_true,gF,List.append_assoc,List.singleton_append] at f this⊢;exact this f
 simp only[ae,ai,ap6,ap8,ap7,Bool.not_eq_true',aq8];refine⟨fun p=>⟨⟨by omega,p⟩,?_⟩,fun p=>?_⟩
 ·cases h with
  |nil=>
   have:=congrArg List.length g
   rw[List.length_drop,ba] at this;simp at this;omega
  |cons s l=>
   obtain⟨_,u,_⟩:=jJ (l:=strs l) g;have v:toStr (nth R j.toNat)=s:=by rw[u];rfl
   have q:=r s l rfl p u;simp only[Cz,gF] at q;rw[az (n:=i+1) (by omega) (by omega),az (n:=j+1) (by omega) (by omega),v];exact⟨fun e=>q.1 (by unfold dB yt;rw[e];rfl),fun e=>⟨fun w=>⟨⟨by omega,by omega⟩,q.2 (by unfold dB yt;rw[e,w];rfl)⟩,fun w=>q.1 (by unfold dB yt;rw[e,w];rfl)⟩⟩
 ·have B:h=[]:=by
   have:=congrArg List.length g
   rw[List.length_drop,ba] at this;cases h with
   |nil=>rfl
   |cons=>simp at this;omega
  subst B;have:=k R ⟨rfl,by simp only[List.filter_nil,List.append_nil,x];exact d⟩
  simp only[List.filter_nil,List.append_nil,x,Int.toNat_of_nonneg t] at this;exact this
noncomputable def EGO κ:=(Q9 κ).an 114 5 (aG 5 Cz A0 DG)
theorem eGO κ:aE (EGO κ):=(eFO _).an (mFO _) (lGO _)
theorem mGO κ:aj (EGO κ):=(mFO _).an aI
theorem yGO κ(a:DO) K:(a0 (EGO κ) 12 114 [.ak 0 0 (strs a.vs).length,QP] (DZ (strs a.vs) a.jw a.jv) K)=(
 letI b:=AV.int
 letI c:=AV.ptr
 letI d:=Obj.box
 letI e:=Dn.Obj.map
 letI f:=AV.mp
 letI l:=List.length (strs a.vs)
 letI m:=Pg.toProgram (Env.P (oB κ))
 letI n:=Pg.toProgram (Env.P (Q9 κ))
 ad m 161 2=ad m 161 2/\∃(e3:DO),letI g:=strs e3.vs;letI o:=K (AV.ah 9 (List.take l (List.drop 0 g))) [Obj.ll 9 g,d 178 (f 2),e 9 4 e3.jw,d 178 (f 4),e 9 4 e3.jv];letI p:=[Obj.row 9 g,d 178 (f 2),e 9 4 e3.jw,d 178 (f 4),e 9 4 e3.jv];sp 19 [(0,AV.ak 0 0 l),(1,AV.bm 184 [c 1 0 [] 0,c 3 0 [] 0]),(7,b (↑l:Int)),(8,b 0)] [Obj.row 9 (strs a.vs),d 178 (f 2),e 9 4 a.jw,d 178 (f 4),e 9 4 a.jv]=sp 19 [(0,AV.ak 0 0 (List.length g)),(1,AV.bm 184 [c 1 0 [] 0,c 3 0 [] 0]),(7,b (↑(List.length g):Int)),(8,b e3.i)] p/\(e3.vs.length<=9223372036854775807/\(0:Int)<=e3.i/\e3.i<=(↑(e3.vs.length):Int)/\∀(e0:ByteArray),List.Mem e0 (List.take e3.i.toNat e3.vs)->dB e3.jw e3.jv e0=true)/\aq (List.all e3.vs (dB e3.jw e3.jv)) o (∀(e2:Int),((0:Int)<=e2/\∃(e1:e2.toNat<e3.vs.length),(∀(e0:ByteArray),List.Mem e0 (List.take e2.toNat e3.vs)->dB e3.jw e3.jv e0=true)/\dB e3.jw e3.jv e3.vs[e2.toNat]=false)->aq (e2==(-1:Int)) o (ad n 114 5=ad n 114 5/\∃(e1:GO),letI q:=e1.P++List.filter (dB e1.jw e1.jv) e1.ws;letI h:=List.length q;letI i:=e1.R.length;sp 42 [(0,AV.ak 0 0 l),(1,AV.bm 184 [c 1 0 [] 0,c 3 0 [] 0]),(5,b e2),(6,b (IntKind.wrap IntKind.i64 (e2+(1:Int))))] p=sp 42 [(0,AV.ak 0 0 e1.R.length),(1,AV.bm 184 [c 1 0 [] 0,c 3 0 [] 0]),(5,b e1.i),(6,b e1.j)] [Obj.row 9 e1.R,d 178 (f 2),e 9 4 e1.jw,d 178 (f 4),e 9 4 e1.jv]/\(e1.R.length<=9223372036854775807/\(0:Int)<=e1.i/\e1.i<e1.j/\e1.j<=(↑i:Int)/\List.take e1.i.toNat e1.R=strs e1.P/\List.drop e1.j.toNat e1.R=strs e1.ws)/\∀(e0:List AV),letI j:=db e0 (0+Int.toNat (↑h:Int)) (Int.toNat ((↑i:Int) - (↑h:Int))) (AV.str {data:= #[]});letI k:=(↑h:Int)<=(↑i:Int);e0.length=e1.R.length/\List.take h e0=strs q->aV (true&&decide k&&decide ((↑i:Int)<=(↑i:Int))) (aV (true&&decide k) (K (AV.ah 9 (List.take (Int.toNat ((↑h:Int) - (0:Int))) (List.drop 0 j))) [Obj.ll 9 j,d 178 (f 2),e 9 4 e1.jw,d 178 (f 4),e 9 4 e1.jv]))))):=by kernel_rfl
def Hb(a:DO):=([.ak 0 0 a.vs.length,QP],DZ (strs a.vs) a.jw a.jv)
def kk(a:DO):=a.vs.length<=aW
def Gs(a:DO):Out (AV×List Dn.Obj):= .all (fun _=>True) fun R=> .one (.ah 9 (strs (a.vs.filter (dB a.jw a.jv))),[.ll 9 R, .box 178 (.mp 2), .map 9 4 a.jw, .box 178 (.mp 4), .map 9 4 a.jv])
theorem aj2 κ:bd (EGO κ) 12 114 (aO Hb kk Gs):=by
 refine aR ?_;rintro⟨c,i,a,b⟩ K f j;simp only[kk] at f;simp only[Hb];rw[←ba c];refine Eq.mpr (yGO κ ⟨c,i,a,b⟩ K) ?_;refine⟨rfl,⟨c,0,a,b⟩,rfl,⟨f,by simp only;omega,by simp only;omega,fun s q=>nomatch q⟩,?_⟩;rw[ae];refine⟨fun e=>?_,fun e y h=>?_⟩
 ·have l:c.filter (dB a b)=c:=List.filter_eq_self.2 (List.all_eq_true.1 e)
  have:=j (strs c) trivial
  simp only[l] at this;rw[aq6,List.take_length];exact this
 ·have p:=sa h
  obtain⟨k,o,u,r⟩:=h;simp only at k o;simp only[aW] at f;rw[ae,beq_iff_eq,beq_eq_false_iff_ne];refine⟨fun t=>by omega,fun _=>⟨rfl,⟨strs c,y,y+1,a,b,c.take y.toNat,c.drop (y.toNat+1)⟩,?_,⟨by simp only[ba];omega,k,by simp only;omega,by simp only[ba];omega,?_,?_⟩,?_⟩⟩
  ·rw[az (n:=y+1) (by omega) (by omega)]
  ·simp only[strs,List.map_take]
  ·simp only[strs,List.map_drop,show(y+1).toNat=y.toNat+1 by omega]
  ·rintro R ⟨m,g⟩
   simp only at m g;rw[←p] at g⊢;have d:(c.filter (dB a b)).length<=c.length:=List.length_filter_le _ _;rw[ai,ai];refine⟨by simp[ba,d],by simp[ba,d],?_⟩;have:=j (db R (0+Int.toNat ((c.filter (dB a b)).length:Int)) (Int.toNat (((strs c).length:Int) - ((c.filter (dB a b)).length:Int))) (.lit (.string (ByteArray.mk #[])))) trivial
   simp only[Int.toNat_natCast,Nat.zero_add,Int.sub_zero,aq6,oU,g] at this⊢;exact this
theorem ah9 κ: ∀a st K,aO Hb kk Gs a st K->b7 (Pr κ) 114 a st K:=fun a st K h=>gS (eGO _) (mGO _) (aj2 _ _ _ K h)
noncomputable def Np κ:=(oB κ).aw 114 (aO Hb kk Gs)
theorem am1 κ:aE (Np κ):=(Uk _).fT (ah9 _)
theorem ac1 κ:aj (Np κ):=(Ph _).aw aJ
theorem y39 κ a k K:(a0 (Np κ) 12 159 [au a, .int k] [] K)=(
 letI b:=AV.int
 letI c:=AV.ptr
 letI d:=Obj.box
 letI e:=Obj.row
 letI f:=Dn.Obj.map
 letI g:=AV.ah
 letI h:=AV.mp
 letI j:=Pg.toProgram (Env.P (NW κ))
 letI l:=∃(e7:List AV),([g 38 a.hl],aL)=([g 38 e7],aL)/\bE e7/\∃(e6:List AV×List (Value×AV)),([h 0,g 9 (List.take (List.length (ax (aa e7))) (List.drop 0 (strs (ax (aa e7)))))],[f 9 4 []])=([h 0,g 9 e6.1],[f 9 4 e6.2])/\bq e6/\ad j 159 4=ad j 159 4/\∃(e5:Xp),letI m:=[g 38 (af (ag (ag (nth e5.a.bl e5.k.toNat) 1) 1))];letI i:=List.length e5.a.bl;sp 53 [(1,b k),(2,c 0 0 [] 0),(5,c 1 0 [] 0),(17,g 80 a.bl),(18,b (↑(a.bl.length):Int)),(19,b 0)] [d 48 (au a),d 178 (h 2),f 9 4 (fF e6.2 e6.1)]=sp 53 [(1,b e5.k),(2,c 0 0 [] 0),(5,c 1 0 [] 0),(17,g 80 e5.a.bl),(18,b (↑i:Int)),(19,b e5.i)] [d 48 (au e5.a),d 178 (h 2),f 9 4 (bU e5.vs)]/\((bk (aa (bo 38 e5.a.hl e5.a.bl))<=100000/\List.length e5.a.bl<=100000)/\(0:Int)<=e5.k/\(0:Int)<=e5.i/\e5.i<=(↑i:Int))/\aV (decide ((0:Int)<=e5.k)&&decide (e5.k<(↑i:Int))) ((∃(e4:List AV),(m,aL)=([g 38 e4],aL)/\bE e4/\∃(e3:List AV×List (Value×AV)),([h 0,g 9 (List.take (List.length (ax (aa e4))) (List.drop 0 (strs (ax (aa e4)))))],[f 9 4 []])=([h 0,g 9 e3.1],[f 9 4 e3.2])/\bq e3/\∃(e2:dk),([au e5.a],aL)=([au e2],aL)/\(a8 (aQ e2)=true/\bk (aa (bo 38 e2.hl e2.bl))<=100000/\e2.bl.length<=100000)/\∃(e1:DO),([AV.ak 0 0 (List.length (dg (aQ e2))),AV.bm 184 [c 1 0 [] 0,c 3 0 [] 0]],[e 9 (strs (dg (aQ e2))),d 178 (h 2),f 9 4 (fF e3.2 e3.1),d 178 (h 4),f 9 4 (bU (oR e5))])=([AV.ak 0 0 e1.vs.length,AV.bm 184 [c 1 0 [] 0,c 3 0 [] 0]],[e 9 (strs e1.vs),d 178 (h 2),f 9 4 e1.jw,d 178 (h 4),f 9 4 e1.jv])/\kk e1/\∀(e0:List AV),True->K (g 9 (strs (List.filter (dB e1.jw e1.jv) e1.vs))) [])/\∃(e4:List AV),(m,aL)=([g 38 e4],aL)/\bE e4/\∃(e3:List AV×List (Value×AV)),([h 0,g 9 (List.take (List.length (ax (aa e4))) (List.drop 0 (strs (ax (aa e4)))))],[f 9 4 []])=([h 0,g 9 e3.1],[f 9 4 e3.2])/\bq e3/\∃(e2:dk),([au e5.a],aL)=([au e2],aL)/\(a8 (aQ e2)=true/\bk (aa (bo 38 e2.hl e2.bl))<=100000/\e2.bl.length<=100000)/\∃(e1:DO),([AV.ak 0 0 (List.length (dg (aQ e2))),AV.bm 184 [c 1 0 [] 0,c 3 0 [] 0]],[e 9 (strs (dg (aQ e2))),d 178 (h 2),f 9 4 (fF e3.2 e3.1),d 178 (h 4),f 9 4 (bU (oR e5))])=([AV.ak 0 0 e1.vs.length,AV.bm 184 [c 1 0 [] 0,c 3 0 [] 0]],[e 9 (strs e1.vs),d 178 (h 2),f 9 4 e1.jw,d 178 (h 4),f 9 4 e1.jv])/\kk e1/\∀(e0:List AV),True->K (g 9 (strs (List.filter (dB e1.jw e1.jv) e1.vs))) [])
 l/\l):=by kernel_rfl
def Qe(a:dk×Int):List AV×List Dn.Obj:=([au a.1, .int a.2],[])
def An(a:dk×Int):=a8 (aQ a.1)=true/\dc a.1/\0<=a.2/\a.2<a.1.bl.length
def TB(a:dk×Int):Out (AV×List Dn.Obj):= .one (.ah 9 (strs (ei (aQ a.1) a.2.toNat)),[])
theorem c39 κ:bd (Np κ) 12 159 (aO Qe An TB):=by
 refine aR ?_;rintro⟨a,k⟩ K ⟨g,c,h,m⟩ p;refine Eq.mpr (y39 κ a k K) ?_;simp only at g c h m;have o:=pH c;have r:=cF (aa a.hl);have j:k.toNat<a.bl.length:=by omega
 have b:=kG c j;simp only[and_self];refine⟨a.hl,rfl,o,⟨strs (ax (aa a.hl)),[]⟩,?_,?_,trivial,⟨a,k,0,ax (aa a.hl)⟩,rfl,⟨c,h,by simp only;omega,by simp only;omega⟩,?_⟩
 ·simp only[aq6,cO]
 ·simp only[bq,ba,aW];omega
 rw[ai,ap7,ap6,ap6];have e:ax (aa (af (ag (ag (nth a.bl k.toNat) 1) 1)))=ax (dW (aQ a).body k.toNat).a.l:=by
  rw[show(aQ a).body=dx a.bl from rfl,ky _ j,lt_eq]
 have f:bk (aa (af (ag (ag (nth a.bl k.toNat) 1) 1)))<=100000:=by
  rw[lt_eq] at b;simp only[jR] at b;omega
 have q:=cF (aa (af (ag (ag (nth a.bl k.toNat) 1) 1)));refine⟨⟨h,m⟩,_,rfl,f,⟨strs (ax (aa (af (ag (ag (nth a.bl k.toNat) 1) 1)))),[]⟩,?_,?_,a,rfl,⟨g,c⟩,⟨dg (aQ a),0,fF [] (strs (ax (aa (af (ag (ag (nth a.bl k.toNat) 1) 1))))),bU (oR ⟨a,k,0,ax (aa a.hl)⟩)⟩,rfl,?_,?_⟩
 ·simp only[aq6,cO]
 ·simp only[bq,ba,aW];omega
 ·have t:(fx (aQ a)).length<=100000:=by
   have n:=cF (aa (bo 38 a.hl a.bl));rw[iJ 38 a.rel a.hl a.bl] at n;exact Nat.le_trans n c.1
  have u:=k8 (fx (aQ a)) [];simp only[kk,dg,g,aq3,aW];omega
 ·intro R _
  have i:(fun s=>dB (fF [] (strs (ax (aa (af (ag (ag (nth a.bl k.toNat) 1) 1)))))) (bU (oR ⟨a,k,0,ax (aa a.hl)⟩)) s)=fun v=>(ax (dW (aQ a).body k.toNat).a.l).contains v&&(T8 (aQ a) k.toNat).contains v:=by
   funext s
   unfold dB;rw[pE,e];congr 1
   exact pE _ s
  have d:List.filter (dB (fF [] (strs (ax (aa (af (ag (ag (nth a.bl k.toNat) 1) 1)))))) (bU (oR ⟨a,k,0,ax (aa a.hl)⟩))) (dg (aQ a))=ei (aQ a) k.toNat:=by
   unfold ei;exact congrFun (congrArg _ i) _
  simp only[d];exact p
noncomputable def Sz κ:=(Np κ).aw 159 (aO Qe An TB)
theorem e39 κ:aE (Sz κ):=(am1 _).aw (ac1 _) (c39 _)
theorem m39 κ:aj (Sz κ):=(ac1 _).aw aJ
end Go.Proofs.YtioeffnadipbaaaGreatDoor
