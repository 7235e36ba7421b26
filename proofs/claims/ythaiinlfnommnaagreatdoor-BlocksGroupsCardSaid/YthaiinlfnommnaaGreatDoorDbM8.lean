import Derived.Test.YthaiinlfnommnaaGreatDoorDbM7
namespace Go.Proofs.YthaiinlfnommnaaGreatDoor
open Go Go.Dn Go.Rl Go.Proofs
attribute [local irreducible] a9 vc
set_option maxRecDepth 20000
theorem yCo(κ:Kp)(v:Value)(K:AV->List Dn.Obj->Prop):(a9 (Tz κ) 12 179 [.lit v] [] K)=(
 letI z1:=Value.iface 306 (Value.pointer (some (Kp.arity κ)))
 letI z2:=Value.iface 306 (Value.pointer (some (Kp.type κ)))
 letI z3:=Value.iface 306 (Value.pointer (some (Kp.ft κ)))
 a7 (kC κ v&&lx κ z3) (aD (fY v z3) (K (AV.int 51) []) (a7 (kC κ v&&lx κ z1) (aD (fY v z1) (K (AV.int 52) []) (a7 (kC κ v&&lx κ z2) (aD (fY v z2) (K
 (AV.int 53) []) (K (AV.int 0) []))))))):=by kernel_rfl
noncomputable def Nq(κ:Kp)(v:Value):Int:=bif fY v (a6 κ 51) then 51 else bif fY v (a6 κ 52) then 52 else bif fY v (a6 κ 53) then 53 else 0
theorem Lm(κ:Kp){e:Int}(h:jl e):Nq κ (a6 κ e)=e:=by
 unfold Nq
 rw[hJ κ h (.inr (.inl rfl)),hJ κ h (.inr (.inr (.inl rfl))),hJ κ h (.inr (.inr (.inr rfl)))]
 rcases h with rfl|rfl|rfl|rfl<;>rfl
noncomputable def VI(κ:Kp):List AV->Option (Bool×AV)
 |[.lit v]=>some (kC κ v, .int (Nq κ v))
 |_=>none
theorem pCo(κ:Kp):c9 (Tz κ) 12 179 (VI κ):=by
 intro args x hh
 unfold VI at hh
 split at hh
 ·simp only[aa4,ab0] at hh
  obtain⟨h1,rfl⟩:=hh
  refine⟨_,rfl,rfl,?_⟩
  obtain⟨e,he,rfl⟩:=(vJ _ _).1 h1
  refine Eq.mpr (yCo κ _ _) ?_
  rw[Lm κ he]
  have k1: ∀k,vO k->(kC κ (a6 κ e)&&lx κ (a6 κ k))=true:=fun k hk=>by rw[x3 κ he,zn κ hk];rfl
  have n51:Value.iface 306 (.pointer (some κ.ft))=a6 κ 51:=rfl
  have n52:Value.iface 306 (.pointer (some κ.arity))=a6 κ 52:=rfl
  have n53:Value.iface 306 (.pointer (some κ.type))=a6 κ 53:=rfl
  rw[n51,n52,n53,k1 _ (.inl rfl),k1 _ (.inr (.inl rfl)),k1 _ (.inr (.inr rfl)),hJ κ he (.inr (.inl rfl)),hJ κ he (.inr (.inr (.inl rfl))),hJ κ he (.inr (.inr (.inr rfl)))]
  rcases he with rfl|rfl|rfl|rfl<;>rfl
 ·cases hh
noncomputable def NA(κ:Kp):Env:=(Tz κ).aH 179 (VI κ)
theorem eYc(κ:Kp):aB (NA κ):=(Y0 κ).aH (WZ κ) (pCo κ)
theorem X8(κ:Kp):aj (NA κ):=(WZ κ).aH
structure QM where
 a:ji
 w:Int
 bl:List AV
 i:Int
noncomputable abbrev NC(κ:Kp)(x:QM):S:=sp 52 [(0,Co),(5, .lit (a6 κ x.w)),(14, .ad 72 x.bl),(15, .int x.bl.length),(16, .int x.i)] (bK x.a)
theorem xPa(κ:Kp)(x:QM)(I:Nat->S->Prop)(n:Nat)(K:Exit->S->Prop):(vc (NA κ) 12 178 none 2 (af (Pr κ).toProgram 178 3) (NC κ x) (bH (NA κ) 178 3 2 I n K))=(
 letI z1:=Value.iface 306 (Value.pointer (some (Kp.arity κ)))
 letI z2:=Value.iface 306 (Value.pointer (some (Kp.ft κ)))
 letI z3:=nth x.bl x.i.toNat
 letI z4:=IntKind.wrap IntKind.i64 (x.i+(1:Int))
 letI z5:=x.bl.length
 letI z6:=Value.iface 306 (Value.pointer (some (Kp.type κ)))
 letI z7:=kC κ (a6 κ x.w)&&lx κ z2
 letI z8:=kC κ (a6 κ x.w)&&lx κ z1
 aD (decide (x.i<(↑z5:Int))) (a7 (decide ((0:Int)<=x.i)&&decide (x.i<(↑z5:Int))) (∃(e1:Em),([AV.ptr 0 0 [] 0,AV.agg [AV.int (toInt (ae z3 0)),
 AV.agg [AV.str (toStr (ae (ae z3 1) 0)),AV.ad 56 (ai (ae (ae z3 1) 1))],AV.agg [AV.int (toInt (ae (ae z3 2) 0)),AV.str (toStr (ae (ae z3 2) 1)),AV.int
 (toInt (ae (ae z3 2) 2)),AV.ad 56 (ai (ae (ae z3 2) 3))],AV.agg [AV.int (toInt (ae (ae z3 3) 0)),AV.str (toStr (ae (ae z3 3) 1)),AV.int (toInt (ae (ae z3 3)
 2)),AV.ad 56 (ai (ae (ae z3 3) 3))]]],(bK x.a))=([AV.ptr 0 0 [] 0,AV.agg [AV.int e1.op,AV.agg [AV.str e1.rel,AV.ad 56 e1.l],AV.agg [AV.int e1.u.op,
 AV.str e1.u.s,AV.int e1.u.n,AV.ad 56 e1.u.l],AV.agg [AV.int e1.v.op,AV.str e1.v.s,AV.int e1.v.n,AV.ad 56 e1.v.l]]],(bK e1.a))/\(List.length e1.a.ds<=
 9223372036854775807/\iJ (Em.lt e1)<=100000)/\a7 (aC (a6 κ x.w)) (aD (bJ (a6 κ x.w)) (a7 (kC κ (a6 κ (Prod.fst (bU e1)))&&lx κ z2) (aD (fY (a6 κ (Prod.fst
 (bU e1))) z2) (K Exit.ret (sp 52 [(4,AV.lit (a6 κ (Prod.fst (bU e1))))] (bK (dI e1.a (Prod.snd (bU e1)))))) (a7 (kC κ (a6 κ (Prod.fst (bU e1)))&&lx κ z1) (aD
 (fY (a6 κ (Prod.fst (bU e1))) z1) (K Exit.ret (sp 52 [(4,AV.lit (a6 κ (Prod.fst (bU e1))))] (bK (dI e1.a (Prod.snd (bU e1)))))) (∃(e0:Nat),e0<n/\I e0
 (sp 52 [(0,AV.ptr 0 0 [] 0),(5,AV.lit (a6 κ (Prod.fst (bU e1)))),(14,AV.ad 72 x.bl),(15,AV.int (↑z5:Int)),(16,AV.int z4)] (bK (dI e1.a (Prod.snd (bU
 e1)))))))))) (a7 (kC κ (a6 κ x.w)&&lx κ z6) (aD (fY (a6 κ x.w) z6) (a7 (kC κ (a6 κ (Prod.fst (bU e1)))&&lx κ z2) (aD (fY (a6 κ (Prod.fst (bU e1))) z2) (a7
 (kC κ (a6 κ (Prod.fst (bU e1)))&&lx κ z2) (aD (fY (a6 κ (Prod.fst (bU e1))) z2) (K Exit.ret (sp 52 [(4,AV.lit (a6 κ (Prod.fst (bU e1))))] (bK (dI e1.a
 (Prod.snd (bU e1)))))) (a7 (kC κ (a6 κ (Prod.fst (bU e1)))&&lx κ z1) (aD (fY (a6 κ (Prod.fst (bU e1))) z1) (K Exit.ret (sp 52 [(4,AV.lit (a6 κ (Prod.fst (bU
 e1))))] (bK (dI e1.a (Prod.snd (bU e1)))))) (∃(e0:Nat),e0<n/\I e0 (sp 52 [(0,AV.ptr 0 0 [] 0),(5,AV.lit (a6 κ (Prod.fst (bU e1)))),(14,AV.ad 72
 x.bl),(15,AV.int (↑z5:Int)),(16,AV.int z4)] (bK (dI e1.a (Prod.snd (bU e1)))))))))) (a7 (kC κ (a6 κ (Prod.fst (bU e1)))&&lx κ z1) (aD (fY (a6 κ
 (Prod.fst (bU e1))) z1) (a7 (kC κ (a6 κ (Prod.fst (bU e1)))&&lx κ z2) (aD (fY (a6 κ (Prod.fst (bU e1))) z2) (K Exit.ret (sp 52 [(4,AV.lit (a6 κ (Prod.fst (bU
 e1))))] (bK (dI e1.a (Prod.snd (bU e1)))))) (a7 (kC κ (a6 κ (Prod.fst (bU e1)))&&lx κ z1) (aD (fY (a6 κ (Prod.fst (bU e1))) z1) (K Exit.ret (sp 52 [(4,AV.lit
 (a6 κ (Prod.fst (bU e1))))] (bK (dI e1.a (Prod.snd (bU e1)))))) (∃(e0:Nat),e0<n/\I e0 (sp 52 [(0,AV.ptr 0 0 [] 0),(5,AV.lit (a6 κ (Prod.fst (bU
 e1)))),(14,AV.ad 72 x.bl),(15,AV.int (↑z5:Int)),(16,AV.int z4)] (bK (dI e1.a (Prod.snd (bU e1)))))))))) (a7 z7 (aD (fY (a6 κ x.w) z2) (K Exit.ret (sp 52
 [(4,AV.lit (a6 κ x.w))] (bK (dI e1.a (Prod.snd (bU e1)))))) (a7 z8 (aD (fY (a6 κ x.w) z1) (K Exit.ret (sp 52 [(4,AV.lit (a6 κ x.w))] (bK (dI e1.a (Prod.snd
 (bU e1)))))) (∃(e0:Nat),e0<n/\I e0 (sp 52 [(0,AV.ptr 0 0 [] 0),(5,AV.lit (a6 κ x.w)),(14,AV.ad 72 x.bl),(15,AV.int (↑z5:Int)),(16,AV.int z4)]
 (bK (dI e1.a (Prod.snd (bU e1)))))))))))))) (a7 z7 (aD (fY (a6 κ x.w) z2) (K Exit.ret (sp 52 [(4,AV.lit (a6 κ x.w))] (bK (dI e1.a (Prod.snd (bU e1)))))) (a7 z8
 (aD (fY (a6 κ x.w) z1) (K Exit.ret (sp 52 [(4,AV.lit (a6 κ x.w))] (bK (dI e1.a (Prod.snd (bU e1)))))) (∃(e0:Nat),e0<n/\I e0 (sp 52 [(0,AV.ptr 0 0 []
 0),(5,AV.lit (a6 κ x.w)),(14,AV.ad 72 x.bl),(15,AV.int (↑z5:Int)),(16,AV.int z4)] (bK (dI e1.a (Prod.snd (bU e1))))))))))))))) (K (Exit.exit 0) (sp 52
 [(5,AV.lit (a6 κ x.w))] (bK x.a)))):=by kernel_rfl
def iN(a:ji)(x:AV):Em:=⟨a,toInt (ae x 0),toStr (ae (ae x 1) 0),ai (ae (ae x 1) 1),wv (ae x 2),wv (ae x 3)⟩
theorem Ar(a:ji)(x:AV):(iN a x).lt=cE x:=by
 unfold Em.lt iN
 simp only[nQ]
 rfl
theorem pA{σ:Type}{get:σ->ByteArray->Int}{set:σ->ByteArray->Int->σ}(ds:List Dc)(l:Lt)(x:σ×Bool):jl (jV get set ds l x).1:=by
 have hk: ∀e,(e=0\/e=51\/e=52)->jl e:=fun e h=>by
  rcases h with rfl|rfl|rfl
  ·exact .inl rfl
  ·exact .inr (.inl rfl)
  ·exact .inr (.inr (.inl rfl))
 have h53:jl 53:= .inr (.inr (.inr rfl))
 have hb: ∀{y:Bool×(σ×Bool)} {f:σ×Bool->Bool×(σ×Bool)},jl (kI y f).1:=fun{y f}=>by
  rcases rW (y:=y) (f:=f) with e|e<;>rw[e]
  ·exact .inl rfl
  ·exact h53
 have ha:jl (dU get set ds l.a x).1:=by
  unfold dU
  cases decide (known ds l.a=0) with
  |false=>exact hk _ (lD ds l.a)
  |true=>
   rw[aa8]
   cases(iq get set (cw ds l.a.rel) l.a.l x).1
   ·exact .inl rfl
   ·exact h53
 unfold jV
 cases fH l.op with
 |true=>exact hb
 | false=>
  rw[aa6]
  cases decide (l.op=1)||decide (l.op=2) with
  |true=>exact ha
  | false=>
   rw[aa6]
   cases decide ((dU get set ds l.a x).1=0) with
   |false=>exact ha
   | true=>
    rw[Bool.not_true,aa6]
    cases decide (l.op=7) with
    |true=>
     rw[aa8]
     cases(l.x.want get set 1 (dU get set ds l.a x).2).1
     ·exact .inl rfl
     ·exact h53
    |false=>exact hb
theorem r9{σ:Type}{get:σ->ByteArray->Int}{set:σ->ByteArray->Int->σ}(ds:List Dc)(a:At)(x:σ×Bool):jl (dU get set ds a x).1:=by
 have h:=pA (get:=get) (set:=set) ds ⟨1,a, .mk 0 ByteArray.empty 0 [], .mk 0 ByteArray.empty 0 []⟩ x
 exact h
theorem sB{w e:Int}(hw:jl w)(he:jl e):jl (gO w e):=by
 unfold gO
 cases(decide (w=0)||decide (w=53)&&sD e)
 ·exact hw
 ·exact he
theorem si{σ:Type}{get:σ->ByteArray->Int}{set:σ->ByteArray->Int->σ}(ds:List Dc): ∀(b:List Lt) (y:Int×(σ×Bool)),jl y.1->jl (jU get set ds b y).1
 |[],_,h=>h
 |l::b,y,h=>by
  rw[jU]
  have:=sB h (pA (get:=get) (set:=set) ds l y.2)
  cases sD (gO y.1 (jV get set ds l y.2).1) with
  |true=>exact this
  |false=>exact si ds b _ this
def kB(x:QM):Int×(List (Value×AV)×Bool):=jU getM fU (cz x.a.ds) (c6 (x.bl.drop x.i.toNat)) (x.w,(x.a.es,x.a.more))
def Dk(x:QM):Prop:=x.a.ds.length<=aR/\jl x.w/\x.bl.length<=100000/\(∀l,l∈x.bl->iJ (cE l)<=100000)/\0<=x.i/\x.i<=x.bl.length
noncomputable def Jo(κ:Kp)(x:QM):Out (Exit×S):= .all (fun _:Bool=>True) fun b=> .aD b (.one (.ret,sp 52 [(4, .lit (a6 κ (kB x).1))] (bK (dI x.a (kB x).2)))) (.one (.exit 0,sp 52 [(5, .lit (a6 κ (kB x).1))] (bK (dI x.a (kB x).2))))
theorem lPa(κ:Kp):bh (NA κ) 12 178 3 (aP 2 (NC κ) Dk (Jo κ)):=by
 refine aL (fun x=>x.bl.length - x.i.toNat) ?_
 rintro⟨a,w,bl,i⟩ K ⟨h1,h2,h3,h4,h5,h6⟩ ho
 simp only at h1 h2 h3 h4 h5 h6
 rw[show(NA κ).P=Pr κ from rfl]
 refine Eq.mpr (xPa κ ⟨a,w,bl,i⟩ _ _ K) ?_
 have ho1:=ho true trivial
 have ho2:=ho false trivial
 simp only[Out.run,aD] at ho1 ho2
 rw[ah,aa1,aa3]
 refine⟨fun hi=>?_,fun hi=>?_⟩
 ·simp only at hi
  have hk:i.toNat<bl.length:=by omega
  have hb:kB ⟨a,w,bl,i⟩=bif sD (gO w (bU (iN a (nth bl i.toNat))).1) then(gO w (bU (iN a (nth bl i.toNat))).1,(bU (iN a (nth bl i.toNat))).2) else kB ⟨dI a (bU (iN a (nth bl i.toNat))).2,gO w (bU (iN a (nth bl i.toNat))).1,bl,i+1⟩:=by
   unfold kB bU
   simp only[show(i+1).toNat=i.toNat+1 by omega]
   rw[na bl i.toNat hk,jU,Ar];rfl
  have he:jl (bU (iN a (nth bl i.toNat))).1:=pA _ _ _
  have hlc:iJ (cE (nth bl i.toNat))<=100000:=h4 _ (by rw[bg _ _ hk];exact List.getElem_mem hk)
  have R:sD (gO w (bU (iN a (nth bl i.toNat))).1)=true->K .ret (sp 52 [(4, .lit (a6 κ (gO w (bU (iN a (nth bl i.toNat))).1)))] (bK (dI a (bU (iN a (nth bl i.toNat))).2))):=fun e=>by
   rw[hb,e,aa8] at ho1
   exact ho1
  have N:sD (gO w (bU (iN a (nth bl i.toNat))).1)=false->∃m,m<bl.length - i.toNat/\fe (NC κ) Dk (Jo κ) (fun x=>x.bl.length - x.i.toNat) K m (sp 52 [(0,Co),(5, .lit (a6 κ (gO w (bU (iN a (nth bl i.toNat))).1))),(14, .ad 72 bl),(15, .int bl.length),(16, .int (IntKind.wrap .i64 (i+1)))] (bK (dI a (bU (iN a (nth bl i.toNat))).2))):=fun e=>by
   rw[hb,e,aa6] at ho1 ho2
   rw[aW (n:=i+1) (by omega) (by omega)]
   refine⟨_,?_,⟨dI a (bU (iN a (nth bl i.toNat))).2,gO w (bU (iN a (nth bl i.toNat))).1,bl,i+1⟩,rfl,⟨h1,sB h2 he,h3,h4,by simp only;omega,by simp only;omega⟩,rfl,?_⟩
   ·simp only;omega
   ·intro b _
    cases b
    ·exact ho2
    ·exact ho1
  refine an.2 ⟨by simp;omega,iN a (nth bl i.toNat),rfl,⟨h1,by rw[Ar];exact hlc⟩,?_⟩
  have n51:Value.iface 306 (.pointer (some κ.ft))=a6 κ 51:=rfl
  have n52:Value.iface 306 (.pointer (some κ.arity))=a6 κ 52:=rfl
  have n53:Value.iface 306 (.pointer (some κ.type))=a6 κ 53:=rfl
  have ta:(iN a (nth bl i.toNat)).a=a:=rfl
  simp only[n51,n52,n53,ta,cF,jk]
  revert R N he
  generalize bU (iN a (nth bl i.toNat))=y
  intro he R N
  simp only[x3 κ he,x3 κ h2,zn κ (show vO 51 from .inl rfl),zn κ (show vO 52 from .inr (.inl rfl)),zn κ (show vO 53 from .inr (.inr rfl)),hJ κ he (show jl 51 from .inr (.inl rfl)),hJ κ he (show jl 52 from .inr (.inr (.inl rfl))),hJ κ h2 (show jl 51 from .inr (.inl rfl)),hJ κ h2 (show jl 52 from .inr (.inr (.inl rfl))),hJ κ h2 (show jl 53 from .inr (.inr (.inr rfl)))]
  obtain⟨e,y2⟩:=y
  simp only at he R N⊢
  rcases h2 with rfl|rfl|rfl|rfl<;>rcases he with rfl|rfl|rfl|rfl<;>first|exact R rfl|exact N rfl
 ·simp only at hi
  have hb:kB ⟨a,w,bl,i⟩=(w,(a.es,a.more)):=by
   unfold kB
   simp only
   rw[aa9 (by omega)];rfl
  rw[hb] at ho2
  exact ho2
noncomputable def S3(κ:Kp):Env:=(NA κ).ak 178 3 (aP 2 (NC κ) Dk (Jo κ))
theorem eYq(κ:Kp):aB (S3 κ):=(eYc κ).ak (X8 κ) (lPa κ)
theorem W1(κ:Kp):aj (S3 κ):=(X8 κ).ak aF
theorem yPa(κ:Kp)(a:ji)(r:cg)(K:AV->List Dn.Obj->Prop):(a9 (S3 κ) 12 178 [Co,aq r] (bK a) K)=(
 letI z1:=Pg.toProgram (Env.P (NA κ))
 ∃(e2:PN),([AV.ptr 0 0 [] 0,AV.agg [AV.str r.rel,AV.ad 56 r.hl]],(bK a))=([AV.ptr 0 0 [] 0,AV.agg [AV.str e2.2.1,AV.ad 56 e2.2.2]],(bK e2.1))/\
 (e2.1.ds.length<=9223372036854775807/\aX (aa e2.2.2)<=100000)/\af z1 178 3=af z1 178 3/\∃(e1:QM),sp 52 [(0,AV.ptr 0 0 [] 0),(5,AV.lit (a6 κ
 (Prod.fst (dy e2.1 e2.2.1 e2.2.2)))),(14,AV.ad 72 r.bl),(15,AV.int (↑(r.bl.length):Int)),(16,AV.int 0)] (bK (dI e2.1 (Prod.snd (dy e2.1 e2.2.1
 e2.2.2))))=sp 52 [(0,AV.ptr 0 0 [] 0),(5,AV.lit (a6 κ e1.w)),(14,AV.ad 72 e1.bl),(15,AV.int (↑(e1.bl.length):Int)),(16,AV.int e1.i)] (bK e1.a)/\
 (List.length e1.a.ds<=9223372036854775807/\(e1.w=(0:Int)\/e1.w=(51:Int)\/e1.w=(52:Int)\/e1.w=(53:Int))/\e1.bl.length<=100000/\(∀(e0:
 AV),List.Mem e0 e1.bl->iJ (cE e0)<=100000)/\(0:Int)<=e1.i/\e1.i<=(↑(e1.bl.length):Int))/\∀(e0:Bool),True->aD e0 (K (AV.lit (a6 κ (Prod.fst (kB
 e1)))) (bK (dI e1.a (Prod.snd (kB e1))))) (K (AV.lit (a6 κ (Prod.fst (kB e1)))) (bK (dI e1.a (Prod.snd (kB e1)))))):=by kernel_rfl
abbrev Tw:=ji×cg
def kO(x:Tw):Int×(List (Value×AV)×Bool):=jU getM fU (cz x.1.ds) (c6 x.2.bl) (dU getM fU (cz x.1.ds) ⟨x.2.rel,aa x.2.hl⟩ (x.1.es,x.1.more))
def RO(x:Tw):List AV×List Dn.Obj:=([Co,aq x.2],bK x.1)
def Jb(x:Tw):Prop:=x.1.ds.length<=aR/\cV x.2
noncomputable def Ox(κ:Kp)(x:Tw):Out (AV×List Dn.Obj):= .one (.lit (a6 κ (kO x).1),bK (dI x.1 (kO x).2))
theorem Za(κ:Kp):bq (S3 κ) 12 178 (aM RO Jb (Ox κ)):=by
 refine aZ ?_
 rintro⟨a,r⟩ K ⟨h1,h2⟩ ho
 simp only at h1 h2
 refine Eq.mpr (yPa κ a r K) ?_
 have hlit: ∀l,l∈r.bl->iJ (cE l)<=100000:=fun l hl=>by
  obtain⟨k,hk,e⟩:=List.getElem_of_mem hl
  have:=kJ h2 hk
  rwa [bg _ _ hk,e] at this
 have hs:kO (a,r)=kB ⟨dI a (dy a r.rel r.hl).2,(dy a r.rel r.hl).1,r.bl,0⟩:=by
  unfold kO kB dy
  simp only[ab8,ab1];rfl
 have ho:K (.lit (a6 κ (kO (a,r)).1)) (bK (dI a (kO (a,r)).2)):=ho
 rw[hs] at ho
 refine⟨(a,r.rel,r.hl),rfl,⟨h1,ou h2⟩,rfl,⟨dI a (dy a r.rel r.hl).2,(dy a r.rel r.hl).1,r.bl,0⟩,rfl,⟨h1,r9 _ _ _,h2.2,hlit,by simp only;omega,by simp only;omega⟩,fun b _=>?_⟩
 cases b<;>exact ho
noncomputable def L7(κ:Kp):Env:=(S3 κ).ay 178 (aM RO Jb (Ox κ))
theorem eYs(κ:Kp):aB (L7 κ):=(eYq κ).ay (W1 κ) (Za κ)
theorem WO(κ:Kp):aj (L7 κ):=(W1 κ).ay aJ
end Go.Proofs.YthaiinlfnommnaaGreatDoor
namespace Go.Rl
open Go Go.Dn
section
variable {σ:Type} {get:σ->ByteArray->Int} {set:σ->ByteArray->Int->σ}
variable (hgs: ∀st s k t,get (set st s k) t=bif t==s then k else get st t)
include hgs
theorem rz(ds:List Dc){r:Rl}(hr:aK r=true)(V:List ByteArray)(hV: ∀s,s∈fc r->s∈V)(st:σ)(h0:(eU get set ds r st).1=0)(hm:(eU get set ds r st).2.2=true):lV get V (eU get set ds r st).2.1<lV get V st:=by
 have hk:jC ds r=0:=by
  cases e:decide (jC ds r=0) with
  |true=>simpa using e
  |false=>
   rw[aa3] at e
   rw[B0 ds r st e] at h0;exact h0
 simp only[aK,aa2,List.all_eq_true] at hr
 have e1:=Jr (get:=get) (set:=set) ds (r:=r) (th hr.1.1.1) (fun l hl=>PT (hr.2 l hl)) hk st h0
 rw[e1] at hm⊢
 exact wJ (C6 hgs ds r st) V ((CU hgs ds r st hm).left (Ext.refl _ _) hV)
theorem n7(ds:List Dc){r:Rl}(hr:aK r=true)(V:List ByteArray)(hV: ∀s,s∈fc r->s∈V): ∀(n m:Nat) (st:σ),lV get V st<n->lV get V st<m->fB get set ds r n st=fB get set ds r m st
 |0,_,_,h,_=>by omega
 |_+1,0,_,_,h=>by omega
 | n+1,m+1,st,h1,h2=>by
  rw[fB,fB]
  cases h0:decide ((eU get set ds r st).1=0) with
  |false=>rfl
  | true=>
   rw[aa8,aa8]
   cases hm:(eU get set ds r st).2.2 with
   |false=>rfl
   |true=>
    rw[aa8,aa8]
    have:=rz hgs ds hr V hV st (by simpa using h0) hm
    exact n7 ds hr V hV n m _ (by omega) (by omega)
end
end Go.Rl
namespace Go.Proofs.YthaiinlfnommnaaGreatDoor
open Go Go.Dn Go.Rl Go.Proofs
attribute [local irreducible] a9 vc
set_option maxRecDepth 20000
structure pF where
 ds:List AV
 r:cg
 es:List (Value×AV)
 more:Bool
abbrev Nf(x:pF):S:=sp 60 [(3, .ptr 0 0 [] 0),(6, .ptr 1 0 [] 0)] [.box 66 (aq x.r), .box 225 (.agg [.ad 61 x.ds, .mp 2, .bool x.more]), .map 9 3 x.es]
theorem xTy(κ:Kp)(x:pF)(I:Nat->S->Prop)(n:Nat)(K:Exit->S->Prop):(vc (L7 κ) 12 110 none 0 (af (Pr κ).toProgram 110 4) (Nf x) (bH (L7 κ) 110 4 0 I n K))=(
 aD x.more (∃(a:Tw),([AV.ptr 0 0 [] 0,aq x.r],[Obj.box 225 (AV.agg [AV.ad 61 x.ds,AV.mp 1,AV.bool false]),Dn.Obj.map 9 3 x.es])=([AV.ptr 0 0 [] 0,
 aq a.2],[Obj.box 225 (AV.agg [AV.ad 61 a.1.ds,AV.mp 1,AV.bool a.1.more]),Dn.Obj.map 9 3 a.1.es])/\(a.1.ds.length<=9223372036854775807/\aX (aa
 (bc 56 a.2.hl a.2.bl))<=100000/\a.2.bl.length<=100000)/\a7 (aC (a6 κ (Prod.fst (kO a)))) (aD (!bJ (a6 κ (Prod.fst (kO a)))) (a7
 (kC κ (a6 κ (Prod.fst (kO a)))) (K Exit.ret (sp 60 [(4,AV.nil),(5,AV.int (Nq κ (a6 κ (Prod.fst (kO a)))))] []))) (∃(m:Nat),m<n/\I m (sp
 60 [(3,AV.ptr 0 0 [] 0),(6,AV.ptr 1 0 [] 0)] [Obj.box 66 (aq x.r),Obj.box 225 (AV.agg [AV.ad 61 (ji.ds (dI a.1 (Prod.snd (kO a)))),AV.mp 2,
 AV.bool (ji.more (dI a.1 (Prod.snd (kO a))))]),Dn.Obj.map 9 3 (ji.es (dI a.1 (Prod.snd (kO a))))])))) (K (Exit.exit 0) (sp 60 [(3,AV.ptr 0 0 [] 0),
 (6,AV.ptr 1 0 [] 0)] [Obj.box 66 (aq x.r),Obj.box 225 (AV.agg [AV.ad 61 x.ds,AV.mp 2,AV.bool x.more]),Dn.Obj.map 9 3 x.es]))):=by kernel_rfl
abbrev dsR(x:pF):List Dc:=cz x.ds
def Vz(x:pF):Nat:=lV getM (cP (aG x.r)) x.es
def U5(x:pF):Int×List (Value×AV):=fB getM fU (dsR x) (aG x.r) (Vz x+1) x.es
def gk(x:pF):Int×List (Value×AV):=bif x.more then U5 x else(0,x.es)
def I8(x:pF):Prop:=aK (aG x.r)=true/\x.ds.length<=aR/\cV x.r
def FP(x:pF):Out (Exit×S):= .aD (decide ((gk x).1=0)) (.one (.exit 0,Nf ⟨x.ds,x.r,(gk x).2,false⟩)) (.one (.ret,sp 60 [(4, .nil),(5, .int (gk x).1)] []))
theorem Ay(ds:List Dc)(r:Rl)(es:List (Value×AV)):jl (eU getM fU ds r es).1:=si _ _ _ (r9 _ _ _)
theorem Zo(κ:Kp):bh (L7 κ) 12 110 4 (aP 0 Nf I8 FP):=by
 refine aL (fun x=>bif x.more then Vz x+1 else 0) ?_
 rintro⟨ds,r,es,more⟩ K ⟨h1,h2,h3⟩ ho
 simp only at h1 h2 h3
 rw[show(L7 κ).P=Pr κ from rfl]
 refine Eq.mpr (xTy κ ⟨ds,r,es,more⟩ _ _ K) ?_
 simp only[FP,Out.run,ah] at ho
 cases more with
 |false=>exact ho.1 rfl
 | true=>
  have hp:kO (⟨ds,es,false⟩,r)=eU getM fU (cz ds) (aG r) es:=rfl
  have hV: ∀s,s∈fc (aG r)->s∈cP (aG r):=fun s hs=>(w6 h1).2 hs
  have hr:=Ay (cz ds) (aG r) es
  have he:gk ⟨ds,r,es,true⟩=bif decide ((eU getM fU (cz ds) (aG r) es).1=0) then gk ⟨ds,r,(eU getM fU (cz ds) (aG r) es).2.1,(eU getM fU (cz ds) (aG r) es).2.2⟩ else((eU getM fU (cz ds) (aG r) es).1,(eU getM fU (cz ds) (aG r) es).2.1):=by
   have e0:gk ⟨ds,r,es,true⟩=fB getM fU (cz ds) (aG r) (Vz ⟨ds,r,es,true⟩+1) es:=rfl
   rw[e0,fB]
   cases h0:decide ((eU getM fU (cz ds) (aG r) es).1=0) with
   |false=>rfl
   | true=>
    rw[aa8,aa8]
    unfold gk
    cases hm:(eU getM fU (cz ds) (aG r) es).2.2 with
    |false=>rfl
    |true=>
     rw[aa8]
     have:=rz nT (cz ds) h1 _ hV es (by simpa using h0) hm
     exact n7 nT (cz ds) h1 _ hV _ _ _ this (Nat.lt_succ_self _)
  refine⟨(⟨ds,es,false⟩,r),rfl,⟨h2,h3⟩,?_⟩
  rw[hp]
  refine an.2 ⟨cF _ _,?_⟩
  rw[jk]
  cases h0:decide ((eU getM fU (cz ds) (aG r) es).1=0) with
  |false=>
   rw[he,h0,aa6] at ho
   refine an.2 ⟨x3 κ hr,?_⟩
   rw[Lm κ hr]
   exact ho.2 h0
  | true=>
   rw[he,h0,aa8] at ho
   refine⟨_,?_,⟨ds,r,(eU getM fU (cz ds) (aG r) es).2.1,(eU getM fU (cz ds) (aG r) es).2.2⟩,rfl,⟨h1,h2,h3⟩,rfl,?_⟩
   ·simp only
    cases hm:(eU getM fU (cz ds) (aG r) es).2.2 with
    |false=>exact Nat.succ_pos _
    |true=>
     have:=rz nT (cz ds) h1 _ hV es (by simpa using h0) hm
     exact Nat.succ_lt_succ this
   ·simp only[FP,Out.run,ah]
    exact ho
noncomputable def LN(κ:Kp):Env:=(L7 κ).ak 110 4 (aP 0 Nf I8 FP)
theorem YI(κ:Kp):aB (LN κ):=(eYs κ).ak (WO κ) (Zo κ)
theorem Xb(κ:Kp):aj (LN κ):=(WO κ).ak aF
def iA(l:List Int):List AV:=l.map fun k=> .lit (.int .i64 k)
theorem fP(l:List Int):(iA l).length=l.length:=by simp[iA]
theorem tJ(l m:List Int):iA (l++m)=iA l++iA m:=by simp[iA]
structure PV where
 ds:List AV
 es:List (Value×AV)
 o:List Int
 vs:List ByteArray
 i:Int
abbrev M5(x:PV):S:=sp 60 [(6, .ptr 0 0 [] 0),(8, .ar 2 0 (iA x.o).length),(36, .ar 3 0 x.vs.length),(37, .int x.vs.length),(38, .int x.i)] [.box 225 (.agg [.ad 61 x.ds, .mp 1, .bool false]), .map 9 3 x.es, .row 3 (iA x.o), .row 9 (strs x.vs)]
theorem Zu(κ:Kp)(ds:List AV)(es:List (Value×AV))(o vs:List AV)(i:Int)(I:Nat->S->Prop)(n:Nat)(K:Exit->S->Prop):(vc (LN κ) 12 110 none 0 (af (Pr κ).toProgram 110 11) (sp 60 [(6, .ptr 0 0 [] 0),(8, .ar 2 0 o.length),(36, .ar 3 0 vs.length),(37, .int vs.length),(38, .int i)] [.box 225 (.agg [.ad 61 ds, .mp 1, .bool false]), .map 9 3 es, .row 3 o, .row 9 vs]) (bH (LN κ) 110 11 0 I n K))=(
 letI z1:=dh es (Value.string (toStr (nth vs (0+i.toNat)))) (AV.int 0)
 letI z2:=i<(↑(vs.length):Int)
 aD (decide z2) (a7 (decide ((0:Int)<=i)&&decide z2) (aD (toInt z1==(0:Int)) (K Exit.ret (sp 60 [(4,AV.nil),(5,AV.int 53)] [])) (a7 (decide
 ((o.length+1+1)*9<=70368744177664)) (∃(e0:Nat),e0<n/\I e0 (sp 60 [(6,AV.ptr 0 0 [] 0),(8,AV.ar 2 0 (o.length+1)),(36,AV.ar 3 0 vs.length),
 (37,AV.int (↑(vs.length):Int)),(38,AV.int (IntKind.wrap IntKind.i64 (i+(1:Int))))] [Obj.box 225 (AV.agg [AV.ad 61 ds,AV.mp 1,AV.bool false]),
 Dn.Obj.map 9 3 es,Obj.row 3 (List.take o.length o++[AV.int (toInt z1)]),Obj.row 9 vs]))))) (K (Exit.exit 2) (sp 60 [(8,AV.ar 0 0 o.length)] [Obj.row 3 o]))):=by kernel_rfl
def jB(x:PV):List ByteArray:=x.vs.drop x.i.toNat
def sv(x:PV):Bool:=(jB x).all fun s=>!decide (getM x.es s=0)
def Lg(x:PV):Prop:=x.vs.length<=100000/\x.o.length<=x.i.toNat/\0<=x.i/\x.i<=x.vs.length
def Gc(x:PV):Out (Exit×S):= .aD (sv x) (.one (.exit 2,sp 60 [(8, .ar 0 0 (iA (x.o++(jB x).map (getM x.es))).length)] [.row 3 (iA (x.o++(jB x).map (getM x.es)))])) (.one (.ret,sp 60 [(4, .nil),(5, .int 53)] []))
theorem lTz(κ:Kp):bh (LN κ) 12 110 11 (aP 0 M5 Lg Gc):=by
 refine aL (fun x=>x.vs.length - x.i.toNat) ?_
 rintro⟨ds,es,o,vs,i⟩ K ⟨h1,h2,h3,h4⟩ ho
 simp only at h1 h2 h3 h4
 rw[show(LN κ).P=Pr κ from rfl]
 have e0:(⟨ds,es,o,vs,i⟩:PV).vs.length=(strs vs).length:=(aU vs).symm
 simp only[M5,e0]
 refine Eq.mpr (Zu κ ds es (iA o) (strs vs) i _ _ K) ?_
 simp only[Gc,Out.run,ah] at ho
 simp only[aU]
 rw[ah,aa1,aa3,an,aa2,aa1,aa1]
 refine⟨fun hi=>⟨⟨h3,hi⟩,?_⟩,fun hi=>?_⟩
 ·have hk:i.toNat<vs.length:=by omega
  have hr:jB ⟨ds,es,o,vs,i⟩=vs[i.toNat]::jB ⟨ds,es,o++[getM es vs[i.toNat]],vs,i+1⟩:=by
   unfold jB
   simp only[show(i+1).toNat=i.toNat+1 by omega]
   exact ab2 hk
  have ha:sv ⟨ds,es,o,vs,i⟩=(!decide (getM es vs[i.toNat]=0)&&sv ⟨ds,es,o++[getM es vs[i.toNat]],vs,i+1⟩):=by
   unfold sv
   rw[hr,List.all_cons]
  rw[Nat.zero_add,tq vs _ hk,NQ]
  have hg:toInt (dh es (Value.string (toStr (.lit (.string vs[i.toNat])))) (AV.int 0))=getM es vs[i.toNat]:=rfl
  rw[hg,ah]
  refine⟨fun e=>?_,fun e=>?_⟩
  ·rw[ha,e] at ho
   exact ho.2 rfl
  ·rw[ha,e,hr,Bool.not_false,ac0] at ho
   rw[an,aa1,fP]
   rw[aW (n:=i+1) (by omega) (by omega)]
   refine⟨by omega,_,?_,⟨ds,es,o++[getM es vs[i.toNat]],vs,i+1⟩,?_,⟨h1,by simp only[ab9,List.length_singleton];omega,by simp only;omega,by simp only;omega⟩,rfl,?_⟩
   ·simp only;omega
   ·simp only[M5,tJ,fP,ab9,List.length_singleton,List.take_of_length_le (show(iA o).length<=o.length by rw[fP];omega)]
    rfl
   ·simp only[Gc,Out.run,ah]
    rw[show o++[getM es vs[i.toNat]]++(jB ⟨ds,es,o++[getM es vs[i.toNat]],vs,i+1⟩).map (getM es)=o++(vs[i.toNat]::jB ⟨ds,es,o++[getM es vs[i.toNat]],vs,i+1⟩).map (getM es) by simp]
    exact ho
 ·have hr:jB ⟨ds,es,o,vs,i⟩=[]:=by
   unfold jB
   exact aa9 (by simp only;omega)
  have ha:sv ⟨ds,es,o,vs,i⟩=true:=by
   unfold sv
   rw[hr];rfl
  rw[ha,hr] at ho
  have:=ho.1 rfl
  simp only[ac2,List.append_nil] at this
  exact this
noncomputable def TI(κ:Kp):Env:=(LN κ).ak 110 11 (aP 0 M5 Lg Gc)
theorem Zg(κ:Kp):aB (TI κ):=(YI κ).ak (Xb κ) (lTz κ)
theorem XW(κ:Kp):aj (TI κ):=(Xb κ).ak aF
theorem Yy(κ:Kp)(ds:List AV)(r:cg)(K:AV->List Dn.Obj->Prop):(a9 (TI κ) 12 110 [.ad 61 ds,aq r] [] K)=(
 letI z1:=Pg.toProgram (Env.P (L7 κ))
 letI z2:=Pg.toProgram (Env.P (LN κ))
 a7 (List.all [AV.agg [AV.agg [AV.str r.rel,AV.ad 56 r.hl],AV.ad 72 r.bl,AV.int r.line]] hH) (aD (!eL ds [AV.agg [AV.agg [AV.str r.rel,AV.ad 56 r.hl],AV.ad 72 r.bl,AV.int r.line]]) (K (AV.ba [AV.nil,AV.int 30]) []) (af z1 110 4=af z1 110 4/\∃(e2:pF),sp 60 [(3,AV.ptr 0 0 [] 0),(6,AV.ptr 1 0 [] 0)] [Obj.box 66 (AV.agg [AV.agg [AV.str r.rel,AV.ad 56 r.hl],AV.ad 72 r.bl,AV.int r.line]),Obj.box 225 (AV.agg [AV.ad 61 ds,AV.mp 2,AV.bool true]),Dn.Obj.map 9 3 []]=sp 60 [(3,AV.ptr 0 0 [] 0),(6,AV.ptr 1 0 [] 0)] [Obj.box 66 (AV.agg [AV.agg [AV.str e2.r.rel,AV.ad 56 e2.r.hl],AV.ad 72 e2.r.bl,AV.int e2.r.line]),Obj.box 225 (AV.agg [AV.ad 61 e2.ds,AV.mp 2,AV.bool e2.more]),Dn.Obj.map 9 3 e2.es]/\(aK (aG e2.r)=true/\e2.ds.length<=9223372036854775807/\aX (aa (bc 56 e2.r.hl e2.r.bl))<=100000/\List.length e2.r.bl<=100000)/\aD (decide (Prod.fst (gk e2)=(0:Int))) (∃(e1:cg),([AV.agg [AV.agg [AV.lit (Value.string (cg.rel (pF.r {ds:=e2.ds,r:=e2.r,es:=Prod.snd (gk e2),more:=false}))),AV.ad 56 (cg.hl (pF.r {ds:=e2.ds,r:=e2.r,es:=Prod.snd (gk e2),more:=false}))],AV.ad 72 (cg.bl (pF.r {ds:=e2.ds,r:=e2.r,es:=Prod.snd (gk e2),more:=false})),AV.lit (Value.int IntKind.i64 (cg.line (pF.r {ds:=e2.ds,r:=e2.r,es:=Prod.snd (gk e2),more:=false})))]],aI)=([AV.agg [AV.agg [AV.str e1.rel,AV.ad 56 e1.hl],AV.ad 72 e1.bl,AV.int e1.line]],aI)/\(aK (aG e1)=true/\aX (aa (bc 56 e1.hl e1.bl))<=100000/\e1.bl.length<=100000)/\af z2 110 11=af z2 110 11/\∃(e0:PV),sp 60 [(6,AV.ptr 0 0 [] 0),(8,AV.ar 2 0 0),(36,AV.ar 3 0 (List.length (cP (aG e1)))),(37,AV.int (↑(List.length (cP (aG e1))):Int)),(38,AV.int 0)] [Obj.box 225 (AV.agg [AV.ad 61 (pF.ds {ds:=e2.ds,r:=e2.r,es:=Prod.snd (gk e2),more:=false}),AV.mp 1,AV.bool false]),Dn.Obj.map 9 3 (pF.es {ds:=e2.ds,r:=e2.r,es:=Prod.snd (gk e2),more:=false}),Obj.row 3 [],Obj.row 9 (strs (cP (aG e1)))]=sp 60 [(6,AV.ptr 0 0 [] 0),(8,AV.ar 2 0 (List.length (iA e0.o))),(36,AV.ar 3 0 e0.vs.length),(37,AV.int (↑(e0.vs.length):Int)),(38,AV.int e0.i)] [Obj.box 225 (AV.agg [AV.ad 61 e0.ds,AV.mp 1,AV.bool false]),Dn.Obj.map 9 3 e0.es,Obj.row 3 (iA e0.o),Obj.row 9 (strs e0.vs)]/\(e0.vs.length<=100000/\e0.o.length<=e0.i.toNat/\(0:Int)<=e0.i/\e0.i<=(↑(e0.vs.length):Int))/\aD (sv e0) (K (AV.ba [AV.ar 0 0 (List.length (iA (e0.o++List.map (getM e0.es) (jB e0)))),AV.int 0]) [Obj.row 3 (iA (e0.o++List.map (getM e0.es) (jB e0)))]) (K (AV.ba [AV.nil,AV.int 53]) [])) (K (AV.ba [AV.nil,AV.int (Prod.fst (gk e2))]) [])))):=by kernel_rfl
abbrev RW:=List AV×cg
def rY(x:RW):Int×List Int:=pD (cz x.1) (aG x.2)
def Tj(x:RW):List AV×List Dn.Obj:=([.ad 61 x.1,aq x.2],[])
def Jy(x:RW):Prop:=x.1.length<=aR/\cV x.2
def Kn(x:RW):Out (AV×List Dn.Obj):= .aD (eL x.1 [aq x.2]) (.aD (decide ((rY x).1=0)) (.one (.ba [.ar 0 0 (iA (rY x).2).length, .int 0],[.row 3 (iA (rY x).2)])) (.one (.ba [.nil, .int (rY x).1],[]))) (.one (.ba [.nil, .int 30],[]))
theorem G1{ds:List AV}{r:cg}(h:eL ds [aq r]=true):aK (aG r)=true:=by
 unfold eL at h
 rw[aa2] at h
 have:=h.2
 rw[List.all_cons,aa2] at this
 exact this.1
theorem cTs(κ:Kp):bq (TI κ) 12 110 (aM Tj Jy Kn):=by
 refine aZ ?_
 rintro⟨ds,r⟩ K ⟨h1,h2⟩ ho
 simp only at h1 h2
 refine Eq.mpr (Yy κ ds r K) ?_
 simp only[Kn,Out.run,ah] at ho
 have hl1:=fk (aa r.hl)
 rw[eC] at hl1
 have hc:=ou h2
 have hl:=h2.2
 refine an.2 ⟨?_,?_⟩
 ·show(hH (aq r)&&true)=true
  have:hH (aq r)=(decide (r.hl.length<=aR)&&decide (r.bl.length<=aR)):=rfl
  rw[this,aa7 (by simp only[aR];omega),aa7 (by simp only[aR];omega)];rfl
 refine ah.2 ⟨fun e=>ho.2 (by simpa using e),fun e=>?_⟩
 have e':eL ds [aq r]=true:=by simpa using e
 have hr:=G1 e'
 have ho1:=ho.1 e'
 have hf:gk ⟨ds,r,[],true⟩=fB getM fU (cz ds) (aG r) ((cP (aG r)).length+1) []:=n7 nT (cz ds) hr _ (fun s hs=>(w6 hr).2 hs) _ _ _ (Nat.lt_succ_self _) (Nat.lt_succ_of_le (Ji _ _ _))
 have ht:rY (ds,r)=bif decide ((gk ⟨ds,r,[],true⟩).1=0) then(bif (cP (aG r)).all (fun s=>!decide (getM (gk ⟨ds,r,[],true⟩).2 s=0)) then(0,(cP (aG r)).map (getM (gk ⟨ds,r,[],true⟩).2)) else(53,[])) else((gk ⟨ds,r,[],true⟩).1,[]):=by
  rw[hf];rfl
 rw[ht] at ho1
 refine⟨rfl,⟨ds,r,[],true⟩,rfl,⟨hr,h1,h2⟩,?_⟩
 refine ah.2 ⟨fun e1=>⟨r,rfl,⟨hr,h2⟩,rfl,⟨ds,(gk ⟨ds,r,[],true⟩).2,[],cP (aG r),0⟩,rfl,⟨x1 h2,Nat.zero_le _,by simp only;omega,by simp only;omega⟩,?_⟩,fun e1=>?_⟩
 ·rw[e1,aa8] at ho1
  have ha:sv ⟨ds,(gk ⟨ds,r,[],true⟩).2,[],cP (aG r),0⟩=(cP (aG r)).all (fun s=>!decide (getM (gk ⟨ds,r,[],true⟩).2 s=0)):=rfl
  rw[ha]
  refine ah.2 ⟨fun e2=>?_,fun e2=>?_⟩
  ·rw[e2] at ho1
   exact ho1.1 rfl
  ·rw[e2] at ho1
   exact ho1.2 rfl
 ·rw[e1,aa6] at ho1
  exact ho1.2 e1
noncomputable def LR(κ:Kp):Env:=(TI κ).ay 110 (aM Tj Jy Kn)
theorem ZX(κ:Kp):aB (LR κ):=(Zg κ).ay (XW κ) (cTs κ)
theorem Ya(κ:Kp):aj (LR κ):=(XW κ).ay aJ
abbrev gC(ds rs:List AV):AV:= .agg [.ad 61 ds, .ad 66 rs]
def eE(x:AV):cg:=⟨[],[],toStr (ae (ae x 0) 0),ai (ae (ae x 0) 1),ai (ae x 1),toInt (ae x 2),0⟩
structure Bw where
 ds:List AV
 rs:List AV
 i:Int
abbrev Pc(x:Bw):Dn.Obj:= .box 25 (gC x.ds x.rs)
def Ol(ds:List AV):List AV->Int->Int×Int
 |[],_=>(0,0)
 |d::l,i=>bif decide (bt (toStr (ae d 0)) ds=i) then Ol ds l (i+1) else(toInt (ae d 5),50)
def jv(ds:List AV)(x:AV):Int:=bif eL ds [aq (eE x)] then(rY (ds,eE x)).1 else 30
def EM(f:AV->Int):List AV->Int×Int
 |[]=>(0,0)
 |x::l=>bif decide (f x=0) then EM f l else(toInt (ae x 2),f x)
def uT(ds rs:List AV):Int×Int:=bif eL ds rs then(bif decide ((Ol ds ds 0).2=0) then EM (jv ds) rs else Ol ds ds 0) else(0,30)
def iU(x:AV):Int:=uu (aG (eE x))
def fG(ds rs:List AV):Int×Int:=bif decide ((uT ds rs).2=0) then EM iU rs else uT ds rs
def fX(ds rs:List AV):Prop:=ds.length<=aR/\rs.length<=aR/\∀x,x∈rs->cV (eE x)
theorem L9{ds rs:List AV}(h:fX ds rs):rs.all hH=true:=by
 refine List.all_eq_true.2 fun x hx=>?_
 have h2:=h.2.2 x hx
 have hl1:=fk (aa (eE x).hl)
 rw[eC] at hl1
 have hc:=ou h2
 have hl:=h2.2
 have:hH x=(decide ((eE x).hl.length<=aR)&&decide ((eE x).bl.length<=aR)):=rfl
 rw[this,aa7 (by simp only[aR];omega),aa7 (by simp only[aR];omega)];rfl
abbrev PX(x:Bw):S:=sp 57 [(1, .ptr 0 0 [] 0),(16, .ad 61 x.ds),(17, .int x.ds.length),(18, .int x.i)] [Pc x]
theorem Z9(κ:Kp)(x:Bw)(I:Nat->S->Prop)(n:Nat)(K:Exit->S->Prop):(vc (LR κ) 12 69 none 0 (af (Pr κ).toProgram 69 4) (PX x) (bH (LR κ) 69 4 0 I n K))=(
 letI z1:=AV.agg [AV.ad 61 x.ds,AV.ad 66 x.rs]
 letI z2:=x.i<(↑(x.ds.length):Int)
 aD (decide z2) (a7 (decide ((0:Int)<=x.i)&&decide z2) (∃(e1:List AV×ByteArray),([AV.ad 61 x.ds,AV.str (toStr (ae (nth x.ds x.i.toNat) 0))],aI)=
 ([AV.ad 61 e1.1,AV.str e1.2],aI)/\gx e1/\aD (bt e1.2 e1.1 != x.i) (K Exit.ret (sp 57 [(2,AV.int (toInt (ae (nth x.ds x.i.toNat) 5))),(3,AV.int 50)] []))
 (∃(e0:Nat),e0<n/\I e0 (sp 57 [(1,AV.ptr 0 0 [] 0),(16,AV.ad 61 x.ds),(17,AV.int (↑(x.ds.length):Int)),(18,AV.int (IntKind.wrap IntKind.i64 (x.i
 +(1:Int))))] [Obj.box 25 z1])))) (K (Exit.exit 0) (sp 57 [(1,AV.ptr 0 0 [] 0)] [Obj.box 25 z1]))):=by kernel_rfl
def H4(x:Bw):Int×Int:=Ol x.ds (x.ds.drop x.i.toNat) x.i
def II(x:Bw):Prop:=x.ds.length<=aR/\0<=x.i/\x.i<=x.ds.length
def FK(x:Bw):Out (Exit×S):= .aD (decide ((H4 x).2=0)) (.one (.exit 0,sp 57 [(1, .ptr 0 0 [] 0)] [Pc x])) (.one (.ret,sp 57 [(2, .int (H4 x).1),(3, .int (H4 x).2)] []))
theorem lC1(κ:Kp):bh (LR κ) 12 69 4 (aP 0 PX II FK):=by
 refine aL (fun x=>x.ds.length - x.i.toNat) ?_
 rintro⟨ds,rs,i⟩ K ⟨h1,h2,h3⟩ ho
 simp only at h1 h2 h3
 rw[show(LR κ).P=Pr κ from rfl]
 refine Eq.mpr (Z9 κ ⟨ds,rs,i⟩ _ _ K) ?_
 simp only[aR] at h1
 simp only[FK,Out.run,ah] at ho
 rw[ah,aa1,aa3,an,aa2,aa1,aa1]
 refine⟨fun hi=>⟨⟨h2,hi⟩,(ds,toStr (ae (nth ds i.toNat) 0)),rfl,h1,?_⟩,fun hi=>?_⟩
 ·simp only at hi
  have hk:i.toNat<ds.length:=by omega
  have hr:H4 ⟨ds,rs,i⟩=bif decide (bt (toStr (ae (nth ds i.toNat) 0)) ds=i) then H4 ⟨ds,rs,i+1⟩ else(toInt (ae (nth ds i.toNat) 5),50):=by
   unfold H4
   simp only[show(i+1).toNat=i.toNat+1 by omega]
   rw[ab2 hk,←bg ds i.toNat hk,Ol]
  rw[hr] at ho
  simp only[KS]
  cases e:decide (bt (toStr (ae (nth ds i.toNat) 0)) ds=i) with
  |false=>
   rw[e] at ho
   exact ho.2 rfl
  | true=>
   rw[e] at ho
   rw[aW (n:=i+1) (by omega) (by omega)]
   refine⟨_,?_,⟨ds,rs,i+1⟩,rfl,⟨by simpa[aR] using h1,by simp only;omega,by simp only;omega⟩,rfl,?_⟩
   ·simp only;omega
   ·simp only[FK,Out.run,ah]
    exact ho
 ·simp only at hi
  have hr:H4 ⟨ds,rs,i⟩=(0,0):=by
   unfold H4
   simp only
   rw[aa9 (by omega)];rfl
  rw[hr] at ho
  exact ho.1 rfl
noncomputable def MJ(κ:Kp):Env:=(LR κ).ak 69 4 (aP 0 PX II FK)
theorem eC1(κ:Kp):aB (MJ κ):=(ZX κ).ak (Ya κ) (lC1 κ)
theorem XL(κ:Kp):aj (MJ κ):=(Ya κ).ak aF
abbrev KT(x:Bw):S:=sp 57 [(1, .ptr 0 0 [] 0),(38, .ad 66 x.rs),(39, .int x.rs.length),(40, .int x.i)] [Pc x]
theorem xC2(κ:Kp)(x:Bw)(I:Nat->S->Prop)(n:Nat)(K:Exit->S->Prop):(vc (MJ κ) 12 69 none 0 (af (Pr κ).toProgram 69 11) (KT x) (bH (MJ κ) 69 11 0 I n K))=(
 letI z1:=∃(e0:Nat),e0<n/\I e0 (sp 57 [(1,AV.ptr 0 0 [] 0),(38,AV.ad 66 x.rs),(39,AV.int (↑(x.rs.length):Int)),(40,AV.int (IntKind.wrap
  IntKind.i64 (x.i+(1:Int))))] [Obj.box 25 (AV.agg [AV.ad 61 x.ds,AV.ad 66 x.rs])])
 letI z2:=nth x.rs x.i.toNat
 letI z3:=x.i<(↑(x.rs.length):Int)
 letI z4:=toInt (ae z2 2)
 aD (decide z3) (a7 (decide ((0:Int)<=x.i)&&decide z3) (∃(e1:RW),([AV.ad 61 x.ds,AV.agg [AV.agg [AV.str (toStr (ae (ae z2 0) 0)),AV.ad 56 (ai (ae (ae
 z2 0) 1))],AV.ad 72 (ai (ae z2 1)),AV.int z4]],aI)=([AV.ad 61 e1.1,aq e1.2],aI)/\(e1.1.length<=9223372036854775807/\aX (aa (bc 56 e1.2.hl e1.2.bl))<=
 100000/\e1.2.bl.length<=100000)/\aD (eL e1.1 [aq e1.2]) (aD (decide (Prod.fst (rY e1)=(0:Int))) z1 (aD (Prod.fst (rY e1) != (0:Int)) (K Exit.ret (sp 57
 [(2,AV.int z4),(3,AV.int (Prod.fst (rY e1)))] [])) z1)) (K Exit.ret (sp 57 [(2,AV.int z4),(3,AV.int 30)] [])))) (K (Exit.exit 2) (sp 57 [] []))):=by kernel_rfl
def zk(f:AV->Int)(x:Bw):Int×Int:=EM f (x.rs.drop x.i.toNat)
def qX(x:Bw):Prop:=fX x.ds x.rs/\0<=x.i/\x.i<=x.rs.length
def By(x:Bw):Out (Exit×S):= .aD (decide ((zk (jv x.ds) x).2=0)) (.one (.exit 2,sp 57 [] [])) (.one (.ret,sp 57 [(2, .int (zk (jv x.ds) x).1),(3, .int (zk (jv x.ds) x).2)] []))
theorem Gi(f:AV->Int)(ds rs:List AV)(i:Int)(h0:0<=i)(hk:i.toNat<rs.length):zk f ⟨ds,rs,i⟩=bif decide (f (nth rs i.toNat)=0) then zk f ⟨ds,rs,i+1⟩ else(toInt (ae (nth rs i.toNat) 2),f (nth rs i.toNat)):=by
 unfold zk
 simp only[show(i+1).toNat=i.toNat+1 by omega]
 rw[ab2 hk,←bg rs i.toNat hk,EM]
theorem Gl(f:AV->Int)(ds rs:List AV)(i:Int)(h:rs.length<=i.toNat):zk f ⟨ds,rs,i⟩=(0,0):=by
 unfold zk
 simp only
 rw[aa9 h];rfl
theorem lC2(κ:Kp):bh (MJ κ) 12 69 11 (aP 0 KT qX By):=by
 refine aL (fun x=>x.rs.length - x.i.toNat) ?_
 rintro⟨ds,rs,i⟩ K ⟨h1,h2,h3⟩ ho
 simp only at h1 h2 h3
 rw[show(MJ κ).P=Pr κ from rfl]
 refine Eq.mpr (xC2 κ ⟨ds,rs,i⟩ _ _ K) ?_
 have hml:=h1.2.1
 simp only[aR] at hml
 simp only[By,Out.run,ah] at ho
 rw[ah,aa1,aa3,an,aa2,aa1,aa1]
 refine⟨fun hi=>⟨⟨h2,hi⟩,(ds,eE (nth rs i.toNat)),rfl,⟨h1.1,?_⟩,?_⟩,fun hi=>?_⟩
 ·simp only at hi
  exact h1.2.2 _ (by rw[bg _ _ (show i.toNat<rs.length by omega)];exact List.getElem_mem _)
 ·simp only at hi
  have hk:i.toNat<rs.length:=by omega
  rw[Gi _ _ _ _ h2 hk] at ho
  have next:jv ds (nth rs i.toNat)=0->∃m,m<rs.length - i.toNat/\fe KT qX By (fun x=>x.rs.length - x.i.toNat) K m (KT ⟨ds,rs,i+1⟩):=fun e=>by
   rw[e] at ho
   refine⟨_,?_,⟨ds,rs,i+1⟩,rfl,⟨h1,by simp only;omega,by simp only;omega⟩,rfl,?_⟩
   ·simp only;omega
   ·simp only[By,Out.run,ah]
    exact ho
  have stop: ∀e:Int,jv ds (nth rs i.toNat)=e->e≠0->K .ret (sp 57 [(2, .int (toInt (ae (nth rs i.toNat) 2))),(3, .int e)] []):=fun e he h0=>by
   rw[he,aa5 h0] at ho
   exact ho.2 (aa5 h0)
  rw[aW (n:=i+1) (by omega) (by omega)]
  have ht:jv ds (nth rs i.toNat)=bif eL ds [aq (eE (nth rs i.toNat))] then(rY (ds,eE (nth rs i.toNat))).1 else 30:=rfl
  refine ah.2 ⟨fun e1=>?_,fun e1=>?_⟩
  ·rw[e1,aa8] at ht
   refine ah.2 ⟨fun e2=>next (by rw[ht];simpa using e2),fun e2=>?_⟩
   rw[aa3] at e2
   have:=stop _ ht e2
   simp only[KS]
   refine ah.2 ⟨fun _=>this,fun e3=>?_⟩
   rw[ab3,aa1] at e3
   exact absurd e3 e2
  ·rw[e1,aa6] at ht
   exact stop 30 ht (by decide)
 ·simp only at hi
  rw[Gl _ _ _ _ (by omega)] at ho
  exact ho.1 rfl
noncomputable def R0(κ:Kp):Env:=(MJ κ).ak 69 11 (aP 0 KT qX By)
theorem eC2(κ:Kp):aB (R0 κ):=(eC1 κ).ak (XL κ) (lC2 κ)
theorem Yh(κ:Kp):aj (R0 κ):=(XL κ).ak aF
theorem yCd(κ:Kp)(ds rs:List AV)(K:AV->List Dn.Obj->Prop):(a9 (R0 κ) 12 69 [gC ds rs] [] K)=(
 letI z1:=Pg.toProgram (Env.P (LR κ))
 letI z2:=Pg.toProgram (Env.P (MJ κ))
 a7 (List.all rs hH) (aD (!eL ds rs) (K (AV.ba [AV.int 0,AV.int 30]) []) (af z1 69 4=af z1 69 4/\∃(e2:Bw),sp 57 [(1,AV.ptr 0 0 [] 0),(16,AV.ad 61 ds),
 (17,AV.int (↑(ds.length):Int)),(18,AV.int 0)] [Obj.box 25 (AV.agg [AV.ad 61 ds,AV.ad 66 rs])]=sp 57 [(1,AV.ptr 0 0 [] 0),(16,AV.ad 61 e2.ds),(17,
 AV.int (↑(e2.ds.length):Int)),(18,AV.int e2.i)] [Obj.box 25 (AV.agg [AV.ad 61 e2.ds,AV.ad 66 e2.rs])]/\(e2.ds.length<=9223372036854775807/\(0:Int)<=
 e2.i/\e2.i<=(↑(e2.ds.length):Int))/\aD (decide (Prod.snd (H4 e2)=(0:Int))) (af z2 69 11=af z2 69 11/\∃(e1:Bw),sp 57 [(1,AV.ptr 0 0 [] 0),(38,
 AV.ad 66 e2.rs),(39,AV.int (↑(e2.rs.length):Int)),(40,AV.int 0)] [Obj.box 25 (AV.agg [AV.ad 61 e2.ds,AV.ad 66 e2.rs])]=sp 57 [(1,AV.ptr 0 0 [] 0),
 (38,AV.ad 66 e1.rs),(39,AV.int (↑(e1.rs.length):Int)),(40,AV.int e1.i)] [Obj.box 25 (AV.agg [AV.ad 61 e1.ds,AV.ad 66 e1.rs])]/\((e1.ds.length<=
 9223372036854775807/\e1.rs.length<=9223372036854775807/\∀(e0:AV),List.Mem e0 e1.rs->aX (aa (bc 56 (cg.hl (eE e0)) (cg.bl (eE e0))))<=100000/\
 List.length (cg.bl (eE e0))<=100000)/\(0:Int)<=e1.i/\e1.i<=(↑(e1.rs.length):Int))/\aD (decide (Prod.snd (zk (jv e1.ds) e1)=(0:Int))) (K (AV.ba
 [AV.int 0,AV.int 0]) []) (K (AV.ba [AV.int (Prod.fst (zk (jv e1.ds) e1)),AV.int (Prod.snd (zk (jv e1.ds) e1))]) [])) (K (AV.ba [AV.int (Prod.fst (H4 e2)),
 AV.int (Prod.snd (H4 e2))]) [])))):=by kernel_rfl
abbrev qB:=List AV×List AV
def H7(x:qB):List AV×List Dn.Obj:=([gC x.1 x.2],[])
def vn(x:qB):Prop:=fX x.1 x.2
def Kl(x:qB):Out (AV×List Dn.Obj):= .one (.ba [.int (uT x.1 x.2).1, .int (uT x.1 x.2).2],[])
theorem Dd(f:AV->Int): ∀l,(EM f l).2=0->EM f l=(0,0)
 |[],_=>rfl
 | x::l,h=>by
  rw[EM] at h⊢
  cases e:decide (f x=0) with
  |true=>rw[e,aa8] at h;exact Dd f l h
  |false=>
   rw[e,aa6] at h
   rw[aa3] at e
   exact absurd h e
theorem cCd(κ:Kp):bq (R0 κ) 12 69 (aM H7 vn Kl):=by
 refine aZ ?_
 rintro⟨ds,rs⟩ K h1 ho
 have h1:fX ds rs:=h1
 refine Eq.mpr (yCd κ ds rs K) ?_
 simp only[Kl,Out.run,uT] at ho
 refine an.2 ⟨L9 h1,ah.2 ⟨fun e=>?_,fun e=>?_⟩⟩
 ·rw[show eL ds rs=false by simpa using e] at ho
  exact ho
 ·rw[show eL ds rs=true by simpa using e,aa8] at ho
  have e1:H4 ⟨ds,rs,0⟩=Ol ds ds 0:=rfl
  have e2:zk (jv ds) ⟨ds,rs,0⟩=EM (jv ds) rs:=rfl
  refine⟨rfl,⟨ds,rs,0⟩,rfl,⟨h1.1,by simp only;omega,by simp only;omega⟩,?_⟩
  rw[e1]
  refine ah.2 ⟨fun e3=>⟨rfl,⟨ds,rs,0⟩,rfl,⟨h1,by simp only;omega,by simp only;omega⟩,?_⟩,fun e3=>?_⟩
  ·rw[e3,aa8] at ho
   rw[e2]
   refine ah.2 ⟨fun e4=>?_,fun e4=>ho⟩
   rw[aa1] at e4
   rw[Dd _ _ e4] at ho
   exact ho
  ·rw[e3,aa6] at ho
   exact ho
noncomputable def Mt(κ:Kp):Env:=(R0 κ).ay 69 (aM H7 vn Kl)
theorem eCd(κ:Kp):aB (Mt κ):=(eC2 κ).ay (Yh κ) (cCd κ)
theorem XP(κ:Kp):aj (Mt κ):=(Yh κ).ay aJ
abbrev Jk(x:Bw):S:=sp 37 [(20, .ad 66 x.rs),(21, .int x.rs.length),(22, .int x.i)] []
theorem ZL(κ:Kp)(x:Bw)(I:Nat->S->Prop)(n:Nat)(K:Exit->S->Prop):(vc (Mt κ) 12 36 none 0 (af (Pr κ).toProgram 36 5) (Jk x) (bH (Mt κ) 36 5 0 I n K))=(
 letI z1:=nth x.rs x.i.toNat
 letI z2:=x.i<(↑(x.rs.length):Int)
 letI z3:=toInt (ae z1 2)
 aD (decide z2) (a7 (decide ((0:Int)<=x.i)&&decide z2) (∃(e1:cg),([AV.agg [AV.agg [AV.str (toStr (ae (ae z1 0) 0)),AV.ad 56 (ai (ae (ae z1 0) 1))],
 AV.ad 72 (ai (ae z1 1)),AV.int z3]],aI)=([aq e1],aI)/\(aX (aa (bc 56 e1.hl e1.bl))<=100000/\e1.bl.length<=100000)/\aD (aK (aG e1)) (aD (iH (aG e1)) (∃
 (e0:Nat),e0<n/\I e0 (sp 37 [(20,AV.ad 66 x.rs),(21,AV.int (↑(x.rs.length):Int)),(22,AV.int (IntKind.wrap IntKind.i64 (x.i+(1:Int))))] [])) (K
 Exit.ret (sp 37 [(2,AV.int z3),(3,AV.int 60)] []))) (K Exit.ret (sp 37 [(2,AV.int z3),(3,AV.int 30)] [])))) (K (Exit.exit 0) (sp 37 [] []))):=by kernel_rfl
def Bd(x:Bw):Out (Exit×S):= .aD (decide ((zk iU x).2=0)) (.one (.exit 0,sp 37 [] [])) (.one (.ret,sp 37 [(2, .int (zk iU x).1),(3, .int (zk iU x).2)] []))
theorem Zs(κ:Kp):bh (Mt κ) 12 36 5 (aP 0 Jk qX Bd):=by
 refine aL (fun x=>x.rs.length - x.i.toNat) ?_
 rintro⟨ds,rs,i⟩ K ⟨h1,h2,h3⟩ ho
 simp only at h1 h2 h3
 rw[show(Mt κ).P=Pr κ from rfl]
 refine Eq.mpr (ZL κ ⟨ds,rs,i⟩ _ _ K) ?_
 have hml:=h1.2.1
 simp only[aR] at hml
 simp only[Bd,Out.run,ah] at ho
 rw[ah,aa1,aa3,an,aa2,aa1,aa1]
 refine⟨fun hi=>⟨⟨h2,hi⟩,eE (nth rs i.toNat),rfl,?_,?_⟩,fun hi=>?_⟩
 ·simp only at hi
  exact h1.2.2 _ (by rw[bg _ _ (show i.toNat<rs.length by omega)];exact List.getElem_mem _)
 ·simp only at hi
  have hk:i.toNat<rs.length:=by omega
  rw[Gi _ _ _ _ h2 hk] at ho
  have next:iU (nth rs i.toNat)=0->∃m,m<rs.length - i.toNat/\fe Jk qX Bd (fun x=>x.rs.length - x.i.toNat) K m (Jk ⟨ds,rs,i+1⟩):=fun e=>by
   rw[e] at ho
   refine⟨_,?_,⟨ds,rs,i+1⟩,rfl,⟨h1,by simp only;omega,by simp only;omega⟩,rfl,?_⟩
   ·simp only;omega
   ·simp only[Bd,Out.run,ah]
    exact ho
  have stop: ∀e:Int,iU (nth rs i.toNat)=e->e≠0->K .ret (sp 37 [(2, .int (toInt (ae (nth rs i.toNat) 2))),(3, .int e)] []):=fun e he h0=>by
   rw[he,aa5 h0] at ho
   exact ho.2 (aa5 h0)
  rw[aW (n:=i+1) (by omega) (by omega)]
  have ht:iU (nth rs i.toNat)=bif aK (aG (eE (nth rs i.toNat))) then bif iH (aG (eE (nth rs i.toNat))) then 0 else 60 else 30:=rfl
  refine ah.2 ⟨fun e1=>?_,fun e1=>?_⟩
  ·rw[e1,aa8] at ht
   refine ah.2 ⟨fun e2=>next (by rw[ht,e2];rfl),fun e2=>stop 60 (by rw[ht,e2];rfl) (by decide)⟩
  ·rw[e1,aa6] at ht
   exact stop 30 ht (by decide)
 ·simp only at hi
  rw[Gl _ _ _ _ (by omega)] at ho
  exact ho.1 rfl
noncomputable def TJ(κ:Kp):Env:=(Mt κ).ak 36 5 (aP 0 Jk qX Bd)
theorem eC3(κ:Kp):aB (TJ κ):=(eCd κ).ak (XP κ) (Zs κ)
theorem Xy(κ:Kp):aj (TJ κ):=(XP κ).ak aF
theorem Zc(κ:Kp)(ds rs:List AV)(K:AV->List Dn.Obj->Prop):(a9 (TJ κ) 12 36 [gC ds rs] [] K)=(
 ∃(a:qB),([AV.agg [AV.ad 61 ds,AV.ad 66 rs]],aI)=([AV.agg [AV.ad 61 a.1,AV.ad 66 a.2]],aI)/\(a.1.length<=9223372036854775807/\a.2.length<=
 9223372036854775807/\∀(x:AV),List.Mem x a.2->aX (aa (bc 56 (cg.hl (eE x)) (cg.bl (eE x))))<=100000/\List.length (cg.bl (eE x))<=100000)
 /\aD (Prod.snd (uT a.1 a.2) != (0:Int)) (K (AV.ba [AV.int (Prod.fst (uT a.1 a.2)),AV.int (Prod.snd (uT a.1 a.2))]) []) (af (Pg.toProgram
 (Env.P (Mt κ))) 36 5=af (Pg.toProgram (Env.P (Mt κ))) 36 5/\∃(a:Bw),sp 37 [(20,AV.ad 66 rs),(21,AV.int (↑(rs.length):Int)),(22,AV.int
 0)] []=sp 37 [(20,AV.ad 66 a.rs),(21,AV.int (↑(a.rs.length):Int)),(22,AV.int a.i)] []/\((a.ds.length<=9223372036854775807/\a.rs.length<=
 9223372036854775807/\∀(x:AV),List.Mem x a.rs->aX (aa (bc 56 (cg.hl (eE x)) (cg.bl (eE x))))<=100000/\List.length (cg.bl (eE x))<=
 100000)/\(0:Int)<=a.i/\a.i<=(↑(a.rs.length):Int))/\aD (decide (Prod.snd (zk iU a)=(0:Int))) (K (AV.ba [AV.int 0,AV.int 0]) []) (K (AV.ba
 [AV.int (Prod.fst (zk iU a)),AV.int (Prod.snd (zk iU a))]) []))):=by kernel_rfl
def Jw(x:qB):Out (AV×List Dn.Obj):= .one (.ba [.int (fG x.1 x.2).1, .int (fG x.1 x.2).2],[])
theorem cCs(κ:Kp):bq (TJ κ) 12 36 (aM H7 vn Jw):=by
 refine aZ ?_
 rintro⟨ds,rs⟩ K h1 ho
 have h1:fX ds rs:=h1
 refine Eq.mpr (Zc κ ds rs K) ?_
 simp only[Jw,Out.run,fG] at ho
 refine⟨(ds,rs),rfl,h1,?_⟩
 simp only[KS]
 have e2:zk iU ⟨ds,rs,0⟩=EM iU rs:=rfl
 refine ah.2 ⟨fun e=>?_,fun e=>?_⟩
 ·rw[show decide ((uT ds rs).2=0)=false by simpa using e] at ho
  exact ho
 ·rw[show decide ((uT ds rs).2=0)=true by simpa using e] at ho
  refine⟨trivial,⟨ds,rs,0⟩,rfl,⟨h1,by simp only;omega,by simp only;omega⟩,?_⟩
  rw[e2]
  refine ah.2 ⟨fun e4=>?_,fun e4=>ho⟩
  rw[aa1] at e4
  rw[aa8,Dd _ _ e4] at ho
  exact ho
noncomputable def Ti(κ:Kp):Env:=(TJ κ).ay 36 (aM H7 vn Jw)
theorem YL(κ:Kp):aB (Ti κ):=(eC3 κ).ay (Xy κ) (cCs κ)
theorem WV(κ:Kp):aj (Ti κ):=(Xy κ).ay aJ
end Go.Proofs.YthaiinlfnommnaaGreatDoor
