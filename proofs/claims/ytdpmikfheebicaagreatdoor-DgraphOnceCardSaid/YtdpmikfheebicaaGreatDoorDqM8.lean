import Derived.Test.YtdpmikfheebicaaGreatDoorDqM7
namespace Go.Proofs.YtdpmikfheebicaaGreatDoor
open Go Go.Dn Go.Rl Go.Proofs
attribute [local irreducible] bg vc
set_option maxRecDepth 20000
theorem ZC(κ:Kp)(v:Value)(K:AV->List Dn.Obj->Prop):(bg (Qh κ) 12 96 [.lit v] [] K)=(
 letI z1:=Value.iface 189 (Value.pointer (some (Kp.arity κ)))
 letI z2:=Value.iface 189 (Value.pointer (some (Kp.type κ)))
 letI z3:=Value.iface 189 (Value.pointer (some (Kp.eU κ)))
 aO (jT κ v&&kE κ z3) (ax (fv v z3) (K (AV.int 51) []) (aO (jT κ v&&kE κ z1) (ax (fv v z1) (K (AV.int 52) []) (aO (jT κ v&&kE κ z2) (ax (fv v z2) (K
 (AV.int 53) []) (K (AV.int 0) []))))))):=by kernel_rfl
noncomputable def KG(κ:Kp)(v:Value):Int:=bif fv v (aX κ 51) then 51 else bif fv v (aX κ 52) then 52 else bif fv v (aX κ 53) then 53 else 0
theorem Jr(κ:Kp){e:Int}(h:iF e):KG κ (aX κ e)=e:=by
 unfold KG
 rw[gx κ h (.inr (.inl rfl)),gx κ h (.inr (.inr (.inl rfl))),gx κ h (.inr (.inr (.inr rfl)))]
 rcases h with rfl|rfl|rfl|rfl<;>rfl
noncomputable def Su(κ:Kp):List AV->Option (Bool×AV)
 |[.lit v]=>some (jT κ v, .int (KG κ v))
 |_=>none
theorem WJ(κ:Kp):cy (Qh κ) 12 96 (Su κ):=by
 intro args x hh
 unfold Su at hh
 split at hh
 ·simp only[aa3,aa9] at hh
  obtain⟨h1,rfl⟩:=hh
  refine⟨_,rfl,rfl,?_⟩
  obtain⟨e,he,rfl⟩:=(tx _ _).1 h1
  refine Eq.mpr (ZC κ _ _) ?_
  rw[Jr κ he]
  have k1: ∀k,tF k->(jT κ (aX κ e)&&kE κ (aX κ k))=true:=fun k hk=>by rw[yY κ he,yy κ hk];rfl
  have n51:Value.iface 189 (.pointer (some κ.eU))=aX κ 51:=rfl
  have n52:Value.iface 189 (.pointer (some κ.arity))=aX κ 52:=rfl
  have n53:Value.iface 189 (.pointer (some κ.type))=aX κ 53:=rfl
  rw[n51,n52,n53,k1 _ (.inl rfl),k1 _ (.inr (.inl rfl)),k1 _ (.inr (.inr rfl)),gx κ he (.inr (.inl rfl)),gx κ he (.inr (.inr (.inl rfl))),gx κ he (.inr (.inr (.inr rfl)))]
  rcases he with rfl|rfl|rfl|rfl<;>rfl
 ·cases hh
noncomputable def Kr(κ:Kp):Env:=(Qh κ).aF 96 (Su κ)
theorem XW(κ:Kp):aC (Kr κ):=(eYt κ).aF (T9 κ) (WJ κ)
theorem Ua(κ:Kp):ai (Kr κ):=(T9 κ).aF
structure Oj where
 a:iy
 w:Int
 bl:List AV
 i:Int
noncomputable abbrev Lz(κ:Kp)(x:Oj):S:=sp 52 [(0,Bi),(5, .lit (aX κ x.w)),(14, .ae 55 x.bl),(15, .int x.bl.length),(16, .int x.i)] (bE x.a)
theorem Yz(κ:Kp)(x:Oj)(I:Nat->S->Prop)(n:Nat)(K:Exit->S->Prop):(vc (Kr κ) 12 95 none 2 (ag (Pr κ).toProgram 95 3) (Lz κ x) (bI (Kr κ) 95 3 2 I n K))=(
 letI z1:=Value.iface 189 (Value.pointer (some (Kp.arity κ)))
 letI z2:=Value.iface 189 (Value.pointer (some (Kp.eU κ)))
 letI z3:=nth x.bl x.i.toNat
 letI z4:=IntKind.wrap IntKind.i64 (x.i+(1:Int))
 letI z5:=x.bl.length
 letI z6:=Value.iface 189 (Value.pointer (some (Kp.type κ)))
 letI z7:=jT κ (aX κ x.w)&&kE κ z2
 letI z8:=jT κ (aX κ x.w)&&kE κ z1
 ax (decide (x.i<(↑z5:Int))) (aO (decide ((0:Int)<=x.i)&&decide (x.i<(↑z5:Int))) (∃(e1:DF),([AV.ptr 0 0 [] 0,AV.agg [AV.int (toInt (ad z3 0)),
 AV.agg [AV.str (toStr (ad (ad z3 1) 0)),AV.ae 52 (ah (ad (ad z3 1) 1))],AV.agg [AV.int (toInt (ad (ad z3 2) 0)),AV.str (toStr (ad (ad z3 2) 1)),AV.int
 (toInt (ad (ad z3 2) 2)),AV.ae 52 (ah (ad (ad z3 2) 3))],AV.agg [AV.int (toInt (ad (ad z3 3) 0)),AV.str (toStr (ad (ad z3 3) 1)),AV.int (toInt (ad (ad z3 3)
 2)),AV.ae 52 (ah (ad (ad z3 3) 3))]]],(bE x.a))=([AV.ptr 0 0 [] 0,AV.agg [AV.int e1.op,AV.agg [AV.str e1.rel,AV.ae 52 e1.l],AV.agg [AV.int e1.u.op,
 AV.str e1.u.s,AV.int e1.u.n,AV.ae 52 e1.u.l],AV.agg [AV.int e1.v.op,AV.str e1.v.s,AV.int e1.v.n,AV.ae 52 e1.v.l]]],(bE e1.a))/\(List.length e1.a.ds<=
 9223372036854775807/\iR (DF.lt e1)<=100000)/\aO (aD (aX κ x.w)) (ax (bD (aX κ x.w)) (aO (jT κ (aX κ (Prod.fst (bJ e1)))&&kE κ z2) (ax (fv (aX κ (Prod.fst
 (bJ e1))) z2) (K Exit.ret (sp 52 [(4,AV.lit (aX κ (Prod.fst (bJ e1))))] (bE (dp e1.a (Prod.snd (bJ e1)))))) (aO (jT κ (aX κ (Prod.fst (bJ e1)))&&kE κ z1) (ax
 (fv (aX κ (Prod.fst (bJ e1))) z1) (K Exit.ret (sp 52 [(4,AV.lit (aX κ (Prod.fst (bJ e1))))] (bE (dp e1.a (Prod.snd (bJ e1)))))) (∃(e0:Nat),e0<n/\I e0
 (sp 52 [(0,AV.ptr 0 0 [] 0),(5,AV.lit (aX κ (Prod.fst (bJ e1)))),(14,AV.ae 55 x.bl),(15,AV.int (↑z5:Int)),(16,AV.int z4)] (bE (dp e1.a (Prod.snd (bJ
 e1)))))))))) (aO (jT κ (aX κ x.w)&&kE κ z6) (ax (fv (aX κ x.w) z6) (aO (jT κ (aX κ (Prod.fst (bJ e1)))&&kE κ z2) (ax (fv (aX κ (Prod.fst (bJ e1))) z2) (aO
 (jT κ (aX κ (Prod.fst (bJ e1)))&&kE κ z2) (ax (fv (aX κ (Prod.fst (bJ e1))) z2) (K Exit.ret (sp 52 [(4,AV.lit (aX κ (Prod.fst (bJ e1))))] (bE (dp e1.a
 (Prod.snd (bJ e1)))))) (aO (jT κ (aX κ (Prod.fst (bJ e1)))&&kE κ z1) (ax (fv (aX κ (Prod.fst (bJ e1))) z1) (K Exit.ret (sp 52 [(4,AV.lit (aX κ (Prod.fst (bJ
 e1))))] (bE (dp e1.a (Prod.snd (bJ e1)))))) (∃(e0:Nat),e0<n/\I e0 (sp 52 [(0,AV.ptr 0 0 [] 0),(5,AV.lit (aX κ (Prod.fst (bJ e1)))),(14,AV.ae 55
 x.bl),(15,AV.int (↑z5:Int)),(16,AV.int z4)] (bE (dp e1.a (Prod.snd (bJ e1)))))))))) (aO (jT κ (aX κ (Prod.fst (bJ e1)))&&kE κ z1) (ax (fv (aX κ
 (Prod.fst (bJ e1))) z1) (aO (jT κ (aX κ (Prod.fst (bJ e1)))&&kE κ z2) (ax (fv (aX κ (Prod.fst (bJ e1))) z2) (K Exit.ret (sp 52 [(4,AV.lit (aX κ (Prod.fst (bJ
 e1))))] (bE (dp e1.a (Prod.snd (bJ e1)))))) (aO (jT κ (aX κ (Prod.fst (bJ e1)))&&kE κ z1) (ax (fv (aX κ (Prod.fst (bJ e1))) z1) (K Exit.ret (sp 52 [(4,AV.lit
 (aX κ (Prod.fst (bJ e1))))] (bE (dp e1.a (Prod.snd (bJ e1)))))) (∃(e0:Nat),e0<n/\I e0 (sp 52 [(0,AV.ptr 0 0 [] 0),(5,AV.lit (aX κ (Prod.fst (bJ
 e1)))),(14,AV.ae 55 x.bl),(15,AV.int (↑z5:Int)),(16,AV.int z4)] (bE (dp e1.a (Prod.snd (bJ e1)))))))))) (aO z7 (ax (fv (aX κ x.w) z2) (K Exit.ret (sp 52
 [(4,AV.lit (aX κ x.w))] (bE (dp e1.a (Prod.snd (bJ e1)))))) (aO z8 (ax (fv (aX κ x.w) z1) (K Exit.ret (sp 52 [(4,AV.lit (aX κ x.w))] (bE (dp e1.a (Prod.snd
 (bJ e1)))))) (∃(e0:Nat),e0<n/\I e0 (sp 52 [(0,AV.ptr 0 0 [] 0),(5,AV.lit (aX κ x.w)),(14,AV.ae 55 x.bl),(15,AV.int (↑z5:Int)),(16,AV.int z4)]
 (bE (dp e1.a (Prod.snd (bJ e1)))))))))))))) (aO z7 (ax (fv (aX κ x.w) z2) (K Exit.ret (sp 52 [(4,AV.lit (aX κ x.w))] (bE (dp e1.a (Prod.snd (bJ e1)))))) (aO z8
 (ax (fv (aX κ x.w) z1) (K Exit.ret (sp 52 [(4,AV.lit (aX κ x.w))] (bE (dp e1.a (Prod.snd (bJ e1)))))) (∃(e0:Nat),e0<n/\I e0 (sp 52 [(0,AV.ptr 0 0 []
 0),(5,AV.lit (aX κ x.w)),(14,AV.ae 55 x.bl),(15,AV.int (↑z5:Int)),(16,AV.int z4)] (bE (dp e1.a (Prod.snd (bJ e1))))))))))))))) (K (Exit.exit 0) (sp 52
 [(5,AV.lit (aX κ x.w))] (bE x.a)))):=by kernel_rfl
def ij(a:iy)(x:AV):DF:=⟨a,toInt (ad x 0),toStr (ad (ad x 1) 0),ah (ad (ad x 1) 1),Eu (ad x 2),Eu (ad x 3)⟩
theorem zV(a:iy)(x:AV):(ij a x).lt=cm x:=by
 unfold DF.lt ij
 simp only[vl]
 rfl
theorem oS{σ:Type}{get:σ->ByteArray->Int}{set:σ->ByteArray->Int->σ}(ds:List Dc)(l:Lt)(x:σ×Bool):iF (jB get set ds l x).1:=by
 have hk: ∀e,(e=0\/e=51\/e=52)->iF e:=fun e h=>by
  rcases h with rfl|rfl|rfl
  ·exact .inl rfl
  ·exact .inr (.inl rfl)
  ·exact .inr (.inr (.inl rfl))
 have h53:iF 53:= .inr (.inr (.inr rfl))
 have hb: ∀{y:Bool×(σ×Bool)} {f:σ×Bool->Bool×(σ×Bool)},iF (j6 y f).1:=fun{y f}=>by
  rcases rk (y:=y) (f:=f) with e|e<;>rw[e]
  ·exact .inl rfl
  ·exact h53
 have ha:iF (dD get set ds l.a x).1:=by
  unfold dD
  cases decide (known ds l.a=0) with
  |false=>exact hk _ (kO ds l.a)
  |true=>
   rw[aa7]
   cases(gM get set (b9 ds l.a.rel) l.a.l x).1
   ·exact .inl rfl
   ·exact h53
 unfold jB
 cases ff l.op with
 |true=>exact hb
 | false=>
  rw[aa5]
  cases decide (l.op=1)||decide (l.op=2) with
  |true=>exact ha
  | false=>
   rw[aa5]
   cases decide ((dD get set ds l.a x).1=0) with
   |false=>exact ha
   | true=>
    rw[Bool.not_true,aa5]
    cases decide (l.op=7) with
    |true=>
     rw[aa7]
     cases(l.x.want get set 1 (dD get set ds l.a x).2).1
     ·exact .inl rfl
     ·exact h53
    |false=>exact hb
theorem rX{σ:Type}{get:σ->ByteArray->Int}{set:σ->ByteArray->Int->σ}(ds:List Dc)(a:At)(x:σ×Bool):iF (dD get set ds a x).1:=by
 have h:=oS (get:=get) (set:=set) ds ⟨1,a, .mk 0 ByteArray.empty 0 [], .mk 0 ByteArray.empty 0 []⟩ x
 exact h
theorem rV{w e:Int}(hw:iF w)(he:iF e):iF (gh w e):=by
 unfold gh
 cases(decide (w=0)||decide (w=53)&&sb e)
 ·exact hw
 ·exact he
theorem rR{σ:Type}{get:σ->ByteArray->Int}{set:σ->ByteArray->Int->σ}(ds:List Dc): ∀(b:List Lt) (y:Int×(σ×Bool)),iF y.1->iF (jr get set ds b y).1
 |[],_,h=>h
 |l::b,y,h=>by
  rw[jr]
  have:=rV h (oS (get:=get) (set:=set) ds l y.2)
  cases sb (gh y.1 (jB get set ds l y.2).1) with
  |true=>exact this
  |false=>exact rR ds b _ this
def ka(x:Oj):Int×(List (Value×AV)×Bool):=jr getM ft (cg x.a.ds) (cC (x.bl.drop x.i.toNat)) (x.w,(x.a.es,x.a.more))
def Co(x:Oj):Prop:=x.a.ds.length<=aP/\iF x.w/\x.bl.length<=100000/\(∀l,l∈x.bl->iR (cm l)<=100000)/\0<=x.i/\x.i<=x.bl.length
noncomputable def Jg(κ:Kp)(x:Oj):Out (Exit×S):= .all (fun _:Bool=>True) fun b=> .ax b (.one (.ret,sp 52 [(4, .lit (aX κ (ka x).1))] (bE (dp x.a (ka x).2)))) (.one (.exit 0,sp 52 [(5, .lit (aX κ (ka x).1))] (bE (dp x.a (ka x).2))))
theorem VX(κ:Kp):bn (Kr κ) 12 95 3 (aQ 2 (Lz κ) Co (Jg κ)):=by
 refine aR (fun x=>x.bl.length - x.i.toNat) ?_
 rintro⟨a,w,bl,i⟩ K ⟨h1,h2,h3,h4,h5,h6⟩ ho
 simp only at h1 h2 h3 h4 h5 h6
 rw[show(Kr κ).P=Pr κ from rfl]
 refine Eq.mpr (Yz κ ⟨a,w,bl,i⟩ _ _ K) ?_
 have ho1:=ho true trivial
 have ho2:=ho false trivial
 simp only[Out.run,ax] at ho1 ho2
 rw[af,aa0,aa2]
 refine⟨fun hi=>?_,fun hi=>?_⟩
 ·simp only at hi
  have hk:i.toNat<bl.length:=by omega
  have hb:ka ⟨a,w,bl,i⟩=bif sb (gh w (bJ (ij a (nth bl i.toNat))).1) then(gh w (bJ (ij a (nth bl i.toNat))).1,(bJ (ij a (nth bl i.toNat))).2) else ka ⟨dp a (bJ (ij a (nth bl i.toNat))).2,gh w (bJ (ij a (nth bl i.toNat))).1,bl,i+1⟩:=by
   unfold ka bJ
   simp only[show(i+1).toNat=i.toNat+1 by omega]
   rw[nj bl i.toNat hk,jr,zV];rfl
  have he:iF (bJ (ij a (nth bl i.toNat))).1:=oS _ _ _
  have hlc:iR (cm (nth bl i.toNat))<=100000:=h4 _ (by rw[a8 _ _ hk];exact List.getElem_mem hk)
  have R:sb (gh w (bJ (ij a (nth bl i.toNat))).1)=true->K .ret (sp 52 [(4, .lit (aX κ (gh w (bJ (ij a (nth bl i.toNat))).1)))] (bE (dp a (bJ (ij a (nth bl i.toNat))).2))):=fun e=>by
   rw[hb,e,aa7] at ho1
   exact ho1
  have N:sb (gh w (bJ (ij a (nth bl i.toNat))).1)=false->∃m,m<bl.length - i.toNat/\fw (Lz κ) Co (Jg κ) (fun x=>x.bl.length - x.i.toNat) K m (sp 52 [(0,Bi),(5, .lit (aX κ (gh w (bJ (ij a (nth bl i.toNat))).1))),(14, .ae 55 bl),(15, .int bl.length),(16, .int (IntKind.wrap .i64 (i+1)))] (bE (dp a (bJ (ij a (nth bl i.toNat))).2))):=fun e=>by
   rw[hb,e,aa5] at ho1 ho2
   rw[a5 (n:=i+1) (by omega) (by omega)]
   refine⟨_,?_,⟨dp a (bJ (ij a (nth bl i.toNat))).2,gh w (bJ (ij a (nth bl i.toNat))).1,bl,i+1⟩,rfl,⟨h1,rV h2 he,h3,h4,by simp only;omega,by simp only;omega⟩,rfl,?_⟩
   ·simp only;omega
   ·intro b _
    cases b
    ·exact ho2
    ·exact ho1
  refine au.2 ⟨by simp;omega,ij a (nth bl i.toNat),rfl,⟨h1,by rw[zV];exact hlc⟩,?_⟩
  have n51:Value.iface 189 (.pointer (some κ.eU))=aX κ 51:=rfl
  have n52:Value.iface 189 (.pointer (some κ.arity))=aX κ 52:=rfl
  have n53:Value.iface 189 (.pointer (some κ.type))=aX κ 53:=rfl
  have ta:(ij a (nth bl i.toNat)).a=a:=rfl
  simp only[n51,n52,n53,ta,ck,iz]
  revert R N he
  generalize bJ (ij a (nth bl i.toNat))=y
  intro he R N
  simp only[yY κ he,yY κ h2,yy κ (show tF 51 from .inl rfl),yy κ (show tF 52 from .inr (.inl rfl)),yy κ (show tF 53 from .inr (.inr rfl)),gx κ he (show iF 51 from .inr (.inl rfl)),gx κ he (show iF 52 from .inr (.inr (.inl rfl))),gx κ h2 (show iF 51 from .inr (.inl rfl)),gx κ h2 (show iF 52 from .inr (.inr (.inl rfl))),gx κ h2 (show iF 53 from .inr (.inr (.inr rfl)))]
  obtain⟨e,y2⟩:=y
  simp only at he R N⊢
  rcases h2 with rfl|rfl|rfl|rfl<;>rcases he with rfl|rfl|rfl|rfl<;>first|exact R rfl|exact N rfl
 ·simp only at hi
  have hb:ka ⟨a,w,bl,i⟩=(w,(a.es,a.more)):=by
   unfold ka
   simp only
   rw[aa8 (by omega)];rfl
  rw[hb] at ho2
  exact ho2
noncomputable def P8(κ:Kp):Env:=(Kr κ).aj 95 3 (aQ 2 (Lz κ) Co (Jg κ))
theorem XF(κ:Kp):aC (P8 κ):=(XW κ).aj (Ua κ) (VX κ)
theorem Uj(κ:Kp):ai (P8 κ):=(Ua κ).aj aG
theorem Wc(κ:Kp)(a:iy)(r:ba)(K:AV->List Dn.Obj->Prop):(bg (P8 κ) 12 95 [Bi,an r] (bE a) K)=(
 letI z1:=Pg.toProgram (Env.P (Kr κ))
 ∃(e2:ND),([AV.ptr 0 0 [] 0,AV.agg [AV.str r.rel,AV.ae 52 r.hl]],(bE a))=([AV.ptr 0 0 [] 0,AV.agg [AV.str e2.2.1,AV.ae 52 e2.2.2]],(bE e2.1))/\
 (e2.1.ds.length<=9223372036854775807/\aM (aa e2.2.2)<=100000)/\ag z1 95 3=ag z1 95 3/\∃(e1:Oj),sp 52 [(0,AV.ptr 0 0 [] 0),(5,AV.lit (aX κ
 (Prod.fst (db e2.1 e2.2.1 e2.2.2)))),(14,AV.ae 55 r.bl),(15,AV.int (↑(r.bl.length):Int)),(16,AV.int 0)] (bE (dp e2.1 (Prod.snd (db e2.1 e2.2.1
 e2.2.2))))=sp 52 [(0,AV.ptr 0 0 [] 0),(5,AV.lit (aX κ e1.w)),(14,AV.ae 55 e1.bl),(15,AV.int (↑(e1.bl.length):Int)),(16,AV.int e1.i)] (bE e1.a)/\
 (List.length e1.a.ds<=9223372036854775807/\(e1.w=(0:Int)\/e1.w=(51:Int)\/e1.w=(52:Int)\/e1.w=(53:Int))/\e1.bl.length<=100000/\(∀(e0:
 AV),List.Mem e0 e1.bl->iR (cm e0)<=100000)/\(0:Int)<=e1.i/\e1.i<=(↑(e1.bl.length):Int))/\∀(e0:Bool),True->ax e0 (K (AV.lit (aX κ (Prod.fst (ka
 e1)))) (bE (dp e1.a (Prod.snd (ka e1))))) (K (AV.lit (aX κ (Prod.fst (ka e1)))) (bE (dp e1.a (Prod.snd (ka e1)))))):=by kernel_rfl
abbrev PX:=iy×ba
def kl(x:PX):Int×(List (Value×AV)×Bool):=jr getM ft (cg x.1.ds) (cC x.2.bl) (dD getM ft (cg x.1.ds) ⟨x.2.rel,aa x.2.hl⟩ (x.1.es,x.1.more))
def Qu(x:PX):List AV×List Dn.Obj:=([Bi,an x.2],bE x.1)
def GU(x:PX):Prop:=x.1.ds.length<=aP/\dr x.2
noncomputable def MI(κ:Kp)(x:PX):Out (AV×List Dn.Obj):= .one (.lit (aX κ (kl x).1),bE (dp x.1 (kl x).2))
theorem Ym(κ:Kp):bz (P8 κ) 12 95 (aZ Qu GU (MI κ)):=by
 refine bh ?_
 rintro⟨a,r⟩ K ⟨h1,h2⟩ ho
 simp only at h1 h2
 refine Eq.mpr (Wc κ a r K) ?_
 have hlit: ∀l,l∈r.bl->iR (cm l)<=100000:=fun l hl=>by
  obtain⟨k,hk,e⟩:=List.getElem_of_mem hl
  have:=j8 h2 hk
  rwa [a8 _ _ hk,e] at this
 have hs:kl (a,r)=ka ⟨dp a (db a r.rel r.hl).2,(db a r.rel r.hl).1,r.bl,0⟩:=by
  unfold kl ka db
  simp only[ab7,ab0];rfl
 have ho:K (.lit (aX κ (kl (a,r)).1)) (bE (dp a (kl (a,r)).2)):=ho
 rw[hs] at ho
 refine⟨(a,r.rel,r.hl),rfl,⟨h1,oa h2⟩,rfl,⟨dp a (db a r.rel r.hl).2,(db a r.rel r.hl).1,r.bl,0⟩,rfl,⟨h1,rX _ _ _,h2.2,hlit,by simp only;omega,by simp only;omega⟩,fun b _=>?_⟩
 cases b<;>exact ho
noncomputable def Lh(κ:Kp):Env:=(P8 κ).aw 95 (aZ Qu GU (MI κ))
theorem eYs(κ:Kp):aC (Lh κ):=(XF κ).aw (Uj κ) (Ym κ)
theorem UF(κ:Kp):ai (Lh κ):=(Uj κ).aw aI
end Go.Proofs.YtdpmikfheebicaaGreatDoor
namespace Go.Rl
open Go Go.Dn
section
variable {σ:Type} {get:σ->ByteArray->Int} {set:σ->ByteArray->Int->σ}
variable (iN: ∀st s k t,get (set st s k) t=bif t==s then k else get st t)
include iN
theorem rh(ds:List Dc){r:Rl}(hr:aU r=true)(V:List ByteArray)(hV: ∀s,s∈eT r->s∈V)(st:σ)(h0:(er get set ds r st).1=0)(hm:(er get set ds r st).2.2=true):kX get V (er get set ds r st).2.1<kX get V st:=by
 have hk:jg ds r=0:=by
  cases e:decide (jg ds r=0) with
  |true=>simpa using e
  |false=>
   rw[aa2] at e
   rw[z6 ds r st e] at h0;exact h0
 simp only[aU,aa1,List.all_eq_true] at hr
 have e1:=HS (get:=get) (set:=set) ds (r:=r) (sI hr.1.1.1) (fun l hl=>NN (hr.2 l hl)) hk st h0
 rw[e1] at hm⊢
 exact v8 (BT iN ds r st) V ((CU iN ds r st hm).left (Ext.refl _ _) hV)
theorem nk(ds:List Dc){r:Rl}(hr:aU r=true)(V:List ByteArray)(hV: ∀s,s∈eT r->s∈V): ∀(n m:Nat) (st:σ),kX get V st<n->kX get V st<m->eV get set ds r n st=eV get set ds r m st
 |0,_,_,h,_=>by omega
 |_+1,0,_,_,h=>by omega
 | n+1,m+1,st,h1,h2=>by
  rw[eV,eV]
  cases h0:decide ((er get set ds r st).1=0) with
  |false=>rfl
  | true=>
   rw[aa7,aa7]
   cases hm:(er get set ds r st).2.2 with
   |false=>rfl
   |true=>
    rw[aa7,aa7]
    have:=rh iN ds hr V hV st (by simpa using h0) hm
    exact nk ds hr V hV n m _ (by omega) (by omega)
end
end Go.Rl
namespace Go.Proofs.YtdpmikfheebicaaGreatDoor
open Go Go.Dn Go.Rl Go.Proofs
attribute [local irreducible] bg vc
set_option maxRecDepth 20000
structure oV where
 ds:List AV
 r:ba
 es:List (Value×AV)
 more:Bool
abbrev Ki(x:oV):S:=sp 60 [(3, .ptr 0 0 [] 0),(6, .ptr 1 0 [] 0)] [.box 41 (an x.r), .box 133 (.agg [.ae 62 x.ds, .mp 2, .bool x.more]), .map 9 3 x.es]
theorem WS(κ:Kp)(x:oV)(I:Nat->S->Prop)(n:Nat)(K:Exit->S->Prop):(vc (Lh κ) 12 61 none 0 (ag (Pr κ).toProgram 61 4) (Ki x) (bI (Lh κ) 61 4 0 I n K))=(
 ax x.more (∃(a:PX),([AV.ptr 0 0 [] 0,an x.r],[Obj.box 133 (AV.agg [AV.ae 62 x.ds,AV.mp 1,AV.bool false]),Dn.Obj.map 9 3 x.es])=([AV.ptr 0 0 [] 0,
 an a.2],[Obj.box 133 (AV.agg [AV.ae 62 a.1.ds,AV.mp 1,AV.bool a.1.more]),Dn.Obj.map 9 3 a.1.es])/\(a.1.ds.length<=9223372036854775807/\aM (aa
 (aH 52 a.2.hl a.2.bl))<=100000/\a.2.bl.length<=100000)/\aO (aD (aX κ (Prod.fst (kl a)))) (ax (!bD (aX κ (Prod.fst (kl a)))) (aO
 (jT κ (aX κ (Prod.fst (kl a)))) (K Exit.ret (sp 60 [(4,AV.nil),(5,AV.int (KG κ (aX κ (Prod.fst (kl a)))))] []))) (∃(m:Nat),m<n/\I m (sp
 60 [(3,AV.ptr 0 0 [] 0),(6,AV.ptr 1 0 [] 0)] [Obj.box 41 (an x.r),Obj.box 133 (AV.agg [AV.ae 62 (iy.ds (dp a.1 (Prod.snd (kl a)))),AV.mp 2,
 AV.bool (iy.more (dp a.1 (Prod.snd (kl a))))]),Dn.Obj.map 9 3 (iy.es (dp a.1 (Prod.snd (kl a))))])))) (K (Exit.exit 0) (sp 60 [(3,AV.ptr 0 0 [] 0),
 (6,AV.ptr 1 0 [] 0)] [Obj.box 41 (an x.r),Obj.box 133 (AV.agg [AV.ae 62 x.ds,AV.mp 2,AV.bool x.more]),Dn.Obj.map 9 3 x.es]))):=by kernel_rfl
abbrev WI(x:oV):List Dc:=cg x.ds
def Sv(x:oV):Nat:=kX getM (c6 (aJ x.r)) x.es
def RF(x:oV):Int×List (Value×AV):=eV getM ft (WI x) (aJ x.r) (Sv x+1) x.es
def fE(x:oV):Int×List (Value×AV):=bif x.more then RF x else(0,x.es)
def Ip(x:oV):Prop:=aU (aJ x.r)=true/\x.ds.length<=aP/\dr x.r
def Dj(x:oV):Out (Exit×S):= .ax (decide ((fE x).1=0)) (.one (.exit 0,Ki ⟨x.ds,x.r,(fE x).2,false⟩)) (.one (.ret,sp 60 [(4, .nil),(5, .int (fE x).1)] []))
theorem Bc(ds:List Dc)(r:Rl)(es:List (Value×AV)):iF (er getM ft ds r es).1:=rR _ _ _ (rX _ _ _)
theorem lTy(κ:Kp):bn (Lh κ) 12 61 4 (aQ 0 Ki Ip Dj):=by
 refine aR (fun x=>bif x.more then Sv x+1 else 0) ?_
 rintro⟨ds,r,es,more⟩ K ⟨h1,h2,h3⟩ ho
 simp only at h1 h2 h3
 rw[show(Lh κ).P=Pr κ from rfl]
 refine Eq.mpr (WS κ ⟨ds,r,es,more⟩ _ _ K) ?_
 simp only[Dj,Out.run,af] at ho
 cases more with
 |false=>exact ho.1 rfl
 | true=>
  have hp:kl (⟨ds,es,false⟩,r)=er getM ft (cg ds) (aJ r) es:=rfl
  have hV: ∀s,s∈eT (aJ r)->s∈c6 (aJ r):=fun s hs=>(wQ h1).2 hs
  have hr:=Bc (cg ds) (aJ r) es
  have he:fE ⟨ds,r,es,true⟩=bif decide ((er getM ft (cg ds) (aJ r) es).1=0) then fE ⟨ds,r,(er getM ft (cg ds) (aJ r) es).2.1,(er getM ft (cg ds) (aJ r) es).2.2⟩ else((er getM ft (cg ds) (aJ r) es).1,(er getM ft (cg ds) (aJ r) es).2.1):=by
   have e0:fE ⟨ds,r,es,true⟩=eV getM ft (cg ds) (aJ r) (Sv ⟨ds,r,es,true⟩+1) es:=rfl
   rw[e0,eV]
   cases h0:decide ((er getM ft (cg ds) (aJ r) es).1=0) with
   |false=>rfl
   | true=>
    rw[aa7,aa7]
    unfold fE
    cases hm:(er getM ft (cg ds) (aJ r) es).2.2 with
    |false=>rfl
    |true=>
     rw[aa7]
     have:=rh nv (cg ds) h1 _ hV es (by simpa using h0) hm
     exact nk nv (cg ds) h1 _ hV _ _ _ this (Nat.lt_succ_self _)
  refine⟨(⟨ds,es,false⟩,r),rfl,⟨h2,h3⟩,?_⟩
  rw[hp]
  refine au.2 ⟨ck _ _,?_⟩
  rw[iz]
  cases h0:decide ((er getM ft (cg ds) (aJ r) es).1=0) with
  |false=>
   rw[he,h0,aa5] at ho
   refine au.2 ⟨yY κ hr,?_⟩
   rw[Jr κ hr]
   exact ho.2 h0
  | true=>
   rw[he,h0,aa7] at ho
   refine⟨_,?_,⟨ds,r,(er getM ft (cg ds) (aJ r) es).2.1,(er getM ft (cg ds) (aJ r) es).2.2⟩,rfl,⟨h1,h2,h3⟩,rfl,?_⟩
   ·simp only
    cases hm:(er getM ft (cg ds) (aJ r) es).2.2 with
    |false=>exact Nat.succ_pos _
    |true=>
     have:=rh nv (cg ds) h1 _ hV es (by simpa using h0) hm
     exact Nat.succ_lt_succ this
   ·simp only[Dj,Out.run,af]
    exact ho
noncomputable def KR(κ:Kp):Env:=(Lh κ).aj 61 4 (aQ 0 Ki Ip Dj)
theorem WA(κ:Kp):aC (KR κ):=(eYs κ).aj (UF κ) (lTy κ)
theorem Uf(κ:Kp):ai (KR κ):=(UF κ).aj aG
def iA(l:List Int):List AV:=l.map fun k=> .lit (.int .i64 k)
theorem gG(l:List Int):(iA l).length=l.length:=by simp[iA]
theorem yi(l m:List Int):iA (l++m)=iA l++iA m:=by simp[iA]
structure N4 where
 ds:List AV
 es:List (Value×AV)
 o:List Int
 vs:List ByteArray
 i:Int
abbrev Ka(x:N4):S:=sp 60 [(6, .ptr 0 0 [] 0),(8, .az 2 0 (iA x.o).length),(36, .az 3 0 x.vs.length),(37, .int x.vs.length),(38, .int x.i)] [.box 133 (.agg [.ae 62 x.ds, .mp 1, .bool false]), .map 9 3 x.es, .row 3 (iA x.o), .row 9 (strs x.vs)]
theorem YY(κ:Kp)(ds:List AV)(es:List (Value×AV))(o vs:List AV)(i:Int)(I:Nat->S->Prop)(n:Nat)(K:Exit->S->Prop):(vc (KR κ) 12 61 none 0 (ag (Pr κ).toProgram 61 11) (sp 60 [(6, .ptr 0 0 [] 0),(8, .az 2 0 o.length),(36, .az 3 0 vs.length),(37, .int vs.length),(38, .int i)] [.box 133 (.agg [.ae 62 ds, .mp 1, .bool false]), .map 9 3 es, .row 3 o, .row 9 vs]) (bI (KR κ) 61 11 0 I n K))=(
 letI z1:=cM es (Value.string (toStr (nth vs (0+i.toNat)))) (AV.int 0)
 letI z2:=i<(↑(vs.length):Int)
 ax (decide z2) (aO (decide ((0:Int)<=i)&&decide z2) (ax (toInt z1==(0:Int)) (K Exit.ret (sp 60 [(4,AV.nil),(5,AV.int 53)] [])) (aO (decide
 ((o.length+1+1)*9<=70368744177664)) (∃(e0:Nat),e0<n/\I e0 (sp 60 [(6,AV.ptr 0 0 [] 0),(8,AV.az 2 0 (o.length+1)),(36,AV.az 3 0 vs.length),
 (37,AV.int (↑(vs.length):Int)),(38,AV.int (IntKind.wrap IntKind.i64 (i+(1:Int))))] [Obj.box 133 (AV.agg [AV.ae 62 ds,AV.mp 1,AV.bool false]),
 Dn.Obj.map 9 3 es,Obj.row 3 (List.take o.length o++[AV.int (toInt z1)]),Obj.row 9 vs]))))) (K (Exit.exit 2) (sp 60 [(8,AV.az 0 0 o.length)] [Obj.row 3 o]))):=by kernel_rfl
def jl(x:N4):List ByteArray:=x.vs.drop x.i.toNat
def rT(x:N4):Bool:=(jl x).all fun s=>!decide (getM x.es s=0)
def Jb(x:N4):Prop:=x.vs.length<=100000/\x.o.length<=x.i.toNat/\0<=x.i/\x.i<=x.vs.length
def DE(x:N4):Out (Exit×S):= .ax (rT x) (.one (.exit 2,sp 60 [(8, .az 0 0 (iA (x.o++(jl x).map (getM x.es))).length)] [.row 3 (iA (x.o++(jl x).map (getM x.es)))])) (.one (.ret,sp 60 [(4, .nil),(5, .int 53)] []))
theorem Xr(κ:Kp):bn (KR κ) 12 61 11 (aQ 0 Ka Jb DE):=by
 refine aR (fun x=>x.vs.length - x.i.toNat) ?_
 rintro⟨ds,es,o,vs,i⟩ K ⟨h1,h2,h3,h4⟩ ho
 simp only at h1 h2 h3 h4
 rw[show(KR κ).P=Pr κ from rfl]
 have e0:(⟨ds,es,o,vs,i⟩:N4).vs.length=(strs vs).length:=(bf vs).symm
 simp only[Ka,e0]
 refine Eq.mpr (YY κ ds es (iA o) (strs vs) i _ _ K) ?_
 simp only[DE,Out.run,af] at ho
 simp only[bf]
 rw[af,aa0,aa2,au,aa1,aa0,aa0]
 refine⟨fun hi=>⟨⟨h3,hi⟩,?_⟩,fun hi=>?_⟩
 ·have hk:i.toNat<vs.length:=by omega
  have hr:jl ⟨ds,es,o,vs,i⟩=vs[i.toNat]::jl ⟨ds,es,o++[getM es vs[i.toNat]],vs,i+1⟩:=by
   unfold jl
   simp only[show(i+1).toNat=i.toNat+1 by omega]
   exact ab1 hk
  have ha:rT ⟨ds,es,o,vs,i⟩=(!decide (getM es vs[i.toNat]=0)&&rT ⟨ds,es,o++[getM es vs[i.toNat]],vs,i+1⟩):=by
   unfold rT
   rw[hr,List.all_cons]
  rw[Nat.zero_add,AB vs _ hk,MO]
  have hg:toInt (cM es (Value.string (toStr (.lit (.string vs[i.toNat])))) (AV.int 0))=getM es vs[i.toNat]:=rfl
  rw[hg,af]
  refine⟨fun e=>?_,fun e=>?_⟩
  ·rw[ha,e] at ho
   exact ho.2 rfl
  ·rw[ha,e,hr,Bool.not_false,ab9] at ho
   rw[au,aa0,gG]
   rw[a5 (n:=i+1) (by omega) (by omega)]
   refine⟨by omega,_,?_,⟨ds,es,o++[getM es vs[i.toNat]],vs,i+1⟩,?_,⟨h1,by simp only[ab8,List.length_singleton];omega,by simp only;omega,by simp only;omega⟩,rfl,?_⟩
   ·simp only;omega
   ·simp only[Ka,yi,gG,ab8,List.length_singleton,List.take_of_length_le (show(iA o).length<=o.length by rw[gG];omega)]
    rfl
   ·simp only[DE,Out.run,af]
    rw[show o++[getM es vs[i.toNat]]++(jl ⟨ds,es,o++[getM es vs[i.toNat]],vs,i+1⟩).map (getM es)=o++(vs[i.toNat]::jl ⟨ds,es,o++[getM es vs[i.toNat]],vs,i+1⟩).map (getM es) by simp]
    exact ho
 ·have hr:jl ⟨ds,es,o,vs,i⟩=[]:=by
   unfold jl
   exact aa8 (by simp only;omega)
  have ha:rT ⟨ds,es,o,vs,i⟩=true:=by
   unfold rT
   rw[hr];rfl
  rw[ha,hr] at ho
  have:=ho.1 rfl
  simp only[List.map_nil,List.append_nil] at this
  exact this
noncomputable def Qn(κ:Kp):Env:=(KR κ).aj 61 11 (aQ 0 Ka Jb DE)
theorem ZK(κ:Kp):aC (Qn κ):=(WA κ).aj (Uf κ) (Xr κ)
theorem TU(κ:Kp):ai (Qn κ):=(Uf κ).aj aG
theorem Zd(κ:Kp)(ds:List AV)(r:ba)(K:AV->List Dn.Obj->Prop):(bg (Qn κ) 12 61 [.ae 62 ds,an r] [] K)=(
 letI z1:=Pg.toProgram (Env.P (Lh κ))
 letI z2:=Pg.toProgram (Env.P (KR κ))
 aO (List.all [AV.agg [AV.agg [AV.str r.rel,AV.ae 52 r.hl],AV.ae 55 r.bl,AV.int r.line]] gy) (ax (!eH ds [AV.agg [AV.agg [AV.str r.rel,AV.ae 52 r.hl],AV.ae 55 r.bl,AV.int r.line]]) (K (AV.bp [AV.nil,AV.int 30]) []) (ag z1 61 4=ag z1 61 4/\∃(e2:oV),sp 60 [(3,AV.ptr 0 0 [] 0),(6,AV.ptr 1 0 [] 0)] [Obj.box 41 (AV.agg [AV.agg [AV.str r.rel,AV.ae 52 r.hl],AV.ae 55 r.bl,AV.int r.line]),Obj.box 133 (AV.agg [AV.ae 62 ds,AV.mp 2,AV.bool true]),Dn.Obj.map 9 3 []]=sp 60 [(3,AV.ptr 0 0 [] 0),(6,AV.ptr 1 0 [] 0)] [Obj.box 41 (AV.agg [AV.agg [AV.str e2.r.rel,AV.ae 52 e2.r.hl],AV.ae 55 e2.r.bl,AV.int e2.r.line]),Obj.box 133 (AV.agg [AV.ae 62 e2.ds,AV.mp 2,AV.bool e2.more]),Dn.Obj.map 9 3 e2.es]/\(aU (aJ e2.r)=true/\e2.ds.length<=9223372036854775807/\aM (aa (aH 52 e2.r.hl e2.r.bl))<=100000/\List.length e2.r.bl<=100000)/\ax (decide (Prod.fst (fE e2)=(0:Int))) (∃(e1:ba),([AV.agg [AV.agg [AV.lit (Value.string (ba.rel (oV.r {ds:=e2.ds,r:=e2.r,es:=Prod.snd (fE e2),more:=false}))),AV.ae 52 (ba.hl (oV.r {ds:=e2.ds,r:=e2.r,es:=Prod.snd (fE e2),more:=false}))],AV.ae 55 (ba.bl (oV.r {ds:=e2.ds,r:=e2.r,es:=Prod.snd (fE e2),more:=false})),AV.lit (Value.int IntKind.i64 (ba.line (oV.r {ds:=e2.ds,r:=e2.r,es:=Prod.snd (fE e2),more:=false})))]],aB)=([AV.agg [AV.agg [AV.str e1.rel,AV.ae 52 e1.hl],AV.ae 55 e1.bl,AV.int e1.line]],aB)/\(aU (aJ e1)=true/\aM (aa (aH 52 e1.hl e1.bl))<=100000/\e1.bl.length<=100000)/\ag z2 61 11=ag z2 61 11/\∃(e0:N4),sp 60 [(6,AV.ptr 0 0 [] 0),(8,AV.az 2 0 0),(36,AV.az 3 0 (List.length (c6 (aJ e1)))),(37,AV.int (↑(List.length (c6 (aJ e1))):Int)),(38,AV.int 0)] [Obj.box 133 (AV.agg [AV.ae 62 (oV.ds {ds:=e2.ds,r:=e2.r,es:=Prod.snd (fE e2),more:=false}),AV.mp 1,AV.bool false]),Dn.Obj.map 9 3 (oV.es {ds:=e2.ds,r:=e2.r,es:=Prod.snd (fE e2),more:=false}),Obj.row 3 [],Obj.row 9 (strs (c6 (aJ e1)))]=sp 60 [(6,AV.ptr 0 0 [] 0),(8,AV.az 2 0 (List.length (iA e0.o))),(36,AV.az 3 0 e0.vs.length),(37,AV.int (↑(e0.vs.length):Int)),(38,AV.int e0.i)] [Obj.box 133 (AV.agg [AV.ae 62 e0.ds,AV.mp 1,AV.bool false]),Dn.Obj.map 9 3 e0.es,Obj.row 3 (iA e0.o),Obj.row 9 (strs e0.vs)]/\(e0.vs.length<=100000/\e0.o.length<=e0.i.toNat/\(0:Int)<=e0.i/\e0.i<=(↑(e0.vs.length):Int))/\ax (rT e0) (K (AV.bp [AV.az 0 0 (List.length (iA (e0.o++List.map (getM e0.es) (jl e0)))),AV.int 0]) [Obj.row 3 (iA (e0.o++List.map (getM e0.es) (jl e0)))]) (K (AV.bp [AV.nil,AV.int 53]) [])) (K (AV.bp [AV.nil,AV.int (Prod.fst (fE e2))]) [])))):=by kernel_rfl
abbrev QB:=List AV×ba
def rr(x:QB):Int×List Int:=oZ (cg x.1) (aJ x.2)
def Pq(x:QB):List AV×List Dn.Obj:=([.ae 62 x.1,an x.2],[])
def Jq(x:QB):Prop:=x.1.length<=aP/\dr x.2
def IU(x:QB):Out (AV×List Dn.Obj):= .ax (eH x.1 [an x.2]) (.ax (decide ((rr x).1=0)) (.one (.bp [.az 0 0 (iA (rr x).2).length, .int 0],[.row 3 (iA (rr x).2)])) (.one (.bp [.nil, .int (rr x).1],[]))) (.one (.bp [.nil, .int 30],[]))
theorem Fy{ds:List AV}{r:ba}(h:eH ds [an r]=true):aU (aJ r)=true:=by
 unfold eH at h
 rw[aa1] at h
 have:=h.2
 rw[List.all_cons,aa1] at this
 exact this.1
theorem YI(κ:Kp):bz (Qn κ) 12 61 (aZ Pq Jq IU):=by
 refine bh ?_
 rintro⟨ds,r⟩ K ⟨h1,h2⟩ ho
 simp only at h1 h2
 refine Eq.mpr (Zd κ ds r K) ?_
 simp only[IU,Out.run,af] at ho
 have hl1:=fJ (aa r.hl)
 rw[eY] at hl1
 have hc:=oa h2
 have hl:=h2.2
 refine au.2 ⟨?_,?_⟩
 ·show(gy (an r)&&true)=true
  have:gy (an r)=(decide (r.hl.length<=aP)&&decide (r.bl.length<=aP)):=rfl
  rw[this,aa6 (by simp only[aP];omega),aa6 (by simp only[aP];omega)];rfl
 refine af.2 ⟨fun e=>ho.2 (by simpa using e),fun e=>?_⟩
 have e':eH ds [an r]=true:=by simpa using e
 have hr:=Fy e'
 have ho1:=ho.1 e'
 have hf:fE ⟨ds,r,[],true⟩=eV getM ft (cg ds) (aJ r) ((c6 (aJ r)).length+1) []:=nk nv (cg ds) hr _ (fun s hs=>(wQ hr).2 hs) _ _ _ (Nat.lt_succ_self _) (Nat.lt_succ_of_le (HL _ _ _))
 have ht:rr (ds,r)=bif decide ((fE ⟨ds,r,[],true⟩).1=0) then(bif (c6 (aJ r)).all (fun s=>!decide (getM (fE ⟨ds,r,[],true⟩).2 s=0)) then(0,(c6 (aJ r)).map (getM (fE ⟨ds,r,[],true⟩).2)) else(53,[])) else((fE ⟨ds,r,[],true⟩).1,[]):=by
  rw[hf];rfl
 rw[ht] at ho1
 refine⟨rfl,⟨ds,r,[],true⟩,rfl,⟨hr,h1,h2⟩,?_⟩
 refine af.2 ⟨fun e1=>⟨r,rfl,⟨hr,h2⟩,rfl,⟨ds,(fE ⟨ds,r,[],true⟩).2,[],c6 (aJ r),0⟩,rfl,⟨Fp h2,Nat.zero_le _,by simp only;omega,by simp only;omega⟩,?_⟩,fun e1=>?_⟩
 ·rw[e1,aa7] at ho1
  have ha:rT ⟨ds,(fE ⟨ds,r,[],true⟩).2,[],c6 (aJ r),0⟩=(c6 (aJ r)).all (fun s=>!decide (getM (fE ⟨ds,r,[],true⟩).2 s=0)):=rfl
  rw[ha]
  refine af.2 ⟨fun e2=>?_,fun e2=>?_⟩
  ·rw[e2] at ho1
   exact ho1.1 rfl
  ·rw[e2] at ho1
   exact ho1.2 rfl
 ·rw[e1,aa5] at ho1
  exact ho1.2 e1
noncomputable def J6(κ:Kp):Env:=(Qn κ).aw 61 (aZ Pq Jq IU)
theorem Zl(κ:Kp):aC (J6 κ):=(ZK κ).aw (TU κ) (YI κ)
theorem UJ(κ:Kp):ai (J6 κ):=(TU κ).aw aI
abbrev gz(ds rs:List AV):AV:= .agg [.ae 62 ds, .ae 41 rs]
def bM(x:AV):ba:=⟨[],[],toStr (ad (ad x 0) 0),ah (ad (ad x 0) 1),ah (ad x 1),toInt (ad x 2),0⟩
structure zm where
 ds:List AV
 rs:List AV
 i:Int
abbrev NG(x:zm):Dn.Obj:= .box 25 (gz x.ds x.rs)
def MF(ds:List AV):List AV->Int->Int×Int
 |[],_=>(0,0)
 |d::l,i=>bif decide (de (toStr (ad d 0)) ds=i) then MF ds l (i+1) else(toInt (ad d 5),50)
def jw(ds:List AV)(x:AV):Int:=bif eH ds [an (bM x)] then(rr (ds,bM x)).1 else 30
def D1(f:AV->Int):List AV->Int×Int
 |[]=>(0,0)
 |x::l=>bif decide (f x=0) then D1 f l else(toInt (ad x 2),f x)
def sO(ds rs:List AV):Int×Int:=bif eH ds rs then(bif decide ((MF ds ds 0).2=0) then D1 (jw ds) rs else MF ds ds 0) else(0,30)
def kC(x:AV):Int:=Hk (aJ (bM x))
def gg(ds rs:List AV):Int×Int:=bif decide ((sO ds rs).2=0) then D1 kC rs else sO ds rs
def ig(ds rs:List AV):Prop:=ds.length<=aP/\rs.length<=aP/\∀x,x∈rs->dr (bM x)
theorem Kd{ds rs:List AV}(h:ig ds rs):rs.all gy=true:=by
 refine List.all_eq_true.2 fun x hx=>?_
 have h2:=h.2.2 x hx
 have hl1:=fJ (aa (bM x).hl)
 rw[eY] at hl1
 have hc:=oa h2
 have hl:=h2.2
 have:gy x=(decide ((bM x).hl.length<=aP)&&decide ((bM x).bl.length<=aP)):=rfl
 rw[this,aa6 (by simp only[aP];omega),aa6 (by simp only[aP];omega)];rfl
abbrev NA(x:zm):S:=sp 57 [(1, .ptr 0 0 [] 0),(16, .ae 62 x.ds),(17, .int x.ds.length),(18, .int x.i)] [NG x]
theorem xC1(κ:Kp)(x:zm)(I:Nat->S->Prop)(n:Nat)(K:Exit->S->Prop):(vc (J6 κ) 12 31 none 0 (ag (Pr κ).toProgram 31 4) (NA x) (bI (J6 κ) 31 4 0 I n K))=(
 letI z1:=AV.agg [AV.ae 62 x.ds,AV.ae 41 x.rs]
 letI z2:=x.i<(↑(x.ds.length):Int)
 ax (decide z2) (aO (decide ((0:Int)<=x.i)&&decide z2) (∃(e1:List AV×ByteArray),([AV.ae 62 x.ds,AV.str (toStr (ad (nth x.ds x.i.toNat) 0))],aB)=
 ([AV.ae 62 e1.1,AV.str e1.2],aB)/\iJ e1/\ax (de e1.2 e1.1 != x.i) (K Exit.ret (sp 57 [(2,AV.int (toInt (ad (nth x.ds x.i.toNat) 5))),(3,AV.int 50)] []))
 (∃(e0:Nat),e0<n/\I e0 (sp 57 [(1,AV.ptr 0 0 [] 0),(16,AV.ae 62 x.ds),(17,AV.int (↑(x.ds.length):Int)),(18,AV.int (IntKind.wrap IntKind.i64 (x.i
 +(1:Int))))] [Obj.box 25 z1])))) (K (Exit.exit 0) (sp 57 [(1,AV.ptr 0 0 [] 0)] [Obj.box 25 z1]))):=by kernel_rfl
def GC(x:zm):Int×Int:=MF x.ds (x.ds.drop x.i.toNat) x.i
def Ho(x:zm):Prop:=x.ds.length<=aP/\0<=x.i/\x.i<=x.ds.length
def Dp(x:zm):Out (Exit×S):= .ax (decide ((GC x).2=0)) (.one (.exit 0,sp 57 [(1, .ptr 0 0 [] 0)] [NG x])) (.one (.ret,sp 57 [(2, .int (GC x).1),(3, .int (GC x).2)] []))
theorem X1(κ:Kp):bn (J6 κ) 12 31 4 (aQ 0 NA Ho Dp):=by
 refine aR (fun x=>x.ds.length - x.i.toNat) ?_
 rintro⟨ds,rs,i⟩ K ⟨h1,h2,h3⟩ ho
 simp only at h1 h2 h3
 rw[show(J6 κ).P=Pr κ from rfl]
 refine Eq.mpr (xC1 κ ⟨ds,rs,i⟩ _ _ K) ?_
 simp only[aP] at h1
 simp only[Dp,Out.run,af] at ho
 rw[af,aa0,aa2,au,aa1,aa0,aa0]
 refine⟨fun hi=>⟨⟨h2,hi⟩,(ds,toStr (ad (nth ds i.toNat) 0)),rfl,h1,?_⟩,fun hi=>?_⟩
 ·simp only at hi
  have hk:i.toNat<ds.length:=by omega
  have hr:GC ⟨ds,rs,i⟩=bif decide (de (toStr (ad (nth ds i.toNat) 0)) ds=i) then GC ⟨ds,rs,i+1⟩ else(toInt (ad (nth ds i.toNat) 5),50):=by
   unfold GC
   simp only[show(i+1).toNat=i.toNat+1 by omega]
   rw[ab1 hk,←a8 ds i.toNat hk,MF]
  rw[hr] at ho
  simp only[GJ]
  cases e:decide (de (toStr (ad (nth ds i.toNat) 0)) ds=i) with
  |false=>
   rw[e] at ho
   exact ho.2 rfl
  | true=>
   rw[e] at ho
   rw[a5 (n:=i+1) (by omega) (by omega)]
   refine⟨_,?_,⟨ds,rs,i+1⟩,rfl,⟨by simpa[aP] using h1,by simp only;omega,by simp only;omega⟩,rfl,?_⟩
   ·simp only;omega
   ·simp only[Dp,Out.run,af]
    exact ho
 ·simp only at hi
  have hr:GC ⟨ds,rs,i⟩=(0,0):=by
   unfold GC
   simp only
   rw[aa8 (by omega)];rfl
  rw[hr] at ho
  exact ho.1 rfl
noncomputable def J0(κ:Kp):Env:=(J6 κ).aj 31 4 (aQ 0 NA Ho Dp)
theorem XE(κ:Kp):aC (J0 κ):=(Zl κ).aj (UJ κ) (X1 κ)
theorem UY(κ:Kp):ai (J0 κ):=(UJ κ).aj aG
abbrev Hl(x:zm):S:=sp 57 [(1, .ptr 0 0 [] 0),(38, .ae 41 x.rs),(39, .int x.rs.length),(40, .int x.i)] [NG x]
theorem Zr(κ:Kp)(x:zm)(I:Nat->S->Prop)(n:Nat)(K:Exit->S->Prop):(vc (J0 κ) 12 31 none 0 (ag (Pr κ).toProgram 31 11) (Hl x) (bI (J0 κ) 31 11 0 I n K))=(
 letI z1:=∃(e0:Nat),e0<n/\I e0 (sp 57 [(1,AV.ptr 0 0 [] 0),(38,AV.ae 41 x.rs),(39,AV.int (↑(x.rs.length):Int)),(40,AV.int (IntKind.wrap
  IntKind.i64 (x.i+(1:Int))))] [Obj.box 25 (AV.agg [AV.ae 62 x.ds,AV.ae 41 x.rs])])
 letI z2:=nth x.rs x.i.toNat
 letI z3:=x.i<(↑(x.rs.length):Int)
 letI z4:=toInt (ad z2 2)
 ax (decide z3) (aO (decide ((0:Int)<=x.i)&&decide z3) (∃(e1:QB),([AV.ae 62 x.ds,AV.agg [AV.agg [AV.str (toStr (ad (ad z2 0) 0)),AV.ae 52 (ah (ad (ad
 z2 0) 1))],AV.ae 55 (ah (ad z2 1)),AV.int z4]],aB)=([AV.ae 62 e1.1,an e1.2],aB)/\(e1.1.length<=9223372036854775807/\aM (aa (aH 52 e1.2.hl e1.2.bl))<=
 100000/\e1.2.bl.length<=100000)/\ax (eH e1.1 [an e1.2]) (ax (decide (Prod.fst (rr e1)=(0:Int))) z1 (ax (Prod.fst (rr e1) != (0:Int)) (K Exit.ret (sp 57
 [(2,AV.int z4),(3,AV.int (Prod.fst (rr e1)))] [])) z1)) (K Exit.ret (sp 57 [(2,AV.int z4),(3,AV.int 30)] [])))) (K (Exit.exit 2) (sp 57 [] []))):=by kernel_rfl
def yP(f:AV->Int)(x:zm):Int×Int:=D1 f (x.rs.drop x.i.toNat)
def qS(x:zm):Prop:=ig x.ds x.rs/\0<=x.i/\x.i<=x.rs.length
def Bg(x:zm):Out (Exit×S):= .ax (decide ((yP (jw x.ds) x).2=0)) (.one (.exit 2,sp 57 [] [])) (.one (.ret,sp 57 [(2, .int (yP (jw x.ds) x).1),(3, .int (yP (jw x.ds) x).2)] []))
theorem D3(f:AV->Int)(ds rs:List AV)(i:Int)(h0:0<=i)(hk:i.toNat<rs.length):yP f ⟨ds,rs,i⟩=bif decide (f (nth rs i.toNat)=0) then yP f ⟨ds,rs,i+1⟩ else(toInt (ad (nth rs i.toNat) 2),f (nth rs i.toNat)):=by
 unfold yP
 simp only[show(i+1).toNat=i.toNat+1 by omega]
 rw[ab1 hk,←a8 rs i.toNat hk,D1]
theorem EU(f:AV->Int)(ds rs:List AV)(i:Int)(h:rs.length<=i.toNat):yP f ⟨ds,rs,i⟩=(0,0):=by
 unfold yP
 simp only
 rw[aa8 h];rfl
theorem Vz(κ:Kp):bn (J0 κ) 12 31 11 (aQ 0 Hl qS Bg):=by
 refine aR (fun x=>x.rs.length - x.i.toNat) ?_
 rintro⟨ds,rs,i⟩ K ⟨h1,h2,h3⟩ ho
 simp only at h1 h2 h3
 rw[show(J0 κ).P=Pr κ from rfl]
 refine Eq.mpr (Zr κ ⟨ds,rs,i⟩ _ _ K) ?_
 have hml:=h1.2.1
 simp only[aP] at hml
 simp only[Bg,Out.run,af] at ho
 rw[af,aa0,aa2,au,aa1,aa0,aa0]
 refine⟨fun hi=>⟨⟨h2,hi⟩,(ds,bM (nth rs i.toNat)),rfl,⟨h1.1,?_⟩,?_⟩,fun hi=>?_⟩
 ·simp only at hi
  exact h1.2.2 _ (by rw[a8 _ _ (show i.toNat<rs.length by omega)];exact List.getElem_mem _)
 ·simp only at hi
  have hk:i.toNat<rs.length:=by omega
  rw[D3 _ _ _ _ h2 hk] at ho
  have next:jw ds (nth rs i.toNat)=0->∃m,m<rs.length - i.toNat/\fw Hl qS Bg (fun x=>x.rs.length - x.i.toNat) K m (Hl ⟨ds,rs,i+1⟩):=fun e=>by
   rw[e] at ho
   refine⟨_,?_,⟨ds,rs,i+1⟩,rfl,⟨h1,by simp only;omega,by simp only;omega⟩,rfl,?_⟩
   ·simp only;omega
   ·simp only[Bg,Out.run,af]
    exact ho
  have stop: ∀e:Int,jw ds (nth rs i.toNat)=e->e≠0->K .ret (sp 57 [(2, .int (toInt (ad (nth rs i.toNat) 2))),(3, .int e)] []):=fun e he h0=>by
   rw[he,aa4 h0] at ho
   exact ho.2 (aa4 h0)
  rw[a5 (n:=i+1) (by omega) (by omega)]
  have ht:jw ds (nth rs i.toNat)=bif eH ds [an (bM (nth rs i.toNat))] then(rr (ds,bM (nth rs i.toNat))).1 else 30:=rfl
  refine af.2 ⟨fun e1=>?_,fun e1=>?_⟩
  ·rw[e1,aa7] at ht
   refine af.2 ⟨fun e2=>next (by rw[ht];simpa using e2),fun e2=>?_⟩
   rw[aa2] at e2
   have:=stop _ ht e2
   simp only[GJ]
   refine af.2 ⟨fun _=>this,fun e3=>?_⟩
   rw[ab2,aa0] at e3
   exact absurd e3 e2
  ·rw[e1,aa5] at ht
   exact stop 30 ht (by decide)
 ·simp only at hi
  rw[EU _ _ _ _ (by omega)] at ho
  exact ho.1 rfl
noncomputable def PZ(κ:Kp):Env:=(J0 κ).aj 31 11 (aQ 0 Hl qS Bg)
theorem eC2(κ:Kp):aC (PZ κ):=(XE κ).aj (UY κ) (Vz κ)
theorem Um(κ:Kp):ai (PZ κ):=(UY κ).aj aG
theorem yCd(κ:Kp)(ds rs:List AV)(K:AV->List Dn.Obj->Prop):(bg (PZ κ) 12 31 [gz ds rs] [] K)=(
 letI z1:=Pg.toProgram (Env.P (J6 κ))
 letI z2:=Pg.toProgram (Env.P (J0 κ))
 aO (List.all rs gy) (ax (!eH ds rs) (K (AV.bp [AV.int 0,AV.int 30]) []) (ag z1 31 4=ag z1 31 4/\∃(e2:zm),sp 57 [(1,AV.ptr 0 0 [] 0),(16,AV.ae 62 ds),
 (17,AV.int (↑(ds.length):Int)),(18,AV.int 0)] [Obj.box 25 (AV.agg [AV.ae 62 ds,AV.ae 41 rs])]=sp 57 [(1,AV.ptr 0 0 [] 0),(16,AV.ae 62 e2.ds),(17,
 AV.int (↑(e2.ds.length):Int)),(18,AV.int e2.i)] [Obj.box 25 (AV.agg [AV.ae 62 e2.ds,AV.ae 41 e2.rs])]/\(e2.ds.length<=9223372036854775807/\(0:Int)<=
 e2.i/\e2.i<=(↑(e2.ds.length):Int))/\ax (decide (Prod.snd (GC e2)=(0:Int))) (ag z2 31 11=ag z2 31 11/\∃(e1:zm),sp 57 [(1,AV.ptr 0 0 [] 0),(38,
 AV.ae 41 e2.rs),(39,AV.int (↑(e2.rs.length):Int)),(40,AV.int 0)] [Obj.box 25 (AV.agg [AV.ae 62 e2.ds,AV.ae 41 e2.rs])]=sp 57 [(1,AV.ptr 0 0 [] 0),
 (38,AV.ae 41 e1.rs),(39,AV.int (↑(e1.rs.length):Int)),(40,AV.int e1.i)] [Obj.box 25 (AV.agg [AV.ae 62 e1.ds,AV.ae 41 e1.rs])]/\((e1.ds.length<=
 9223372036854775807/\e1.rs.length<=9223372036854775807/\∀(e0:AV),List.Mem e0 e1.rs->aM (aa (aH 52 (ba.hl (bM e0)) (ba.bl (bM e0))))<=100000/\
 List.length (ba.bl (bM e0))<=100000)/\(0:Int)<=e1.i/\e1.i<=(↑(e1.rs.length):Int))/\ax (decide (Prod.snd (yP (jw e1.ds) e1)=(0:Int))) (K (AV.bp
 [AV.int 0,AV.int 0]) []) (K (AV.bp [AV.int (Prod.fst (yP (jw e1.ds) e1)),AV.int (Prod.snd (yP (jw e1.ds) e1))]) [])) (K (AV.bp [AV.int (Prod.fst (GC e2)),
 AV.int (Prod.snd (GC e2))]) [])))):=by kernel_rfl
abbrev ga:=List AV×List AV
def La(x:ga):List AV×List Dn.Obj:=([gz x.1 x.2],[])
def yr(x:ga):Prop:=ig x.1 x.2
def HD(x:ga):Out (AV×List Dn.Obj):= .one (.bp [.int (sO x.1 x.2).1, .int (sO x.1 x.2).2],[])
theorem CQ(f:AV->Int): ∀l,(D1 f l).2=0->D1 f l=(0,0)
 |[],_=>rfl
 | x::l,h=>by
  rw[D1] at h⊢
  cases e:decide (f x=0) with
  |true=>rw[e,aa7] at h;exact CQ f l h
  |false=>
   rw[e,aa5] at h
   rw[aa2] at e
   exact absurd h e
theorem cCd(κ:Kp):bz (PZ κ) 12 31 (aZ La yr HD):=by
 refine bh ?_
 rintro⟨ds,rs⟩ K h1 ho
 have h1:ig ds rs:=h1
 refine Eq.mpr (yCd κ ds rs K) ?_
 simp only[HD,Out.run,sO] at ho
 refine au.2 ⟨Kd h1,af.2 ⟨fun e=>?_,fun e=>?_⟩⟩
 ·rw[show eH ds rs=false by simpa using e] at ho
  exact ho
 ·rw[show eH ds rs=true by simpa using e,aa7] at ho
  have e1:GC ⟨ds,rs,0⟩=MF ds ds 0:=rfl
  have e2:yP (jw ds) ⟨ds,rs,0⟩=D1 (jw ds) rs:=rfl
  refine⟨rfl,⟨ds,rs,0⟩,rfl,⟨h1.1,by simp only;omega,by simp only;omega⟩,?_⟩
  rw[e1]
  refine af.2 ⟨fun e3=>⟨rfl,⟨ds,rs,0⟩,rfl,⟨h1,by simp only;omega,by simp only;omega⟩,?_⟩,fun e3=>?_⟩
  ·rw[e3,aa7] at ho
   rw[e2]
   refine af.2 ⟨fun e4=>?_,fun e4=>ho⟩
   rw[aa0] at e4
   rw[CQ _ _ e4] at ho
   exact ho
  ·rw[e3,aa5] at ho
   exact ho
noncomputable def Kk(κ:Kp):Env:=(PZ κ).aw 31 (aZ La yr HD)
theorem eCd(κ:Kp):aC (Kk κ):=(eC2 κ).aw (Um κ) (cCd κ)
theorem TY(κ:Kp):ai (Kk κ):=(Um κ).aw aI
abbrev H7(x:zm):S:=sp 37 [(20, .ae 41 x.rs),(21, .int x.rs.length),(22, .int x.i)] []
theorem X3(κ:Kp)(x:zm)(I:Nat->S->Prop)(n:Nat)(K:Exit->S->Prop):(vc (Kk κ) 12 12 none 0 (ag (Pr κ).toProgram 12 5) (H7 x) (bI (Kk κ) 12 5 0 I n K))=(
 letI z1:=nth x.rs x.i.toNat
 letI z2:=x.i<(↑(x.rs.length):Int)
 letI z3:=toInt (ad z1 2)
 ax (decide z2) (aO (decide ((0:Int)<=x.i)&&decide z2) (∃(e1:ba),([AV.agg [AV.agg [AV.str (toStr (ad (ad z1 0) 0)),AV.ae 52 (ah (ad (ad z1 0) 1))],
 AV.ae 55 (ah (ad z1 1)),AV.int z3]],aB)=([an e1],aB)/\(aM (aa (aH 52 e1.hl e1.bl))<=100000/\e1.bl.length<=100000)/\ax (aU (aJ e1)) (ax (kc (aJ e1)) (∃
 (e0:Nat),e0<n/\I e0 (sp 37 [(20,AV.ae 41 x.rs),(21,AV.int (↑(x.rs.length):Int)),(22,AV.int (IntKind.wrap IntKind.i64 (x.i+(1:Int))))] [])) (K
 Exit.ret (sp 37 [(2,AV.int z3),(3,AV.int 60)] []))) (K Exit.ret (sp 37 [(2,AV.int z3),(3,AV.int 30)] [])))) (K (Exit.exit 0) (sp 37 [] []))):=by kernel_rfl
def AF(x:zm):Out (Exit×S):= .ax (decide ((yP kC x).2=0)) (.one (.exit 0,sp 37 [] [])) (.one (.ret,sp 37 [(2, .int (yP kC x).1),(3, .int (yP kC x).2)] []))
theorem W0(κ:Kp):bn (Kk κ) 12 12 5 (aQ 0 H7 qS AF):=by
 refine aR (fun x=>x.rs.length - x.i.toNat) ?_
 rintro⟨ds,rs,i⟩ K ⟨h1,h2,h3⟩ ho
 simp only at h1 h2 h3
 rw[show(Kk κ).P=Pr κ from rfl]
 refine Eq.mpr (X3 κ ⟨ds,rs,i⟩ _ _ K) ?_
 have hml:=h1.2.1
 simp only[aP] at hml
 simp only[AF,Out.run,af] at ho
 rw[af,aa0,aa2,au,aa1,aa0,aa0]
 refine⟨fun hi=>⟨⟨h2,hi⟩,bM (nth rs i.toNat),rfl,?_,?_⟩,fun hi=>?_⟩
 ·simp only at hi
  exact h1.2.2 _ (by rw[a8 _ _ (show i.toNat<rs.length by omega)];exact List.getElem_mem _)
 ·simp only at hi
  have hk:i.toNat<rs.length:=by omega
  rw[D3 _ _ _ _ h2 hk] at ho
  have next:kC (nth rs i.toNat)=0->∃m,m<rs.length - i.toNat/\fw H7 qS AF (fun x=>x.rs.length - x.i.toNat) K m (H7 ⟨ds,rs,i+1⟩):=fun e=>by
   rw[e] at ho
   refine⟨_,?_,⟨ds,rs,i+1⟩,rfl,⟨h1,by simp only;omega,by simp only;omega⟩,rfl,?_⟩
   ·simp only;omega
   ·simp only[AF,Out.run,af]
    exact ho
  have stop: ∀e:Int,kC (nth rs i.toNat)=e->e≠0->K .ret (sp 37 [(2, .int (toInt (ad (nth rs i.toNat) 2))),(3, .int e)] []):=fun e he h0=>by
   rw[he,aa4 h0] at ho
   exact ho.2 (aa4 h0)
  rw[a5 (n:=i+1) (by omega) (by omega)]
  have ht:kC (nth rs i.toNat)=bif aU (aJ (bM (nth rs i.toNat))) then bif kc (aJ (bM (nth rs i.toNat))) then 0 else 60 else 30:=rfl
  refine af.2 ⟨fun e1=>?_,fun e1=>?_⟩
  ·rw[e1,aa7] at ht
   refine af.2 ⟨fun e2=>next (by rw[ht,e2];rfl),fun e2=>stop 60 (by rw[ht,e2];rfl) (by decide)⟩
  ·rw[e1,aa5] at ht
   exact stop 30 ht (by decide)
 ·simp only at hi
  rw[EU _ _ _ _ (by omega)] at ho
  exact ho.1 rfl
noncomputable def QH(κ:Kp):Env:=(Kk κ).aj 12 5 (aQ 0 H7 qS AF)
theorem Yc(κ:Kp):aC (QH κ):=(eCd κ).aj (TY κ) (W0 κ)
theorem TS(κ:Kp):ai (QH κ):=(TY κ).aj aG
theorem YA(κ:Kp)(ds rs:List AV)(K:AV->List Dn.Obj->Prop):(bg (QH κ) 12 12 [gz ds rs] [] K)=(
 ∃(a:ga),([AV.agg [AV.ae 62 ds,AV.ae 41 rs]],aB)=([AV.agg [AV.ae 62 a.1,AV.ae 41 a.2]],aB)/\(a.1.length<=9223372036854775807/\a.2.length<=
 9223372036854775807/\∀(x:AV),List.Mem x a.2->aM (aa (aH 52 (ba.hl (bM x)) (ba.bl (bM x))))<=100000/\List.length (ba.bl (bM x))<=100000)
 /\ax (Prod.snd (sO a.1 a.2) != (0:Int)) (K (AV.bp [AV.int (Prod.fst (sO a.1 a.2)),AV.int (Prod.snd (sO a.1 a.2))]) []) (ag (Pg.toProgram
 (Env.P (Kk κ))) 12 5=ag (Pg.toProgram (Env.P (Kk κ))) 12 5/\∃(a:zm),sp 37 [(20,AV.ae 41 rs),(21,AV.int (↑(rs.length):Int)),(22,AV.int
 0)] []=sp 37 [(20,AV.ae 41 a.rs),(21,AV.int (↑(a.rs.length):Int)),(22,AV.int a.i)] []/\((a.ds.length<=9223372036854775807/\a.rs.length<=
 9223372036854775807/\∀(x:AV),List.Mem x a.rs->aM (aa (aH 52 (ba.hl (bM x)) (ba.bl (bM x))))<=100000/\List.length (ba.bl (bM x))<=
 100000)/\(0:Int)<=a.i/\a.i<=(↑(a.rs.length):Int))/\ax (decide (Prod.snd (yP kC a)=(0:Int))) (K (AV.bp [AV.int 0,AV.int 0]) []) (K (AV.bp
 [AV.int (Prod.fst (yP kC a)),AV.int (Prod.snd (yP kC a))]) []))):=by kernel_rfl
def Jn(x:ga):Out (AV×List Dn.Obj):= .one (.bp [.int (gg x.1 x.2).1, .int (gg x.1 x.2).2],[])
theorem WY(κ:Kp):bz (QH κ) 12 12 (aZ La yr Jn):=by
 refine bh ?_
 rintro⟨ds,rs⟩ K h1 ho
 have h1:ig ds rs:=h1
 refine Eq.mpr (YA κ ds rs K) ?_
 simp only[Jn,Out.run,gg] at ho
 refine⟨(ds,rs),rfl,h1,?_⟩
 simp only[GJ]
 have e2:yP kC ⟨ds,rs,0⟩=D1 kC rs:=rfl
 refine af.2 ⟨fun e=>?_,fun e=>?_⟩
 ·rw[show decide ((sO ds rs).2=0)=false by simpa using e] at ho
  exact ho
 ·rw[show decide ((sO ds rs).2=0)=true by simpa using e] at ho
  refine⟨trivial,⟨ds,rs,0⟩,rfl,⟨h1,by simp only;omega,by simp only;omega⟩,?_⟩
  rw[e2]
  refine af.2 ⟨fun e4=>?_,fun e4=>ho⟩
  rw[aa0] at e4
  rw[aa7,CQ _ _ e4] at ho
  exact ho
noncomputable def Qs(κ:Kp):Env:=(QH κ).aw 12 (aZ La yr Jn)
theorem eCs(κ:Kp):aC (Qs κ):=(Yc κ).aw (TS κ) (WY κ)
theorem Tq(κ:Kp):ai (Qs κ):=(TS κ).aw aI
end Go.Proofs.YtdpmikfheebicaaGreatDoor
