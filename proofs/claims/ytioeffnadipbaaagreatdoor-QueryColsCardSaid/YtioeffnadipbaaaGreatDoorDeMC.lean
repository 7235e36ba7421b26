import Derived.Test.YtioeffnadipbaaaGreatDoorDeMB
import Derived.Test.YtioeffnadipbaaaGreatDoorDeM8
import Derived.Test.YtioeffnadipbaaaGreatDoorDeM9
namespace Go.Proofs.YtioeffnadipbaaaGreatDoor
open Go Go.Dn Go.Rl Go.Proofs
attribute [local irreducible] ba vc
set_option maxRecDepth 20000
def Np:b7:=fun args st K=>match args,st with
 |[.ad 70 xs, .ad 3 cs, .ad 72 vs],[]=>aP (ki xs&&(decide (cs.length<=100000000)&&decide (vs.length<=100000000))) (K (.ad 70 (rws (qp (kj xs) cs vs))) [])
 |_,_=>False
theorem Ht:Np.ib:=fun args st K K' hK h=>by
 unfold Np at h⊢
 split at h
 ·exact cq (fun h=>hK _ _ h) h
 ·exact h.elim
theorem Tu(κ:Kp): ∀args st K,Np args st K->bD (Pr κ) 123 args st K:=fun args st K h=>by
 refine cZ (RD κ).ok (RD κ).mono (YI κ args st K ?_)
 unfold Np at h
 split at h
 ·rename_i xs cs vs
  obtain⟨h1,h2⟩:=ai.1 h
  simp only[aa1,aa0] at h1
  exact⟨⟨xs,cs,vs⟩,rfl,⟨h1.1,h1.2.1,h1.2.2⟩,h2⟩
 ·exact h.elim
def wy:AV->mI
 | .agg [.lit (.bool y), .lit (.int _ n), .lit (.string s)]=>⟨y,n,s⟩
 |_=>⟨false,0,ByteArray.mk #[]⟩
def Uo:List Value->List AV->pM
 | .string k::ks,v::vs=>(k,wy v)::Uo ks vs
 |_,_=>[]
def MD:b7:=fun args st K=>match args,st with
 |[.fJ 9 72 ks vs, .lit (.string s),v],[]=>(AV.fJ 9 72 ks vs=UM (Uo ks vs)/\v=wM (wy v))/\K (UM ((Uo ks vs).put s (wy v))) []
 |_,_=>False
theorem HA:MD.ib:=fun args st K K' hK h=>by
 unfold MD at h⊢
 split at h
 ·exact⟨h.1,hK _ _ h.2⟩
 ·exact h.elim
theorem RS(κ:Kp): ∀args st K,MD args st K->bD (Pr κ) 76 args st K:=fun args st K h=>by
 refine cZ (H6 κ).ok (H6 κ).mono (Zw κ args st K ?_)
 unfold MD at h
 split at h
 ·rename_i ks vs s v
  obtain⟨⟨h1,h2⟩,h3⟩:=h
  refine⟨⟨Uo ks vs,s,wy v⟩,?_,trivial,h3⟩
  rw[TM,←h1,←h2]
 ·exact h.elim
def Nm:b7:=fun args st K=>match args,st with
 |[.ad 70 xs],[]=>(xs=rws (kj xs)/\BB (kj xs))/\K (.ad 70 (rws (qt (kj xs)))) []
 |_,_=>False
theorem GS:Nm.ib:=fun args st K K' hK h=>by
 unfold Nm at h⊢
 split at h
 ·exact⟨h.1,hK _ _ h.2⟩
 ·exact h.elim
theorem TR(κ:Kp): ∀args st K,Nm args st K->bD (Pr κ) 36 args st K:=fun args st K h=>by
 refine cZ (Tc κ).ok (Tc κ).mono (X9 κ args st K ?_)
 unfold Nm at h
 split at h
 ·rename_i xs
  exact⟨kj xs,by rw[Q0,←h.1.1],h.1.2,h.2⟩
 ·exact h.elim
def LL:b7:=fun args st K=>match args,st with
 |[.agg [.ad 43 ds, .ad 48 rs]],[]=>mK ds rs/\K (.aX [.int (mo ds rs).1, .int (mo ds rs).2]) []
 |_,_=>False
theorem Hl:LL.ib:=fun args st K K' hK h=>by
 unfold LL at h⊢
 split at h
 ·exact⟨h.1,hK _ _ h.2⟩
 ·exact h.elim
theorem TK(κ:Kp): ∀args st K,LL args st K->bD (Pr κ) 31 args st K:=fun args st K h=>by
 refine cZ (Zc κ) (Xn κ) (Y2 κ args st K ?_)
 unfold LL at h
 split at h
 ·rename_i ds rs
  exact⟨(ds,rs),rfl,h.1,h.2⟩
 ·exact h.elim
def M8:b7:=fun args st K=>match args,st with
 |[.agg [.ad 43 ds, .ad 48 rs], .agg [.lit (.int .i64 r), .ad 40 ss, .ad 38 os, .lit (.int .i64 d)]],[]=>(vX ⟨ds,rs,⟨r,ss,os,d⟩,0⟩/\∃y,y∈rs/\ru ds ⟨r,ss,os,d⟩ y)/\K (.bool true) []
 |_,_=>False
theorem G8:M8.ib:=fun args st K K' hK h=>by
 unfold M8 at h⊢
 split at h
 ·exact⟨h.1,hK _ _ h.2⟩
 ·exact h.elim
theorem Sk(κ:Kp): ∀args st K,M8 args st K->bD (Pr κ) 33 args st K:=fun args st K h=>by
 refine cZ (Q5 κ).ok (Q5 κ).mono (YF κ args st K ?_)
 unfold M8 at h
 split at h
 ·rename_i ds rs r ss os d
  exact⟨⟨ds,rs,⟨r,ss,os,d⟩⟩,rfl,h.1.1,fun b hb=>by
   obtain rfl:=hb h.1.2
   exact h.2⟩
 ·exact h.elim
def Wp:List Nat:=[35,122]
noncomputable def YN(κ:Kp):EB:=EB.inline ((((((H6 κ).HV Ht (Tu κ)).HV HA (RS κ)).HV GS (TR κ)).HV Hl (TK κ)).HV G8 (Sk κ)) [35,74,75,73,124,77]
noncomputable def BU(κ:Kp):EB:=((((YN κ).lV (fun f=>gL f Wp) 12 9).lV (fun f=>gL f Wp) 12 9).lV (fun f=>gL f Wp) 12 9)
abbrev bx:ByteArray:=ByteArray.mk #[120]
abbrev b0:ByteArray:=ByteArray.mk #[]
def tVr:AV:= .agg [.int 1, .lit (.string bx), .int 0, .ad 38 []]
def tIx:AV:= .agg [.int 2, .lit (.string b0), .int 1, .ad 38 []]
def dE:AV:= .agg [.lit (.string (ByteArray.mk #[101])), .ad 9 [.lit (.string (ByteArray.mk #[97])), .lit (.string (ByteArray.mk #[98])), .lit (.string (ByteArray.mk #[99]))], .ad 3 [.int 1, .int 1, .int 1], .bool false, .bool false, .int 0]
def dP:AV:= .agg [.lit (.string (ByteArray.mk #[112])), .ad 9 [.lit (.string (ByteArray.mk #[97]))], .ad 3 [.int 1], .bool false, .bool false, .int 0]
def tz:AV:= .agg [.int 0, .lit (.string b0), .int 0, .ad 38 []]
def XH:AV:= .agg [.int 1, .lit (.string bx), .int 0, .nil]
def tIn:AV:= .agg [.int 2, .lit (.string b0), .int 1, .nil]
def Ye:AV:= .agg [.int 0, .lit (.string b0), .int 0, .nil]
def r1:AV:= .agg [.agg [.lit (.string (ByteArray.mk #[112])), .ad 38 [XH]], .ad 80 [.agg [.int 1, .agg [.lit (.string (ByteArray.mk #[101])), .ad 38 [XH,tIn,XH]],Ye,Ye]], .int 0]
def ss1:List AV:=[.agg [.int 1, .int 0, .int 0, .ad 3 [.int 1], .ad 38 [tIx], .ad 3 [.int 0], .ad 9 [.lit (.string bx)], .ad 3 [.int 2], .ad 9 [.lit (.string bx)], .lit (.string b0),tz,tz]]
abbrev q1:AV:= .agg [.int 1, .ad 40 ss1, .ad 38 [tVr], .int (-1)]
abbrev nv(n:Int):AV:= .agg [.bool false, .int n, .lit (.string b0)]
abbrev T8:AV:= .ad 51 [.ad 70 [.ad 72 [nv 2,nv 1,nv 2], .ad 72 [nv 2,nv 1,nv 3]], .nil]
abbrev W6:List AV:=[.ptr 0 0 [] 0, .int 0, .fJ 9 72 [] []]
abbrev VG:List Dn.Obj:=[.box 88 (.agg [q1,T8, .ad 70 [], .nil]), .dead]
abbrev YD:List Dn.Obj:=[.box 88 (.agg [q1,T8, .ad 70 [], .aB 2 0 1]), .dead, .row 70 [.ad 72 [nv 2]]]
theorem yGo(κ:Kp)(K:AV->List Dn.Obj->Prop):(ba (BU κ).E 12 35 W6 VG K)=(
 letI z2:=AV.agg [AV.int 1,AV.int 0,AV.int 0,AV.ad 3 [AV.int 1],AV.ad 38 [AV.agg [AV.int 2,AV.str b0,AV.int 1,AV.ad 38 []]],AV.ad 3 [AV.int 0],AV.ad 9
  [AV.str bx],AV.ad 3 [AV.int 2],AV.ad 9 [AV.str bx],AV.str b0,AV.agg [AV.int 0,AV.str b0,AV.int 0,AV.ad 38 []],AV.agg [AV.int 0,AV.str b0,AV.int 0,
  AV.ad 38 []]]
 letI z3:=AV.agg [AV.agg [AV.int 1,AV.ad 40 [AV.agg [AV.int 1,AV.int 0,AV.int 0,AV.ad 3 [AV.int 1],AV.ad 38 [AV.agg [AV.int 2,AV.str b0,AV.int 1,AV.ad
  38 []]],AV.ad 3 [AV.int 0],AV.ad 9 [AV.str bx],AV.ad 3 [AV.int 2],AV.ad 9 [AV.str bx],AV.str b0,AV.agg [AV.int 0,AV.str b0,AV.int 0,AV.ad 38 []],
  AV.agg [AV.int 0,AV.str b0,AV.int 0,AV.ad 38 []]]],AV.ad 38 [AV.agg [AV.int 1,AV.str bx,AV.int 0,AV.ad 38 []]],AV.int (-1)],AV.ad 51 [AV.ad 70 [AV.ad
  72 [AV.agg [AV.bool false,AV.int 2,AV.str b0],AV.agg [AV.bool false,AV.int 1,AV.str b0],AV.agg [AV.bool false,AV.int 2,AV.str b0]],AV.ad 72 [AV.agg
  [AV.bool false,AV.int 2,AV.str b0],AV.agg [AV.bool false,AV.int 1,AV.str b0],AV.agg [AV.bool false,AV.int 3,AV.str b0]]],AV.nil],AV.ad 70 [],AV.nil]
 letI z5:=wy (AV.agg [AV.bool false,AV.int 2,AV.str b0])
 letI z4:=AV.fJ 9 72 [] []=AV.fJ 9 72 [] []/\AV.agg [AV.bool false,AV.int 2,AV.str b0]=AV.agg [AV.bool false,AV.int (mI.n z5),AV.str (mI.s z5)]
 letI z6:=AV.ptr 0 0 [] 0
 letI z7:=AV.bq 74 [AV.ptr 2 0 [] 0,AV.ptr 3 0 [] 0]
 letI z1:=(Obj.box 88 z3=Obj.box 88 z3/\Obj.box 86 z6=Obj.box 86 z6/\Obj.box 3 (AV.int 0)=Obj.box 3 (AV.int 0)/\Obj.box 40 z2=Obj.box 40 z2/\
  Obj.box 131 z7=Obj.box 131 z7/\Obj.box 86 z6=Obj.box 86 z6/\Obj.box 3 (AV.int 0)=Obj.box 3 (AV.int 0)/\Obj.box 91 (AV.fJ 9 72 [] [])=Obj.box 91
  (AV.fJ 9 72 [] [])/\Obj.box 40 z2=Obj.box 40 z2/\True)/\z4/\z4/\K (AV.aX []) [Obj.box 88 (AV.agg [AV.agg [AV.int 1,AV.ad 40 [AV.agg [AV.int 1,AV.int 0,
  AV.int 0,AV.ad 3 [AV.int 1],AV.ad 38 [AV.agg [AV.int 2,AV.str b0,AV.int 1,AV.ad 38 []]],AV.ad 3 [AV.int 0],AV.ad 9 [AV.str bx],AV.ad 3 [AV.int 2],AV.ad
  9 [AV.str bx],AV.str b0,AV.agg [AV.int 0,AV.str b0,AV.int 0,AV.ad 38 []],AV.agg [AV.int 0,AV.str b0,AV.int 0,AV.ad 38 []]]],AV.ad 38 [AV.agg [AV.int
  1,AV.str bx,AV.int 0,AV.ad 38 []]],AV.int (-1)],AV.ad 51 [AV.ad 70 [AV.ad 72 [AV.agg [AV.bool false,AV.int 2,AV.str b0],AV.agg [AV.bool false,AV.int 1,
  AV.str b0],AV.agg [AV.bool false,AV.int 2,AV.str b0]],AV.ad 72 [AV.agg [AV.bool false,AV.int 2,AV.str b0],AV.agg [AV.bool false,AV.int 1,AV.str b0],
  AV.agg [AV.bool false,AV.int 3,AV.str b0]]],AV.nil],AV.ad 70 [],AV.aB 2 0 1]),Obj.dead,Obj.row 70 [AV.ad 72 [AV.agg [AV.bool false,AV.int (mI.n z5),
  AV.str (mI.s z5)]]]]
 z1/\z1/\z1):=by kernel_rfl
theorem U2(κ:Kp){K:AV->List Dn.Obj->Prop}(h:K (.aX []) YD):ba (BU κ).E 12 35 W6 VG K:=by
 refine Eq.mpr (yGo κ K) ?_
 repeat' (first|exact h|exact trivial|exact rfl|refine And.intro ?_ ?_)
def R3:b7:=fun args st K=>(args=W6/\st=VG)/\K (.aX []) YD
theorem G7:R3.ib:=fun _ _ _ _ hK h=>⟨h.1,hK _ _ h.2⟩
theorem SB(κ:Kp): ∀args st K,R3 args st K->bD (Pr κ) 35 args st K:=fun args st K h=>by
 obtain⟨⟨rfl,rfl⟩,h⟩:=h
 exact cZ (BU κ).ok (BU κ).mono (U2 κ h)
noncomputable def BV(κ:Kp):EB:=((YN κ).Fm [35]).frozen G7 (SB κ)
theorem yRu(κ:Kp)(K:AV->List Dn.Obj->Prop):(ba (BV κ).E 12 14 [mO [dE,dP] [r1],q1,T8, .ad 70 []] [] K)=(
 letI z1:=AV.agg [AV.agg [AV.int 1,AV.ad 40 [AV.agg [AV.int 1,AV.int 0,AV.int 0,AV.ad 3 [AV.int 1],AV.ad 38 [AV.agg [AV.int 2,AV.str b0,AV.int 1,AV.ad
  38 []]],AV.ad 3 [AV.int 0],AV.ad 9 [AV.str bx],AV.ad 3 [AV.int 2],AV.ad 9 [AV.str bx],AV.str b0,AV.agg [AV.int 0,AV.str b0,AV.int 0,AV.ad 38 []],
  AV.agg [AV.int 0,AV.str b0,AV.int 0,AV.ad 38 []]]],AV.ad 38 [AV.agg [AV.int 1,AV.str bx,AV.int 0,AV.ad 38 []]],AV.int (-1)],AV.ad 51 [AV.ad 70 [AV.ad
  72 [AV.agg [AV.bool false,AV.int 2,AV.str b0],AV.agg [AV.bool false,AV.int 1,AV.str b0],AV.agg [AV.bool false,AV.int 2,AV.str b0]],AV.ad 72 [AV.agg
  [AV.bool false,AV.int 2,AV.str b0],AV.agg [AV.bool false,AV.int 1,AV.str b0],AV.agg [AV.bool false,AV.int 3,AV.str b0]]],AV.nil],AV.ad 70 [],AV.nil]
 (2<=9223372036854775807/\1<=9223372036854775807/\∀(e0:AV),List.Mem e0 [AV.agg [AV.agg [AV.str {data:= #[OfNat.ofNat 112]},AV.ad 38 [AV.agg [AV.int 1,AV.str bx,AV.int 0,AV.nil]]],AV.ad 80 [AV.agg [AV.int 1,AV.agg [AV.str {data:= #[OfNat.ofNat 101]},AV.ad 38 [AV.agg [AV.int 1,AV.str bx,AV.int 0,AV.nil],AV.agg [AV.int 2,AV.str b0,AV.int 1,AV.nil],AV.agg [AV.int 1,AV.str bx,AV.int 0,AV.nil]]],AV.agg [AV.int 0,AV.str b0,AV.int 0,AV.nil],AV.agg [AV.int 0,AV.str b0,AV.int 0,AV.nil]]],AV.int 0]]->aI (aa (bh 38 (cf.hl (eW e0)) (cf.bl (eW e0))))<=100000/\List.length (cf.bl (eW e0))<=100000)/\((2<=9223372036854775807/\1<=100000/\∀(e0:AV),List.Mem e0 [AV.agg [AV.agg [AV.str {data:= #[OfNat.ofNat 112]},AV.ad 38 [AV.agg [AV.int 1,AV.str bx,AV.int 0,AV.nil]]],AV.ad 80 [AV.agg [AV.int 1,AV.agg [AV.str {data:= #[OfNat.ofNat 101]},AV.ad 38 [AV.agg [AV.int 1,AV.str bx,AV.int 0,AV.nil],AV.agg [AV.int 2,AV.str b0,AV.int 1,AV.nil],AV.agg [AV.int 1,AV.str bx,AV.int 0,AV.nil]]],AV.agg [AV.int 0,AV.str b0,AV.int 0,AV.nil],AV.agg [AV.int 0,AV.str b0,AV.int 0,AV.nil]]],AV.int 0]]->Ln (eW e0))/\∃(e0:AV),List.Mem e0 [AV.agg [AV.agg [AV.str {data:= #[OfNat.ofNat 112]},AV.ad 38 [AV.agg [AV.int 1,AV.str bx,AV.int 0,AV.nil]]],AV.ad 80 [AV.agg [AV.int 1,AV.agg [AV.str {data:= #[OfNat.ofNat 101]},AV.ad 38 [AV.agg [AV.int 1,AV.str bx,AV.int 0,AV.nil],AV.agg [AV.int 2,AV.str b0,AV.int 1,AV.nil],AV.agg [AV.int 1,AV.str bx,AV.int 0,AV.nil]]],AV.agg [AV.int 0,AV.str b0,AV.int 0,AV.nil],AV.agg [AV.int 0,AV.str b0,AV.int 0,AV.nil]]],AV.int 0]]/\QD.rel (dx [AV.agg [AV.str {data:= #[OfNat.ofNat 101]},AV.ad 9 [AV.str {data:= #[OfNat.ofNat 97]},AV.str {data:= #[OfNat.ofNat 98]},AV.str {data:= #[OfNat.ofNat 99]}],AV.ad 3 [AV.int 1,AV.int 1,AV.int 1],AV.bool false,AV.bool false,AV.int 0],AV.agg [AV.str {data:= #[OfNat.ofNat 112]},AV.ad 9 [AV.str {data:= #[OfNat.ofNat 97]}],AV.ad 3 [AV.int 1],AV.bool false,AV.bool false,AV.int 0]] (eW e0))=(1:Int)/\aa (QD.out (dx [AV.agg [AV.str {data:= #[OfNat.ofNat 101]},AV.ad 9 [AV.str {data:= #[OfNat.ofNat 97]},AV.str {data:= #[OfNat.ofNat 98]},AV.str {data:= #[OfNat.ofNat 99]}],AV.ad 3 [AV.int 1,AV.int 1,AV.int 1],AV.bool false,AV.bool false,AV.int 0],AV.agg [AV.str {data:= #[OfNat.ofNat 112]},AV.ad 9 [AV.str {data:= #[OfNat.ofNat 97]}],AV.ad 3 [AV.int 1],AV.bool false,AV.bool false,AV.int 0]] (eW e0)))=[cI (AV.agg [AV.int 1,AV.str bx,AV.int 0,AV.ad 38 []])]/\List.map r8 (QD.steps (dx [AV.agg [AV.str {data:= #[OfNat.ofNat 101]},AV.ad 9 [AV.str {data:= #[OfNat.ofNat 97]},AV.str {data:= #[OfNat.ofNat 98]},AV.str {data:= #[OfNat.ofNat 99]}],AV.ad 3 [AV.int 1,AV.int 1,AV.int 1],AV.bool false,AV.bool false,AV.int 0],AV.agg [AV.str {data:= #[OfNat.ofNat 112]},AV.ad 9 [AV.str {data:= #[OfNat.ofNat 97]}],AV.ad 3 [AV.int 1],AV.bool false,AV.bool false,AV.int 0]] (eW e0)))=[r8 (AV.agg [AV.int 1,AV.int 0,AV.int 0,AV.ad 3 [AV.int 1],AV.ad 38 [AV.agg [AV.int 2,AV.str b0,AV.int 1,AV.ad 38 []]],AV.ad 3 [AV.int 0],AV.ad 9 [AV.str bx],AV.ad 3 [AV.int 2],AV.ad 9 [AV.str bx],AV.str b0,AV.agg [AV.int 0,AV.str b0,AV.int 0,AV.ad 38 []],AV.agg [AV.int 0,AV.str b0,AV.int 0,AV.ad 38 []]])])/\([AV.ptr 0 0 [] 0,AV.int 0,AV.fJ 9 72 [] []]=[AV.ptr 0 0 [] 0,AV.int 0,AV.fJ 9 72 [] []]/\[Obj.box 88 z1,Obj.dead]=[Obj.box 88 z1,Obj.dead])/\([AV.ad 72 [AV.agg [AV.bool false,AV.int 2,AV.str b0]]]=[AV.ad 72 [AV.agg [AV.bool false,AV.int 2,AV.str b0]]]/\BB [[AV.agg [AV.bool false,AV.int 2,AV.str b0]]])/\K (AV.aX [AV.ad 70 [AV.ad 72 [AV.agg [AV.bool false,AV.int 2,AV.str b0]]],AV.int 0]) []):=by kernel_rfl
theorem SI:Ln (eW r1):=⟨⟨of_decide_eq_true (by kernel_rfl),of_decide_eq_true (by kernel_rfl)⟩,by kernel_rfl,by kernel_rfl⟩
theorem Wo:BB [[nv 2]]:=⟨by decide,fun r hr=>by obtain rfl:=List.mem_singleton.1 hr;decide,fun r hr v hv=>by obtain rfl:=List.mem_singleton.1 hr;obtain rfl:=List.mem_singleton.1 hv;exact⟨rfl,rfl⟩⟩
theorem Tv(κ:Kp){K:AV->List Dn.Obj->Prop}(h:K (.aX [.ad 70 [.ad 72 [nv 2]], .int 0]) []):ba (BV κ).E 12 14 [mO [dE,dP] [r1],q1,T8, .ad 70 []] [] K:=by
 refine Eq.mpr (yRu κ K) ⟨⟨by omega,by omega,fun x hx=>?_⟩,⟨⟨by omega,by omega,fun r hr=>?_⟩,r1,List.mem_singleton.2 rfl,?_,?_,?_⟩,?_⟩
 ·obtain rfl:=List.mem_singleton.1 hx
  exact⟨of_decide_eq_true (by kernel_rfl),of_decide_eq_true (by kernel_rfl)⟩
 ·obtain rfl:=List.mem_singleton.1 hr
  exact SI
 ·kernel_rfl
 ·kernel_rfl
 ·kernel_rfl
 ·repeat' (first|exact h|exact trivial|exact rfl|refine And.intro ?_ ?_)
  exact Wo
def Hn{α:Type}:List α->Prop
 |[]=>True
 |_::_=>False
theorem qh{α:Type}{l:List α}(h:Hn l):l=[]:=by cases l with|nil=>rfl|cons=>exact h.elim
def R9:b7:=fun args st K=>(args=[mO [dE,dP] [r1],q1,T8, .ad 70 []]/\Hn st)/\K (.aX [.ad 70 [.ad 72 [nv 2]], .int 0]) []
theorem HJ:R9.ib:=fun _ _ _ _ hK h=>⟨h.1,hK _ _ h.2⟩
theorem QJ(κ:Kp): ∀args st K,R9 args st K->bD (Pr κ) 14 args st K:=fun args st K h=>by
 obtain⟨⟨h1,h2⟩,h⟩:=h
 obtain rfl:=qh h2
 obtain rfl:=h1
 exact cZ (BV κ).ok (BV κ).mono (Tv κ h)
def SU:b7:=fun args st K=>(args=[mO [dE,dP] [r1], .int 0]/\Hn st)/\K (.aX [q1, .int 0]) []
theorem Hj:SU.ib:=fun _ _ _ _ hK h=>⟨h.1,hK _ _ h.2⟩
theorem Uc:qA (dx [dE,dP] (eW r1))=q1:=by kernel_rfl
theorem OT:mK [dE,dP] [r1]:=⟨by decide,by decide,fun x hx=>by obtain rfl:=List.mem_singleton.1 hx;exact SI.s⟩
theorem Rv(κ:Kp): ∀args st K,SU args st K->bD (Pr κ) 13 args st K:=fun args st K h=>by
 obtain⟨⟨h1,h2⟩,h⟩:=h
 obtain rfl:=qh h2
 obtain rfl:=h1
 refine cZ (Sm κ).ok (Sm κ).mono (Yc κ _ _ K ?_)
 refine⟨⟨[dE,dP],[r1],0⟩,rfl,OT,?_⟩
 rw[JV,show decide (Ca [dE,dP] [r1] 0 0 ([r1]:List AV).length=0)=true by kernel_rfl]
 simp only[Out.run,aw]
 rw[show(nth ([r1]:List AV) (0:Int).toNat)=r1 from rfl,Uc]
 exact h
noncomputable def Wt(κ:Kp):EB:=EB.inline (PE κ) [58]
theorem yOn(κ:Kp)(K:AV->List Dn.Obj->Prop):(ba (Wt κ).E 12 28 [] [] K)=(
 letI z1:=AV.agg [AV.ad 43 [AV.agg [AV.str {data:= #[OfNat.ofNat 101]},AV.ad 9 [AV.str {data:= #[OfNat.ofNat 97]},AV.str {data:= #[OfNat.ofNat 98]},AV.str {data:= #[OfNat.ofNat 99]}],AV.ad 3 [AV.int 1,AV.int 1,AV.int 1],AV.bool false,AV.bool false,AV.int 0],AV.agg [AV.str {data:= #[OfNat.ofNat 112]},AV.ad 9 [AV.str {data:= #[OfNat.ofNat 97]}],AV.ad 3 [AV.int 1],AV.bool false,AV.bool false,AV.int 0]],AV.ad 48 [AV.agg [AV.agg [AV.str {data:= #[OfNat.ofNat 112]},AV.ad 38 [AV.agg [AV.int 1,AV.str {data:= #[OfNat.ofNat 120]},AV.int 0,AV.nil]]],AV.ad 80 [AV.agg [AV.int 1,AV.agg [AV.str {data:= #[OfNat.ofNat 101]},AV.ad 38 [AV.agg [AV.int 1,AV.str {data:= #[OfNat.ofNat 120]},AV.int 0,AV.nil],AV.agg [AV.int 2,AV.str {data:= #[]},AV.int 1,AV.nil],AV.agg [AV.int 1,AV.str {data:= #[OfNat.ofNat 120]},AV.int 0,AV.nil]]],AV.agg [AV.int 0,AV.str {data:= #[]},AV.int 0,AV.nil],AV.agg [AV.int 0,AV.str {data:= #[]},AV.int 0,AV.nil]]],AV.int 0]]]
 (K (AV.agg [AV.ad 43 [AV.agg [AV.str {data:= #[OfNat.ofNat 101]},AV.ad 9 [AV.str {data:= #[OfNat.ofNat 97]},AV.str {data:= #[OfNat.ofNat 98]},AV.str {data:= #[OfNat.ofNat 99]}],AV.ad 3 [AV.int 1,AV.int 1,AV.int 1],AV.bool false,AV.bool false,AV.int 0],AV.agg [AV.str {data:= #[OfNat.ofNat 112]},AV.ad 9 [AV.str {data:= #[OfNat.ofNat 97]}],AV.ad 3 [AV.int 1],AV.bool false,AV.bool false,AV.int 0]],AV.ad 48 [AV.agg [AV.agg [AV.str {data:= #[OfNat.ofNat 112]},AV.ad 38 [AV.agg [AV.int 1,AV.str {data:= #[OfNat.ofNat 120]},AV.int 0,AV.nil]]],AV.ad 80 [AV.agg [AV.int 1,AV.agg [AV.str {data:= #[OfNat.ofNat 101]},AV.ad 38 [AV.agg [AV.int 1,AV.str {data:= #[OfNat.ofNat 120]},AV.int 0,AV.nil],AV.agg [AV.int 2,AV.str {data:= #[]},AV.int 1,AV.nil],AV.agg [AV.int 1,AV.str {data:= #[OfNat.ofNat 120]},AV.int 0,AV.nil]]],AV.agg [AV.int 0,AV.str {data:= #[]},AV.int 0,AV.nil],AV.agg [AV.int 0,AV.str {data:= #[]},AV.int 0,AV.nil]]],AV.int 0]]]) []/\K z1 [])/\(K z1 []/\K z1 [])/\K z1 []):=by kernel_rfl
noncomputable def WS(κ:Kp):EB:=((PE κ).lV (fun f=>gL f [16]) 12 9).lV (fun f=>gL f [16]) 12 9
theorem ySa(κ:Kp)(K:AV->List Dn.Obj->Prop):(ba (WS κ).E 12 16 [.ad 70 [.ad 72 [nv 2]], .ad 70 [.ad 72 [nv 2]]] [] K)=(
 K (AV.bool true) []):=by kernel_rfl
def TX:b7:=fun args st K=>(Hn args/\Hn st)/\K (.agg [.ad 43 [dE,dP], .ad 48 [r1]]) []
theorem GR:TX.ib:=fun _ _ _ _ hK h=>⟨h.1,hK _ _ h.2⟩
theorem Rd(κ:Kp): ∀args st K,TX args st K->bD (Pr κ) 28 args st K:=fun args st K h=>by
 obtain⟨⟨h1,h2⟩,h⟩:=h
 obtain rfl:=qh h2
 obtain rfl:=qh h1
 refine cZ (Wt κ).ok (Wt κ).mono (Eq.mpr (yOn κ K) ?_)
 repeat' (first|exact h|exact trivial|exact rfl|refine And.intro ?_ ?_)
def TV:b7:=fun args st K=>(args=[.ad 70 [.ad 72 [nv 2]], .ad 70 [.ad 72 [nv 2]]]/\Hn st)/\K (.bool true) []
theorem F8:TV.ib:=fun _ _ _ _ hK h=>⟨h.1,hK _ _ h.2⟩
theorem QG(κ:Kp): ∀args st K,TV args st K->bD (Pr κ) 16 args st K:=fun args st K h=>by
 obtain⟨⟨h1,h2⟩,h⟩:=h
 obtain rfl:=qh h2
 obtain rfl:=h1
 exact cZ (WS κ).ok (WS κ).mono (Eq.mpr (ySa κ K) h)
def EB.disown(b:EB)(l:List Nat):EB:=⟨{b.E with own:=fun f=>!gL f l&&b.E.own f},⟨b.ok.prog,b.ok.fu,b.ok.call,b.ok.kW,b.ok.loop⟩,⟨b.mono.call,b.mono.loop,b.mono.kW⟩⟩
noncomputable def SM(κ:Kp):EB:=EB.disown (((((PE κ).HV HJ (QJ κ)).HV Hj (Rv κ)).HV GR (Rd κ)).HV F8 (QG κ)) [13]
theorem ySh(κ:Kp)(K:AV->List Dn.Obj->Prop):(ba (SM κ).E 12 11 [] [] K)=(
 letI z1:=True/\True
 z1/\([AV.agg [AV.ad 43 [AV.agg [AV.str {data:= #[OfNat.ofNat 101]},AV.ad 9 [AV.str {data:= #[OfNat.ofNat 97]},AV.str {data:= #[OfNat.ofNat 98]},AV.str {data:= #[OfNat.ofNat 99]}],AV.ad 3 [AV.int 1,AV.int 1,AV.int 1],AV.bool false,AV.bool false,AV.int 0],AV.agg [AV.str {data:= #[OfNat.ofNat 112]},AV.ad 9 [AV.str {data:= #[OfNat.ofNat 97]}],AV.ad 3 [AV.int 1],AV.bool false,AV.bool false,AV.int 0]],AV.ad 48 [AV.agg [AV.agg [AV.str {data:= #[OfNat.ofNat 112]},AV.ad 38 [AV.agg [AV.int 1,AV.str bx,AV.int 0,AV.nil]]],AV.ad 80 [AV.agg [AV.int 1,AV.agg [AV.str {data:= #[OfNat.ofNat 101]},AV.ad 38 [AV.agg [AV.int 1,AV.str bx,AV.int 0,AV.nil],AV.agg [AV.int 2,AV.str b0,AV.int 1,AV.nil],AV.agg [AV.int 1,AV.str bx,AV.int 0,AV.nil]]],AV.agg [AV.int 0,AV.str b0,AV.int 0,AV.nil],AV.agg [AV.int 0,AV.str b0,AV.int 0,AV.nil]]],AV.int 0]]],AV.int 0]=[AV.agg [AV.ad 43 [AV.agg [AV.str {data:= #[OfNat.ofNat 101]},AV.ad 9 [AV.str {data:= #[OfNat.ofNat 97]},AV.str {data:= #[OfNat.ofNat 98]},AV.str {data:= #[OfNat.ofNat 99]}],AV.ad 3 [AV.int 1,AV.int 1,AV.int 1],AV.bool false,AV.bool false,AV.int 0],AV.agg [AV.str {data:= #[OfNat.ofNat 112]},AV.ad 9 [AV.str {data:= #[OfNat.ofNat 97]}],AV.ad 3 [AV.int 1],AV.bool false,AV.bool false,AV.int 0]],AV.ad 48 [AV.agg [AV.agg [AV.str {data:= #[OfNat.ofNat 112]},AV.ad 38 [AV.agg [AV.int 1,AV.str bx,AV.int 0,AV.nil]]],AV.ad 80 [AV.agg [AV.int 1,AV.agg [AV.str {data:= #[OfNat.ofNat 101]},AV.ad 38 [AV.agg [AV.int 1,AV.str bx,AV.int 0,AV.nil],AV.agg [AV.int 2,AV.str b0,AV.int 1,AV.nil],AV.agg [AV.int 1,AV.str bx,AV.int 0,AV.nil]]],AV.agg [AV.int 0,AV.str b0,AV.int 0,AV.nil],AV.agg [AV.int 0,AV.str b0,AV.int 0,AV.nil]]],AV.int 0]]],AV.int 0]/\True)/\(z1/\([AV.agg [AV.ad 43 [AV.agg [AV.str {data:= #[OfNat.ofNat 101]},AV.ad 9 [AV.str {data:= #[OfNat.ofNat 97]},AV.str {data:= #[OfNat.ofNat 98]},AV.str {data:= #[OfNat.ofNat 99]}],AV.ad 3 [AV.int 1,AV.int 1,AV.int 1],AV.bool false,AV.bool false,AV.int 0],AV.agg [AV.str {data:= #[OfNat.ofNat 112]},AV.ad 9 [AV.str {data:= #[OfNat.ofNat 97]}],AV.ad 3 [AV.int 1],AV.bool false,AV.bool false,AV.int 0]],AV.ad 48 [AV.agg [AV.agg [AV.str {data:= #[OfNat.ofNat 112]},AV.ad 38 [AV.agg [AV.int 1,AV.str bx,AV.int 0,AV.nil]]],AV.ad 80 [AV.agg [AV.int 1,AV.agg [AV.str {data:= #[OfNat.ofNat 101]},AV.ad 38 [AV.agg [AV.int 1,AV.str bx,AV.int 0,AV.nil],AV.agg [AV.int 2,AV.str b0,AV.int 1,AV.nil],AV.agg [AV.int 1,AV.str bx,AV.int 0,AV.nil]]],AV.agg [AV.int 0,AV.str b0,AV.int 0,AV.nil],AV.agg [AV.int 0,AV.str b0,AV.int 0,AV.nil]]],AV.int 0]]],AV.agg [AV.int 1,AV.ad 40 [AV.agg [AV.int 1,AV.int 0,AV.int 0,AV.ad 3 [AV.int 1],AV.ad 38 [AV.agg [AV.int 2,AV.str b0,AV.int 1,AV.ad 38 []]],AV.ad 3 [AV.int 0],AV.ad 9 [AV.str bx],AV.ad 3 [AV.int 2],AV.ad 9 [AV.str bx],AV.str b0,AV.agg [AV.int 0,AV.str b0,AV.int 0,AV.ad 38 []],AV.agg [AV.int 0,AV.str b0,AV.int 0,AV.ad 38 []]]],AV.ad 38 [AV.agg [AV.int 1,AV.str bx,AV.int 0,AV.ad 38 []]],AV.int (-1)],AV.ad 51 [AV.ad 70 [AV.ad 72 [AV.agg [AV.bool false,AV.int 2,AV.str {data:= #[]}],AV.agg [AV.bool false,AV.int 1,AV.str {data:= #[]}],AV.agg [AV.bool false,AV.int 2,AV.str {data:= #[]}]],AV.ad 72 [AV.agg [AV.bool false,AV.int 2,AV.str {data:= #[]}],AV.agg [AV.bool false,AV.int 1,AV.str {data:= #[]}],AV.agg [AV.bool false,AV.int 3,AV.str {data:= #[]}]]],AV.nil],AV.ad 70 []]=[AV.agg [AV.ad 43 [AV.agg [AV.str {data:= #[OfNat.ofNat 101]},AV.ad 9 [AV.str {data:= #[OfNat.ofNat 97]},AV.str {data:= #[OfNat.ofNat 98]},AV.str {data:= #[OfNat.ofNat 99]}],AV.ad 3 [AV.int 1,AV.int 1,AV.int 1],AV.bool false,AV.bool false,AV.int 0],AV.agg [AV.str {data:= #[OfNat.ofNat 112]},AV.ad 9 [AV.str {data:= #[OfNat.ofNat 97]}],AV.ad 3 [AV.int 1],AV.bool false,AV.bool false,AV.int 0]],AV.ad 48 [AV.agg [AV.agg [AV.str {data:= #[OfNat.ofNat 112]},AV.ad 38 [AV.agg [AV.int 1,AV.str bx,AV.int 0,AV.nil]]],AV.ad 80 [AV.agg [AV.int 1,AV.agg [AV.str {data:= #[OfNat.ofNat 101]},AV.ad 38 [AV.agg [AV.int 1,AV.str bx,AV.int 0,AV.nil],AV.agg [AV.int 2,AV.str b0,AV.int 1,AV.nil],AV.agg [AV.int 1,AV.str bx,AV.int 0,AV.nil]]],AV.agg [AV.int 0,AV.str b0,AV.int 0,AV.nil],AV.agg [AV.int 0,AV.str b0,AV.int 0,AV.nil]]],AV.int 0]]],AV.agg [AV.int 1,AV.ad 40 [AV.agg [AV.int 1,AV.int 0,AV.int 0,AV.ad 3 [AV.int 1],AV.ad 38 [AV.agg [AV.int 2,AV.str b0,AV.int 1,AV.ad 38 []]],AV.ad 3 [AV.int 0],AV.ad 9 [AV.str bx],AV.ad 3 [AV.int 2],AV.ad 9 [AV.str bx],AV.str b0,AV.agg [AV.int 0,AV.str b0,AV.int 0,AV.ad 38 []],AV.agg [AV.int 0,AV.str b0,AV.int 0,AV.ad 38 []]]],AV.ad 38 [AV.agg [AV.int 1,AV.str bx,AV.int 0,AV.ad 38 []]],AV.int (-1)],AV.ad 51 [AV.ad 70 [AV.ad 72 [AV.agg [AV.bool false,AV.int 2,AV.str b0],AV.agg [AV.bool false,AV.int 1,AV.str b0],AV.agg [AV.bool false,AV.int 2,AV.str b0]],AV.ad 72 [AV.agg [AV.bool false,AV.int 2,AV.str b0],AV.agg [AV.bool false,AV.int 1,AV.str b0],AV.agg [AV.bool false,AV.int 3,AV.str b0]]],AV.nil],AV.ad 70 []]/\True)/\([AV.ad 70 [AV.ad 72 [AV.agg [AV.bool false,AV.int 2,AV.str b0]]],AV.ad 70 [AV.ad 72 [AV.agg [AV.bool false,AV.int 2,AV.str {data:= #[]}]]]]=[AV.ad 70 [AV.ad 72 [AV.agg [AV.bool false,AV.int 2,AV.str b0]]],AV.ad 70 [AV.ad 72 [AV.agg [AV.bool false,AV.int 2,AV.str b0]]]]/\True)/\K (AV.bool true) [])/\z1/\([AV.agg [AV.ad 43 [AV.agg [AV.str {data:= #[OfNat.ofNat 101]},AV.ad 9 [AV.str {data:= #[OfNat.ofNat 97]},AV.str {data:= #[OfNat.ofNat 98]},AV.str {data:= #[OfNat.ofNat 99]}],AV.ad 3 [AV.int 1,AV.int 1,AV.int 1],AV.bool false,AV.bool false,AV.int 0],AV.agg [AV.str {data:= #[OfNat.ofNat 112]},AV.ad 9 [AV.str {data:= #[OfNat.ofNat 97]}],AV.ad 3 [AV.int 1],AV.bool false,AV.bool false,AV.int 0]],AV.ad 48 [AV.agg [AV.agg [AV.str {data:= #[OfNat.ofNat 112]},AV.ad 38 [AV.agg [AV.int 1,AV.str bx,AV.int 0,AV.nil]]],AV.ad 80 [AV.agg [AV.int 1,AV.agg [AV.str {data:= #[OfNat.ofNat 101]},AV.ad 38 [AV.agg [AV.int 1,AV.str bx,AV.int 0,AV.nil],AV.agg [AV.int 2,AV.str b0,AV.int 1,AV.nil],AV.agg [AV.int 1,AV.str bx,AV.int 0,AV.nil]]],AV.agg [AV.int 0,AV.str b0,AV.int 0,AV.nil],AV.agg [AV.int 0,AV.str b0,AV.int 0,AV.nil]]],AV.int 0]]],AV.agg [AV.int 1,AV.ad 40 [AV.agg [AV.int 1,AV.int 0,AV.int 0,AV.ad 3 [AV.int 1],AV.ad 38 [AV.agg [AV.int 2,AV.str b0,AV.int 1,AV.ad 38 []]],AV.ad 3 [AV.int 0],AV.ad 9 [AV.str bx],AV.ad 3 [AV.int 2],AV.ad 9 [AV.str bx],AV.str b0,AV.agg [AV.int 0,AV.str b0,AV.int 0,AV.ad 38 []],AV.agg [AV.int 0,AV.str b0,AV.int 0,AV.ad 38 []]]],AV.ad 38 [AV.agg [AV.int 1,AV.str bx,AV.int 0,AV.ad 38 []]],AV.int (-1)],AV.ad 51 [AV.ad 70 [AV.ad 72 [AV.agg [AV.bool false,AV.int 2,AV.str {data:= #[]}],AV.agg [AV.bool false,AV.int 1,AV.str {data:= #[]}],AV.agg [AV.bool false,AV.int 2,AV.str {data:= #[]}]],AV.ad 72 [AV.agg [AV.bool false,AV.int 2,AV.str {data:= #[]}],AV.agg [AV.bool false,AV.int 1,AV.str {data:= #[]}],AV.agg [AV.bool false,AV.int 3,AV.str {data:= #[]}]]],AV.nil],AV.ad 70 []]=[AV.agg [AV.ad 43 [AV.agg [AV.str {data:= #[OfNat.ofNat 101]},AV.ad 9 [AV.str {data:= #[OfNat.ofNat 97]},AV.str {data:= #[OfNat.ofNat 98]},AV.str {data:= #[OfNat.ofNat 99]}],AV.ad 3 [AV.int 1,AV.int 1,AV.int 1],AV.bool false,AV.bool false,AV.int 0],AV.agg [AV.str {data:= #[OfNat.ofNat 112]},AV.ad 9 [AV.str {data:= #[OfNat.ofNat 97]}],AV.ad 3 [AV.int 1],AV.bool false,AV.bool false,AV.int 0]],AV.ad 48 [AV.agg [AV.agg [AV.str {data:= #[OfNat.ofNat 112]},AV.ad 38 [AV.agg [AV.int 1,AV.str bx,AV.int 0,AV.nil]]],AV.ad 80 [AV.agg [AV.int 1,AV.agg [AV.str {data:= #[OfNat.ofNat 101]},AV.ad 38 [AV.agg [AV.int 1,AV.str bx,AV.int 0,AV.nil],AV.agg [AV.int 2,AV.str b0,AV.int 1,AV.nil],AV.agg [AV.int 1,AV.str bx,AV.int 0,AV.nil]]],AV.agg [AV.int 0,AV.str b0,AV.int 0,AV.nil],AV.agg [AV.int 0,AV.str b0,AV.int 0,AV.nil]]],AV.int 0]]],AV.agg [AV.int 1,AV.ad 40 [AV.agg [AV.int 1,AV.int 0,AV.int 0,AV.ad 3 [AV.int 1],AV.ad 38 [AV.agg [AV.int 2,AV.str b0,AV.int 1,AV.ad 38 []]],AV.ad 3 [AV.int 0],AV.ad 9 [AV.str bx],AV.ad 3 [AV.int 2],AV.ad 9 [AV.str bx],AV.str b0,AV.agg [AV.int 0,AV.str b0,AV.int 0,AV.ad 38 []],AV.agg [AV.int 0,AV.str b0,AV.int 0,AV.ad 38 []]]],AV.ad 38 [AV.agg [AV.int 1,AV.str bx,AV.int 0,AV.ad 38 []]],AV.int (-1)],AV.ad 51 [AV.ad 70 [AV.ad 72 [AV.agg [AV.bool false,AV.int 2,AV.str b0],AV.agg [AV.bool false,AV.int 1,AV.str b0],AV.agg [AV.bool false,AV.int 2,AV.str b0]],AV.ad 72 [AV.agg [AV.bool false,AV.int 2,AV.str b0],AV.agg [AV.bool false,AV.int 1,AV.str b0],AV.agg [AV.bool false,AV.int 3,AV.str b0]]],AV.nil],AV.ad 70 []]/\True)/\([AV.ad 70 [AV.ad 72 [AV.agg [AV.bool false,AV.int 2,AV.str b0]]],AV.ad 70 [AV.ad 72 [AV.agg [AV.bool false,AV.int 2,AV.str {data:= #[]}]]]]=[AV.ad 70 [AV.ad 72 [AV.agg [AV.bool false,AV.int 2,AV.str b0]]],AV.ad 70 [AV.ad 72 [AV.agg [AV.bool false,AV.int 2,AV.str b0]]]]/\True)/\K (AV.bool true) []):=by kernel_rfl
theorem Xu(κ:Kp){K:AV->List Dn.Obj->Prop}(h:K (.bool true) []):ba (SM κ).E 12 11 [] [] K:=by
 refine Eq.mpr (ySh κ K) ?_
 repeat' (first|exact h|exact trivial|exact rfl|refine And.intro ?_ ?_)
def X8:List AV->Option (Bool×AV)
 |[]=>some (true, .bool true)
 |_=>none
theorem pSh(κ:Kp):cj (SM κ).E 12 11 X8:=by
 intro args x hh
 unfold X8 at hh
 split at hh
 ·simp only[aa3,aa9] at hh
  obtain⟨_,rfl⟩:=hh
  exact⟨_,rfl,rfl,Xu κ rfl⟩
 ·cases hh
noncomputable def P9(κ:Kp):EB:=(PE κ).yn (kB (SM κ).ok (SM κ).mono (pSh κ))
theorem sH{ds rs:List AV}(h:ju ds rs=true):mK ds rs:=by
 simp only[ju,aa1,aa0] at h
 obtain⟨_,h1,h2,h3⟩:=h
 refine⟨by simp only[aL];omega,by simp only[aL];omega,fun x hx=>?_⟩
 have hc:=ye (rs.map uU) 2000 (by omega) h1 (uU x) (List.mem_map_of_mem hx)
 have e:uU x=aF (eW x):=rfl
 rw[e,fp] at hc
 have hc:ph (aF (eW x))+(eW x).bl.length<=2000:=by omega
 refine⟨?_,by omega⟩
 rw[lX 38 (eW x).rel (eW x).hl (eW x).bl]
 have:ph (aF (eW x))<=2000:=by omega
 exact Nat.le_trans this (by omega)
structure TH where
 ds:List AV
 rs:List AV
 i:Nat
 n:Nat
 k:Nat
abbrev PT(x:TH):S:=sp 91 [(1, .ad 51 []),(2, .ptr 0 0 [] 0),(5, .int x.i),(6, .int x.n),(7, .int x.k)] [.box 25 (mO x.ds x.rs)]
theorem xLk(κ:Kp)(x:TH)(I:Nat->S->Prop)(n:Nat)(K:Exit->S->Prop):(vc (P9 κ).E 12 12 none 0 (ag (Pr κ).toProgram 12 8) (PT x) (bB (P9 κ).E 12 8 0 I n K))=(
 letI z1:=ah (af (nth x.rs (Int.toNat (↑(x.i):Int))) 1)
 letI z2:=AV.agg [AV.ad 43 x.ds,AV.ad 48 x.rs]
 letI z3:=true&&decide ((↑(x.i):Int)<(↑(x.rs.length):Int))
 letI z4:=IntKind.wrap IntKind.i64 ((↑(x.k):Int)+(1:Int))
 letI z5:=(↑(x.k):Int)<(↑(List.length z1):Int)
 aP z3 (aw (decide z5) (aP z3 (aP (true&&decide z5) (aw (toInt (af (nth z1 (Int.toNat (↑(x.k):Int))) 0)==(1:Int)) (∃(e0:Nat),e0<n/\I e0 (sp 91
 [(1,AV.ad 51 []),(2,AV.ptr 0 0 [] 0),(5,AV.int (↑(x.i):Int)),(6,AV.int (IntKind.wrap IntKind.i64 ((↑(x.n):Int)+(1:Int)))),(7,AV.int z4)]
 [Obj.box 25 z2])) (∃(e0:Nat),e0<n/\I e0 (sp 91 [(1,AV.ad 51 []),(2,AV.ptr 0 0 [] 0),(5,AV.int (↑(x.i):Int)),(6,AV.int (↑(x.n):Int)),(7,
 AV.int z4)] [Obj.box 25 z2]))))) (K (Exit.exit 2) (sp 91 [(1,AV.ad 51 []),(2,AV.ptr 0 0 [] 0),(5,AV.int (↑(x.i):Int)),(6,AV.int (↑(x.n):Int))]
 [Obj.box 25 z2])))):=by kernel_rfl
def xM(l:List AV):Nat:=(l.filter fun x=>toInt (af x 0)==1).length
def Jz(x:TH):Prop:=x.i<x.rs.length/\x.k<=(ah (af (nth x.rs x.i) 1)).length/\(ah (af (nth x.rs x.i) 1)).length<=100000/\x.n<=x.k
def JX(x:TH):Out (Exit×S):= .one (.exit 2,sp 91 [(1, .ad 51 []),(2, .ptr 0 0 [] 0),(5, .int x.i),(6, .int (x.n+xM ((ah (af (nth x.rs x.i) 1)).drop x.k):Nat))] [.box 25 (mO x.ds x.rs)])
theorem lLk(κ:Kp):bf (P9 κ).E 12 12 8 (aR 0 PT Jz JX):=by
 refine aG (fun x=>(ah (af (nth x.rs x.i) 1)).length - x.k) ?_
 rintro⟨ds,rs,i,n,k⟩ K ⟨h1,h2,h3,h4⟩ ho
 simp only at h1 h2 h3 h4
 rw[show(P9 κ).E.P=Pr κ from rfl]
 refine Eq.mpr (xLk κ ⟨ds,rs,i,n,k⟩ _ _ K) ?_
 simp only[Int.toNat_natCast]
 refine ai.2 ⟨by simp;omega,?_⟩
 rw[ae,aa0,aa2]
 simp only[JX,Out.run] at ho
 refine⟨fun h=>ai.2 ⟨by simp;omega,ai.2 ⟨by simp;omega,?_⟩⟩,fun h=>?_⟩
 ·have hk:k<(ah (af (nth rs i) 1)).length:=by omega
  rw[aC (n:=(k:Int)+1) (by omega) (by omega),aC (n:=(n:Int)+1) (by omega) (by omega)]
  have hd:xM ((ah (af (nth rs i) 1)).drop k)=(bif toInt (af (nth (ah (af (nth rs i) 1)) k) 0)==1 then 1 else 0)+xM ((ah (af (nth rs i) 1)).drop (k+1)):=by
   rw[ab1 hk,←a7 _ k hk]
   unfold xM
   rw[List.filter_cons]
   cases toInt (af (nth (ah (af (nth rs i) 1)) k) 0)==1 with
   |true=>simp;omega
   |false=>simp
  rw[hd] at ho
  rw[ae]
  refine⟨fun e=>?_,fun e=>?_⟩
  ·rw[e,aa7] at ho
   refine⟨_,?_,⟨ds,rs,i,n+1,k+1⟩,rfl,⟨h1,hk,h3,by simp only;omega⟩,rfl,?_⟩
   ·simp only;omega
   ·simp only[JX,Out.run]
    rw[Nat.add_assoc];exact ho
  ·rw[e,aa5,Nat.zero_add] at ho
   refine⟨_,?_,⟨ds,rs,i,n,k+1⟩,rfl,⟨h1,hk,h3,by simp only;omega⟩,rfl,ho⟩
   simp only;omega
 ·rw[aa8 (by omega)] at ho
  exact ho
noncomputable def Qc(κ:Kp):EB:=(P9 κ).loop (lLk κ)
abbrev Ru(ds rs:List AV)(i:Nat):S:=sp 91 [(1, .ad 51 []),(2, .ptr 0 0 [] 0),(5, .int i)] [.box 25 (mO ds rs)]
theorem xLr(κ:Kp)(ds rs:List AV)(i:Nat)(I:Nat->S->Prop)(n:Nat)(K:Exit->S->Prop):(vc (Qc κ).E 12 12 none 0 (ag (Pr κ).toProgram 12 4) (Ru ds rs i) (bB (Qc κ).E 12 4 0 I n K))=(
 letI z1:=Pg.toProgram (Env.P (EB.E (P9 κ)))
 aw (decide ((↑i:Int)<(↑(rs.length):Int))) (ag z1 12 8=ag z1 12 8/\∃(e1:TH),sp 91 [(1,AV.ad 51 []),(2,AV.ptr 0 0 [] 0),(5,AV.int (↑i:Int)),
 (6,AV.int 0),(7,AV.int 0)] [Obj.box 25 (AV.agg [AV.ad 43 ds,AV.ad 48 rs])]=PT e1/\Jz e1/\aw (decide ((↑(e1.n+xM (List.drop e1.k (ah (af (nth e1.rs
 e1.i) 1)))):Int)>(3:Int))) (K Exit.ret (sp 91 [(4,AV.int 0)] [])) (∃(e0:Nat),e0<n/\I e0 (sp 91 [(1,AV.ad 51 []),(2,AV.ptr 0 0 [] 0),(5,AV.int
 (IntKind.wrap IntKind.i64 ((↑(e1.i):Int)+(1:Int))))] [Obj.box 25 (AV.agg [AV.ad 43 e1.ds,AV.ad 48 e1.rs])]))) (K (Exit.exit 0) (sp 91 [(1,AV.ad 51 [])]
 []))):=by kernel_rfl
def Sq(r:AV):Bool:=decide (xM (ah (af r 1))<=3)
structure UE where
 ds:List AV
 rs:List AV
 i:Nat
abbrev Oj(x:UE):S:=Ru x.ds x.rs x.i
def Ku(x:UE):Prop:=x.i<=x.rs.length/\x.rs.length<=100000/\∀r,r∈x.rs->(ah (af r 1)).length<=100000
def J4(x:UE):Out (Exit×S):= .aw ((x.rs.drop x.i).all Sq) (.one (.exit 0,sp 91 [(1, .ad 51 [])] [])) (.one (.ret,sp 91 [(4, .int 0)] []))
theorem lLr(κ:Kp):bf (Qc κ).E 12 12 4 (aR 0 Oj Ku J4):=by
 refine aG (fun x=>x.rs.length - x.i) ?_
 rintro⟨ds,rs,i⟩ K ⟨h1,h2,h3⟩ ho
 simp only at h1 h2 h3
 rw[show(Qc κ).E.P=Pr κ from rfl]
 refine Eq.mpr (xLr κ ds rs i _ _ K) ?_
 simp only[J4,Out.run,ae] at ho
 rw[ae,aa0,aa2]
 refine⟨fun h=>?_,fun h=>?_⟩
 ·have hk:i<rs.length:=by omega
  have hx:nth rs i∈rs:=by rw[a7 _ _ hk];exact List.getElem_mem _
  rw[ab1 hk,←a7 _ i hk,List.all_cons] at ho
  refine⟨rfl,⟨ds,rs,i,0,0⟩,rfl,⟨hk,Nat.zero_le _,h3 _ hx,Nat.le_refl _⟩,?_⟩
  simp only[ab0,Nat.zero_add]
  rw[aC (n:=(i:Int)+1) (by omega) (by omega),ae,aa0,aa2]
  refine⟨fun e=>ho.2 ?_,fun e=>⟨_,?_,⟨ds,rs,i+1⟩,rfl,⟨hk,h2,h3⟩,rfl,?_⟩⟩
  ·rw[show Sq (nth rs i)=false from aa4 (by omega),Bool.false_and]
  ·simp only;omega
  ·simp only[J4,Out.run,ae]
   rw[show Sq (nth rs i)=true from aa6 (by omega),ab9] at ho
   exact ho
 ·rw[aa8 (by omega)] at ho
  exact ho.1 rfl
noncomputable def On(κ:Kp):EB:=(Qc κ).loop (lLr κ)
theorem xLw(κ:Kp)(I:Nat->S->Prop)(n:Nat)(K:Exit->S->Prop):(vc (On κ).E 12 12 none 0 (ag (Pr κ).toProgram 12 16) (sp 91 [(1, .ad 51 []),(8, .int 0),(9, .int 0)] []) (bB (On κ).E 12 16 0 I n K))=(
 K (Exit.exit 4) (sp 91 [] [])):=by kernel_rfl
abbrev QV(_:Unit):S:=sp 91 [(1, .ad 51 []),(8, .int 0),(9, .int 0)] []
def RV(_:Unit):Out (Exit×S):= .one (.exit 4,sp 91 [] [])
theorem lLw(κ:Kp):bf (On κ).E 12 12 16 (aR 0 QV (fun _=>True) RV):=by
 refine aG (fun _=>0) ?_
 rintro⟨⟩ K _ ho
 rw[show(On κ).E.P=Pr κ from rfl]
 exact Eq.mpr (xLw κ _ _ K) ho
noncomputable def U6(κ:Kp):EB:=(On κ).loop (lLw κ)
theorem ZH(κ:Kp)(ds rs:List AV)(K:AV->List Dn.Obj->Prop):(ba (U6 κ).E 12 12 [mO ds rs, .ad 51 []] [] K)=(
 letI z1:=Pg.toProgram (Env.P (EB.E (Qc κ)))
 letI z2:=Pg.toProgram (Env.P (EB.E (On κ)))
 aP (decide (ds.length<=9223372036854775807)&&List.all ds fun(e0:AV)=>decide (List.length (ah (af e0 1))<=9223372036854775807)) (aw ((bif ju ds rs then
 (1:Int) else(0:Int))==(0:Int)) (K (AV.int 0) []) (aw (decide ((↑(rs.length):Int)>(8:Int))) (K (AV.int 0) []) (ag z1 12 4=ag z1 12 4/\∃(e1:
 UE),sp 91 [(1,AV.ad 51 []),(2,AV.ptr 0 0 [] 0),(5,AV.int 0)] [Obj.box 25 (AV.agg [AV.ad 43 ds,AV.ad 48 rs])]=Oj e1/\Ku e1/\aw (List.all (List.drop
 e1.i e1.rs) Sq) (ag z2 12 16=ag z2 12 16/\∃(e0:Unit),sp 91 [(1,AV.ad 51 []),(8,AV.int 0),(9,AV.int 0)] []=QV e0/\True/\K (AV.int 1) []) (K
 (AV.int 0) []))))):=by kernel_rfl
def rF(ds rs:List AV):Bool:=ju ds rs&&(decide (rs.length<=8)&&rs.all Sq)
def YS:List AV->Option (Bool×AV)
 |[.agg [.ad 43 ds, .ad 48 rs], .ad 51 []]=>some (decide (ds.length<=aL)&&ds.all (fun d=>decide ((ah (af d 1)).length<=aL)), .int (bif rF ds rs then 1 else 0))
 |_=>none
theorem pLw(κ:Kp):cj (U6 κ).E 12 12 YS:=by
 intro args x hh
 unfold YS at hh
 split at hh
 ·rename_i ds rs
  simp only[aa3,aa9] at hh
  obtain⟨h1,rfl⟩:=hh
  refine⟨_,rfl,rfl,?_⟩
  refine Eq.mpr (ZH κ ds rs _) ?_
  refine ai.2 ⟨h1,?_⟩
  unfold rF
  cases hs:ju ds rs with
  |false=>exact rfl
  | true=>
   rw[ab9]
   refine ae.2 ⟨fun e=>absurd e (by decide),fun _=>?_⟩
   rw[ae,aa0,aa2]
   refine⟨fun e=>?_,fun e=>⟨rfl,⟨ds,rs,0⟩,rfl,⟨Nat.zero_le _,by show rs.length<=100000;omega,fun r hr=>(sH hs).2.2 r hr|>.2⟩,?_⟩⟩
   ·rw[aa4 (show ¬ rs.length<=8 by omega)];rfl
   ·rw[aa6 (show rs.length<=8 by omega),ab9,ab0]
    rw[ae]
    refine⟨fun e2=>⟨rfl,(),rfl,trivial,?_⟩,fun e2=>?_⟩
    ·rw[e2];rfl
    ·rw[e2];rfl
 ·cases hh
noncomputable def PX(κ:Kp):EB:=(U6 κ).pure (pLw κ)
end Go.Proofs.YtioeffnadipbaaaGreatDoor
namespace Go.Proofs.YtioeffnadipbaaaGreatDoor
open Go Go.Dn Go.Rl Go.Proofs
theorem BQ{s:ByteArray}: ∀{ds:List AV} {k:Nat},iE s (ct ds)=some k->k<ds.length/\toStr (af (nth ds k) 0)=s/\((ct ds).getD k ⟨ByteArray.empty,[]⟩).types.length=(ah (af (nth ds k) 2)).length
 |[],k,h=>nomatch h
 | d::ds,k,h=>by
  rw[show ct (d::ds)=I0 d::ct ds from rfl,iE,show(I0 d).rel=toStr (af d 0) from rfl] at h
  cases e:ma (toStr (af d 0)) s with
  |true=>
   rw[e,aa7] at h
   cases h
   exact⟨by simp,Fs.1 e,by show((ah (af d 2)).map toInt).length=_;rw[List.length_map];rfl⟩
  | false=>
   rw[e,aa5] at h
   cases e2:iE s (ct ds) with
   |none=>rw[e2] at h;cases h
   |some m=>
    rw[e2] at h
    cases h
    obtain⟨h1,h2,h3⟩:=BQ e2
    exact⟨by simp only[List.length_cons];omega,h2,h3⟩
def EC(ds:List AV)(s:ByteArray)(n:Nat):Prop:=0<=cv s ds/\cv s ds<ds.length/\toStr (af (nth ds (cv s ds).toNat) 0)=s/\(ah (af (nth ds (cv s ds).toNat) 2)).length=n
theorem KR{ds:List AV}{a:At}(h:known (ct ds) a=0):EC ds a.rel a.l.length:=by
 unfold known at h
 cases e:iE a.rel (ct ds) with
 |none=>rw[e] at h;cases h
 | some k=>
  rw[e] at h
  obtain⟨_,h2,h3⟩:=qo e
  obtain⟨_,k2,k3⟩:=BQ e
  unfold EC
  rw[h2]
  refine⟨by omega,by omega,by simpa using k2,?_⟩
  simp only[Int.toNat_natCast]
  rw[←k3]
  have:(cd (ct ds) a.rel).length=a.l.length:=by
   cases e3:decide ((cd (ct ds) a.rel).length=a.l.length) with
   |true=>simpa using e3
   |false=>simp only[e3,aa5] at h;cases h
  unfold cd at this
  rw[e] at this
  exact this
theorem Ax{ds rs:List AV}(h:(mo ds rs).2=0){r:AV}(hr:r∈rs):EC ds (toStr (af (af r 0) 0)) (aF (eW r)).head.l.length/\
  ∀l,l∈ah (af r 1)->fL (toInt (af l 0))=true->EC ds (toStr (af (af l 1) 0)) (ah (af (af l 1) 1)).length:=by
 obtain⟨h1,_,h2,_⟩:=H5.1 h
 have ht:=h2 r hr
 have hk:jE (ct ds) (aF (eW r))=0:=by
  refine RB ?_
  unfold kz at ht
  cases e:fB ds [au (eW r)] with
  |true=>rw[e,aa7] at ht;exact ht
  |false=>rw[e,aa5] at ht;cases ht
 unfold jE at hk
 cases e:decide (known (ct ds) (aF (eW r)).head=0) with
 |false=>rw[e,aa5] at hk;simp[hk] at e
 | true=>
  rw[e,aa7] at hk
  refine⟨KR (a:=(aF (eW r)).head) (by simpa using e),fun l hl ha=>?_⟩
  have hm:cR l∈(aF (eW r)).body:=List.mem_map_of_mem hl
  have:=KR (a:=(cR l).a) (uQ hk _ hm ?_)
  ·rw[show(cR l).a.l.length=(ah (af (af l 1) 1)).length from du _] at this
   exact this
  ·have e1:(cR l).op=toInt (af l 0):=rfl
   unfold Rl.fL
   rw[e1]
   unfold fL at ha
   cases h3:decide (toInt (af l 0)<3) with
   |true=>rfl
   |false=>rw[h3,aa5] at ha;simpa using ha
structure Nn(ds:List AV)(d:SD):Prop where
 r0:0<=d.rl
 r1:d.rl<ds.length
 ev:d.q.HS
 nd:d.q.all.Nodup
 lt: ∀x,x∈d.q.all->0<=x/\x<(ah (af (nth ds d.rl.toNat) 2)).length
 le:(ah (af (nth ds d.rl.toNat) 2)).length<=100000
 l2:d.q.all.length<=100000
theorem IX{ds rs:List AV}(hs:mK ds rs)(h:(mo ds rs).2=0){r:AV}(hr:r∈rs){l:AV}(hl:l∈ah (af r 1))(bd:List AV):
  (rG ds bd l).op=3\/(rG ds bd l).op=4\/Nn ds (rG ds bd l):=by
 have key:fL (toInt (af l 0))=true->Nn ds ⟨0,0,cv (toStr (af (af l 1) 0)) ds,fA bd (dt (ah (af (af l 1) 1)) 0),ByteArray.mk #[],zT,zT⟩:=fun ha=>by
  obtain⟨h1,h2,_,h4⟩:=(Ax h hr).2 l hl ha
  obtain⟨k1,k2,k3⟩:=MZ bd (ah (af (af l 1) 1))
  have hf:=(vZ (hs.2.2 r hr) hl).1
  have hn:=ee (aa (ah (af (af l 1) 1)))
  rw[du] at hn
  have hp:=(CC bd (dt (ah (af (af l 1) 1)) 0) HO).length_eq
  have hc:=qL (ah (af (af l 1) 1)) 0
  refine⟨h1,h2,k1,k2,fun x hx=>?_,?_,?_⟩
  ·simp only;rw[h4];exact k3 x hx
  ·simp only;rw[h4];omega
  ·have:(SS.all HO).length=0:=rfl
   rw[ab8,List.length_map,this] at hp
   show(fA bd (dt (ah (af (af l 1) 1)) 0)).all.length<=100000
   unfold fA
   omega
 have mk: ∀{op pZ:Int} {t:ByteArray} {X Y:AT},fL (toInt (af l 0))=true->Nn ds ⟨op,pZ,cv (toStr (af (af l 1) 0)) ds,fA bd (dt (ah (af (af l 1) 1)) 0),t,X,Y⟩:=fun ha=>by
  obtain⟨a,b,c,d,e,f,g⟩:=key ha
  exact⟨a,b,c,d,e,f,g⟩
 unfold rG s7
 generalize toInt (af l 0)=op at mk⊢
 by_cases e2:op=2
 ·subst e2;exact Or.inr (Or.inr (mk rfl))
 by_cases e1:op=1
 ·subst e1;exact Or.inr (Or.inr (mk rfl))
 rw[show(op==2)=false by simpa using e2,show(op==1)=false by simpa using e1,aa5,aa5]
 by_cases e3:op=3
 ·subst e3
  rw[show((3:Int)==3)=true from rfl,aa7]
  cases wx bd (sQ (af l 2)) with
  |true=>exact Or.inr (Or.inl rfl)
  |false=>cases wx bd (sQ (af l 3)) with
   |true=>exact Or.inr (Or.inl rfl)
   |false=>exact Or.inl rfl
 rw[show(op==3)=false by simpa using e3,aa5]
 by_cases e4:op=4\/op=5\/op=6
 ·rw[show(op==4||(op==5||op==6))=true by simpa using e4,aa7]
  exact Or.inl rfl
 ·rw[show(op==4||(op==5||op==6))=false by simpa[not_or] using e4,aa5]
  have ha:fL op=true:=by
   unfold fL
   cases h3:decide (op<3) with
   |true=>rfl
   |false=>
    rw[aa5,aa0];have: ¬ op<3:=by simpa using h3
    omega
  cases wx bd (sQ (af l 2)) with
  |true=>exact Or.inr (Or.inr (mk ha))
  |false=>exact Or.inr (Or.inr (mk ha))
def zX(w:Nat)(c:List Int):List AV:=(List.range w).map fun x:Nat=>AV.bool (decide ((Int.ofNat x)∈c))
theorem qX(w:Nat)(c:List Int):(zX w c).length=w:=by simp[zX]
theorem yC{w:Nat}{c:List Int}{x:Nat}(h:x<w):nth (zX w c) x=AV.bool (decide ((x:Int)∈c)):=by
 rw[a7 _ _ (by rw[qX];exact h)]
 simp[zX]
theorem MO(w:Nat):eM (AV.bool false) w=zX w []:=by
 simp[eM,zX,List.map_const']
theorem Mz{a b:List AV}(hl:a.length=b.length)(h: ∀i,i<a.length->nth a i=nth b i):a=b:=by
 refine List.ext_getElem hl fun i h1 h2=>?_
 have:=h i h1
 rwa [a7 _ _ h1,a7 _ _ h2] at this
theorem MV{w:Nat}{c:List Int}{x:Int}(h0:0<=x)(h:x<w):bJ (zX w c) x.toNat (AV.bool true)=zX w (c++[x]):=by
 refine Mz (by rw[eD,qX,qX]) fun i hi=>?_
 rw[eD,qX] at hi
 rw[yC hi]
 by_cases e:x.toNat=i
 ·subst e
  rw[je _ _ _ (by rw[qX];exact hi),aa6 (by rw[List.mem_append,List.mem_singleton];right;omega)]
 ·rw[gw _ _ _ _ e,yC hi]
  refine congrArg AV.bool (decide_eq_decide.2 ?_)
  rw[List.mem_append,List.mem_singleton]
  exact⟨Or.inl,fun h=>h.resolve_right (by omega)⟩
theorem QA{c:List Int}{k:Nat}(h:k<c.length):toInt (nth (iA c) k)=c[k]:=by
 rw[a7 _ _ (by rw[gq];exact h)]
 simp[iA,toInt]
end Go.Proofs.YtioeffnadipbaaaGreatDoor
namespace Go.Proofs.YtioeffnadipbaaaGreatDoor
open Go Go.Dn Go.Rl Go.Proofs
attribute [local irreducible] ba vc
set_option maxRecDepth 20000
abbrev Tf(ds rs:List AV)(k:Int)(q:QD)(i:Nat):S:=sp 183 [(1, .int k),(2, .ptr 0 0 [] 0),(5, .bool true),(6, .ptr 1 0 [] 0),(8, .int i)] [.box 25 (mO ds rs), .box 31 (qA q)]
abbrev Ni(ds rs:List AV)(k:Int)(q:QD)(i:Nat)(M L:List AV)(w n j:Nat):S:=sp 183 [(1, .int k),(2, .ptr 0 0 [] 0),(5, .bool true),(6, .ptr 1 0 [] 0),(8, .int i),(10, .aB 2 0 w),(11, .aB 3 0 n),(12, .int j)] [.box 25 (mO ds rs), .box 31 (qA q), .row 4 M, .row 3 L]
theorem xQn(κ:Kp)(ds rs:List AV)(k:Int)(q:QD)(i:Nat)(M L:List AV)(w n j:Nat)(I:Nat->S->Prop)(N:Nat)(K:Exit->S->Prop):(vc (PX κ).E 12 3 none 0 (ag (Pr κ).toProgram 3 17) (Ni ds rs k q i M L w n j) (bB (PX κ).E 3 17 0 I N K))=(
 letI z1:=nth L (0+Int.toNat (↑j:Int))
 letI z3:=K Exit.ret (sp 183 [(4,AV.bool false)] [])
 letI z4:=AV.agg [AV.int q.rel,AV.ad 40 q.steps,AV.ad 38 q.out,AV.int q.delta]
 letI z5:=decide ((0:Int)<=toInt z1)&&decide (toInt z1<(↑w:Int))
 letI z6:=AV.agg [AV.ad 43 ds,AV.ad 48 rs]
 letI z7:=(↑j:Int)<(↑n:Int)
 letI z2:=true&&decide z7
 aw (decide z7) (aP z2 (aw (decide (toInt z1<(0:Int))) z3 (aP z2 (aw (decide (toInt z1>=(↑w:Int))) z3 (aP z2 (aP z5 (aw (Dn.toBool (nth M (0+Int.toNat
 (toInt z1)))) z3 (aP z2 (aP z5 (∃(e0:Nat),e0<N/\I e0 (sp 183 [(1,AV.int k),(2,AV.ptr 0 0 [] 0),(5,AV.bool true),(6,AV.ptr 1 0 [] 0),(8,AV.int
 (↑i:Int)),(10,AV.aB 2 0 w),(11,AV.aB 3 0 n),(12,AV.int (IntKind.wrap IntKind.i64 ((↑j:Int)+(1:Int))))] [Obj.box 25 z6,Obj.box 31 z4,Obj.row 4
 (bJ M (0+Int.toNat (toInt z1)) (AV.bool true)),Obj.row 3 L]))))))))))) (K (Exit.exit 2) (sp 183 [(1,AV.int k),(2,AV.ptr 0 0 [] 0),(5,AV.bool true),(6,
 AV.ptr 1 0 [] 0),(8,AV.int (↑i:Int))] [Obj.box 25 z6,Obj.box 31 z4]))):=by kernel_rfl
structure Px where
 ds:List AV
 rs:List AV
 k:Int
 q:QD
 i:Nat
structure Uq where
 a:Px
 w:Nat
 c:List Int
 j:Nat
abbrev Nk(x:Uq):S:=Ni x.a.ds x.a.rs x.a.k x.a.q x.a.i (zX x.w (x.c.take x.j)) (iA x.c) x.w x.c.length x.j
def IS(x:Uq):Prop:=x.j<=x.c.length/\x.c.Nodup/\(∀y,y∈x.c->0<=y/\y<x.w)/\x.c.length<=100000
def Qy(x:Uq):Out (Exit×S):= .one (.exit 2,sp 183 [(1, .int x.a.k),(2, .ptr 0 0 [] 0),(5, .bool true),(6, .ptr 1 0 [] 0),(8, .int x.a.i)] [.box 25 (mO x.a.ds x.a.rs), .box 31 (qA x.a.q)])
theorem lQm(κ:Kp):bf (PX κ).E 12 3 17 (aR 0 Nk IS Qy):=by
 refine aG (fun x=>x.c.length - x.j) ?_
 rintro⟨⟨ds,rs,k,q,i⟩,w,c,j⟩ K ⟨h1,h2,h3,h4⟩ ho
 simp only at h1 h2 h3 h4
 rw[show(PX κ).E.P=Pr κ from rfl]
 refine Eq.mpr (xQn κ ds rs k q i _ _ w c.length j _ _ K) ?_
 simp only[Int.toNat_natCast,Nat.zero_add]
 rw[ae,aa0,aa2]
 refine⟨fun h=>?_,fun h=>ho⟩
 have hj:j<c.length:=by omega
 rw[QA hj]
 obtain⟨y0,y1⟩:=h3 _ (List.getElem_mem hj)
 have hd:decide ((j:Int)<(c.length:Int))=true:=aa6 h
 refine ai.2 ⟨by rw[hd];rfl,ae.2 ⟨fun e=>absurd (of_decide_eq_true e) (by omega),fun _=>ai.2 ⟨by rw[hd];rfl,ae.2 ⟨fun e=>absurd (of_decide_eq_true e) (by omega),fun _=>ai.2 ⟨by rw[hd];rfl,ai.2 ⟨by rw[aa1,aa0,aa0];exact⟨y0,y1⟩,?_⟩⟩⟩⟩⟩⟩
 have hm: ¬ c[j]∈c.take j:=fun hm=>by
  obtain⟨m,hm1,hm2⟩:=List.getElem_of_mem hm
  rw[List.length_take] at hm1
  rw[List.getElem_take] at hm2
  exact List.pairwise_iff_getElem.1 h2 m j (by omega) hj (by omega) hm2
 rw[yC (show(c[j]).toNat<w by omega),show((c[j]).toNat:Int)=c[j] by omega,aa4 hm]
 refine ae.2 ⟨fun e=>(nomatch e),fun _=>ai.2 ⟨by rw[hd];rfl,ai.2 ⟨by rw[aa1,aa0,aa0];exact⟨y0,y1⟩,_,?_,⟨⟨ds,rs,k,q,i⟩,w,c,j+1⟩,?_,⟨hj,h2,h3,h4⟩,rfl,ho⟩⟩⟩
 ·simp only;omega
 ·rw[MV y0 y1,aC (n:=(j:Int)+1) (by omega) (by omega)]
  simp only[Nk,Ni]
  rw[List.take_succ_eq_append_getElem hj]
  rfl
noncomputable def Nj(κ:Kp):EB:=(PX κ).loop (lQm κ)
theorem xQl(κ:Kp)(ds rs:List AV)(k:Int)(q:QD)(i:Nat)(I:Nat->S->Prop)(N:Nat)(K:Exit->S->Prop):(vc (Nj κ).E 12 3 none 0 (ag (Pr κ).toProgram 3 8) (Tf ds rs k q i) (bB (Nj κ).E 3 8 0 I N K))=(
 letI z1:=nth q.steps (Int.toNat (↑i:Int))
 letI z3:=List.length (ah (af (nth ds (Int.toNat (toInt (af z1 2)))) 2))
 letI z4:=K Exit.ret (sp 183 [(4,AV.bool false)] [])
 letI z5:=AV.agg [AV.int q.rel,AV.ad 40 q.steps,AV.ad 38 q.out,AV.int q.delta]
 letI z6:=ah (af z1 3)
 letI z7:=AV.agg [AV.ad 43 ds,AV.ad 48 rs]
 letI z2:=∃(e0:Nat),e0<N/\I e0 (sp 183 [(1,AV.int k),(2,AV.ptr 0 0 [] 0),(5,AV.bool true),(6,AV.ptr 1 0 [] 0),(8,AV.int (IntKind.wrap
  IntKind.i64 ((↑i:Int)+(1:Int))))] [Obj.box 25 z7,Obj.box 31 z5])
 letI z8:=ah (af z1 5)
 letI z9:=(↑i:Int)<(↑(q.steps.length):Int)
 letI z10:=Pg.toProgram (Env.P (EB.E (PX κ)))
 letI z11:=ah (af z1 7)
 letI z12:=Int.toNat (↑z3:Int)
 aw (decide z9) (aP (true&&decide z9) (aw (toInt (af z1 0)==(3:Int)) z2 (aw (toInt (af z1 0)==(4:Int)) z2 (aw (decide (toInt (af z1 2)<(0:Int))) z4
 (aw (decide (toInt (af z1 2)>=(↑(ds.length):Int))) z4 (aw ((↑(List.length z6):Int) != (↑(List.length (ah (af z1 4))):Int)) z4 (aw ((↑(List.length z8):
 Int) != (↑(List.length (ah (af z1 6))):Int)) z4 (aw ((↑(List.length z11):Int) != (↑(List.length (ah (af z1 8))):Int)) z4 (aP (decide ((0:Int)<=toInt
 (af z1 2))&&decide (toInt (af z1 2)<(↑(ds.length):Int))) (aP (true&&decide ((↑z3:Int)<=(↑z3:Int))&&decide ((Int.toNat (↑z3:Int)+1)*2<=
 70368744177664)&&true) (aP (decide ((0+List.length z6+1)*9<=70368744177664)) (aP (decide ((0+List.length z6+List.length z8+1)*9<=
 70368744177664)) (aP (decide ((0+List.length z6+List.length z8+List.length z11+1)*9<=70368744177664)) (ag z10 3 17=ag z10 3 17/\∃(e1:Uq),sp
 183 [(1,AV.int k),(2,AV.ptr 0 0 [] 0),(5,AV.bool true),(6,AV.ptr 1 0 [] 0),(8,AV.int (↑i:Int)),(10,AV.aB 2 0 z12),(11,AV.aB 3 0 (0+List.length
 z6+List.length z8+List.length z11)),(12,AV.int 0)] [Obj.box 25 z7,Obj.box 31 z5,Obj.row 4 (eM (AV.bool false) z12),Obj.row 3 (List.take (0+
 List.length z6+List.length z8) (List.take (0+List.length z6) ([]++ah (af z1 3))++ah (af z1 5))++ah (af z1 7))]=Nk e1/\IS e1/\∃(e0:Nat),e0<N
 /\I e0 (sp 183 [(1,AV.int e1.a.k),(2,AV.ptr 0 0 [] 0),(5,AV.bool true),(6,AV.ptr 1 0 [] 0),(8,AV.int (IntKind.wrap IntKind.i64 ((↑(e1.a.i):Int)+(1
 :Int))))] [Obj.box 25 (AV.agg [AV.ad 43 e1.a.ds,AV.ad 48 e1.a.rs]),Obj.box 31 (AV.agg [AV.int (QD.rel e1.a.q),AV.ad 40 (QD.steps e1.a.q),AV.ad 38 (QD.out
 e1.a.q),AV.int (QD.delta e1.a.q)])]))))))))))))))) (K (Exit.exit 0) (sp 183 [(1,AV.int k),(2,AV.ptr 0 0 [] 0),(5,AV.bool true),(6,AV.ptr 1 0 [] 0)]
 [Obj.box 25 z7,Obj.box 31 z5]))):=by kernel_rfl
def NO(ds:List AV)(a:AV):Prop:=∃d:SD,a=Qa d/\(d.op=3\/d.op=4\/Nn ds d)
abbrev Fk(x:Px):S:=Tf x.ds x.rs x.k x.q x.i
def yL(x:Px):Prop:=x.i<=x.q.steps.length/\x.q.steps.length<=100000/\∀a,a∈x.q.steps->NO x.ds a
def Ob(x:Px):Out (Exit×S):= .one (.exit 0,sp 183 [(1, .int x.k),(2, .ptr 0 0 [] 0),(5, .bool true),(6, .ptr 1 0 [] 0)] [.box 25 (mO x.ds x.rs), .box 31 (qA x.q)])
theorem lQl(κ:Kp):bf (Nj κ).E 12 3 8 (aR 0 Fk yL Ob):=by
 refine aG (fun x=>x.q.steps.length - x.i) ?_
 rintro⟨ds,rs,k,q,i⟩ K ⟨h1,h2,h3⟩ ho
 simp only at h1 h2 h3
 rw[show(Nj κ).E.P=Pr κ from rfl]
 refine Eq.mpr (xQl κ ds rs k q i _ _ K) ?_
 simp only[Int.toNat_natCast,Nat.zero_add,List.nil_append]
 rw[ae,aa0,aa2]
 refine⟨fun h=>?_,fun h=>ho⟩
 have hi:i<q.steps.length:=by omega
 obtain⟨d,e,hd⟩:=h3 (nth q.steps i) (by rw[a7 _ _ hi];exact List.getElem_mem _)
 have go: ∃m,m<q.steps.length - i/\(fun m s=>∃x:Px,s=Fk x/\yL x/\x.q.steps.length - x.i=m/\(Ob x).run fun y=>K y.1 y.2) m (sp 183 [(1, .int k),(2, .ptr 0 0 [] 0),(5, .bool true),(6, .ptr 1 0 [] 0),(8, .int (IntKind.wrap .i64 ((i:Int)+1)))] [.box 25 (mO ds rs), .box 31 (qA q)]):=by
  refine⟨_,?_,⟨ds,rs,k,q,i+1⟩,?_,⟨hi,h2,h3⟩,rfl,ho⟩
  ·simp only;omega
  ·rw[aC (n:=(i:Int)+1) (by omega) (by omega)]
   rfl
 have f0:toInt (af (nth q.steps i) 0)=d.op:=by rw[e];rfl
 have f2:toInt (af (nth q.steps i) 2)=d.rl:=by rw[e];rfl
 have f3:ah (af (nth q.steps i) 3)=iA d.q.dS:=by rw[e];rfl
 have f4:ah (af (nth q.steps i) 4)=d.q.cx:=by rw[e];rfl
 have f5:ah (af (nth q.steps i) 5)=iA d.q.cg:=by rw[e];rfl
 have f6:ah (af (nth q.steps i) 6)=strs d.q.binds:=by rw[e];rfl
 have f7:ah (af (nth q.steps i) 7)=iA d.q.ck:=by rw[e];rfl
 have f8:ah (af (nth q.steps i) 8)=strs d.q.eqs:=by rw[e];rfl
 have fw:(ah (af (nth ds (toInt (af (nth q.steps i) 2)).toNat) 2)).length=(ah (af (nth ds d.rl.toNat) 2)).length:=by rw[f2]
 have hd0:decide ((i:Int)<(q.steps.length:Int))=true:=aa6 h
 refine ai.2 ⟨by rw[hd0];rfl,ae.2 ⟨fun _=>go,fun e3=>ae.2 ⟨fun _=>go,fun e4=>?_⟩⟩⟩
 have e3:d.op≠3:=by rw[←f0];simpa using e3
 have e4:d.op≠4:=by rw[←f0];simpa using e4
 obtain⟨r0,r1,⟨v1,v2,v3⟩,nd,lt,le,l2⟩:=(hd.resolve_left e3).resolve_left e4
 have g3:(ah (af (nth q.steps i) 3)).length=d.q.dS.length:=by rw[f3,gq]
 have g4:(ah (af (nth q.steps i) 4)).length=d.q.cx.length:=by rw[f4]
 have g5:(ah (af (nth q.steps i) 5)).length=d.q.cg.length:=by rw[f5,gq]
 have g6:(ah (af (nth q.steps i) 6)).length=d.q.binds.length:=by rw[f6,aO]
 have g7:(ah (af (nth q.steps i) 7)).length=d.q.ck.length:=by rw[f7,gq]
 have g8:(ah (af (nth q.steps i) 8)).length=d.q.eqs.length:=by rw[f8,aO]
 have hall:d.q.all.length=d.q.dS.length+d.q.cg.length+d.q.ck.length:=by simp[SS.all,Nat.add_assoc]
 refine ae.2 ⟨fun x=>absurd (of_decide_eq_true x) (by omega),fun _=>ae.2 ⟨fun x=>absurd (of_decide_eq_true x) (by omega),fun _=>ae.2 ⟨fun x=>absurd (bne_iff_ne.1 x) (by omega),fun _=>ae.2 ⟨fun x=>absurd (bne_iff_ne.1 x) (by omega),fun _=>ae.2 ⟨fun x=>absurd (bne_iff_ne.1 x) (by omega),fun _=>?_⟩⟩⟩⟩⟩
 refine ai.2 ⟨by rw[aa1,aa0,aa0];omega,ai.2 ⟨?_,ai.2 ⟨by rw[aa0];omega,ai.2 ⟨by rw[aa0];omega,ai.2 ⟨by rw[aa0];omega,?_⟩⟩⟩⟩⟩
 ·simp only[ab9,Bool.and_true,aa1,aa0]
  exact⟨Int.le_refl _,by omega⟩
 ·refine⟨trivial,⟨⟨ds,rs,k,q,i⟩,(ah (af (nth ds d.rl.toNat) 2)).length,d.q.all,0⟩,?_,⟨Nat.zero_le _,nd,lt,l2⟩,go⟩
  simp only[Nk,Ni,fw,f3,f5,f7,gq,List.take_zero,MO]
  rw[List.take_of_length_le (by rw[ab8,List.length_take,gq,gq];omega),List.take_of_length_le (by rw[gq];omega),hall]
  simp only[SS.all,Cs]
  rfl
noncomputable def V4(κ:Kp):EB:=(Nj κ).loop (lQl κ)
theorem yQc(κ:Kp)(ds rs:List AV)(k:Int)(K:AV->List Dn.Obj->Prop):(ba (V4 κ).E 12 3 [mO ds rs, .int k] [] K)=(
 letI z1:=Pg.toProgram (Env.P (EB.E (Nj κ)))
 aP (decide (ds.length<=9223372036854775807)&&List.all ds fun(e0:AV)=>decide (List.length (ah (af e0 1))<=9223372036854775807)) (aw ((bif rF ds rs then
 (1:Int) else(0:Int))==(0:Int)) (K (AV.bool true) []) (∃(e1:U4),([AV.agg [AV.ad 43 ds,AV.ad 48 rs],AV.int k],[])=RM e1/\(e1.ds.length<=
 9223372036854775807/\e1.rs.length<=9223372036854775807/\∀(e0:AV),List.Mem e0 e1.rs->aI (aa (bh 38 (cf.hl (eW e0)) (cf.bl (eW e0))))<=100000/\
 List.length (cf.bl (eW e0))<=100000)/\aw (decide (Ca e1.ds e1.rs e1.k e1.k (↑(e1.rs.length):Int)=(0:Int))) (ag z1 3 8=ag z1 3 8/\∃(e0:Px),sp 183
 [(1,AV.int k),(2,AV.ptr 0 0 [] 0),(5,AV.bool true),(6,AV.ptr 1 0 [] 0),(8,AV.int 0)] [Obj.box 25 (AV.agg [AV.ad 43 ds,AV.ad 48 rs]),Obj.box 31
 (AV.agg [AV.int (QD.rel (dx e1.ds (eW (nth e1.rs e1.k.toNat)))),AV.ad 40 (QD.steps (dx e1.ds (eW (nth e1.rs e1.k.toNat)))),AV.ad 38 (QD.out (dx e1.ds (eW (nth
 e1.rs e1.k.toNat)))),AV.int (QD.delta (dx e1.ds (eW (nth e1.rs e1.k.toNat))))])]=Fk e0/\yL e0/\aP (decide ((0:Int)<=e0.k)&&decide (e0.k<
 (↑(e0.rs.length):Int))) (aw ((↑(List.length e0.q.steps):Int)==(↑(List.length (ah (af (nth e0.rs e0.k.toNat) 1))):Int)) (aw (decide (e0.q.rel>=(0:
 Int))) (aw (decide (e0.q.rel<(↑(e0.ds.length):Int))) (aP (decide ((0:Int)<=e0.q.rel)&&decide (e0.q.rel<(↑(e0.ds.length):Int))) (aP (decide ((0:
 Int)<=e0.k)&&decide (e0.k<(↑(e0.rs.length):Int))) (K (AV.bool (ByteArray.toList (toStr (af (nth e0.ds (Int.toNat e0.q.rel)) 0))==ByteArray.toList
 (toStr (af (af (nth e0.rs e0.k.toNat) 0) 0)))) []))) (K (AV.bool false) [])) (K (AV.bool false) [])) (K (AV.bool false) []))) (aw (Ca e1.ds e1.rs e1.k e1.k
 (↑(e1.rs.length):Int) != (0:Int)) (K (AV.bool true) []) (ag z1 3 8=ag z1 3 8/\∃(e0:Px),sp 183 [(1,AV.int k),(2,AV.ptr 0 0 [] 0),(5,AV.bool
 true),(6,AV.ptr 1 0 [] 0),(8,AV.int 0)] [Obj.box 25 (AV.agg [AV.ad 43 ds,AV.ad 48 rs]),Obj.box 31 (AV.agg [AV.int 0,AV.nil,AV.nil,AV.int 0])]=Fk e0/\
 yL e0/\aP (decide ((0:Int)<=e0.k)&&decide (e0.k<(↑(e0.rs.length):Int))) (aw ((↑(List.length e0.q.steps):Int)==(↑(List.length (ah (af (nth e0.rs
 e0.k.toNat) 1))):Int)) (aw (decide (e0.q.rel>=(0:Int))) (aw (decide (e0.q.rel<(↑(e0.ds.length):Int))) (aP (decide ((0:Int)<=e0.q.rel)&&decide
 (e0.q.rel<(↑(e0.ds.length):Int))) (aP (decide ((0:Int)<=e0.k)&&decide (e0.k<(↑(e0.rs.length):Int))) (K (AV.bool (ByteArray.toList (toStr (af (nth
 e0.ds (Int.toNat e0.q.rel)) 0))==ByteArray.toList (toStr (af (af (nth e0.rs e0.k.toNat) 0) 0)))) []))) (K (AV.bool false) [])) (K (AV.bool false) [])) (K
 (AV.bool false) []))))))):=by kernel_rfl
theorem Gh{ds rs:List AV}(h1:ds.length<=aL)(h2: ∀d,d∈ds->(ah (af d 1)).length<=aL){p q:Prop}(hp:p)(hq:ju ds rs=true->rs.length<=8->q):
  aP (decide (ds.length<=aL)&&ds.all fun d=>decide ((ah (af d 1)).length<=aL)) (aw ((bif rF ds rs then(1:Int) else 0)==0) p q):=by
 refine ai.2 ⟨?_,?_⟩
 ·rw[aa1,aa0,List.all_eq_true]
  exact⟨h1,fun d hd=>aa6 (h2 d hd)⟩
 ·cases hs:rF ds rs with
  |false=>exact hp
  |true=>
   simp only[rF,aa1,aa0] at hs
   exact hq hs.1 hs.2.1
theorem HT{ds rs:List AV}(hs:mK ds rs)(h:(mo ds rs).2=0){r:AV}(hr:r∈rs):(dx ds (eW r)).steps.length=(ah (af r 1)).length/\(dx ds (eW r)).steps.length<=100000/\∀a,a∈(dx ds (eW r)).steps->NO ds a:=by
 have hw:=lC (Ek hs h hr).f
 have hbl:=(hs.2.2 r hr).2
 have hlen:(bP (aF (eW r))).length=(eW r).bl.length:=by rw[hw]
 have h1:(dx ds (eW r)).steps.length=(eW r).bl.length:=by rw[dx,pJ,hlen]
 refine⟨h1,by rw[h1];exact hbl,fun a ha=>?_⟩
 simp only[dx,iD] at ha
 obtain⟨m,hm,rfl⟩:=List.mem_map.1 ha
 have hm:=List.mem_range.1 hm
 have hwk:(bP (aF (eW r)))[m]<(eW r).bl.length:=by
  have:=qb (List.getElem_mem hm)
  rwa [fp] at this
 have hgd:(bP (aF (eW r))).getD m 0=(bP (aF (eW r)))[m]:=by simp[List.getD_eq_getElem?_getD,hm]
 refine⟨_,rfl,?_⟩
 rw[hgd]
 exact IX hs h hr (by rw[a7 _ _ hwk];exact List.getElem_mem _) _
theorem Si(κ:Kp)(ds rs:List AV)(k:Int)(h1:ds.length<=aL)(h2: ∀d,d∈ds->(ah (af d 1)).length<=aL):bD (Pr κ) 3 [mO ds rs, .int k] [] (fun r _=>r= .bool true):=by
 refine cZ (V4 κ).ok (V4 κ).mono (N:=12) ?_
 refine Eq.mpr (yQc κ ds rs k _) (Gh h1 h2 rfl fun hs _=>?_)
 have hp:=sH hs
 refine⟨⟨ds,rs,k⟩,rfl,hp,?_⟩
 rw[ae,aa0,aa2]
 refine⟨fun e=>?_,fun e=>ae.2 ⟨fun _=>rfl,fun e2=>absurd (bne_eq_false_iff_eq.1 e2) e⟩⟩
 obtain⟨hc,⟨k0,k1⟩,_⟩:=M4 (show Ca ds rs k k rs.length=0 from e)
 have hk:k.toNat<rs.length:=by omega
 have hx:nth rs k.toNat∈rs:=by rw[a7 _ _ hk];exact List.getElem_mem _
 obtain⟨m1,m2,m3⟩:=HT hp hc hx
 obtain⟨⟨q0,q1,q2,_⟩,_⟩:=Ax hc hx
 refine⟨rfl,⟨ds,rs,k,dx ds (eW (nth rs k.toNat)),0⟩,rfl,⟨Nat.zero_le _,m2,m3⟩,?_⟩
 have hk2:(decide ((0:Int)<=k)&&decide (k<(rs.length:Int)))=true:=by rw[aa1,aa0,aa0];exact⟨k0,k1⟩
 have q0':0<=(dx ds (eW (nth rs k.toNat))).rel:=q0
 have q1':(dx ds (eW (nth rs k.toNat))).rel<ds.length:=q1
 refine ai.2 ⟨hk2,ae.2 ⟨fun _=>ae.2 ⟨fun _=>ae.2 ⟨fun _=>ai.2 ⟨by rw[aa1,aa0,aa0];exact⟨q0',q1'⟩,ai.2 ⟨hk2,?_⟩⟩,fun x=>absurd q1' (of_decide_eq_false x)⟩,fun x=>absurd q0' (of_decide_eq_false x)⟩,fun x=>absurd (show(((dx ds (eW (nth rs k.toNat))).steps.length:Nat):Int)=_ from by rw[m1]) (by simpa using x)⟩⟩
 have q2':toStr (af (nth ds (dx ds (eW (nth rs k.toNat))).rel.toNat) 0)=toStr (af (af (nth rs k.toNat) 0) 0):=q2
 simp only[q2',beq_self_eq_true]
end Go.Proofs.YtioeffnadipbaaaGreatDoor
