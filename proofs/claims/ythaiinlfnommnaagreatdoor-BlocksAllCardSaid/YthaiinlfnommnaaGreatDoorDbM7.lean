import Derived.Test.YthaiinlfnommnaaGreatDoorDbM5
import Derived.Test.YthaiinlfnommnaaGreatDoorDbM6
namespace Go.Proofs.YthaiinlfnommnaaGreatDoor
open Go Go.Dn Go.Rl Go.Proofs Go.RowKit Go.Extern.Stop Go.Stop Go.Extern
def PK(κ:Kp)(e:Int):Addr:=bif decide (e=51) then κ.fK else bif decide (e=52) then κ.arity else κ.type
def bj(κ:Kp)(e:Int):Value:=bif decide (e=0) then .nilIface else .iface 306 (.pointer (some (PK κ e)))
def w8(e:Int):Prop:=e=51\/e=52\/e=53
def js(e:Int):Prop:=e=0\/w8 e
theorem cV(κ:Kp)(e:Int):aE (bj κ e)=true:=by unfold bj;cases decide (e=0)<;>rfl
theorem jD(κ:Kp)(e:Int):bR (bj κ e)=decide (e=0):=by unfold bj;cases decide (e=0)<;>rfl
theorem KL(κ:Kp){e k:Int}(he:w8 e)(hk:w8 k)(h:e≠k):PK κ e≠PK κ k:=by
 rcases he with rfl|rfl|rfl<;>rcases hk with rfl|rfl|rfl<;>first|exact absurd rfl h|exact κ.d1|exact κ.d2|exact κ.d3|exact κ.d1.symm|exact κ.d2.symm|exact κ.d3.symm
theorem NI(κ:Kp){e k:Int}(he:js e)(hk:js k):bj κ e=bj κ k↔e=k:=by
 refine⟨fun h=>?_,fun h=>by rw[h]⟩
 rcases he with rfl|he
 ·rcases hk with rfl|hk
  ·rfl
  ·have:decide (k=0)=false:=by rcases hk with rfl|rfl|rfl<;>rfl
   unfold bj at h
   rw[this] at h;cases h
 ·have e0:decide (e=0)=false:=by rcases he with rfl|rfl|rfl<;>rfl
  rcases hk with rfl|hk
  ·unfold bj at h
   rw[e0] at h;cases h
  ·have k0:decide (k=0)=false:=by rcases hk with rfl|rfl|rfl<;>rfl
   unfold bj at h
   rw[e0,k0,aa7,aa7] at h
   simp only[Value.iface.injEq,Value.pointer.injEq,aa5,true_and] at h
   by_cases hh:e=k
   ·exact hh
   ·exact absurd h (KL κ he hk hh)
theorem GX(κ:Kp){e:Int}(he:w8 e): ∃c t,xI κ (PK κ e).block=some (.cells c t (0,0)):=by
 have go: ∀b,(∀g,g∈[1,0,3,4,2]->b≠g)->b=κ.fK.block\/b=κ.arity.block\/b=κ.type.block->∃c t,xI κ b=some (.cells c t (0,0)):=by
  intro b hb h
  unfold xI
  rw[sr (hb _ (by simp)),sr (hb 0 (by simp)),sr (hb 3 (by simp)),sr (hb 4 (by simp)),sr (hb 2 (by simp))]
  simp only[aa7]
  cases h1:Nat.beq b κ.fK.block with
  |true=>exact⟨_,_,rfl⟩
  | false=>
   rw[aa7]
   cases h2:Nat.beq b κ.arity.block with
   |true=>exact⟨_,_,rfl⟩
   | false=>
    rw[aa7]
    cases h3:Nat.beq b κ.type.block with
    |true=>exact⟨_,_,rfl⟩
    |false=>
     rcases h with h|h|h
     ·rw[h,Nat.beq_refl] at h1;cases h1
     ·rw[h,Nat.beq_refl] at h2;cases h2
     ·rw[h,Nat.beq_refl] at h3;cases h3
 rcases he with rfl|rfl|rfl
 ·exact go _ κ.n3 (.inl rfl)
 ·exact go _ κ.n4 (.inr (.inl rfl))
 ·exact go _ κ.n5 (.inr (.inr rfl))
theorem Tc(v:Value)(xT:TypeId)(w:World):(Instr.typeAssert (.iface 306 v) xT 284 true).run Tryz.prog w= .ok (.tuple #[.nilIface, .bool false]) w:=run_typeAssert_lacksB Tryz.underlying284 (by kernel_rfl) (by kernel_rfl) v xT w
theorem HI(v:Value)(xT:TypeId)(w:World):(Instr.typeAssert (.iface 306 v) xT 286 true).run Tryz.prog w= .ok (.tuple #[.nilIface, .bool false]) w:=run_typeAssert_lacksB Tryz.underlying286 (by kernel_rfl) (by kernel_rfl) v xT w
theorem EA(v:Value)(xT:TypeId)(w:World):(Instr.typeAssert (.iface 306 v) xT 288 true).run Tryz.prog w= .ok (.tuple #[.nilIface, .bool false]) w:=run_typeAssert_lacksB Tryz.underlying288 (by kernel_rfl) (by kernel_rfl) v xT w
set_option maxRecDepth 8000 in
theorem JV(a b:Addr)(w:World)(hab:a≠b){ca cb:Array Value}{ta tb:TypeId}(ha:w.heap[a.block]? =some (.cells ca ta (0,0)))(hb:w.heap[b.block]? =some (.cells cb tb (0,0))):
  Calls Tryz.prog 113 #[.iface 306 (.pointer (some a)), .iface 306 (.pointer (some b))] w fun e w'=>e= .returned (.bool false)/\w'=w:=by
 obtain⟨i,hi,hcmp⟩:=Option.map_eq_some_iff.1 EG
 obtain⟨j,hj,hjs⟩:=Option.map_eq_some_iff.1 EK
 have h8:= @run_callFunc_extern Tryz.prog 184 _ Extern.ReflectliteType.typeOf Tryz.func184 (by kernel_rfl) (by kernel_rfl) (by kernel_rfl) (by kernel_rfl)
 have h32:= @run_callFunc_extern Tryz.prog 290 _ (Extern.ReflectliteType.method fun t=>do Go.Extern.Rtype.noPackHeld "Comparable" t;pure (.bool (←typeInfo t).comparable)) Tryz.func290 (by kernel_rfl) (by kernel_rfl) (by kernel_rfl) (by kernel_rfl)
 have tT:=uO
 have cT:=mK
 have mR:=iG
 have hne:=run_eql_iface_ptr_other (P:=Tryz.prog) w Tryz.underlying170 Tryz.underlying306 hi hcmp hj (by omega) hab ha hb
 have n1:=Tc
 have n2:=HI
 have n3:=EA
 go_enter Tryz.func113,Tryz.ntmps113
 go_wp2
 refine wp_loop_rounds 1 ?_
 rw[rounds_succ]
 go_wp2
 all_goals (go_ret;exact⟨rfl,rfl⟩)
open Classical in
noncomputable def kR(κ:Kp)(v:Value):Bool:=decide (∃e,js e/\v=bj κ e)
open Classical in
noncomputable def lV(κ:Kp)(v:Value):Bool:=decide (∃e,w8 e/\v=bj κ e)
open Classical in
noncomputable def gI(v t:Value):Bool:=decide (v=t)
theorem uY(κ:Kp)(v:Value):kR κ v=true↔ ∃e,js e/\v=bj κ e:=by unfold kR;exact @decide_eq_true_iff _ (Classical.propDecidable _)
theorem Dk(κ:Kp)(v:Value):lV κ v=true↔ ∃e,w8 e/\v=bj κ e:=by unfold lV;exact @decide_eq_true_iff _ (Classical.propDecidable _)
theorem I5(v t:Value):gI v t=true↔v=t:=by unfold gI;exact @decide_eq_true_iff _ (Classical.propDecidable _)
theorem AE(κ:Kp){e:Int}(h:js e):kR κ (bj κ e)=true:=(uY _ _).2 ⟨e,h,rfl⟩
theorem AX(κ:Kp){e:Int}(h:w8 e):lV κ (bj κ e)=true:=(Dk _ _).2 ⟨e,h,rfl⟩
theorem iB(κ:Kp){e k:Int}(he:js e)(hk:js k):gI (bj κ e) (bj κ k)=decide (e=k):=by
 rw[Bool.eq_iff_iff,I5,aa2]
 exact NI κ he hk
noncomputable def R4(κ:Kp):List AV->Option (Bool×AV)
 |[.lit v, .lit t]=>some (kR κ v&&lV κ t, .bool (gI v t))
 |_=>none
theorem YV(κ:Kp):gm (Pr κ) 113 (R4 κ):=by
 intro args x hn hg
 unfold R4 at hg
 split at hg
 ·simp only[aa5,ab1,aa3] at hg
  obtain⟨⟨h1,h2⟩,rfl⟩:=hg
  obtain⟨e,he,rfl⟩:=(uY _ _).1 h1
  obtain⟨k,hk,rfl⟩:=(Dk _ _).1 h2
  have k0:decide (k=0)=false:=by rcases hk with rfl|rfl|rfl<;>rfl
  have hk':bj κ k= .iface 306 (.pointer (some (PK κ k))):=by unfold bj;rw[k0];rfl
  refine⟨_,_,Tryz.func113,rfl,rfl,rfl,fun C vs hC hI hm=>?_⟩
  rw[vo hm,iB κ he (.inr hk)]
  rcases he with rfl|he
  ·have e0:bj κ 0= .nilIface:=rfl
   rw[e0,hk']
   refine(callsIn_wide.2 (MB _ C.w)).mono ?_
   rintro e w' ⟨rfl,rfl⟩
   refine⟨?_,ir.refl _⟩
   rw[aa6 (by rcases hk with rfl|rfl|rfl<;>decide)]
  ·have e0:decide (e=0)=false:=by rcases he with rfl|rfl|rfl<;>rfl
   have he':bj κ e= .iface 306 (.pointer (some (PK κ e))):=by unfold bj;rw[e0];rfl
   rw[he',hk']
   by_cases h:e=k
   ·subst h
    refine(callsIn_wide.2 (Gt _ C.w)).mono ?_
    rintro e w' ⟨rfl,rfl⟩
    refine⟨?_,ir.refl _⟩
    rw[aa8 rfl]
   ·obtain⟨c1,t1,q1⟩:=GX κ he
    obtain⟨c2,t2,q2⟩:=GX κ hk
    have w1:=(hI.kept _ _ (by rw[hC];exact q1)).2
    have w2:=(hI.kept _ _ (by rw[hC];exact q2)).2
    refine(callsIn_wide.2 (JV _ _ C.w (KL κ he hk h) w1 w2)).mono ?_
    rintro e w' ⟨rfl,rfl⟩
    refine⟨?_,ir.refl _⟩
    rw[aa6 h]
 ·cases hg
noncomputable def OZ(κ:Kp):Env:=(X1 κ).aG 113 (R4 κ)
theorem eIe(κ:Kp):aD (OZ κ):=(e15 κ).eo (YV κ)
theorem ZM(κ:Kp):aj (OZ κ):=(m15 κ).aG
end Go.Proofs.YthaiinlfnommnaaGreatDoor
namespace Go.Proofs.YthaiinlfnommnaaGreatDoor
open Go Go.Dn Go.Rl Go.Proofs
attribute [local irreducible] bf vc
set_option maxRecDepth 20000
structure QX where
 rel:ByteArray
 names:List AV
 types:List AV
 i:Bool
 o:Bool
 line:Int
abbrev Yx(d:QX):AV:= .agg [.lit (.string d.rel), .ad 9 d.names, .ad 3 d.types, .bool d.i, .bool d.o, .int d.line]
def Fh(t:AV):Bool:=decide (toInt t=1)||decide (toInt t=2)
def yW:List AV->List AV->Bool
 |n::ns,t::ts=>isName (toStr n)&&Fh t&&yW ns ts
 |_,_=>true
def BU(rel:ByteArray)(ns ts:List AV):Bool:=isName rel&& !decide (ns.length=0)&&decide (ns.length<=8)&&decide (ts.length=ns.length)&&yW ns ts
def u5(a:AV):Bool:=BU (toStr (ae a 0)) (ai (ae a 1)) (ai (ae a 2))
theorem I4{ns ts:List AV}{i:Nat}(h1:i<ns.length)(h2:i<ts.length):yW (ns.drop i) (ts.drop i)=(isName (toStr (nth ns i))&&Fh (nth ts i)&&yW (ns.drop (i+1)) (ts.drop (i+1))):=by
 rw[ab3 h1,ab3 h2,yW,aZ _ _ h1,aZ _ _ h2]
theorem xDc(κ:Kp)(d:QX)(i:Int)(I:Nat->S->Prop)(n:Nat)(K:Exit->S->Prop):(vc (OZ κ) 12 176 none 0 (ah (Pr κ).toProgram 176 4) (sp 58 [(1, .ptr 0 0 [] 0),(31, .ad 9 d.names),(32, .int d.names.length),(33, .int i)] [.box 61 (Yx d)]) (bL (OZ κ) 176 4 0 I n K))=(
 letI z1:=∃(e0:Nat),e0<n/\I e0 (sp 58 [(1,AV.ptr 0 0 [] 0),(31,AV.ad 9 d.names),(32,AV.int (↑(d.names.length):Int)),(33,AV.int (IntKind.wrap
  IntKind.i64 (i+(1:Int))))] [Obj.box 61 (AV.agg [AV.str d.rel,AV.ad 9 d.names,AV.ad 3 d.types,AV.bool d.i,AV.bool d.o,AV.int d.line])])
 letI z2:=decide ((0:Int)<=i)&&decide (i<(↑(d.types.length):Int))
 letI z3:=K Exit.ret (sp 58 [(2,AV.bool false)] [])
 letI z4:=i<(↑(d.names.length):Int)
 aC (decide z4) (ba (decide ((0:Int)<=i)&&decide z4) (aC (!isName (toStr (nth d.names i.toNat))) z3 (ba z2 (aC (toInt (nth d.types i.toNat) != (1:Int))
 (ba z2 (aC (toInt (nth d.types i.toNat) != (2:Int)) z3 z1)) z1)))) (K (Exit.exit 0) (sp 58 [] []))):=by kernel_rfl
abbrev N6(a:QX×Int):S:=sp 58 [(1, .ptr 0 0 [] 0),(31, .ad 9 a.1.names),(32, .int a.1.names.length),(33, .int a.2)] [.box 61 (Yx a.1)]
def DX(a:QX×Int):Prop:=a.1.types.length=a.1.names.length/\a.1.names.length<=8/\0<=a.2/\a.2<=a.1.names.length
def Cd(a:QX×Int):Out (Exit×S):= .aC (yW (a.1.names.drop a.2.toNat) (a.1.types.drop a.2.toNat)) (.one (.exit 0,sp 58 [] [])) (.one (.ret,sp 58 [(2, .bool false)] []))
theorem lDc(κ:Kp):bk (OZ κ) 12 176 4 (aP 0 N6 DX Cd):=by
 refine aL (fun a=>a.1.names.length - a.2.toNat) ?_
 rintro⟨d,i⟩ K ⟨h1,h2,h3,h4⟩ ho
 simp only at h1 h2 h3 h4
 rw[show(OZ κ).P=Pr κ from rfl]
 refine Eq.mpr (xDc κ d i _ _ K) ?_
 simp only[Cd,Out.run,af] at ho
 simp only[af,an,aa2,aa4,aa3,Bool.not_eq_true',ab4,bne_iff_ne,bne_eq_false_iff_eq]
 refine⟨fun hi=>?_,fun hi=>?_⟩
 ·have hk:i.toNat<d.names.length:=by omega
  rw[I4 hk (by omega)] at ho
  rw[aW (n:=i+1) (by omega) (by omega)]
  have go:Fh (nth d.types i.toNat)=true->isName (toStr (nth d.names i.toNat))=true->∃m,m<d.names.length - i.toNat/\eY N6 DX Cd (fun a=>a.1.names.length - a.2.toNat) K m (N6 (d,i+1)):=fun e1 e2=>by
   rw[e1,e2,ac1,ac1] at ho
   refine⟨_,?_,(d,i+1),rfl,⟨h1,h2,by simp only;omega,by simp only;omega⟩,rfl,?_⟩
   ·simp only;omega
   ·simp only[Cd,Out.run,af,show(i+1).toNat=i.toNat+1 by omega]
    exact ho
  refine⟨⟨h3,hi⟩,fun e=>ho.2 (by rw[e];rfl),fun e=>⟨⟨h3,by omega⟩,fun e1=>⟨⟨h3,by omega⟩,fun e2=>ho.2 ?_,fun e2=>go ?_ e⟩,fun e1=>go ?_ e⟩⟩
  ·have:Fh (nth d.types i.toNat)=false:=by unfold Fh;rw[aa6 e1,aa6 e2];rfl
   rw[this,e];rfl
  ·unfold Fh;rw[aa8 e2,Bool.or_true]
  ·unfold Fh;rw[aa8 e1,Bool.true_or]
 ·rw[ab0 (by omega)] at ho
  exact ho.1 rfl
noncomputable def VM(κ:Kp):Env:=(OZ κ).ak 176 4 (aP 0 N6 DX Cd)
theorem eDl(κ:Kp):aD (VM κ):=(eIe κ).ak (ZM κ) (lDc κ)
theorem mDl(κ:Kp):aj (VM κ):=(ZM κ).ak aI
theorem yDc(κ:Kp)(d:QX)(K:AV->List Dn.Obj->Prop):(bf (VM κ) 12 176 [Yx d] [] K)=(
 letI z1:=K (AV.bool false) []
 letI z2:=d.names.length
 letI z3:=Pg.toProgram (Env.P (OZ κ))
 aC (!isName d.rel) z1 (aC ((↑z2:Int)==(0:Int)) z1 (aC (decide ((↑z2:Int)>(8:Int))) z1 (aC ((↑(d.types.length):Int) != (↑z2:Int)) z1 (ah z3 176 4
 =ah z3 176 4/\∃(e0:QX×Int),sp 58 [(1,AV.ptr 0 0 [] 0),(31,AV.ad 9 d.names),(32,AV.int (↑z2:Int)),(33,AV.int 0)] [Obj.box 61 (AV.agg [AV.str
 d.rel,AV.ad 9 d.names,AV.ad 3 d.types,AV.bool d.i,AV.bool d.o,AV.int d.line])]=sp 58 [(1,AV.ptr 0 0 [] 0),(31,AV.ad 9 e0.1.names),(32,AV.int
 (↑(e0.1.names.length):Int)),(33,AV.int e0.2)] [Obj.box 61 (AV.agg [AV.str e0.1.rel,AV.ad 9 e0.1.names,AV.ad 3 e0.1.types,AV.bool e0.1.i,AV.bool e0.1.o,
 AV.int e0.1.line])]/\(e0.1.types.length=e0.1.names.length/\e0.1.names.length<=8/\(0:Int)<=e0.2/\e0.2<=(↑(e0.1.names.length):Int))/\aC (yW
 (List.drop e0.2.toNat e0.1.names) (List.drop e0.2.toNat e0.1.types)) (K (AV.bool true) []) z1))))):=by kernel_rfl
def Xz:List AV->Option (Bool×AV)
 |[.agg [.lit (.string rel), .ad 9 ns, .ad 3 ts, .lit (.bool _), .lit (.bool _), .lit (.int .i64 _)]]=>some (true, .bool (BU rel ns ts))
 |_=>none
theorem pDc(κ:Kp):cy (VM κ) 12 176 Xz:=by
 intro args x hh
 unfold Xz at hh
 split at hh
 ·rename_i rel ns ts bi bo line
  simp only[aa5,ab1,true_and] at hh
  subst hh
  refine⟨_,rfl,rfl,?_⟩
  refine Eq.mpr (yDc κ ⟨rel,ns,ts,bi,bo,line⟩ _) ?_
  unfold BU
  simp only[af,aa2,aa4,Bool.not_eq_true',ab4,beq_iff_eq,beq_eq_false_iff_ne,bne_iff_ne,bne_eq_false_iff_eq]
  refine⟨fun e=>oa (by rw[e];rfl),fun e=>⟨fun e2=>oa ?_,fun e2=>⟨fun e3=>oa ?_,fun e3=>⟨fun e4=>oa ?_,fun e4=>⟨trivial,(⟨rel,ns,ts,bi,bo,line⟩,0),rfl,⟨by simp only;omega,by simp only;omega,by simp only;omega,by simp only;omega⟩,?_⟩⟩⟩⟩⟩
  ·rw[aa8 (show ns.length=0 by omega)];simp
  ·rw[aa6 (show ¬ ns.length<=8 by omega)];simp
  ·rw[aa6 (show ¬ ts.length=ns.length by omega)];simp
  ·rw[e,aa6 (show ¬ ns.length=0 by omega),aa8 (show ns.length<=8 by omega),aa8 (show ts.length=ns.length by omega)]
   simp only[ab9,ab2,Bool.not_false,ac1]
   exact⟨fun e5=>oa e5.symm,fun e5=>oa e5.symm⟩
 ·cases hh
noncomputable def O6(κ:Kp):Env:=(VM κ).aG 176 Xz
theorem eDc(κ:Kp):aD (O6 κ):=(eDl κ).aG (mDl κ) (pDc κ)
theorem Zj(κ:Kp):aj (O6 κ):=(mDl κ).aG
theorem Yb(κ:Kp)(ds rs:List AV)(i:Int)(I:Nat->S->Prop)(n:Nat)(K:Exit->S->Prop):(vc (O6 κ) 12 95 none 1 (ah (Pr κ).toProgram 95 2) (sp 19 [(0, .ad 61 ds),(1, .bQ 175 []),(7, .int ds.length),(8, .int i)] [.box 25 (.agg [.ad 61 ds, .ad 66 rs])]) (bL (O6 κ) 95 2 1 I n K))=(
 letI z1:=AV.agg [AV.ad 61 ds,AV.ad 66 rs]
 letI z2:=nth ds i.toNat
 letI z3:=i<(↑(ds.length):Int)
 aC (decide z3) (ba (decide ((0:Int)<=i)&&decide z3) (aC (!BU (toStr (ae z2 0)) (ai (ae z2 1)) (ai (ae z2 2))) (K Exit.ret (sp 19 [(4,AV.int i)] [Obj.box
 25 z1])) (∃(e0:Nat),e0<n/\I e0 (sp 19 [(0,AV.ad 61 ds),(1,AV.bQ 175 []),(7,AV.int (↑(ds.length):Int)),(8,AV.int (IntKind.wrap IntKind.i64 (i+
 (1:Int))))] [Obj.box 25 z1])))) (K (Exit.exit 0) (sp 19 [] [Obj.box 25 z1]))):=by kernel_rfl
abbrev L8:Nat:=95
abbrev SG:Nat:=194
abbrev IY(ds rs:List AV):Dn.Obj:= .box 25 (.agg [.ad 61 ds, .ad 66 rs])
abbrev Pu:=List AV×List AV×Int
abbrev PZ(a:Pu):S:=sp 19 [(0, .ad 61 a.1),(1, .bQ 175 []),(7, .int a.1.length),(8, .int a.2.2)] [IY a.1 a.2.1]
def HB(a:Pu):Prop:=a.1.length<=aM/\0<=a.2.2/\a.2.2<=a.1.length
def Az(a:Pu):Out (Exit×S):= .aC ((a.1.drop a.2.2.toNat).all u5) (.one (.exit 0,sp 19 [] [IY a.1 a.2.1])) (.all (fun j:Int=>0<=j) fun j=> .one (.ret,sp 19 [(4, .int j)] [IY a.1 a.2.1]))
theorem W1(κ:Kp):bk (O6 κ) 12 L8 2 (aP 1 PZ HB Az):=by
 refine aL (fun a=>a.1.length - a.2.2.toNat) ?_
 rintro⟨ds,rs,i⟩ K ⟨h1,h2,h3⟩ ho
 simp only at h1 h2 h3
 rw[show(O6 κ).P=Pr κ from rfl]
 refine Eq.mpr (Yb κ ds rs i _ _ K) ?_
 simp only[aM] at h1
 simp only[Az,Out.run,af] at ho
 simp only[af,an,aa2,aa4,aa3,Bool.not_eq_true',ab4]
 refine⟨fun hi=>⟨⟨h2,hi⟩,?_⟩,fun hi=>?_⟩
 ·have hk:i.toNat<ds.length:=by omega
  rw[ab3 hk,←aZ ds i.toNat hk,List.all_cons] at ho
  refine⟨fun e=>ho.2 (by rw[show u5 (nth ds i.toNat)=false from e];rfl) i h2,fun e=>?_⟩
  rw[show u5 (nth ds i.toNat)=true from e,ac1] at ho
  rw[aW (n:=i+1) (by omega) (by omega)]
  refine⟨_,?_,(ds,rs,i+1),rfl,⟨by simpa[aM] using h1,by simp only;omega,by simp only;omega⟩,rfl,?_⟩
  ·simp only;omega
  ·simp only[Az,Out.run,af,show(i+1).toNat=i.toNat+1 by omega]
   exact ho
 ·rw[ab0 (by omega)] at ho
  exact ho.1 rfl
noncomputable def wu(κ:Kp):Env:=(O6 κ).ak L8 2 (aP 1 PZ HB Az)
theorem WE(κ:Kp):aD (wu κ):=(eDc κ).ak (Zj κ) (W1 κ)
theorem Ve(κ:Kp):aj (wu κ):=(Zj κ).ak aI
theorem Yu(κ:Kp)(ds rs:List AV)(i:Int)(I:Nat->S->Prop)(n:Nat)(K:Exit->S->Prop):(vc (wu κ) 12 194 none 1 (ah (Pr κ).toProgram 194 2) (sp 19 [(0, .ad 66 rs),(1, .bQ 177 []),(7, .int rs.length),(8, .int i)] [.box 25 (.agg [.ad 61 ds, .ad 66 rs])]) (bL (wu κ) 194 2 1 I n K))=(
 letI z1:=AV.agg [AV.ad 61 ds,AV.ad 66 rs]
 letI z2:=nth rs i.toNat
 letI z3:=i<(↑(rs.length):Int)
 aC (decide z3) (ba (decide ((0:Int)<=i)&&decide z3) (ba (decide (List.length (ai (ae (ae z2 0) 1))<=9223372036854775807)&&decide (List.length (ai (ae z2 1))<=9223372036854775807)) (aC (!aQ {head:={rel:=toStr (ae (ae z2 0) 0),l:=aa (ai (ae (ae z2 0) 1))},body:=di (ai (ae z2 1))}) (K Exit.ret (sp 19 [(4,AV.int i)] [Obj.box 25 z1])) (∃(e0:Nat),e0<n/\I e0 (sp 19 [(0,AV.ad 66 rs),(1,AV.bQ 177 []),(7,AV.int (↑(rs.length):Int)),(8,AV.int (IntKind.wrap IntKind.i64 (i+(1:Int))))] [Obj.box 25 z1]))))) (K (Exit.exit 0) (sp 19 [] [Obj.box 25 z1]))):=by kernel_rfl
def iz(a:AV):Bool:=decide ((ai (ae (ae a 0) 1)).length<=aM)&&decide ((ai (ae a 1)).length<=aM)
def lR(a:AV):Bool:=aQ (tI a)
abbrev PN(a:Pu):S:=sp 19 [(0, .ad 66 a.2.1),(1, .bQ 177 []),(7, .int a.2.1.length),(8, .int a.2.2)] [IY a.1 a.2.1]
def Ha(a:Pu):Prop:=a.2.1.length<=aM/\0<=a.2.2/\a.2.2<=a.2.1.length/\a.2.1.all iz=true
def Aw(a:Pu):Out (Exit×S):= .aC ((a.2.1.drop a.2.2.toNat).all lR) (.one (.exit 0,sp 19 [] [IY a.1 a.2.1])) (.all (fun j:Int=>0<=j) fun j=> .one (.ret,sp 19 [(4, .int j)] [IY a.1 a.2.1]))
theorem N7{rs:List AV}(h:rs.all iz=true){k:Nat}(hk:k<rs.length):(ai (ae (ae (nth rs k) 0) 1)).length<=aM/\(ai (ae (nth rs k) 1)).length<=aM:=by
 have:=List.all_eq_true.1 h (nth rs k) (by rw[aZ _ _ hk];exact List.getElem_mem hk)
 simpa[iz] using this
theorem XS(κ:Kp):bk (wu κ) 12 SG 2 (aP 1 PN Ha Aw):=by
 refine aL (fun a=>a.2.1.length - a.2.2.toNat) ?_
 rintro⟨ds,rs,i⟩ K ⟨h1,h2,h3,h4⟩ ho
 simp only at h1 h2 h3 h4
 rw[show(wu κ).P=Pr κ from rfl]
 refine Eq.mpr (Yu κ ds rs i _ _ K) ?_
 simp only[aM] at h1
 simp only[Aw,Out.run,af] at ho
 simp only[af,an,aa2,aa4,aa3,Bool.not_eq_true',ab4]
 refine⟨fun hi=>⟨⟨h2,hi⟩,N7 h4 (by omega),?_⟩,fun hi=>?_⟩
 ·have hk:i.toNat<rs.length:=by omega
  rw[ab3 hk,←aZ rs i.toNat hk,List.all_cons] at ho
  refine⟨fun e=>ho.2 (by rw[show lR (nth rs i.toNat)=false from e];rfl) i h2,fun e=>?_⟩
  rw[show lR (nth rs i.toNat)=true from e,ac1] at ho
  rw[aW (n:=i+1) (by omega) (by omega)]
  refine⟨_,?_,(ds,rs,i+1),rfl,⟨by simpa[aM] using h1,by simp only;omega,by simp only;omega,h4⟩,rfl,?_⟩
  ·simp only;omega
  ·simp only[Aw,Out.run,af,show(i+1).toNat=i.toNat+1 by omega]
   exact ho
 ·rw[ab0 (by omega)] at ho
  exact ho.1 rfl
noncomputable def JB(κ:Kp):Env:=(wu κ).ak SG 2 (aP 1 PN Ha Aw)
theorem W5(κ:Kp):aD (JB κ):=(WE κ).ak (Ve κ) (XS κ)
theorem Ud(κ:Kp):aj (JB κ):=(Ve κ).ak aI
theorem yRt(κ:Kp)(ds rs:List AV)(K:AV->List Dn.Obj->Prop):(bf (JB κ) 12 109 [.agg [.ad 61 ds, .ad 66 rs]] [] K)=(
 letI z1:=∀(e0:Int),(0:Int)<=e0->K (AV.lit (Value.bool !decide (e0>=(0:Int)))) []
 letI z2:=Pg.toProgram (Env.P (wu κ))
 letI z3:=K (AV.bool false) []
 letI z4:=Pg.toProgram (Env.P (O6 κ))
 aC (decide ((↑(ds.length):Int)>(60:Int))) z3 (aC (decide ((↑(rs.length):Int)>(200:Int))) z3 (ah z4 L8 2=ah z4 L8 2/\∃(e3:Pu),sp 19 [(0,AV.ad
 61 ds),(1,AV.bQ 175 []),(7,AV.int (↑(ds.length):Int)),(8,AV.int 0)] [Obj.box 25 (AV.agg [AV.ad 61 ds,AV.ad 66 rs])]=sp 19 [(0,AV.ad 61 e3.1),(1,
 AV.bQ 175 []),(7,AV.int (↑(e3.1.length):Int)),(8,AV.int e3.2.2)] [Obj.box 25 (AV.agg [AV.ad 61 e3.1,AV.ad 66 e3.2.1])]/\(e3.1.length<=
 9223372036854775807/\(0:Int)<=e3.2.2/\e3.2.2<=(↑(e3.1.length):Int))/\aC (List.all (List.drop (Int.toNat e3.2.2) e3.1) u5) (ah z2 SG 2=ah z2 SG 2/\∃
 (e1:Pu),sp 19 [(0,AV.ad 66 e3.2.1),(1,AV.bQ 177 []),(7,AV.int (↑(e3.2.1.length):Int)),(8,AV.int 0)] [Obj.box 25 (AV.agg [AV.ad 61 e3.1,AV.ad 66
 e3.2.1])]=sp 19 [(0,AV.ad 66 e1.2.1),(1,AV.bQ 177 []),(7,AV.int (↑(e1.2.1.length):Int)),(8,AV.int e1.2.2)] [Obj.box 25 (AV.agg [AV.ad 61 e1.1,AV.ad
 66 e1.2.1])]/\(e1.2.1.length<=9223372036854775807/\(0:Int)<=e1.2.2/\e1.2.2<=(↑(e1.2.1.length):Int)/\List.all e1.2.1 iz=true)/\aC (List.all
 (List.drop (Int.toNat e1.2.2) e1.2.1) lR) (K (AV.bool true) []) z1) (∀(e2:Int),(0:Int)<=e2->aC (!decide (e2>=(0:Int))) (ah z2 SG 2=ah z2 SG 2/\∃
 (e1:Pu),sp 19 [(0,AV.ad 66 e3.2.1),(1,AV.bQ 177 []),(7,AV.int (↑(e3.2.1.length):Int)),(8,AV.int 0)] [Obj.box 25 (AV.agg [AV.ad 61 e3.1,AV.ad 66
 e3.2.1])]=sp 19 [(0,AV.ad 66 e1.2.1),(1,AV.bQ 177 []),(7,AV.int (↑(e1.2.1.length):Int)),(8,AV.int e1.2.2)] [Obj.box 25 (AV.agg [AV.ad 61 e1.1,AV.ad
 66 e1.2.1])]/\(e1.2.1.length<=9223372036854775807/\(0:Int)<=e1.2.2/\e1.2.2<=(↑(e1.2.1.length):Int)/\List.all e1.2.1 iz=true)/\aC (List.all
 (List.drop (Int.toNat e1.2.2) e1.2.1) lR) (K (AV.bool true) []) z1) z3)))):=by kernel_rfl
def fc(ds rs:List AV):Bool:=decide (ds.length<=60)&&decide (rs.length<=200)&&ds.all u5&&rs.all lR
def XK:List AV->Option (Bool×AV)
 |[.agg [.ad 61 ds, .ad 66 rs]]=>some (rs.all iz, .bool (fc ds rs))
 |_=>none
theorem pRt(κ:Kp):cy (JB κ) 12 109 XK:=by
 intro args x hh
 unfold XK at hh
 split at hh
 ·rename_i ds rs
  simp only[aa5,ab1] at hh
  obtain⟨h1,rfl⟩:=hh
  refine⟨_,rfl,rfl,?_⟩
  refine Eq.mpr (yRt κ ds rs _) ?_
  unfold fc
  rw[af,aa2,aa4]
  refine⟨fun e=>oa (by rw[aa6 (show ¬ ds.length<=60 by omega)];rfl),fun e=>?_⟩
  rw[af,aa2,aa4]
  refine⟨fun e2=>oa (by rw[aa6 (show ¬ rs.length<=200 by omega)];simp),fun e2=>?_⟩
  rw[aa8 (show ds.length<=60 by omega),aa8 (show rs.length<=200 by omega)]
  refine⟨rfl,(ds,rs,0),rfl,⟨by simp only[aM];omega,by simp only;omega,by simp only;omega⟩,?_⟩
  simp only[ab9,ab2,ac1]
  rw[af]
  refine⟨fun e3=>⟨trivial,(ds,rs,0),rfl,⟨by simp only[aM];omega,by simp only;omega,by simp only;omega,h1⟩,?_⟩,fun e3 y hy=>?_⟩
  ·simp only[ab9,ab2]
   rw[af,e3]
   refine⟨fun e4=>oa (by rw[e4];rfl),fun e4 y hy=>oa ?_⟩
   rw[e4,aa8 (show y>=0 from hy)];rfl
  ·rw[aa8 (show y>=0 from hy)]
   exact oa (by rw[e3];rfl)
 ·cases hh
noncomputable def O4(κ:Kp):Env:=(JB κ).aG 109 XK
theorem eRt(κ:Kp):aD (O4 κ):=(W5 κ).aG (Ud κ) (pRt κ)
theorem Zz(κ:Kp):aj (O4 κ):=(Ud κ).aG
theorem xFi(κ:Kp)(ds:List AV)(s:ByteArray)(i:Int)(I:Nat->S->Prop)(n:Nat)(K:Exit->S->Prop):(vc (O4 κ) 12 L8 none 1 (ah (Pr κ).toProgram L8 2) (sp 19 [(0, .ad 61 ds),(1, .bQ 96 [.ptr 0 0 [] 0]),(7, .int ds.length),(8, .int i)] [.box 9 (.lit (.string s))]) (bL (O4 κ) L8 2 1 I n K))=(
 letI z1:=i<(↑(ds.length):Int)
 aC (decide z1) (ba (decide ((0:Int)<=i)&&decide z1) (aC (ByteArray.toList (toStr (ae (nth ds i.toNat) 0))==ByteArray.toList s) (K Exit.ret (sp 19 [(4,
 AV.int i)] [Obj.box 9 (AV.str s)])) (∃(e0:Nat),e0<n/\I e0 (sp 19 [(0,AV.ad 61 ds),(1,AV.bQ 96 [AV.ptr 0 0 [] 0]),(7,AV.int (↑(ds.length):Int)),
 (8,AV.int (IntKind.wrap IntKind.i64 (i+(1:Int))))] [Obj.box 9 (AV.str s)])))) (K (Exit.exit 0) (sp 19 [] [Obj.box 9 (AV.str s)]))):=by kernel_rfl
def lx(s:ByteArray):List AV->Int->Int
 |[],_=> -1
 |d::l,i=>bif ll (toStr (ae d 0)) s then i else lx s l (i+1)
abbrev S9(a:List AV×ByteArray×Int):S:=sp 19 [(0, .ad 61 a.1),(1, .bQ 96 [.ptr 0 0 [] 0]),(7, .int a.1.length),(8, .int a.2.2)] [.box 9 (.lit (.string a.2.1))]
def KU(a:List AV×ByteArray×Int):Prop:=a.1.length<=aM/\0<=a.2.2/\a.2.2<=a.1.length
def GF(a:List AV×ByteArray×Int):Out (Exit×S):= .aC (decide (0<=lx a.2.1 (a.1.drop a.2.2.toNat) a.2.2)) (.one (.ret,sp 19 [(4, .int (lx a.2.1 (a.1.drop a.2.2.toNat) a.2.2))] [.box 9 (.lit (.string a.2.1))])) (.one (.exit 0,sp 19 [] [.box 9 (.lit (.string a.2.1))]))
theorem lFi(κ:Kp):bk (O4 κ) 12 L8 2 (aP 1 S9 KU GF):=by
 refine aL (fun a=>a.1.length - a.2.2.toNat) ?_
 rintro⟨ds,s,i⟩ K ⟨h1,h2,h3⟩ ho
 simp only at h1 h2 h3
 rw[show(O4 κ).P=Pr κ from rfl]
 refine Eq.mpr (xFi κ ds s i _ _ K) ?_
 simp only[aM] at h1
 simp only[GF,Out.run,af] at ho
 simp only[af,an,aa2,aa4,aa3]
 refine⟨fun hi=>⟨⟨h2,hi⟩,?_⟩,fun hi=>?_⟩
 ·have hk:i.toNat<ds.length:=by omega
  rw[ab3 hk,←aZ ds i.toNat hk,lx] at ho
  refine⟨fun e=>?_,fun e=>?_⟩
  ·rw[show ll (toStr (ae (nth ds i.toNat) 0)) s=true from e,aa9] at ho
   exact ho.1 (aa8 h2)
  ·rw[show ll (toStr (ae (nth ds i.toNat) 0)) s=false from e,aa7] at ho
   rw[aW (n:=i+1) (by omega) (by omega)]
   refine⟨_,?_,(ds,s,i+1),rfl,⟨by simpa[aM] using h1,by simp only;omega,by simp only;omega⟩,rfl,?_⟩
   ·simp only;omega
   ·simp only[GF,Out.run,af,show(i+1).toNat=i.toNat+1 by omega]
    exact ho
 ·rw[ab0 (by omega)] at ho
  exact ho.2 rfl
noncomputable def Vy(κ:Kp):Env:=(O4 κ).ak L8 2 (aP 1 S9 KU GF)
theorem eFl(κ:Kp):aD (Vy κ):=(eRt κ).ak (Zz κ) (lFi κ)
theorem ZQ(κ:Kp):aj (Vy κ):=(Zz κ).ak aI
theorem yFi(κ:Kp)(ds:List AV)(s:ByteArray)(K:AV->List Dn.Obj->Prop):(bf (Vy κ) 12 56 [.ad 61 ds, .lit (.string s)] [] K)=(
 ah (Pg.toProgram (Env.P (O4 κ))) L8 2=ah (Pg.toProgram (Env.P (O4 κ))) L8 2/\∃(a:List AV×ByteArray×Int),sp 19 [(0,AV.ad 61 ds),(1,
 AV.bQ 96 [AV.ptr 0 0 [] 0]),(7,AV.int (↑(ds.length):Int)),(8,AV.int 0)] [Obj.box 9 (AV.str s)]=sp 19 [(0,AV.ad 61 a.1),(1,AV.bQ 96 [AV.ptr 0 0 []
 0]),(7,AV.int (↑(a.1.length):Int)),(8,AV.int a.2.2)] [Obj.box 9 (AV.str a.2.1)]/\(a.1.length<=9223372036854775807/\(0:Int)<=a.2.2/\a.2.2<=
 (↑(a.1.length):Int))/\aC (decide ((0:Int)<=lx a.2.1 (List.drop (Int.toNat a.2.2) a.1) a.2.2)) (K (AV.bp [AV.int (if(0:Int)>lx a.2.1
 (List.drop (Int.toNat a.2.2) a.1) a.2.2 then(0:Int) else lx a.2.1 (List.drop (Int.toNat a.2.2) a.1) a.2.2),AV.bool (decide (lx a.2.1 (List.drop
 (Int.toNat a.2.2) a.1) a.2.2>=(0:Int)))]) []) (K (AV.bp [AV.int 0,AV.bool false]) [])):=by kernel_rfl
def bD(s:ByteArray)(ds:List AV):Int:=bif decide (0<=lx s ds 0) then lx s ds 0 else 0
def fD(s:ByteArray)(ds:List AV):Bool:=decide (0<=lx s ds 0)
def B5(a:List AV×ByteArray):List AV×List Dn.Obj:=([.ad 61 a.1, .lit (.string a.2)],[])
def gK(a:List AV×ByteArray):Prop:=a.1.length<=aM
def DA(a:List AV×ByteArray):Out (AV×List Dn.Obj):= .one (.bp [.int (bD a.2 a.1), .bool (fD a.2 a.1)],[])
theorem cFi(κ:Kp):bz (Vy κ) 12 56 (aR B5 gK DA):=by
 refine bg ?_
 rintro⟨ds,s⟩ K h1 ho
 refine Eq.mpr (yFi κ ds s K) ?_
 simp only[DA,Out.run,bD,fD] at ho
 refine⟨rfl,(ds,s,0),rfl,⟨h1,by simp only;omega,by simp only;omega⟩,?_⟩
 simp only[ab9,ab2]
 rw[af]
 refine⟨fun e=>?_,fun e=>?_⟩
 ·rw[e,aa9] at ho
  rw[aa2] at e
  rw[if_neg (by omega),aa8 (show lx s ds 0>=0 from e)]
  exact ho
 ·rw[e,aa7] at ho
  exact ho
noncomputable def TV(κ:Kp):Env:=(Vy κ).ay 56 (aR B5 gK DA)
theorem eFi(κ:Kp):aD (TV κ):=(eFl κ).ay (ZQ κ) (cFi κ)
theorem ZH(κ:Kp):aj (TV κ):=(ZQ κ).ay aK
structure jC where
 ds:List AV
 es:List (Value×AV)
 more:Bool
abbrev bV(a:jC):List Dn.Obj:=[.box 225 (.agg [.ad 61 a.ds, .mp 1, .bool a.more]), .map 9 3 a.es]
abbrev Dq:AV:= .ptr 0 0 [] 0
theorem yOf(κ:Kp)(a:jC)(t:AT)(K:AV->List Dn.Obj->Prop):(bf (TV κ) 12 259 [Dq,cv t] (bV a) K)=(
 aC (t.op==(1:Int)) (K (AV.int (toInt (dt a.es (Value.string t.s) (AV.int 0)))) (bV a)) (aC (t.op==(3:Int)) (K (AV.int 2) (bV a)) (aC (t.op==(4:Int))
 (K (AV.int 0) (bV a)) (K (AV.int 1) (bV a))))):=by kernel_rfl
def U5(x:jC×AT):List AV×List Dn.Obj:=([Dq,cv x.2],bV x.1)
def Lj(_:jC×AT):Prop:=True
def LN(x:jC×AT):Out (AV×List Dn.Obj):= .one (.int (bK getM x.2.tm x.1.es),bV x.1)
theorem cOf(κ:Kp):bz (TV κ) 12 259 (aR U5 Lj LN):=by
 refine bg ?_
 rintro⟨a,t⟩ K _ ho
 refine Eq.mpr (yOf κ a t K) ?_
 simp only[LN,Out.run] at ho
 have e:bK getM t.tm a.es=bif decide (t.op=1) then getM a.es t.s else bif decide (t.op=3) then 2 else bif decide (t.op=4) then 0 else 1:=rfl
 rw[e] at ho
 simp only[Qd]
 cases h1:decide (t.op=1) with
 |true=>rw[h1] at ho;exact ho
 | false=>
  rw[h1] at ho
  cases h3:decide (t.op=3) with
  |true=>rw[h3] at ho;exact ho
  |false=>
   rw[h3] at ho
   cases h4:decide (t.op=4) with
   |true=>rw[h4] at ho;exact ho
   |false=>rw[h4] at ho;exact ho
noncomputable def Wt(κ:Kp):Env:=(TV κ).ay 259 (aR U5 Lj LN)
theorem eYo(κ:Kp):aD (Wt κ):=(eFi κ).ay (ZH κ) (cOf κ)
theorem Zk(κ:Kp):aj (Wt κ):=(ZH κ).ay aK
structure o9 where
 a:jC
 t:AT
 k:Int
def aU(a:jC)(t:AT)(k:Int):Bool×(List (Value×AV)×Bool):=t.tm.want getM gp k (a.es,a.more)
def dS(a:jC)(r:List (Value×AV)×Bool):jC:=⟨a.ds,r.1,r.2⟩
def gV(b:Bool):Int:=bif b then 53 else 0
def Q0(x:o9):List AV×List Dn.Obj:=([Dq,cv x.t, .int x.k],bV x.a)
def QT(n:Nat)(x:o9):Prop:=x.t.tm.gu=n/\n<=100000
noncomputable def FW(κ:Kp)(x:o9):Out (AV×List Dn.Obj):= .one (.lit (bj κ (gV (aU x.a x.t x.k).1)),bV (dS x.a (aU x.a x.t x.k).2))
noncomputable def L6(κ:Kp)(n:Nat):dw:=aR Q0 (QT n) (FW κ)
noncomputable def NY(κ:Kp)(r:Nat):Env:=(Wt κ).ay 258 fun args st K=>∃m,m<r/\L6 κ m args st K
theorem xWt(κ:Kp)(r:Nat)(a:jC)(t:AT)(k:Int)(i:Int)(I:Nat->S->Prop)(n:Nat)(K:Exit->S->Prop):(vc (NY κ r) 12 258 none 2 (ah (Pr κ).toProgram 258 2) (sp 56 [(0,Dq),(2, .int k),(4, .ptr 2 0 [] 0),(12, .ad 56 t.l),(13, .int t.l.length),(14, .int i)] (bV a++[.box 56 (cv t)])) (bL (NY κ r) 258 2 2 I n K))=(
 letI z1:=nth t.l i.toNat
 letI z2:=i<(↑(t.l.length):Int)
 aC (decide z2) (ba (decide ((0:Int)<=i)&&decide z2) (∃(e2:Nat),e2<r/\∃(e1:o9),([AV.ptr 0 0 [] 0,AV.agg [AV.int (toInt (ae z1 0)),AV.str (toStr
 (ae z1 1)),AV.int (toInt (ae z1 2)),AV.ad 56 (ai (ae z1 3))],AV.int 1],(bV a))=([AV.ptr 0 0 [] 0,cv e1.t,AV.int e1.k],(bV e1.a))/\(Tm.gu (AT.tm e1.t)
 =e2/\e2<=100000)/\ba (aE (bj κ (gV (Prod.fst (aU e1.a e1.t e1.k))))) (aC (!bR (bj κ (gV (Prod.fst (aU e1.a e1.t e1.k))))) (K Exit.ret (sp 56 [(6,AV.lit (bj
 κ (gV (Prod.fst (aU e1.a e1.t e1.k)))))] (bV (dS e1.a (Prod.snd (aU e1.a e1.t e1.k)))))) (∃(e0:Nat),e0<n/\I e0 (sp 56 [(0,AV.ptr 0 0 [] 0),(2,AV.int
 k),(4,AV.ptr 2 0 [] 0),(12,AV.ad 56 t.l),(13,AV.int (↑(t.l.length):Int)),(14,AV.int (IntKind.wrap IntKind.i64 (i+(1:Int))))] [Obj.box 225 (AV.agg
 [AV.ad 61 (jC.ds (dS e1.a (Prod.snd (aU e1.a e1.t e1.k)))),AV.mp 1,AV.bool (jC.more (dS e1.a (Prod.snd (aU e1.a e1.t e1.k))))]),Dn.Obj.map 9 3 (jC.es (dS
 e1.a (Prod.snd (aU e1.a e1.t e1.k)))),Obj.box 56 (cv t)]))))) (K (Exit.exit 0) (sp 56 [(0,AV.ptr 0 0 [] 0),(2,AV.int k),(4,AV.ptr 2 0 [] 0)] [Obj.box 225
 (AV.agg [AV.ad 61 a.ds,AV.mp 1,AV.bool a.more]),Dn.Obj.map 9 3 a.es,Obj.box 56 (cv t)]))):=by kernel_rfl
abbrev S8:=o9×Int
abbrev VE(x:S8):S:=sp 56 [(0,Dq),(2, .int x.1.k),(4, .ptr 2 0 [] 0),(12, .ad 56 x.1.t.l),(13, .int x.1.t.l.length),(14, .int x.2)] (bV x.1.a++[.box 56 (cv x.1.t)])
def Mx(r:Nat)(x:S8):Prop:=x.1.t.l.length<=aM/\0<=x.2/\x.2<=x.1.t.l.length/\aO (aa (x.1.t.l.drop x.2.toNat))<r/\aO (aa (x.1.t.l.drop x.2.toNat))<=100000
def fX(x:S8):Bool×(List (Value×AV)×Bool):=jd getM gp (aa (x.1.t.l.drop x.2.toNat)) (x.1.a.es,x.1.a.more)
noncomputable def GP(κ:Kp)(x:S8):Out (Exit×S):= .aC (fX x).1 (.one (.ret,sp 56 [(6, .lit (bj κ 53))] (bV (dS x.1.a (fX x).2))))
 (.one (.exit 0,sp 56 [(0,Dq),(2, .int x.1.k),(4, .ptr 2 0 [] 0)] (bV (dS x.1.a (fX x).2)++[.box 56 (cv x.1.t)])))
theorem AA(b:Bool):decide (gV b=0)= !b:=by cases b<;>rfl
theorem lWt(κ:Kp)(r:Nat):bk (NY κ r) 12 258 2 (aP 2 VE (Mx r) (GP κ)):=by
 refine aL (fun x=>x.1.t.l.length - x.2.toNat) ?_
 rintro⟨⟨a,t,k⟩,i⟩ K ⟨h1,h2,h3,h4,h5⟩ ho
 simp only at h1 h2 h3 h4 h5
 rw[show(NY κ r).P=Pr κ from rfl]
 refine Eq.mpr (xWt κ r a t k i _ _ K) ?_
 simp only[aM] at h1
 simp only[GP,Out.run,af] at ho
 rw[af,aa2,aa4]
 refine⟨fun hi=>?_,fun hi=>?_⟩
 ·have hk:i.toNat<t.l.length:=by omega
  have e:=dL t.l i.toNat hk
  have hw:fX (⟨a,t,k⟩,i)=bif (aU a (uv (nth t.l i.toNat)) 1).1 then aU a (uv (nth t.l i.toNat)) 1 else fX (⟨dS a (aU a (uv (nth t.l i.toNat)) 1).2,t,k⟩,i+1):=by
   unfold fX aU
   simp only[show(i+1).toNat=i.toNat+1 by omega]
   rw[e,jd,lb];rfl
  rw[e,aO] at h4 h5
  rw[hw] at ho
  rw[an,aa3,aa2,aa2]
  refine⟨⟨h2,hi⟩,(cx (nth t.l i.toNat)).gu,by omega,⟨a,uv (nth t.l i.toNat),1⟩,rfl,⟨by rw[lb],by omega⟩,?_⟩
  rw[an]
  refine⟨cV _ _,?_⟩
  rw[jD,AA,Bool.not_not,af]
  refine⟨fun e1=>?_,fun e1=>?_⟩
  ·simp only[e1,aa9] at ho⊢
   exact ho.1 trivial
  ·simp only[e1,aa7] at ho
   rw[aW (n:=i+1) (by omega) (by omega)]
   refine⟨_,?_,(⟨dS a (aU a (uv (nth t.l i.toNat)) 1).2,t,k⟩,i+1),rfl,⟨by simpa[aM] using h1,by simp only;omega,by simp only;omega,?_,?_⟩,rfl,?_⟩
   ·simp only;omega
   ·simp only[show(i+1).toNat=i.toNat+1 by omega];omega
   ·simp only[show(i+1).toNat=i.toNat+1 by omega];omega
   ·simp only[GP,Out.run,af]
    exact ho
 ·have hw:fX (⟨a,t,k⟩,i)=(false,(a.es,a.more)):=by
   unfold fX
   simp only
   rw[ab0 (by omega)];rfl
  rw[hw] at ho
  exact ho.2 rfl
noncomputable def SO(κ:Kp)(r:Nat):Env:=(NY κ r).ak 258 2 (aP 2 VE (Mx r) (GP κ))
theorem yWt(κ:Kp)(r:Nat)(a:jC)(t:AT)(k:Int)(K:AV->List Dn.Obj->Prop):(bf (SO κ r) 12 258 [Dq,cv t, .int k] (bV a) K)=(
 letI z1:=AV.lit Value.nilIface
 letI z2:=Pg.toProgram (Env.P (NY κ r))
 ah z2 258 2=ah z2 258 2/\∃(e1:S8),sp 56 [(0,AV.ptr 0 0 [] 0),(2,AV.int k),(4,AV.ptr 2 0 [] 0),(12,AV.ad 56 t.l),(13,AV.int (↑(t.l.length):
 Int)),(14,AV.int 0)] [Obj.box 225 (AV.agg [AV.ad 61 a.ds,AV.mp 1,AV.bool a.more]),Dn.Obj.map 9 3 a.es,Obj.box 56 (cv t)]=sp 56 [(0,AV.ptr 0 0 [] 0),
 (2,AV.int e1.1.k),(4,AV.ptr 2 0 [] 0),(12,AV.ad 56 e1.1.t.l),(13,AV.int (↑(List.length e1.1.t.l):Int)),(14,AV.int e1.2)] [Obj.box 225 (AV.agg [AV.ad
 61 e1.1.a.ds,AV.mp 1,AV.bool e1.1.a.more]),Dn.Obj.map 9 3 e1.1.a.es,Obj.box 56 (cv e1.1.t)]/\(List.length e1.1.t.l<=9223372036854775807/\(0:Int)<=e1.2
 /\e1.2<=(↑(List.length e1.1.t.l):Int)/\aO (aa (List.drop e1.2.toNat e1.1.t.l))<r/\aO (aa (List.drop e1.2.toNat e1.1.t.l))<=100000)/\aC (Prod.fst (fX
 e1)) (K (AV.lit (Value.iface 306 (Value.pointer (some (PK κ (53:Int)))))) (bV (dS e1.1.a (Prod.snd (fX e1))))) (∃(e0:jC×AT),([AV.ptr 0 0 [] 0,cv
 e1.1.t],(bV (dS e1.1.a (Prod.snd (fX e1)))))=([AV.ptr 0 0 [] 0,cv e0.2],(bV e0.1))/\True/\aC (e1.1.k==(0:Int)) (K z1 (bV e0.1)) (aC (e1.1.t.op==(4
 :Int)) (K z1 (bV e0.1)) (aC (bK getM (AT.tm e0.2) e0.1.es==(0:Int)) (K z1 [Obj.box 225 (AV.agg [AV.ad 61 e0.1.ds,AV.mp 1,AV.bool true]),Dn.Obj.map 9 3
 (ff (ff e0.1.es (Value.string e1.1.t.s) (AV.int (toInt (dt e0.1.es (Value.string e1.1.t.s) (AV.int 0))))) (Value.string e1.1.t.s) (AV.int e1.1.k))]) (aC (bK
 getM (AT.tm e0.2) e0.1.es != e1.1.k) (K (AV.lit (Value.iface 306 (Value.pointer (some (Kp.type κ))))) (bV e0.1)) (K z1 (bV e0.1))))))):=by kernel_rfl
theorem GQ(s:ByteArray)(v w:AV): ∀es:List (Value×AV),ff (ff es (.string s) v) (.string s) w=ff es (.string s) w
 |[]=>by simp[ff,dn]
 |(k',a')::es=>by
  rw[ff,ff]
  cases h:dn (.string s) k' with
  |true=>simp[ff,dn]
  |false=>simp only[aa7,ff,h,GQ s v w es]
theorem IX(κ:Kp)(n:Nat):(L6 κ n).jk:=aK
theorem eYr(κ:Kp)(r:Nat)(hp: ∀args st K,(∃m,m<r/\L6 κ m args st K)->dq (Pr κ) 258 args st K):aD (SO κ r)/\aj (SO κ r)/\(SO κ r).P=Pr κ:=
 have h:aD (NY κ r):=(eYo κ).iE hp
 have hm:aj (NY κ r):=(Zk κ).ay (fun _ _ _ _ hK ⟨m,h1,h2⟩=>⟨m,h1,IX κ m _ _ _ _ hK h2⟩)
 ⟨h.ak hm (lWt κ r),hm.ak aI,rfl⟩
theorem cWt(κ:Kp)(r:Nat):bz (SO κ r) 12 258 (L6 κ r):=by
 refine bg ?_
 rintro⟨a,t,k⟩ K ⟨h1,h2⟩ ho
 refine Eq.mpr (yWt κ r a t k K) ?_
 simp only[FW,Out.run] at ho
 have e1:t.tm.gu=1+aO (aa t.l):=rfl
 have hl:=eB (aa t.l)
 rw[dz] at hl
 simp only at h1
 refine⟨rfl,(⟨a,t,k⟩,0),rfl,⟨by simp only[aM];omega,by simp only;omega,by simp only;omega,by simp only[ab9,ab2];omega,by simp only[ab9,ab2];omega⟩,?_⟩
 have hw:aU a t k=bif (fX (⟨a,t,k⟩,0)).1 then fX (⟨a,t,k⟩,0) else bif decide (k=0)||decide (t.op=4) then(false,(fX (⟨a,t,k⟩,0)).2)
   else bif decide (bK getM t.tm (fX (⟨a,t,k⟩,0)).2.1=0) then(false,(gp (fX (⟨a,t,k⟩,0)).2.1 t.s k,true)) else(!decide (bK getM t.tm (fX (⟨a,t,k⟩,0)).2.1=k),(fX (⟨a,t,k⟩,0)).2):=by
  unfold aU fX
  rw[AT.tm,Tm.want];rfl
 rw[hw] at ho
 simp only[Qd,JK]
 cases hd:(fX (⟨a,t,k⟩,0)).1 with
 |true=>
  rw[hd,aa9,hd] at ho
  exact ho
 | false=>
  rw[hd,aa7] at ho
  refine⟨(dS a (fX (⟨a,t,k⟩,0)).2,t),rfl,trivial,?_⟩
  cases hk:decide (k=0) with
  |true=>rw[hk] at ho;exact ho
  | false=>
   rw[hk] at ho
   cases h4:decide (t.op=4) with
   |true=>rw[h4] at ho;exact ho
   | false=>
    rw[h4] at ho
    rw[show(false||false)=false from rfl,aa7] at ho
    have ht:bK getM t.tm (dS a (fX (⟨a,t,k⟩,0)).2).es=bK getM t.tm (fX (⟨a,t,k⟩,0)).2.1:=rfl
    simp only[ht]
    cases h0:decide (bK getM t.tm (fX (⟨a,t,k⟩,0)).2.1=0) with
    |true=>
     rw[h0,aa9] at ho
     simp only[aC,GQ]
     exact ho
    |false=>
     rw[h0,aa7] at ho
     cases hq:decide (bK getM t.tm (fX (⟨a,t,k⟩,0)).2.1=k) with
     |true=>rw[hq] at ho;exact ho
     |false=>rw[hq] at ho;exact ho
def dA(x:o9):Prop:=x.t.tm.gu<=100000
theorem qWt(κ:Kp): ∀args st K,aR Q0 dA (FW κ) args st K->dq (Pr κ) 258 args st K:=by
 rintro args st K ⟨a,h1,h2,h3⟩
 exact aD.tO (L6 κ) (SO κ) (eYr κ) (cWt κ) a.t.tm.gu args st K ⟨a,h1,⟨rfl,h2⟩,h3⟩
noncomputable def Nt(κ:Kp):Env:=(Wt κ).ay 258 (aR Q0 dA (FW κ))
theorem eYw(κ:Kp):aD (Nt κ):=(eYo κ).iE (qWt κ)
theorem mYw(κ:Kp):aj (Nt κ):=(Zk κ).ay aK
def Sa(x:AV):Dc:=⟨toStr (ae x 0),(ai (ae x 2)).map toInt⟩
def cQ(l:List AV):List Dc:=l.map Sa
theorem uK(s:ByteArray): ∀(ds:List AV) (i:Int),lx s ds i=match j8 s (cQ ds) with|some k=>i+k|none=> -1
 |[],i=>rfl
 | d::ds,i=>by
  have ih:=uK s ds (i+1)
  rw[lx,ih,show cQ (d::ds)=Sa d::cQ ds from rfl,j8,show(Sa d).rel=toStr (ae d 0) from rfl]
  cases ll (toStr (ae d 0)) s with
  |true=>simp
  | false=>
   rw[aa7,aa7]
   cases j8 s (cQ ds) with
   |none=>rfl
    |some k=>show i+1+(k:Int)=i+((k+1:Nat):Int);omega
theorem Cx(s:ByteArray): ∀(ds:List Dc) (k:Nat),j8 s ds=some k->k<ds.length
 |[],_,h=>by cases h
 | d::ds,k,h=>by
  rw[j8] at h
  cases e:ll d.rel s with
  |true=>rw[e,aa9] at h;cases h;simp
  | false=>
   rw[e,aa7] at h
   cases h2:j8 s ds with
   |none=>rw[h2] at h;cases h
   |some j=>
    rw[h2] at h;cases h
    have:=Cx s ds j h2
    simp only[List.length_cons];omega
theorem uT{s:ByteArray}{ds:List AV}(h:j8 s (cQ ds)=none):fD s ds=false/\bD s ds=0:=by
 have e:=uK s ds 0
 rw[h] at e
 unfold fD bD
 rw[e];exact⟨rfl,rfl⟩
theorem qD{s:ByteArray}{ds:List AV}{k:Nat}(h:j8 s (cQ ds)=some k):fD s ds=true/\bD s ds=k/\k<ds.length:=by
 have e:=uK s ds 0
 rw[h] at e
 simp only[Int.zero_add] at e
 have h1:=Cx s _ k h
 unfold fD bD
 rw[e,aa8 (show(0:Int)<=k by omega)]
 exact⟨rfl,rfl,by simpa[cQ] using h1⟩
def l5(ds:List AV)(i:Int):List Int:=(ai (ae (nth ds i.toNat) 2)).map toInt
theorem Ch{s:ByteArray}{ds:List AV}{k:Nat}(h:j8 s (cQ ds)=some k):cO (cQ ds) s=l5 ds k:=by
 obtain⟨_,_,h2⟩:=qD h
 unfold cO l5
 rw[h,Int.toNat_natCast,aZ _ _ h2]
 simp only[cQ]
 rw[List.getD_eq_getElem?_getD,List.getElem?_map,ab8 h2]
 rfl
theorem Ib(ds:List AV)(rel:ByteArray)(l:List AV):known (cQ ds) ⟨rel,aa l⟩=bif fD rel ds then(bif decide ((l5 ds (bD rel ds)).length=l.length) then 0 else 52) else 51:=by
 unfold known
 simp only
 cases h:j8 rel (cQ ds) with
 |none=>rw[(uT h).1];rfl
 |some k=>
  obtain⟨h1,h2,_⟩:=qD h
  rw[h1,h2,Ch h,dz];rfl
theorem Oi{ds:List AV}{i:Int}{k:Nat}(h:k<(l5 ds i).length):(l5 ds i).drop k=toInt (nth (ai (ae (nth ds i.toNat) 2)) k)::(l5 ds i).drop (k+1):=by
 rw[ab3 h]
 have h':k<(ai (ae (nth ds i.toNat) 2)).length:=by simpa[l5] using h
 rw[aZ _ _ h']
 simp[l5]
structure SJ where
 a:jC
 fi:Int
 l:List AV
 k:Int
abbrev QV(x:SJ):S:=sp 65 [(0,Dq),(5, .int x.fi),(40, .ad 56 x.l),(41, .int x.l.length),(42, .int x.k)] (bV x.a)
theorem xAt(κ:Kp)(x:SJ)(I:Nat->S->Prop)(n:Nat)(K:Exit->S->Prop):(vc (Nt κ) 12 227 none 2 (ah (Pr κ).toProgram 227 7) (QV x) (bL (Nt κ) 227 7 2 I n K))=(
 letI z1:=nth x.l x.k.toNat
 letI z2:=ai (ae (nth x.a.ds x.fi.toNat) 2)
 letI z3:=x.k<(↑(x.l.length):Int)
 aC (decide z3) (ba (decide ((0:Int)<=x.k)&&decide z3) (ba (decide ((0:Int)<=x.fi)&&decide (x.fi<(↑(List.length x.a.ds):Int))) (ba (decide ((0:
 Int)<=x.k)&&decide (x.k<(↑(List.length z2):Int))) (∃(e1:o9),([AV.ptr 0 0 [] 0,AV.agg [AV.int (toInt (ae z1 0)),AV.str (toStr (ae z1 1)),AV.int
 (toInt (ae z1 2)),AV.ad 56 (ai (ae z1 3))],AV.int (toInt (nth z2 x.k.toNat))],(bV x.a))=([AV.ptr 0 0 [] 0,cv e1.t,AV.int e1.k],(bV e1.a))/\dA e1/\ba
 (aE (bj κ (gV (Prod.fst (aU e1.a e1.t e1.k))))) (aC (!bR (bj κ (gV (Prod.fst (aU e1.a e1.t e1.k))))) (K Exit.ret (sp 65 [(4,AV.lit (bj κ (gV (Prod.fst (aU e1.a
 e1.t e1.k)))))] (bV (dS e1.a (Prod.snd (aU e1.a e1.t e1.k)))))) (∃(e0:Nat),e0<n/\I e0 (sp 65 [(0,AV.ptr 0 0 [] 0),(5,AV.int x.fi),(40,AV.ad 56 x.l),
 (41,AV.int (↑(x.l.length):Int)),(42,AV.int (IntKind.wrap IntKind.i64 (x.k+(1:Int))))] (bV (dS e1.a (Prod.snd (aU e1.a e1.t e1.k))))))))))) (K
 (Exit.exit 1) (sp 65 [] (bV x.a)))):=by kernel_rfl
def jB(x:SJ):Bool×(List (Value×AV)×Bool):=iN getM gp ((l5 x.a.ds x.fi).drop x.k.toNat) (aa (x.l.drop x.k.toNat)) (x.a.es,x.a.more)
def KK(x:SJ):Prop:=0<=x.fi/\x.fi<x.a.ds.length/\(l5 x.a.ds x.fi).length=x.l.length/\x.l.length<=aM/\0<=x.k/\x.k<=x.l.length/\aO (aa (x.l.drop x.k.toNat))<=100000
noncomputable def Hr(κ:Kp)(x:SJ):Out (Exit×S):= .aC (jB x).1 (.one (.ret,sp 65 [(4, .lit (bj κ 53))] (bV (dS x.a (jB x).2)))) (.one (.exit 1,sp 65 [] (bV (dS x.a (jB x).2))))
theorem lAt(κ:Kp):bk (Nt κ) 12 227 7 (aP 2 QV KK (Hr κ)):=by
 refine aL (fun x=>x.l.length - x.k.toNat) ?_
 rintro⟨a,fi,l,k⟩ K ⟨h1,h2,h3,h4,h5,h6,h7⟩ ho
 simp only at h1 h2 h3 h4 h5 h6 h7
 rw[show(Nt κ).P=Pr κ from rfl]
 refine Eq.mpr (xAt κ ⟨a,fi,l,k⟩ _ _ K) ?_
 simp only[aM] at h4
 simp only[Hr,Out.run,af] at ho
 have hwl:(ai (ae (nth a.ds fi.toNat) 2)).length=(l5 a.ds fi).length:=by simp[l5]
 rw[af,aa2,aa4]
 refine⟨fun hi=>?_,fun hi=>?_⟩
 ·simp only at hi
  have hk:k.toNat<l.length:=by omega
  have e:=dL l k.toNat hk
  have ew:=Oi (ds:=a.ds) (i:=fi) (k:=k.toNat) (by omega)
  have hw:jB ⟨a,fi,l,k⟩=bif (aU a (uv (nth l k.toNat)) (toInt (nth (ai (ae (nth a.ds fi.toNat) 2)) k.toNat))).1 then aU a (uv (nth l k.toNat)) (toInt (nth (ai (ae (nth a.ds fi.toNat) 2)) k.toNat)) else jB ⟨dS a (aU a (uv (nth l k.toNat)) (toInt (nth (ai (ae (nth a.ds fi.toNat) 2)) k.toNat))).2,fi,l,k+1⟩:=by
   unfold jB aU
   simp only[show(k+1).toNat=k.toNat+1 by omega]
   rw[e,ew,iN,lb];rfl
  rw[e,aO] at h7
  rw[hw] at ho
  simp only[an,aa3,aa2,hwl]
  refine⟨⟨h5,hi⟩,⟨h1,h2⟩,⟨h5,by omega⟩,⟨a,uv (nth l k.toNat),toInt (nth (ai (ae (nth a.ds fi.toNat) 2)) k.toNat)⟩,rfl,by show(uv (nth l k.toNat)).tm.gu<=100000;rw[lb];omega,cV _ _,?_⟩
  rw[jD,AA,Bool.not_not,af]
  refine⟨fun e1=>?_,fun e1=>?_⟩
  ·simp only[e1,aa9] at ho⊢
   exact ho.1 trivial
  ·simp only[e1,aa7] at ho
   rw[aW (n:=k+1) (by omega) (by omega)]
   refine⟨_,?_,⟨dS a (aU a (uv (nth l k.toNat)) (toInt (nth (ai (ae (nth a.ds fi.toNat) 2)) k.toNat))).2,fi,l,k+1⟩,rfl,⟨h1,h2,h3,by simpa[aM] using h4,by simp only;omega,by simp only;omega,?_⟩,rfl,?_⟩
   ·simp only;omega
   ·simp only[show(k+1).toNat=k.toNat+1 by omega];omega
   ·simp only[Hr,Out.run,af]
    exact ho
 ·simp only at hi
  have hw:jB ⟨a,fi,l,k⟩=(false,(a.es,a.more)):=by
   unfold jB
   simp only
   rw[ab0 (show l.length<=k.toNat by omega),ab0 (show(l5 a.ds fi).length<=k.toNat by omega)];rfl
  rw[hw] at ho
  exact ho.2 rfl
noncomputable def Vu(κ:Kp):Env:=(Nt κ).ak 227 7 (aP 2 QV KK (Hr κ))
theorem eYl(κ:Kp):aD (Vu κ):=(eYw κ).ak (mYw κ) (lAt κ)
theorem Z7(κ:Kp):aj (Vu κ):=(mYw κ).ak aI
theorem yAt(κ:Kp)(a:jC)(rel:ByteArray)(l:List AV)(K:AV->List Dn.Obj->Prop):(bf (Vu κ) 12 227 [Dq, .agg [.lit (.string rel), .ad 56 l]] (bV a) K)=(
 letI z1:=Pg.toProgram (Env.P (Nt κ))
 ∃(e1:List AV×ByteArray),([AV.ad 61 a.ds,AV.str rel],aJ)=([AV.ad 61 e1.1,AV.str e1.2],aJ)/\gK e1/\aC (!fD e1.2 e1.1) (K (AV.lit (Value.iface 306
 (Value.pointer (some (Kp.fK κ))))) (bV a)) (ba (decide ((0:Int)<=bD e1.2 e1.1)&&decide (bD e1.2 e1.1<(↑(a.ds.length):Int))) (aC ((↑(List.length (ai (ae
 (nth a.ds (Int.toNat (bD e1.2 e1.1))) 2))):Int) != (↑(l.length):Int)) (K (AV.lit (Value.iface 306 (Value.pointer (some (Kp.arity κ))))) (bV a)) (ah z1 227 7
 =ah z1 227 7/\∃(e0:SJ),sp 65 [(0,AV.ptr 0 0 [] 0),(5,AV.int (bD e1.2 e1.1)),(40,AV.ad 56 l),(41,AV.int (↑(l.length):Int)),(42,AV.int 0)] (bV a)
 =sp 65 [(0,AV.ptr 0 0 [] 0),(5,AV.int e0.fi),(40,AV.ad 56 e0.l),(41,AV.int (↑(e0.l.length):Int)),(42,AV.int e0.k)] (bV e0.a)/\((0:Int)<=e0.fi/\
 e0.fi<(↑(List.length e0.a.ds):Int)/\List.length (l5 e0.a.ds e0.fi)=e0.l.length/\e0.l.length<=9223372036854775807/\(0:Int)<=e0.k/\e0.k<=
 (↑(e0.l.length):Int)/\aO (aa (List.drop e0.k.toNat e0.l))<=100000)/\aC (Prod.fst (jB e0)) (K (AV.lit (Value.iface 306 (Value.pointer (some (PK κ (53:
 Int)))))) (bV (dS e0.a (Prod.snd (jB e0))))) (K (AV.lit Value.nilIface) (bV (dS e0.a (Prod.snd (jB e0))))))))):=by kernel_rfl
def dH(a:jC)(rel:ByteArray)(l:List AV):Int×(List (Value×AV)×Bool):=eh getM gp (cQ a.ds) ⟨rel,aa l⟩ (a.es,a.more)
abbrev Sk:=jC×ByteArray×List AV
def Uw(x:Sk):List AV×List Dn.Obj:=([Dq, .agg [.lit (.string x.2.1), .ad 56 x.2.2]],bV x.1)
def L9(x:Sk):Prop:=x.1.ds.length<=aM/\aO (aa x.2.2)<=100000
noncomputable def Js(κ:Kp)(x:Sk):Out (AV×List Dn.Obj):= .one (.lit (bj κ (dH x.1 x.2.1 x.2.2).1),bV (dS x.1 (dH x.1 x.2.1 x.2.2).2))
theorem cAc(κ:Kp):bz (Vu κ) 12 227 (aR Uw L9 (Js κ)):=by
 refine bg ?_
 rintro⟨a,rel,l⟩ K ⟨h1,h2⟩ ho
 simp only at h1 h2
 refine Eq.mpr (yAt κ a rel l K) ?_
 simp only[Js,Out.run,dH,eh,Ib] at ho
 have hl:=eB (aa l)
 rw[dz] at hl
 refine⟨(a.ds,rel),rfl,h1,?_⟩
 cases hf:j8 rel (cQ a.ds) with
 |none=>
  rw[(uT hf).1] at ho
  simp only[(uT hf).1]
  exact ho
 | some k=>
  obtain⟨e1,e2,e3⟩:=qD hf
  rw[e1,e2,Ch hf] at ho
  have hwl:(ai (ae (nth a.ds (Int.toNat (k:Int))) 2)).length=(l5 a.ds k).length:=by simp[l5]
  simp only[e1,e2,hwl,JK]
  refine an.2 ⟨by simp;omega,?_⟩
  cases hq:decide ((l5 a.ds k).length=l.length) with
  |false=>
   rw[hq] at ho
   rw[aa4] at hq
   rw[aa6 (show ¬ (((l5 a.ds k).length:Int)=(l.length:Int)) by omega)]
   exact ho
  | true=>
   rw[hq] at ho
   rw[aa2] at hq
   rw[aa8 (show(((l5 a.ds k).length:Int)=(l.length:Int)) by omega)]
   refine⟨trivial,⟨a,k,l,0⟩,rfl,⟨by simp only;omega,by simp only;omega,hq,by simp only[aM];omega,by simp only;omega,by simp only;omega,by simp only[ab9,ab2];exact h2⟩,?_⟩
   have hd:jB ⟨a,k,l,0⟩=iN getM gp (l5 a.ds k) (aa l) (a.es,a.more):=by
    unfold jB;simp only[ab9,ab2]
   rw[hd]
   simp only[aa9,decide_true] at ho
   rw[af]
   refine⟨fun e=>by rw[e] at ho;exact ho,fun e=>by rw[e] at ho;exact ho⟩
noncomputable def U2(κ:Kp):Env:=(Vu κ).ay 227 (aR Uw L9 (Js κ))
theorem eYa(κ:Kp):aD (U2 κ):=(eYl κ).ay (Z7 κ) (cAc κ)
theorem mYa(κ:Kp):aj (U2 κ):=(Z7 κ).ay aK
theorem yLi(κ:Kp)(a:jC)(op:Int)(rel:ByteArray)(l:List AV)(u v:AT)(K:AV->List Dn.Obj->Prop):(bf (U2 κ) 12 228 [Dq, .agg [.int op, .agg [.lit (.string rel), .ad 56 l],cv u,cv v]] (bV a) K)=(
 letI z1:=∃(e3:jC×AT),([AV.ptr 0 0 [] 0,cv u],(bV a))=([AV.ptr 0 0 [] 0,cv e3.2],(bV e3.1))/\True/\∃(e2:jC×AT),([AV.ptr 0 0 [] 0,cv v],
  (bV e3.1))=([AV.ptr 0 0 [] 0,cv e2.2],(bV e2.1))/\True/\∃(e1:o9),([AV.ptr 0 0 [] 0,cv u,AV.int (if bK getM (AT.tm e2.2) e2.1.es>bK getM (AT.tm
  e3.2) e3.1.es then bK getM (AT.tm e2.2) e2.1.es else bK getM (AT.tm e3.2) e3.1.es)],(bV e2.1))=([AV.ptr 0 0 [] 0,cv e1.t,AV.int e1.k],(bV e1.a))/\dA e1/\
  ba (aE (bj κ (gV (Prod.fst (aU e1.a e1.t e1.k))))) (aC (!bR (bj κ (gV (Prod.fst (aU e1.a e1.t e1.k))))) (K (AV.lit (bj κ (gV (Prod.fst (aU e1.a e1.t e1.k)))))
  (bV (dS e1.a (Prod.snd (aU e1.a e1.t e1.k))))) (∃(e0:o9),([AV.ptr 0 0 [] 0,cv v,AV.int (if bK getM (AT.tm e2.2) e2.1.es>bK getM (AT.tm e3.2) e3.1.es
  then bK getM (AT.tm e2.2) e2.1.es else bK getM (AT.tm e3.2) e3.1.es)],(bV (dS e1.a (Prod.snd (aU e1.a e1.t e1.k)))))=([AV.ptr 0 0 [] 0,cv e0.t,AV.int
  e0.k],(bV e0.a))/\dA e0/\K (AV.lit (bj κ (gV (Prod.fst (aU e0.a e0.t e0.k))))) (bV (dS e0.a (Prod.snd (aU e0.a e0.t e0.k))))))
 letI z2:=∃(e0:Sk),([AV.ptr 0 0 [] 0,AV.agg [AV.str rel,AV.ad 56 l]],(bV a))=([AV.ptr 0 0 [] 0,AV.agg [AV.str e0.2.1,AV.ad 56 e0.2.2]],(bV e0.1))/\
  (e0.1.ds.length<=9223372036854775807/\aO (aa e0.2.2)<=100000)/\K (AV.lit (bj κ (Prod.fst (dH e0.1 e0.2.1 e0.2.2)))) (bV (dS e0.1 (Prod.snd (dH e0.1 e0.2.1
  e0.2.2))))
 letI z3:=z1/\z1/\z1
 aC (op==(3:Int)) z3 (aC (op==(4:Int)) z3 (aC (op==(5:Int)) z3 (aC (op==(6:Int)) z3 (aC (op==(1:Int)) z2 (aC (op==(2:Int)) z2 (∃(e2:
 Sk),([AV.ptr 0 0 [] 0,AV.agg [AV.str rel,AV.ad 56 l]],(bV a))=([AV.ptr 0 0 [] 0,AV.agg [AV.str e2.2.1,AV.ad 56 e2.2.2]],(bV e2.1))/\(e2.1.ds.length<=
 9223372036854775807/\aO (aa e2.2.2)<=100000)/\ba (aE (bj κ (Prod.fst (dH e2.1 e2.2.1 e2.2.2)))) (aC (!bR (bj κ (Prod.fst (dH e2.1 e2.2.1 e2.2.2)))) (K
 (AV.lit (bj κ (Prod.fst (dH e2.1 e2.2.1 e2.2.2)))) (bV (dS e2.1 (Prod.snd (dH e2.1 e2.2.1 e2.2.2))))) (∃(e1:o9),([AV.ptr 0 0 [] 0,cv u,AV.int 1],(bV (dS
 e2.1 (Prod.snd (dH e2.1 e2.2.1 e2.2.2)))))=([AV.ptr 0 0 [] 0,cv e1.t,AV.int e1.k],(bV e1.a))/\dA e1/\ba (aE (bj κ (gV (Prod.fst (aU e1.a e1.t e1.k)))))
 (aC (!bR (bj κ (gV (Prod.fst (aU e1.a e1.t e1.k))))) (K (AV.lit (bj κ (gV (Prod.fst (aU e1.a e1.t e1.k))))) (bV (dS e1.a (Prod.snd (aU e1.a e1.t e1.k))))) (aC
 (op==(7:Int)) (K (AV.lit (bj κ (gV (Prod.fst (aU e1.a e1.t e1.k))))) (bV (dS e1.a (Prod.snd (aU e1.a e1.t e1.k))))) (∃(e0:o9),([AV.ptr 0 0 [] 0,cv v,
 AV.int 1],(bV (dS e1.a (Prod.snd (aU e1.a e1.t e1.k)))))=([AV.ptr 0 0 [] 0,cv e0.t,AV.int e0.k],(bV e0.a))/\dA e0/\K (AV.lit (bj κ (gV (Prod.fst (aU
 e0.a e0.t e0.k))))) (bV (dS e0.a (Prod.snd (aU e0.a e0.t e0.k)))))))))))))))):=by kernel_rfl
structure FC where
 a:jC
 op:Int
 rel:ByteArray
 l:List AV
 u:AT
 v:AT
def FC.lt(x:FC):Lt:=⟨x.op,⟨x.rel,aa x.l⟩,x.u.tm,x.v.tm⟩
def cf(x:FC):Int×(List (Value×AV)×Bool):=kj getM gp (cQ x.a.ds) x.lt (x.a.es,x.a.more)
def Th(x:FC):List AV×List Dn.Obj:=([Dq, .agg [.int x.op, .agg [.lit (.string x.rel), .ad 56 x.l],cv x.u,cv x.v]],bV x.a)
def Lu(x:FC):Prop:=x.a.ds.length<=aM/\iS x.lt<=100000
noncomputable def PD(κ:Kp)(x:FC):Out (AV×List Dn.Obj):= .one (.lit (bj κ (cf x).1),bV (dS x.a (cf x).2))
def kd(a:jC)(u v:AT):Int:=if bK getM v.tm a.es>bK getM u.tm a.es then bK getM v.tm a.es else bK getM u.tm a.es
theorem Uv(x:FC):kP getM x.lt x.a.es=kd x.a x.u x.v:=by
 unfold kP kd
 show(bif decide (bK getM x.v.tm x.a.es>bK getM x.u.tm x.a.es) then _ else _)=_
 by_cases h:bK getM x.v.tm x.a.es>bK getM x.u.tm x.a.es
 ·rw[aa8 h,if_pos h];rfl
 ·rw[aa6 h,if_neg h];rfl
theorem zq(κ:Kp)(b:Bool):(!bR (bj κ (gV b)))=b:=by rw[jD,AA,Bool.not_not]
theorem cLi(κ:Kp):bz (U2 κ) 12 228 (aR Th Lu (PD κ)):=by
 refine bg ?_
 rintro⟨a,op,rel,l,u,v⟩ K ⟨h1,h2⟩ ho
 simp only at h1
 refine Eq.mpr (yLi κ a op rel l u v K) ?_
 have ho:K (.lit (bj κ (cf ⟨a,op,rel,l,u,v⟩).1)) (bV (dS a (cf ⟨a,op,rel,l,u,v⟩).2)):=ho
 have h2:aO [u.tm,v.tm]+aO (aa l)<=100000:=h2
 simp only[aO] at h2
 have hu:dA ⟨a,u,kd a u v⟩:=by show u.tm.gu<=100000;omega
 have hv:dA ⟨dS a (aU a u (kd a u v)).2,v,kd a u v⟩:=by show v.tm.gu<=100000;omega
 have both:fT op=true->cf ⟨a,op,rel,l,u,v⟩=kD (aU a u (kd a u v)) (v.tm.want getM gp (kd a u v)):=fun hc=>by
  unfold cf kj
  rw[Uv ⟨a,op,rel,l,u,v⟩,show(FC.lt ⟨a,op,rel,l,u,v⟩).op=op from rfl,hc];rfl
 have c1:fT op=true->(!bR (bj κ (gV (aU a u (kd a u v)).1)))=true->K (.lit (bj κ (gV (aU a u (kd a u v)).1))) (bV (dS a (aU a u (kd a u v)).2)):=fun hc q=>by
  rw[zq] at q
  rw[both hc] at ho
  unfold kD at ho
  rw[q] at ho⊢
  exact ho
 have c2:fT op=true->(!bR (bj κ (gV (aU a u (kd a u v)).1)))=false->K (.lit (bj κ (gV (aU (dS a (aU a u (kd a u v)).2) v (kd a u v)).1))) (bV (dS (dS a (aU a u (kd a u v)).2) (aU (dS a (aU a u (kd a u v)).2) v (kd a u v)).2)):=fun hc q=>by
  rw[zq] at q
  rw[both hc] at ho
  unfold kD at ho
  rw[q] at ho
  exact ho
 have hat: ∀b:jC,b=a->(b.ds.length<=9223372036854775807/\aO (aa l)<=100000):=fun b hb=>by subst hb;exact⟨h1,by omega⟩
 have nc:fT op=false->(decide (op=1)||decide (op=2))=true->cf ⟨a,op,rel,l,u,v⟩=dH a rel l:=fun hc h12=>by
  unfold cf kj
  rw[show(FC.lt ⟨a,op,rel,l,u,v⟩).op=op from rfl,hc,h12];rfl
 refine af.2 ⟨fun e=>by
   have hc:fT op=true:=(by rw[show op=3 from eq_of_beq e];rfl)
   exact⟨⟨(a,u),rfl,trivial,(a,v),rfl,trivial,⟨a,u,_⟩,rfl,hu,an.2 ⟨cV _ _,af.2 ⟨fun q=>c1 hc q,fun q=>⟨⟨_,v,_⟩,rfl,hv,c2 hc q⟩⟩⟩⟩,
    ⟨(a,u),rfl,trivial,(a,v),rfl,trivial,⟨a,u,_⟩,rfl,hu,an.2 ⟨cV _ _,af.2 ⟨fun q=>c1 hc q,fun q=>⟨⟨_,v,_⟩,rfl,hv,c2 hc q⟩⟩⟩⟩,
    ⟨(a,u),rfl,trivial,(a,v),rfl,trivial,⟨a,u,_⟩,rfl,hu,an.2 ⟨cV _ _,af.2 ⟨fun q=>c1 hc q,fun q=>⟨⟨_,v,_⟩,rfl,hv,c2 hc q⟩⟩⟩⟩⟩,fun e3=>af.2 ⟨fun e=>by
   have hc:fT op=true:=(by rw[show op=4 from eq_of_beq e];rfl)
   exact⟨⟨(a,u),rfl,trivial,(a,v),rfl,trivial,⟨a,u,_⟩,rfl,hu,an.2 ⟨cV _ _,af.2 ⟨fun q=>c1 hc q,fun q=>⟨⟨_,v,_⟩,rfl,hv,c2 hc q⟩⟩⟩⟩,
    ⟨(a,u),rfl,trivial,(a,v),rfl,trivial,⟨a,u,_⟩,rfl,hu,an.2 ⟨cV _ _,af.2 ⟨fun q=>c1 hc q,fun q=>⟨⟨_,v,_⟩,rfl,hv,c2 hc q⟩⟩⟩⟩,
    ⟨(a,u),rfl,trivial,(a,v),rfl,trivial,⟨a,u,_⟩,rfl,hu,an.2 ⟨cV _ _,af.2 ⟨fun q=>c1 hc q,fun q=>⟨⟨_,v,_⟩,rfl,hv,c2 hc q⟩⟩⟩⟩⟩,fun e4=>af.2 ⟨fun e=>by
   have hc:fT op=true:=(by rw[show op=5 from eq_of_beq e];rfl)
   exact⟨⟨(a,u),rfl,trivial,(a,v),rfl,trivial,⟨a,u,_⟩,rfl,hu,an.2 ⟨cV _ _,af.2 ⟨fun q=>c1 hc q,fun q=>⟨⟨_,v,_⟩,rfl,hv,c2 hc q⟩⟩⟩⟩,
    ⟨(a,u),rfl,trivial,(a,v),rfl,trivial,⟨a,u,_⟩,rfl,hu,an.2 ⟨cV _ _,af.2 ⟨fun q=>c1 hc q,fun q=>⟨⟨_,v,_⟩,rfl,hv,c2 hc q⟩⟩⟩⟩,
    ⟨(a,u),rfl,trivial,(a,v),rfl,trivial,⟨a,u,_⟩,rfl,hu,an.2 ⟨cV _ _,af.2 ⟨fun q=>c1 hc q,fun q=>⟨⟨_,v,_⟩,rfl,hv,c2 hc q⟩⟩⟩⟩⟩,fun e5=>af.2 ⟨fun e=>by
   have hc:fT op=true:=(by rw[show op=6 from eq_of_beq e];rfl)
   exact⟨⟨(a,u),rfl,trivial,(a,v),rfl,trivial,⟨a,u,_⟩,rfl,hu,an.2 ⟨cV _ _,af.2 ⟨fun q=>c1 hc q,fun q=>⟨⟨_,v,_⟩,rfl,hv,c2 hc q⟩⟩⟩⟩,
    ⟨(a,u),rfl,trivial,(a,v),rfl,trivial,⟨a,u,_⟩,rfl,hu,an.2 ⟨cV _ _,af.2 ⟨fun q=>c1 hc q,fun q=>⟨⟨_,v,_⟩,rfl,hv,c2 hc q⟩⟩⟩⟩,
    ⟨(a,u),rfl,trivial,(a,v),rfl,trivial,⟨a,u,_⟩,rfl,hu,an.2 ⟨cV _ _,af.2 ⟨fun q=>c1 hc q,fun q=>⟨⟨_,v,_⟩,rfl,hv,c2 hc q⟩⟩⟩⟩⟩,fun e6=>?_⟩⟩⟩⟩
 simp only[beq_eq_false_iff_ne] at e3 e4 e5 e6
 have hc:fT op=false:=by
  unfold fT
  rw[Bool.and_eq_false_iff,aa4,aa4];omega
 refine af.2 ⟨fun e=>⟨(a,rel,l),rfl,hat a rfl,?_⟩,fun e1=>af.2 ⟨fun e=>⟨(a,rel,l),rfl,hat a rfl,?_⟩,fun e2=>?_⟩⟩
 ·rw[nc hc (by rw[show op=1 by simpa using e];rfl)] at ho;exact ho
 ·rw[nc hc (by rw[show op=2 by simpa using e];rfl)] at ho;exact ho
 simp only[beq_eq_false_iff_ne] at e1 e2
 have hL:cf ⟨a,op,rel,l,u,v⟩=bif !decide ((dH a rel l).1=0) then dH a rel l
   else bif decide (op=7) then(gV (aU (dS a (dH a rel l).2) u 1).1,(aU (dS a (dH a rel l).2) u 1).2)
   else kD (aU (dS a (dH a rel l).2) u 1) (v.tm.want getM gp 1):=by
  unfold cf kj
  rw[show(FC.lt ⟨a,op,rel,l,u,v⟩).op=op from rfl,hc,aa6 e1,aa6 e2];rfl
 rw[hL] at ho
 refine⟨(a,rel,l),rfl,hat a rfl,an.2 ⟨cV _ _,?_⟩⟩
 rw[jD]
 refine af.2 ⟨fun q=>?_,fun q=>?_⟩
 ·rw[q] at ho;exact ho
 ·rw[q,aa7] at ho
  refine⟨⟨dS a (dH a rel l).2,u,1⟩,rfl,by show u.tm.gu<=100000;omega,an.2 ⟨cV _ _,?_⟩⟩
  rw[zq]
  refine af.2 ⟨fun q1=>?_,fun q1=>af.2 ⟨fun q7=>?_,fun q7=>⟨⟨dS (dS a (dH a rel l).2) (aU (dS a (dH a rel l).2) u 1).2,v,1⟩,rfl,by show v.tm.gu<=100000;omega,?_⟩⟩⟩
  ·have q1:(aU (dS a (dH a rel l).2) u 1).1=true:=q1
   unfold kD at ho
   rw[q1] at ho
   simp only[q1]
   cases h7:decide (op=7)<;>rw[h7] at ho<;>exact ho
  ·rw[show decide (op=7)=true by simpa using q7] at ho
   exact ho
  ·have q1:(aU (dS a (dH a rel l).2) u 1).1=false:=q1
   rw[show decide (op=7)=false by simpa using q7,aa7] at ho
   unfold kD at ho
   rw[q1] at ho
   exact ho
noncomputable def Tj(κ:Kp):Env:=(U2 κ).ay 228 (aR Th Lu (PD κ))
theorem eYt(κ:Kp):aD (Tj κ):=(eYa κ).ay (mYa κ) (cLi κ)
theorem Z8(κ:Kp):aj (Tj κ):=(mYa κ).ay aK
theorem yCo(κ:Kp)(v:Value)(K:AV->List Dn.Obj->Prop):(bf (Tj κ) 12 179 [.lit v] [] K)=(
 letI z1:=Value.iface 306 (Value.pointer (some (Kp.arity κ)))
 letI z2:=Value.iface 306 (Value.pointer (some (Kp.type κ)))
 letI z3:=Value.iface 306 (Value.pointer (some (Kp.fK κ)))
 ba (kR κ v&&lV κ z3) (aC (gI v z3) (K (AV.int 51) []) (ba (kR κ v&&lV κ z1) (aC (gI v z1) (K (AV.int 52) []) (ba (kR κ v&&lV κ z2) (aC (gI v z2) (K
 (AV.int 53) []) (K (AV.int 0) []))))))):=by kernel_rfl
noncomputable def Pj(κ:Kp)(v:Value):Int:=bif gI v (bj κ 51) then 51 else bif gI v (bj κ 52) then 52 else bif gI v (bj κ 53) then 53 else 0
theorem Kb(κ:Kp){e:Int}(h:js e):Pj κ (bj κ e)=e:=by
 unfold Pj
 rw[iB κ h (.inr (.inl rfl)),iB κ h (.inr (.inr (.inl rfl))),iB κ h (.inr (.inr (.inr rfl)))]
 rcases h with rfl|rfl|rfl|rfl<;>rfl
noncomputable def WM(κ:Kp):List AV->Option (Bool×AV)
 |[.lit v]=>some (kR κ v, .int (Pj κ v))
 |_=>none
theorem pCo(κ:Kp):cy (Tj κ) 12 179 (WM κ):=by
 intro args x hh
 unfold WM at hh
 split at hh
 ·simp only[aa5,ab1] at hh
  obtain⟨h1,rfl⟩:=hh
  refine⟨_,rfl,rfl,?_⟩
  obtain⟨e,he,rfl⟩:=(uY _ _).1 h1
  refine Eq.mpr (yCo κ _ _) ?_
  rw[Kb κ he]
  have k1: ∀k,w8 k->(kR κ (bj κ e)&&lV κ (bj κ k))=true:=fun k hk=>by rw[AE κ he,AX κ hk];rfl
  have n51:Value.iface 306 (.pointer (some κ.fK))=bj κ 51:=rfl
  have n52:Value.iface 306 (.pointer (some κ.arity))=bj κ 52:=rfl
  have n53:Value.iface 306 (.pointer (some κ.type))=bj κ 53:=rfl
  rw[n51,n52,n53,k1 _ (.inl rfl),k1 _ (.inr (.inl rfl)),k1 _ (.inr (.inr rfl)),iB κ he (.inr (.inl rfl)),iB κ he (.inr (.inr (.inl rfl))),iB κ he (.inr (.inr (.inr rfl)))]
  rcases he with rfl|rfl|rfl|rfl<;>rfl
 ·cases hh
noncomputable def OF(κ:Kp):Env:=(Tj κ).aG 179 (WM κ)
theorem eYc(κ:Kp):aD (OF κ):=(eYt κ).aG (Z8 κ) (pCo κ)
theorem mYc(κ:Kp):aj (OF κ):=(Z8 κ).aG
structure SF where
 a:jC
 w:Int
 bl:List AV
 i:Int
noncomputable abbrev Pa(κ:Kp)(x:SF):S:=sp 52 [(0,Dq),(5, .lit (bj κ x.w)),(14, .ad 72 x.bl),(15, .int x.bl.length),(16, .int x.i)] (bV x.a)
theorem xPa(κ:Kp)(x:SF)(I:Nat->S->Prop)(n:Nat)(K:Exit->S->Prop):(vc (OF κ) 12 178 none 2 (ah (Pr κ).toProgram 178 3) (Pa κ x) (bL (OF κ) 178 3 2 I n K))=(
 letI z1:=Value.iface 306 (Value.pointer (some (Kp.arity κ)))
 letI z2:=Value.iface 306 (Value.pointer (some (Kp.fK κ)))
 letI z3:=nth x.bl x.i.toNat
 letI z4:=IntKind.wrap IntKind.i64 (x.i+(1:Int))
 letI z5:=x.bl.length
 letI z6:=Value.iface 306 (Value.pointer (some (Kp.type κ)))
 letI z7:=kR κ (bj κ x.w)&&lV κ z2
 letI z8:=kR κ (bj κ x.w)&&lV κ z1
 aC (decide (x.i<(↑z5:Int))) (ba (decide ((0:Int)<=x.i)&&decide (x.i<(↑z5:Int))) (∃(e1:FC),([AV.ptr 0 0 [] 0,AV.agg [AV.int (toInt (ae z3 0)),
 AV.agg [AV.str (toStr (ae (ae z3 1) 0)),AV.ad 56 (ai (ae (ae z3 1) 1))],AV.agg [AV.int (toInt (ae (ae z3 2) 0)),AV.str (toStr (ae (ae z3 2) 1)),AV.int
 (toInt (ae (ae z3 2) 2)),AV.ad 56 (ai (ae (ae z3 2) 3))],AV.agg [AV.int (toInt (ae (ae z3 3) 0)),AV.str (toStr (ae (ae z3 3) 1)),AV.int (toInt (ae (ae z3 3)
 2)),AV.ad 56 (ai (ae (ae z3 3) 3))]]],(bV x.a))=([AV.ptr 0 0 [] 0,AV.agg [AV.int e1.op,AV.agg [AV.str e1.rel,AV.ad 56 e1.l],AV.agg [AV.int e1.u.op,
 AV.str e1.u.s,AV.int e1.u.n,AV.ad 56 e1.u.l],AV.agg [AV.int e1.v.op,AV.str e1.v.s,AV.int e1.v.n,AV.ad 56 e1.v.l]]],(bV e1.a))/\(List.length e1.a.ds<=
 9223372036854775807/\iS (FC.lt e1)<=100000)/\ba (aE (bj κ x.w)) (aC (bR (bj κ x.w)) (ba (kR κ (bj κ (Prod.fst (cf e1)))&&lV κ z2) (aC (gI (bj κ (Prod.fst
 (cf e1))) z2) (K Exit.ret (sp 52 [(4,AV.lit (bj κ (Prod.fst (cf e1))))] (bV (dS e1.a (Prod.snd (cf e1)))))) (ba (kR κ (bj κ (Prod.fst (cf e1)))&&lV κ z1) (aC
 (gI (bj κ (Prod.fst (cf e1))) z1) (K Exit.ret (sp 52 [(4,AV.lit (bj κ (Prod.fst (cf e1))))] (bV (dS e1.a (Prod.snd (cf e1)))))) (∃(e0:Nat),e0<n/\I e0
 (sp 52 [(0,AV.ptr 0 0 [] 0),(5,AV.lit (bj κ (Prod.fst (cf e1)))),(14,AV.ad 72 x.bl),(15,AV.int (↑z5:Int)),(16,AV.int z4)] (bV (dS e1.a (Prod.snd (cf
 e1)))))))))) (ba (kR κ (bj κ x.w)&&lV κ z6) (aC (gI (bj κ x.w) z6) (ba (kR κ (bj κ (Prod.fst (cf e1)))&&lV κ z2) (aC (gI (bj κ (Prod.fst (cf e1))) z2) (ba
 (kR κ (bj κ (Prod.fst (cf e1)))&&lV κ z2) (aC (gI (bj κ (Prod.fst (cf e1))) z2) (K Exit.ret (sp 52 [(4,AV.lit (bj κ (Prod.fst (cf e1))))] (bV (dS e1.a
 (Prod.snd (cf e1)))))) (ba (kR κ (bj κ (Prod.fst (cf e1)))&&lV κ z1) (aC (gI (bj κ (Prod.fst (cf e1))) z1) (K Exit.ret (sp 52 [(4,AV.lit (bj κ (Prod.fst (cf
 e1))))] (bV (dS e1.a (Prod.snd (cf e1)))))) (∃(e0:Nat),e0<n/\I e0 (sp 52 [(0,AV.ptr 0 0 [] 0),(5,AV.lit (bj κ (Prod.fst (cf e1)))),(14,AV.ad 72
 x.bl),(15,AV.int (↑z5:Int)),(16,AV.int z4)] (bV (dS e1.a (Prod.snd (cf e1)))))))))) (ba (kR κ (bj κ (Prod.fst (cf e1)))&&lV κ z1) (aC (gI (bj κ
 (Prod.fst (cf e1))) z1) (ba (kR κ (bj κ (Prod.fst (cf e1)))&&lV κ z2) (aC (gI (bj κ (Prod.fst (cf e1))) z2) (K Exit.ret (sp 52 [(4,AV.lit (bj κ (Prod.fst (cf
 e1))))] (bV (dS e1.a (Prod.snd (cf e1)))))) (ba (kR κ (bj κ (Prod.fst (cf e1)))&&lV κ z1) (aC (gI (bj κ (Prod.fst (cf e1))) z1) (K Exit.ret (sp 52 [(4,AV.lit
 (bj κ (Prod.fst (cf e1))))] (bV (dS e1.a (Prod.snd (cf e1)))))) (∃(e0:Nat),e0<n/\I e0 (sp 52 [(0,AV.ptr 0 0 [] 0),(5,AV.lit (bj κ (Prod.fst (cf
 e1)))),(14,AV.ad 72 x.bl),(15,AV.int (↑z5:Int)),(16,AV.int z4)] (bV (dS e1.a (Prod.snd (cf e1)))))))))) (ba z7 (aC (gI (bj κ x.w) z2) (K Exit.ret (sp 52
 [(4,AV.lit (bj κ x.w))] (bV (dS e1.a (Prod.snd (cf e1)))))) (ba z8 (aC (gI (bj κ x.w) z1) (K Exit.ret (sp 52 [(4,AV.lit (bj κ x.w))] (bV (dS e1.a (Prod.snd
 (cf e1)))))) (∃(e0:Nat),e0<n/\I e0 (sp 52 [(0,AV.ptr 0 0 [] 0),(5,AV.lit (bj κ x.w)),(14,AV.ad 72 x.bl),(15,AV.int (↑z5:Int)),(16,AV.int z4)]
 (bV (dS e1.a (Prod.snd (cf e1)))))))))))))) (ba z7 (aC (gI (bj κ x.w) z2) (K Exit.ret (sp 52 [(4,AV.lit (bj κ x.w))] (bV (dS e1.a (Prod.snd (cf e1)))))) (ba z8
 (aC (gI (bj κ x.w) z1) (K Exit.ret (sp 52 [(4,AV.lit (bj κ x.w))] (bV (dS e1.a (Prod.snd (cf e1)))))) (∃(e0:Nat),e0<n/\I e0 (sp 52 [(0,AV.ptr 0 0 []
 0),(5,AV.lit (bj κ x.w)),(14,AV.ad 72 x.bl),(15,AV.int (↑z5:Int)),(16,AV.int z4)] (bV (dS e1.a (Prod.snd (cf e1))))))))))))))) (K (Exit.exit 0) (sp 52
 [(5,AV.lit (bj κ x.w))] (bV x.a)))):=by kernel_rfl
def jj(a:jC)(x:AV):FC:=⟨a,toInt (ae x 0),toStr (ae (ae x 1) 0),ai (ae (ae x 1) 1),uv (ae x 2),uv (ae x 3)⟩
theorem Dm(a:jC)(x:AV):(jj a x).lt=cU x:=by
 unfold FC.lt jj
 simp only[lb]
 rfl
theorem qh{σ:Type}{get:σ->ByteArray->Int}{set:σ->ByteArray->Int->σ}(ds:List Dc)(l:Lt)(x:σ×Bool):js (kj get set ds l x).1:=by
 have hk: ∀e,(e=0\/e=51\/e=52)->js e:=fun e h=>by
  rcases h with rfl|rfl|rfl
  ·exact .inl rfl
  ·exact .inr (.inl rfl)
  ·exact .inr (.inr (.inl rfl))
 have h53:js 53:= .inr (.inr (.inr rfl))
 have hb: ∀{y:Bool×(σ×Bool)} {f:σ×Bool->Bool×(σ×Bool)},js (kD y f).1:=fun{y f}=>by
  rcases sC (y:=y) (f:=f) with e|e<;>rw[e]
  ·exact .inl rfl
  ·exact h53
 have ha:js (eh get set ds l.a x).1:=by
  unfold eh
  cases decide (known ds l.a=0) with
  |false=>exact hk _ (mj ds l.a)
  |true=>
   rw[aa9]
   cases(iN get set (cO ds l.a.rel) l.a.l x).1
   ·exact .inl rfl
   ·exact h53
 unfold kj
 cases fT l.op with
 |true=>exact hb
 | false=>
  rw[aa7]
  cases decide (l.op=1)||decide (l.op=2) with
  |true=>exact ha
  | false=>
   rw[aa7]
   cases decide ((eh get set ds l.a x).1=0) with
   |false=>exact ha
   | true=>
    rw[Bool.not_true,aa7]
    cases decide (l.op=7) with
    |true=>
     rw[aa9]
     cases(l.x.want get set 1 (eh get set ds l.a x).2).1
     ·exact .inl rfl
     ·exact h53
    |false=>exact hb
theorem sP{σ:Type}{get:σ->ByteArray->Int}{set:σ->ByteArray->Int->σ}(ds:List Dc)(a:At)(x:σ×Bool):js (eh get set ds a x).1:=by
 have h:=qh (get:=get) (set:=set) ds ⟨1,a, .mk 0 ByteArray.empty 0 [], .mk 0 ByteArray.empty 0 []⟩ x
 exact h
theorem s7{w e:Int}(hw:js w)(he:js e):js (im w e):=by
 unfold im
 cases(decide (w=0)||decide (w=53)&&tK e)
 ·exact hw
 ·exact he
theorem sQ{σ:Type}{get:σ->ByteArray->Int}{set:σ->ByteArray->Int->σ}(ds:List Dc): ∀(b:List Lt) (y:Int×(σ×Bool)),js y.1->js (kb get set ds b y).1
 |[],_,h=>h
 |l::b,y,h=>by
  rw[kb]
  have:=s7 h (qh (get:=get) (set:=set) ds l y.2)
  cases tK (im y.1 (kj get set ds l y.2).1) with
  |true=>exact this
  |false=>exact sQ ds b _ this
def kW(x:SF):Int×(List (Value×AV)×Bool):=kb getM gp (cQ x.a.ds) (di (x.bl.drop x.i.toNat)) (x.w,(x.a.es,x.a.more))
def DS(x:SF):Prop:=x.a.ds.length<=aM/\js x.w/\x.bl.length<=100000/\(∀l,l∈x.bl->iS (cU l)<=100000)/\0<=x.i/\x.i<=x.bl.length
noncomputable def MV(κ:Kp)(x:SF):Out (Exit×S):= .all (fun _:Bool=>True) fun b=> .aC b (.one (.ret,sp 52 [(4, .lit (bj κ (kW x).1))] (bV (dS x.a (kW x).2)))) (.one (.exit 0,sp 52 [(5, .lit (bj κ (kW x).1))] (bV (dS x.a (kW x).2))))
theorem lPa(κ:Kp):bk (OF κ) 12 178 3 (aP 2 (Pa κ) DS (MV κ)):=by
 refine aL (fun x=>x.bl.length - x.i.toNat) ?_
 rintro⟨a,w,bl,i⟩ K ⟨h1,h2,h3,h4,h5,h6⟩ ho
 simp only at h1 h2 h3 h4 h5 h6
 rw[show(OF κ).P=Pr κ from rfl]
 refine Eq.mpr (xPa κ ⟨a,w,bl,i⟩ _ _ K) ?_
 have ho1:=ho true trivial
 have ho2:=ho false trivial
 simp only[Out.run,aC] at ho1 ho2
 rw[af,aa2,aa4]
 refine⟨fun hi=>?_,fun hi=>?_⟩
 ·simp only at hi
  have hk:i.toNat<bl.length:=by omega
  have hb:kW ⟨a,w,bl,i⟩=bif tK (im w (cf (jj a (nth bl i.toNat))).1) then(im w (cf (jj a (nth bl i.toNat))).1,(cf (jj a (nth bl i.toNat))).2) else kW ⟨dS a (cf (jj a (nth bl i.toNat))).2,im w (cf (jj a (nth bl i.toNat))).1,bl,i+1⟩:=by
   unfold kW cf
   simp only[show(i+1).toNat=i.toNat+1 by omega]
   rw[ov bl i.toNat hk,kb,Dm];rfl
  have he:js (cf (jj a (nth bl i.toNat))).1:=qh _ _ _
  have hlc:iS (cU (nth bl i.toNat))<=100000:=h4 _ (by rw[aZ _ _ hk];exact List.getElem_mem hk)
  have R:tK (im w (cf (jj a (nth bl i.toNat))).1)=true->K .ret (sp 52 [(4, .lit (bj κ (im w (cf (jj a (nth bl i.toNat))).1)))] (bV (dS a (cf (jj a (nth bl i.toNat))).2))):=fun e=>by
   rw[hb,e,aa9] at ho1
   exact ho1
  have N:tK (im w (cf (jj a (nth bl i.toNat))).1)=false->∃m,m<bl.length - i.toNat/\eY (Pa κ) DS (MV κ) (fun x=>x.bl.length - x.i.toNat) K m (sp 52 [(0,Dq),(5, .lit (bj κ (im w (cf (jj a (nth bl i.toNat))).1))),(14, .ad 72 bl),(15, .int bl.length),(16, .int (IntKind.wrap .i64 (i+1)))] (bV (dS a (cf (jj a (nth bl i.toNat))).2))):=fun e=>by
   rw[hb,e,aa7] at ho1 ho2
   rw[aW (n:=i+1) (by omega) (by omega)]
   refine⟨_,?_,⟨dS a (cf (jj a (nth bl i.toNat))).2,im w (cf (jj a (nth bl i.toNat))).1,bl,i+1⟩,rfl,⟨h1,s7 h2 he,h3,h4,by simp only;omega,by simp only;omega⟩,rfl,?_⟩
   ·simp only;omega
   ·intro b _
    cases b
    ·exact ho2
    ·exact ho1
  refine an.2 ⟨by simp;omega,jj a (nth bl i.toNat),rfl,⟨h1,by rw[Dm];exact hlc⟩,?_⟩
  have n51:Value.iface 306 (.pointer (some κ.fK))=bj κ 51:=rfl
  have n52:Value.iface 306 (.pointer (some κ.arity))=bj κ 52:=rfl
  have n53:Value.iface 306 (.pointer (some κ.type))=bj κ 53:=rfl
  have ta:(jj a (nth bl i.toNat)).a=a:=rfl
  simp only[n51,n52,n53,ta,cV,jD]
  revert R N he
  generalize cf (jj a (nth bl i.toNat))=y
  intro he R N
  simp only[AE κ he,AE κ h2,AX κ (show w8 51 from .inl rfl),AX κ (show w8 52 from .inr (.inl rfl)),AX κ (show w8 53 from .inr (.inr rfl)),iB κ he (show js 51 from .inr (.inl rfl)),iB κ he (show js 52 from .inr (.inr (.inl rfl))),iB κ h2 (show js 51 from .inr (.inl rfl)),iB κ h2 (show js 52 from .inr (.inr (.inl rfl))),iB κ h2 (show js 53 from .inr (.inr (.inr rfl)))]
  obtain⟨e,y2⟩:=y
  simp only at he R N⊢
  rcases h2 with rfl|rfl|rfl|rfl<;>rcases he with rfl|rfl|rfl|rfl<;>first|exact R rfl|exact N rfl
 ·simp only at hi
  have hb:kW ⟨a,w,bl,i⟩=(w,(a.es,a.more)):=by
   unfold kW
   simp only
   rw[ab0 (by omega)];rfl
  rw[hb] at ho2
  exact ho2
noncomputable def TW(κ:Kp):Env:=(OF κ).ak 178 3 (aP 2 (Pa κ) DS (MV κ))
theorem eYq(κ:Kp):aD (TW κ):=(eYc κ).ak (mYc κ) (lPa κ)
theorem mYq(κ:Kp):aj (TW κ):=(mYc κ).ak aI
theorem yPa(κ:Kp)(a:jC)(r:cq)(K:AV->List Dn.Obj->Prop):(bf (TW κ) 12 178 [Dq,aq r] (bV a) K)=(
 letI z1:=Pg.toProgram (Env.P (OF κ))
 ∃(e2:Sk),([AV.ptr 0 0 [] 0,AV.agg [AV.str r.rel,AV.ad 56 r.hl]],(bV a))=([AV.ptr 0 0 [] 0,AV.agg [AV.str e2.2.1,AV.ad 56 e2.2.2]],(bV e2.1))/\
 (e2.1.ds.length<=9223372036854775807/\aO (aa e2.2.2)<=100000)/\ah z1 178 3=ah z1 178 3/\∃(e1:SF),sp 52 [(0,AV.ptr 0 0 [] 0),(5,AV.lit (bj κ
 (Prod.fst (dH e2.1 e2.2.1 e2.2.2)))),(14,AV.ad 72 r.bl),(15,AV.int (↑(r.bl.length):Int)),(16,AV.int 0)] (bV (dS e2.1 (Prod.snd (dH e2.1 e2.2.1
 e2.2.2))))=sp 52 [(0,AV.ptr 0 0 [] 0),(5,AV.lit (bj κ e1.w)),(14,AV.ad 72 e1.bl),(15,AV.int (↑(e1.bl.length):Int)),(16,AV.int e1.i)] (bV e1.a)/\
 (List.length e1.a.ds<=9223372036854775807/\(e1.w=(0:Int)\/e1.w=(51:Int)\/e1.w=(52:Int)\/e1.w=(53:Int))/\e1.bl.length<=100000/\(∀(e0:
 AV),List.Mem e0 e1.bl->iS (cU e0)<=100000)/\(0:Int)<=e1.i/\e1.i<=(↑(e1.bl.length):Int))/\∀(e0:Bool),True->aC e0 (K (AV.lit (bj κ (Prod.fst (kW
 e1)))) (bV (dS e1.a (Prod.snd (kW e1))))) (K (AV.lit (bj κ (Prod.fst (kW e1)))) (bV (dS e1.a (Prod.snd (kW e1)))))):=by kernel_rfl
abbrev TR:=jC×cq
def lD(x:TR):Int×(List (Value×AV)×Bool):=kb getM gp (cQ x.1.ds) (di x.2.bl) (eh getM gp (cQ x.1.ds) ⟨x.2.rel,aa x.2.hl⟩ (x.1.es,x.1.more))
def Vl(x:TR):List AV×List Dn.Obj:=([Dq,aq x.2],bV x.1)
def MK(x:TR):Prop:=x.1.ds.length<=aM/\df x.2
noncomputable def QA(κ:Kp)(x:TR):Out (AV×List Dn.Obj):= .one (.lit (bj κ (lD x).1),bV (dS x.1 (lD x).2))
theorem cPs(κ:Kp):bz (TW κ) 12 178 (aR Vl MK (QA κ)):=by
 refine bg ?_
 rintro⟨a,r⟩ K ⟨h1,h2⟩ ho
 simp only at h1 h2
 refine Eq.mpr (yPa κ a r K) ?_
 have hlit: ∀l,l∈r.bl->iS (cU l)<=100000:=fun l hl=>by
  obtain⟨k,hk,e⟩:=List.getElem_of_mem hl
  have:=kO h2 hk
  rwa [aZ _ _ hk,e] at this
 have hs:lD (a,r)=kW ⟨dS a (dH a r.rel r.hl).2,(dH a r.rel r.hl).1,r.bl,0⟩:=by
  unfold lD kW dH
  simp only[ab9,ab2];rfl
 have ho:K (.lit (bj κ (lD (a,r)).1)) (bV (dS a (lD (a,r)).2)):=ho
 rw[hs] at ho
 refine⟨(a,r.rel,r.hl),rfl,⟨h1,oO h2⟩,rfl,⟨dS a (dH a r.rel r.hl).2,(dH a r.rel r.hl).1,r.bl,0⟩,rfl,⟨h1,sP _ _ _,h2.2,hlit,by simp only;omega,by simp only;omega⟩,fun b _=>?_⟩
 cases b<;>exact ho
noncomputable def Pf(κ:Kp):Env:=(TW κ).ay 178 (aR Vl MK (QA κ))
theorem eYs(κ:Kp):aD (Pf κ):=(eYq κ).ay (mYq κ) (cPs κ)
theorem mYs(κ:Kp):aj (Pf κ):=(mYq κ).ay aK
end Go.Proofs.YthaiinlfnommnaaGreatDoor
namespace Go.Rl
open Go Go.Dn
section
variable {σ:Type} {get:σ->ByteArray->Int} {set:σ->ByteArray->Int->σ}
variable (hgs: ∀st s k t,get (set st s k) t=bif t==s then k else get st t)
include hgs
theorem r8(ds:List Dc){r:Rl}(hr:aQ r=true)(V:List ByteArray)(hV: ∀s,s∈fw r->s∈V)(st:σ)(h0:(fo get set ds r st).1=0)(hm:(fo get set ds r st).2.2=true):lZ get V (fo get set ds r st).2.1<lZ get V st:=by
 have hk:j2 ds r=0:=by
  cases e:decide (j2 ds r=0) with
  |true=>simpa using e
  |false=>
   rw[aa4] at e
   rw[CZ ds r st e] at h0;exact h0
 simp only[aQ,aa3,List.all_eq_true] at hr
 have e1:=Mi (get:=get) (set:=set) ds (r:=r) (tZ hr.1.1.1) (fun l hl=>Sy (hr.2 l hl)) hk st h0
 rw[e1] at hm⊢
 exact x1 (DU hgs ds r st) V ((EE hgs ds r st hm).left (Ext.refl _ _) hV)
theorem nF(ds:List Dc){r:Rl}(hr:aQ r=true)(V:List ByteArray)(hV: ∀s,s∈fw r->s∈V): ∀(n m:Nat) (st:σ),lZ get V st<n->lZ get V st<m->fM get set ds r n st=fM get set ds r m st
 |0,_,_,h,_=>by omega
 |_+1,0,_,_,h=>by omega
 | n+1,m+1,st,h1,h2=>by
  rw[fM,fM]
  cases h0:decide ((fo get set ds r st).1=0) with
  |false=>rfl
  | true=>
   rw[aa9,aa9]
   cases hm:(fo get set ds r st).2.2 with
   |false=>rfl
   |true=>
    rw[aa9,aa9]
    have:=r8 hgs ds hr V hV st (by simpa using h0) hm
    exact nF ds hr V hV n m _ (by omega) (by omega)
end
end Go.Rl
namespace Go.Proofs.YthaiinlfnommnaaGreatDoor
open Go Go.Dn Go.Rl Go.Proofs
attribute [local irreducible] bf vc
set_option maxRecDepth 20000
structure pM where
 ds:List AV
 r:cq
 es:List (Value×AV)
 more:Bool
abbrev O1(x:pM):S:=sp 60 [(3, .ptr 0 0 [] 0),(6, .ptr 1 0 [] 0)] [.box 66 (aq x.r), .box 225 (.agg [.ad 61 x.ds, .mp 2, .bool x.more]), .map 9 3 x.es]
theorem xTy(κ:Kp)(x:pM)(I:Nat->S->Prop)(n:Nat)(K:Exit->S->Prop):(vc (Pf κ) 12 110 none 0 (ah (Pr κ).toProgram 110 4) (O1 x) (bL (Pf κ) 110 4 0 I n K))=(
 aC x.more (∃(a:TR),([AV.ptr 0 0 [] 0,aq x.r],[Obj.box 225 (AV.agg [AV.ad 61 x.ds,AV.mp 1,AV.bool false]),Dn.Obj.map 9 3 x.es])=([AV.ptr 0 0 [] 0,
 aq a.2],[Obj.box 225 (AV.agg [AV.ad 61 a.1.ds,AV.mp 1,AV.bool a.1.more]),Dn.Obj.map 9 3 a.1.es])/\(a.1.ds.length<=9223372036854775807/\aO (aa
 (bn 56 a.2.hl a.2.bl))<=100000/\a.2.bl.length<=100000)/\ba (aE (bj κ (Prod.fst (lD a)))) (aC (!bR (bj κ (Prod.fst (lD a)))) (ba
 (kR κ (bj κ (Prod.fst (lD a)))) (K Exit.ret (sp 60 [(4,AV.nil),(5,AV.int (Pj κ (bj κ (Prod.fst (lD a)))))] []))) (∃(m:Nat),m<n/\I m (sp
 60 [(3,AV.ptr 0 0 [] 0),(6,AV.ptr 1 0 [] 0)] [Obj.box 66 (aq x.r),Obj.box 225 (AV.agg [AV.ad 61 (jC.ds (dS a.1 (Prod.snd (lD a)))),AV.mp 2,
 AV.bool (jC.more (dS a.1 (Prod.snd (lD a))))]),Dn.Obj.map 9 3 (jC.es (dS a.1 (Prod.snd (lD a))))])))) (K (Exit.exit 0) (sp 60 [(3,AV.ptr 0 0 [] 0),
 (6,AV.ptr 1 0 [] 0)] [Obj.box 66 (aq x.r),Obj.box 225 (AV.agg [AV.ad 61 x.ds,AV.mp 2,AV.bool x.more]),Dn.Obj.map 9 3 x.es]))):=by kernel_rfl
abbrev dsR(x:pM):List Dc:=cQ x.ds
def WB(x:pM):Nat:=lZ getM (dc (aH x.r)) x.es
def YS(x:pM):Int×List (Value×AV):=fM getM gp (dsR x) (aH x.r) (WB x+1) x.es
def gw(x:pM):Int×List (Value×AV):=bif x.more then YS x else(0,x.es)
def K0(x:pM):Prop:=aQ (aH x.r)=true/\x.ds.length<=aM/\df x.r
def G7(x:pM):Out (Exit×S):= .aC (decide ((gw x).1=0)) (.one (.exit 0,O1 ⟨x.ds,x.r,(gw x).2,false⟩)) (.one (.ret,sp 60 [(4, .nil),(5, .int (gw x).1)] []))
theorem BC(ds:List Dc)(r:Rl)(es:List (Value×AV)):js (fo getM gp ds r es).1:=sQ _ _ _ (sP _ _ _)
theorem lTy(κ:Kp):bk (Pf κ) 12 110 4 (aP 0 O1 K0 G7):=by
 refine aL (fun x=>bif x.more then WB x+1 else 0) ?_
 rintro⟨ds,r,es,more⟩ K ⟨h1,h2,h3⟩ ho
 simp only at h1 h2 h3
 rw[show(Pf κ).P=Pr κ from rfl]
 refine Eq.mpr (xTy κ ⟨ds,r,es,more⟩ _ _ K) ?_
 simp only[G7,Out.run,af] at ho
 cases more with
 |false=>exact ho.1 rfl
 | true=>
  have hp:lD (⟨ds,es,false⟩,r)=fo getM gp (cQ ds) (aH r) es:=rfl
  have hV: ∀s,s∈fw (aH r)->s∈dc (aH r):=fun s hs=>(yt h1).2 hs
  have hr:=BC (cQ ds) (aH r) es
  have he:gw ⟨ds,r,es,true⟩=bif decide ((fo getM gp (cQ ds) (aH r) es).1=0) then gw ⟨ds,r,(fo getM gp (cQ ds) (aH r) es).2.1,(fo getM gp (cQ ds) (aH r) es).2.2⟩ else((fo getM gp (cQ ds) (aH r) es).1,(fo getM gp (cQ ds) (aH r) es).2.1):=by
   have e0:gw ⟨ds,r,es,true⟩=fM getM gp (cQ ds) (aH r) (WB ⟨ds,r,es,true⟩+1) es:=rfl
   rw[e0,fM]
   cases h0:decide ((fo getM gp (cQ ds) (aH r) es).1=0) with
   |false=>rfl
   | true=>
    rw[aa9,aa9]
    unfold gw
    cases hm:(fo getM gp (cQ ds) (aH r) es).2.2 with
    |false=>rfl
    |true=>
     rw[aa9]
     have:=r8 oe (cQ ds) h1 _ hV es (by simpa using h0) hm
     exact nF oe (cQ ds) h1 _ hV _ _ _ this (Nat.lt_succ_self _)
  refine⟨(⟨ds,es,false⟩,r),rfl,⟨h2,h3⟩,?_⟩
  rw[hp]
  refine an.2 ⟨cV _ _,?_⟩
  rw[jD]
  cases h0:decide ((fo getM gp (cQ ds) (aH r) es).1=0) with
  |false=>
   rw[he,h0,aa7] at ho
   refine an.2 ⟨AE κ hr,?_⟩
   rw[Kb κ hr]
   exact ho.2 h0
  | true=>
   rw[he,h0,aa9] at ho
   refine⟨_,?_,⟨ds,r,(fo getM gp (cQ ds) (aH r) es).2.1,(fo getM gp (cQ ds) (aH r) es).2.2⟩,rfl,⟨h1,h2,h3⟩,rfl,?_⟩
   ·simp only
    cases hm:(fo getM gp (cQ ds) (aH r) es).2.2 with
    |false=>exact Nat.succ_pos _
    |true=>
     have:=r8 oe (cQ ds) h1 _ hV es (by simpa using h0) hm
     exact Nat.succ_lt_succ this
   ·simp only[G7,Out.run,af]
    exact ho
noncomputable def OD(κ:Kp):Env:=(Pf κ).ak 110 4 (aP 0 O1 K0 G7)
theorem eYv(κ:Kp):aD (OD κ):=(eYs κ).ak (mYs κ) (lTy κ)
theorem Z3(κ:Kp):aj (OD κ):=(mYs κ).ak aI
def iA(l:List Int):List AV:=l.map fun k=> .lit (.int .i64 k)
theorem fv(l:List Int):(iA l).length=l.length:=by simp[iA]
theorem wQ(l m:List Int):iA (l++m)=iA l++iA m:=by simp[iA]
structure Sx where
 ds:List AV
 es:List (Value×AV)
 o:List Int
 vs:List ByteArray
 i:Int
abbrev NV(x:Sx):S:=sp 60 [(6, .ptr 0 0 [] 0),(8, .ar 2 0 (iA x.o).length),(36, .ar 3 0 x.vs.length),(37, .int x.vs.length),(38, .int x.i)] [.box 225 (.agg [.ad 61 x.ds, .mp 1, .bool false]), .map 9 3 x.es, .row 3 (iA x.o), .row 9 (strs x.vs)]
theorem xTz(κ:Kp)(ds:List AV)(es:List (Value×AV))(o vs:List AV)(i:Int)(I:Nat->S->Prop)(n:Nat)(K:Exit->S->Prop):(vc (OD κ) 12 110 none 0 (ah (Pr κ).toProgram 110 11) (sp 60 [(6, .ptr 0 0 [] 0),(8, .ar 2 0 o.length),(36, .ar 3 0 vs.length),(37, .int vs.length),(38, .int i)] [.box 225 (.agg [.ad 61 ds, .mp 1, .bool false]), .map 9 3 es, .row 3 o, .row 9 vs]) (bL (OD κ) 110 11 0 I n K))=(
 letI z1:=dt es (Value.string (toStr (nth vs (0+i.toNat)))) (AV.int 0)
 letI z2:=i<(↑(vs.length):Int)
 aC (decide z2) (ba (decide ((0:Int)<=i)&&decide z2) (aC (toInt z1==(0:Int)) (K Exit.ret (sp 60 [(4,AV.nil),(5,AV.int 53)] [])) (ba (decide
 ((o.length+1+1)*9<=70368744177664)) (∃(e0:Nat),e0<n/\I e0 (sp 60 [(6,AV.ptr 0 0 [] 0),(8,AV.ar 2 0 (o.length+1)),(36,AV.ar 3 0 vs.length),
 (37,AV.int (↑(vs.length):Int)),(38,AV.int (IntKind.wrap IntKind.i64 (i+(1:Int))))] [Obj.box 225 (AV.agg [AV.ad 61 ds,AV.mp 1,AV.bool false]),
 Dn.Obj.map 9 3 es,Obj.row 3 (List.take o.length o++[AV.int (toInt z1)]),Obj.row 9 vs]))))) (K (Exit.exit 2) (sp 60 [(8,AV.ar 0 0 o.length)] [Obj.row 3 o]))):=by kernel_rfl
def j3(x:Sx):List ByteArray:=x.vs.drop x.i.toNat
def th(x:Sx):Bool:=(j3 x).all fun s=>!decide (getM x.es s=0)
def LX(x:Sx):Prop:=x.vs.length<=100000/\x.o.length<=x.i.toNat/\0<=x.i/\x.i<=x.vs.length
def Hf(x:Sx):Out (Exit×S):= .aC (th x) (.one (.exit 2,sp 60 [(8, .ar 0 0 (iA (x.o++(j3 x).map (getM x.es))).length)] [.row 3 (iA (x.o++(j3 x).map (getM x.es)))])) (.one (.ret,sp 60 [(4, .nil),(5, .int 53)] []))
theorem lTz(κ:Kp):bk (OD κ) 12 110 11 (aP 0 NV LX Hf):=by
 refine aL (fun x=>x.vs.length - x.i.toNat) ?_
 rintro⟨ds,es,o,vs,i⟩ K ⟨h1,h2,h3,h4⟩ ho
 simp only at h1 h2 h3 h4
 rw[show(OD κ).P=Pr κ from rfl]
 have e0:(⟨ds,es,o,vs,i⟩:Sx).vs.length=(strs vs).length:=(aX vs).symm
 simp only[NV,e0]
 refine Eq.mpr (xTz κ ds es (iA o) (strs vs) i _ _ K) ?_
 simp only[Hf,Out.run,af] at ho
 simp only[aX]
 rw[af,aa2,aa4,an,aa3,aa2,aa2]
 refine⟨fun hi=>⟨⟨h3,hi⟩,?_⟩,fun hi=>?_⟩
 ·have hk:i.toNat<vs.length:=by omega
  have hr:j3 ⟨ds,es,o,vs,i⟩=vs[i.toNat]::j3 ⟨ds,es,o++[getM es vs[i.toNat]],vs,i+1⟩:=by
   unfold j3
   simp only[show(i+1).toNat=i.toNat+1 by omega]
   exact ab3 hk
  have ha:th ⟨ds,es,o,vs,i⟩=(!decide (getM es vs[i.toNat]=0)&&th ⟨ds,es,o++[getM es vs[i.toNat]],vs,i+1⟩):=by
   unfold th
   rw[hr,List.all_cons]
  rw[Nat.zero_add,wW vs _ hk,Qd]
  have hg:toInt (dt es (Value.string (toStr (.lit (.string vs[i.toNat])))) (AV.int 0))=getM es vs[i.toNat]:=rfl
  rw[hg,af]
  refine⟨fun e=>?_,fun e=>?_⟩
  ·rw[ha,e] at ho
   exact ho.2 rfl
  ·rw[ha,e,hr,Bool.not_false,ac1] at ho
   rw[an,aa2,fv]
   rw[aW (n:=i+1) (by omega) (by omega)]
   refine⟨by omega,_,?_,⟨ds,es,o++[getM es vs[i.toNat]],vs,i+1⟩,?_,⟨h1,by simp only[ac0,List.length_singleton];omega,by simp only;omega,by simp only;omega⟩,rfl,?_⟩
   ·simp only;omega
   ·simp only[NV,wQ,fv,ac0,List.length_singleton,List.take_of_length_le (show(iA o).length<=o.length by rw[fv];omega)]
    rfl
   ·simp only[Hf,Out.run,af]
    rw[show o++[getM es vs[i.toNat]]++(j3 ⟨ds,es,o++[getM es vs[i.toNat]],vs,i+1⟩).map (getM es)=o++(vs[i.toNat]::j3 ⟨ds,es,o++[getM es vs[i.toNat]],vs,i+1⟩).map (getM es) by simp]
    exact ho
 ·have hr:j3 ⟨ds,es,o,vs,i⟩=[]:=by
   unfold j3
   exact ab0 (by simp only;omega)
  have ha:th ⟨ds,es,o,vs,i⟩=true:=by
   unfold th
   rw[hr];rfl
  rw[ha,hr] at ho
  have:=ho.1 rfl
  simp only[ac3,List.append_nil] at this
  exact this
noncomputable def T9(κ:Kp):Env:=(OD κ).ak 110 11 (aP 0 NV LX Hf)
theorem eYz(κ:Kp):aD (T9 κ):=(eYv κ).ak (Z3 κ) (lTz κ)
theorem mYz(κ:Kp):aj (T9 κ):=(Z3 κ).ak aI
theorem yTz(κ:Kp)(ds:List AV)(r:cq)(K:AV->List Dn.Obj->Prop):(bf (T9 κ) 12 110 [.ad 61 ds,aq r] [] K)=(
 letI z1:=Pg.toProgram (Env.P (Pf κ))
 letI z2:=Pg.toProgram (Env.P (OD κ))
 ba (List.all [AV.agg [AV.agg [AV.str r.rel,AV.ad 56 r.hl],AV.ad 72 r.bl,AV.int r.line]] iz) (aC (!fc ds [AV.agg [AV.agg [AV.str r.rel,AV.ad 56 r.hl],AV.ad 72 r.bl,AV.int r.line]]) (K (AV.bp [AV.nil,AV.int 30]) []) (ah z1 110 4=ah z1 110 4/\∃(e2:pM),sp 60 [(3,AV.ptr 0 0 [] 0),(6,AV.ptr 1 0 [] 0)] [Obj.box 66 (AV.agg [AV.agg [AV.str r.rel,AV.ad 56 r.hl],AV.ad 72 r.bl,AV.int r.line]),Obj.box 225 (AV.agg [AV.ad 61 ds,AV.mp 2,AV.bool true]),Dn.Obj.map 9 3 []]=sp 60 [(3,AV.ptr 0 0 [] 0),(6,AV.ptr 1 0 [] 0)] [Obj.box 66 (AV.agg [AV.agg [AV.str e2.r.rel,AV.ad 56 e2.r.hl],AV.ad 72 e2.r.bl,AV.int e2.r.line]),Obj.box 225 (AV.agg [AV.ad 61 e2.ds,AV.mp 2,AV.bool e2.more]),Dn.Obj.map 9 3 e2.es]/\(aQ (aH e2.r)=true/\e2.ds.length<=9223372036854775807/\aO (aa (bn 56 e2.r.hl e2.r.bl))<=100000/\List.length e2.r.bl<=100000)/\aC (decide (Prod.fst (gw e2)=(0:Int))) (∃(e1:cq),([AV.agg [AV.agg [AV.lit (Value.string (cq.rel (pM.r {ds:=e2.ds,r:=e2.r,es:=Prod.snd (gw e2),more:=false}))),AV.ad 56 (cq.hl (pM.r {ds:=e2.ds,r:=e2.r,es:=Prod.snd (gw e2),more:=false}))],AV.ad 72 (cq.bl (pM.r {ds:=e2.ds,r:=e2.r,es:=Prod.snd (gw e2),more:=false})),AV.lit (Value.int IntKind.i64 (cq.line (pM.r {ds:=e2.ds,r:=e2.r,es:=Prod.snd (gw e2),more:=false})))]],aJ)=([AV.agg [AV.agg [AV.str e1.rel,AV.ad 56 e1.hl],AV.ad 72 e1.bl,AV.int e1.line]],aJ)/\(aQ (aH e1)=true/\aO (aa (bn 56 e1.hl e1.bl))<=100000/\e1.bl.length<=100000)/\ah z2 110 11=ah z2 110 11/\∃(e0:Sx),sp 60 [(6,AV.ptr 0 0 [] 0),(8,AV.ar 2 0 0),(36,AV.ar 3 0 (List.length (dc (aH e1)))),(37,AV.int (↑(List.length (dc (aH e1))):Int)),(38,AV.int 0)] [Obj.box 225 (AV.agg [AV.ad 61 (pM.ds {ds:=e2.ds,r:=e2.r,es:=Prod.snd (gw e2),more:=false}),AV.mp 1,AV.bool false]),Dn.Obj.map 9 3 (pM.es {ds:=e2.ds,r:=e2.r,es:=Prod.snd (gw e2),more:=false}),Obj.row 3 [],Obj.row 9 (strs (dc (aH e1)))]=sp 60 [(6,AV.ptr 0 0 [] 0),(8,AV.ar 2 0 (List.length (iA e0.o))),(36,AV.ar 3 0 e0.vs.length),(37,AV.int (↑(e0.vs.length):Int)),(38,AV.int e0.i)] [Obj.box 225 (AV.agg [AV.ad 61 e0.ds,AV.mp 1,AV.bool false]),Dn.Obj.map 9 3 e0.es,Obj.row 3 (iA e0.o),Obj.row 9 (strs e0.vs)]/\(e0.vs.length<=100000/\e0.o.length<=e0.i.toNat/\(0:Int)<=e0.i/\e0.i<=(↑(e0.vs.length):Int))/\aC (th e0) (K (AV.bp [AV.ar 0 0 (List.length (iA (e0.o++List.map (getM e0.es) (j3 e0)))),AV.int 0]) [Obj.row 3 (iA (e0.o++List.map (getM e0.es) (j3 e0)))]) (K (AV.bp [AV.nil,AV.int 53]) [])) (K (AV.bp [AV.nil,AV.int (Prod.fst (gw e2))]) [])))):=by kernel_rfl
abbrev US:=List AV×cq
def sa(x:US):Int×List Int:=pH (cQ x.1) (aH x.2)
def VX(x:US):List AV×List Dn.Obj:=([.ad 61 x.1,aq x.2],[])
def Ld(x:US):Prop:=x.1.length<=aM/\df x.2
def Ln(x:US):Out (AV×List Dn.Obj):= .aC (fc x.1 [aq x.2]) (.aC (decide ((sa x).1=0)) (.one (.bp [.ar 0 0 (iA (sa x).2).length, .int 0],[.row 3 (iA (sa x).2)])) (.one (.bp [.nil, .int (sa x).1],[]))) (.one (.bp [.nil, .int 30],[]))
theorem IK{ds:List AV}{r:cq}(h:fc ds [aq r]=true):aQ (aH r)=true:=by
 unfold fc at h
 rw[aa3] at h
 have:=h.2
 rw[List.all_cons,aa3] at this
 exact this.1
theorem cTs(κ:Kp):bz (T9 κ) 12 110 (aR VX Ld Ln):=by
 refine bg ?_
 rintro⟨ds,r⟩ K ⟨h1,h2⟩ ho
 simp only at h1 h2
 refine Eq.mpr (yTz κ ds r K) ?_
 simp only[Ln,Out.run,af] at ho
 have hl1:=eB (aa r.hl)
 rw[dz] at hl1
 have hc:=oO h2
 have hl:=h2.2
 refine an.2 ⟨?_,?_⟩
 ·show(iz (aq r)&&true)=true
  have:iz (aq r)=(decide (r.hl.length<=aM)&&decide (r.bl.length<=aM)):=rfl
  rw[this,aa8 (by simp only[aM];omega),aa8 (by simp only[aM];omega)];rfl
 refine af.2 ⟨fun e=>ho.2 (by simpa using e),fun e=>?_⟩
 have e':fc ds [aq r]=true:=by simpa using e
 have hr:=IK e'
 have ho1:=ho.1 e'
 have hf:gw ⟨ds,r,[],true⟩=fM getM gp (cQ ds) (aH r) ((dc (aH r)).length+1) []:=nF oe (cQ ds) hr _ (fun s hs=>(yt hr).2 hs) _ _ _ (Nat.lt_succ_self _) (Nat.lt_succ_of_le (KS _ _ _))
 have ht:sa (ds,r)=bif decide ((gw ⟨ds,r,[],true⟩).1=0) then(bif (dc (aH r)).all (fun s=>!decide (getM (gw ⟨ds,r,[],true⟩).2 s=0)) then(0,(dc (aH r)).map (getM (gw ⟨ds,r,[],true⟩).2)) else(53,[])) else((gw ⟨ds,r,[],true⟩).1,[]):=by
  rw[hf];rfl
 rw[ht] at ho1
 refine⟨rfl,⟨ds,r,[],true⟩,rfl,⟨hr,h1,h2⟩,?_⟩
 refine af.2 ⟨fun e1=>⟨r,rfl,⟨hr,h2⟩,rfl,⟨ds,(gw ⟨ds,r,[],true⟩).2,[],dc (aH r),0⟩,rfl,⟨xG h2,Nat.zero_le _,by simp only;omega,by simp only;omega⟩,?_⟩,fun e1=>?_⟩
 ·rw[e1,aa9] at ho1
  have ha:th ⟨ds,(gw ⟨ds,r,[],true⟩).2,[],dc (aH r),0⟩=(dc (aH r)).all (fun s=>!decide (getM (gw ⟨ds,r,[],true⟩).2 s=0)):=rfl
  rw[ha]
  refine af.2 ⟨fun e2=>?_,fun e2=>?_⟩
  ·rw[e2] at ho1
   exact ho1.1 rfl
  ·rw[e2] at ho1
   exact ho1.2 rfl
 ·rw[e1,aa7] at ho1
  exact ho1.2 e1
noncomputable def Nx(κ:Kp):Env:=(T9 κ).ay 110 (aR VX Ld Ln)
theorem eTy(κ:Kp):aD (Nx κ):=(eYz κ).ay (mYz κ) (cTs κ)
theorem mTy(κ:Kp):aj (Nx κ):=(mYz κ).ay aK
abbrev gS(ds rs:List AV):AV:= .agg [.ad 61 ds, .ad 66 rs]
def dW(x:AV):cq:=⟨[],[],toStr (ae (ae x 0) 0),ai (ae (ae x 0) 1),ai (ae x 1),toInt (ae x 2),0⟩
structure BP where
 ds:List AV
 rs:List AV
 i:Int
abbrev RS(x:BP):Dn.Obj:= .box 25 (gS x.ds x.rs)
def PU(ds:List AV):List AV->Int->Int×Int
 |[],_=>(0,0)
 |d::l,i=>bif decide (bD (toStr (ae d 0)) ds=i) then PU ds l (i+1) else(toInt (ae d 5),50)
def jN(ds:List AV)(x:AV):Int:=bif fc ds [aq (dW x)] then(sa (ds,dW x)).1 else 30
def Hu(f:AV->Int):List AV->Int×Int
 |[]=>(0,0)
 |x::l=>bif decide (f x=0) then Hu f l else(toInt (ae x 2),f x)
def vM(ds rs:List AV):Int×Int:=bif fc ds rs then(bif decide ((PU ds ds 0).2=0) then Hu (jN ds) rs else PU ds ds 0) else(0,30)
def jo(x:AV):Int:=vR (aH (dW x))
def ft(ds rs:List AV):Int×Int:=bif decide ((vM ds rs).2=0) then Hu jo rs else vM ds rs
def eX(ds rs:List AV):Prop:=ds.length<=aM/\rs.length<=aM/\∀x,x∈rs->df (dW x)
theorem OT{ds rs:List AV}(h:eX ds rs):rs.all iz=true:=by
 refine List.all_eq_true.2 fun x hx=>?_
 have h2:=h.2.2 x hx
 have hl1:=eB (aa (dW x).hl)
 rw[dz] at hl1
 have hc:=oO h2
 have hl:=h2.2
 have:iz x=(decide ((dW x).hl.length<=aM)&&decide ((dW x).bl.length<=aM)):=rfl
 rw[this,aa8 (by simp only[aM];omega),aa8 (by simp only[aM];omega)];rfl
abbrev Sj(x:BP):S:=sp 57 [(1, .ptr 0 0 [] 0),(16, .ad 61 x.ds),(17, .int x.ds.length),(18, .int x.i)] [RS x]
theorem xC1(κ:Kp)(x:BP)(I:Nat->S->Prop)(n:Nat)(K:Exit->S->Prop):(vc (Nx κ) 12 69 none 0 (ah (Pr κ).toProgram 69 4) (Sj x) (bL (Nx κ) 69 4 0 I n K))=(
 letI z1:=AV.agg [AV.ad 61 x.ds,AV.ad 66 x.rs]
 letI z2:=x.i<(↑(x.ds.length):Int)
 aC (decide z2) (ba (decide ((0:Int)<=x.i)&&decide z2) (∃(e1:List AV×ByteArray),([AV.ad 61 x.ds,AV.str (toStr (ae (nth x.ds x.i.toNat) 0))],aJ)=
 ([AV.ad 61 e1.1,AV.str e1.2],aJ)/\gK e1/\aC (bD e1.2 e1.1 != x.i) (K Exit.ret (sp 57 [(2,AV.int (toInt (ae (nth x.ds x.i.toNat) 5))),(3,AV.int 50)] []))
 (∃(e0:Nat),e0<n/\I e0 (sp 57 [(1,AV.ptr 0 0 [] 0),(16,AV.ad 61 x.ds),(17,AV.int (↑(x.ds.length):Int)),(18,AV.int (IntKind.wrap IntKind.i64 (x.i
 +(1:Int))))] [Obj.box 25 z1])))) (K (Exit.exit 0) (sp 57 [(1,AV.ptr 0 0 [] 0)] [Obj.box 25 z1]))):=by kernel_rfl
def Jm(x:BP):Int×Int:=PU x.ds (x.ds.drop x.i.toNat) x.i
def Mt(x:BP):Prop:=x.ds.length<=aM/\0<=x.i/\x.i<=x.ds.length
def F8(x:BP):Out (Exit×S):= .aC (decide ((Jm x).2=0)) (.one (.exit 0,sp 57 [(1, .ptr 0 0 [] 0)] [RS x])) (.one (.ret,sp 57 [(2, .int (Jm x).1),(3, .int (Jm x).2)] []))
theorem lC1(κ:Kp):bk (Nx κ) 12 69 4 (aP 0 Sj Mt F8):=by
 refine aL (fun x=>x.ds.length - x.i.toNat) ?_
 rintro⟨ds,rs,i⟩ K ⟨h1,h2,h3⟩ ho
 simp only at h1 h2 h3
 rw[show(Nx κ).P=Pr κ from rfl]
 refine Eq.mpr (xC1 κ ⟨ds,rs,i⟩ _ _ K) ?_
 simp only[aM] at h1
 simp only[F8,Out.run,af] at ho
 rw[af,aa2,aa4,an,aa3,aa2,aa2]
 refine⟨fun hi=>⟨⟨h2,hi⟩,(ds,toStr (ae (nth ds i.toNat) 0)),rfl,h1,?_⟩,fun hi=>?_⟩
 ·simp only at hi
  have hk:i.toNat<ds.length:=by omega
  have hr:Jm ⟨ds,rs,i⟩=bif decide (bD (toStr (ae (nth ds i.toNat) 0)) ds=i) then Jm ⟨ds,rs,i+1⟩ else(toInt (ae (nth ds i.toNat) 5),50):=by
   unfold Jm
   simp only[show(i+1).toNat=i.toNat+1 by omega]
   rw[ab3 hk,←aZ ds i.toNat hk,PU]
  rw[hr] at ho
  simp only[JK]
  cases e:decide (bD (toStr (ae (nth ds i.toNat) 0)) ds=i) with
  |false=>
   rw[e] at ho
   exact ho.2 rfl
  | true=>
   rw[e] at ho
   rw[aW (n:=i+1) (by omega) (by omega)]
   refine⟨_,?_,⟨ds,rs,i+1⟩,rfl,⟨by simpa[aM] using h1,by simp only;omega,by simp only;omega⟩,rfl,?_⟩
   ·simp only;omega
   ·simp only[F8,Out.run,af]
    exact ho
 ·simp only at hi
  have hr:Jm ⟨ds,rs,i⟩=(0,0):=by
   unfold Jm
   simp only
   rw[ab0 (by omega)];rfl
  rw[hr] at ho
  exact ho.1 rfl
noncomputable def NW(κ:Kp):Env:=(Nx κ).ak 69 4 (aP 0 Sj Mt F8)
theorem eC1(κ:Kp):aD (NW κ):=(eTy κ).ak (mTy κ) (lC1 κ)
theorem Zh(κ:Kp):aj (NW κ):=(mTy κ).ak aI
abbrev Ka(x:BP):S:=sp 57 [(1, .ptr 0 0 [] 0),(38, .ad 66 x.rs),(39, .int x.rs.length),(40, .int x.i)] [RS x]
theorem xC2(κ:Kp)(x:BP)(I:Nat->S->Prop)(n:Nat)(K:Exit->S->Prop):(vc (NW κ) 12 69 none 0 (ah (Pr κ).toProgram 69 11) (Ka x) (bL (NW κ) 69 11 0 I n K))=(
 letI z1:=∃(e0:Nat),e0<n/\I e0 (sp 57 [(1,AV.ptr 0 0 [] 0),(38,AV.ad 66 x.rs),(39,AV.int (↑(x.rs.length):Int)),(40,AV.int (IntKind.wrap
  IntKind.i64 (x.i+(1:Int))))] [Obj.box 25 (AV.agg [AV.ad 61 x.ds,AV.ad 66 x.rs])])
 letI z2:=nth x.rs x.i.toNat
 letI z3:=x.i<(↑(x.rs.length):Int)
 letI z4:=toInt (ae z2 2)
 aC (decide z3) (ba (decide ((0:Int)<=x.i)&&decide z3) (∃(e1:US),([AV.ad 61 x.ds,AV.agg [AV.agg [AV.str (toStr (ae (ae z2 0) 0)),AV.ad 56 (ai (ae (ae
 z2 0) 1))],AV.ad 72 (ai (ae z2 1)),AV.int z4]],aJ)=([AV.ad 61 e1.1,aq e1.2],aJ)/\(e1.1.length<=9223372036854775807/\aO (aa (bn 56 e1.2.hl e1.2.bl))<=
 100000/\e1.2.bl.length<=100000)/\aC (fc e1.1 [aq e1.2]) (aC (decide (Prod.fst (sa e1)=(0:Int))) z1 (aC (Prod.fst (sa e1) != (0:Int)) (K Exit.ret (sp 57
 [(2,AV.int z4),(3,AV.int (Prod.fst (sa e1)))] [])) z1)) (K Exit.ret (sp 57 [(2,AV.int z4),(3,AV.int 30)] [])))) (K (Exit.exit 2) (sp 57 [] []))):=by kernel_rfl
def AJ(f:AV->Int)(x:BP):Int×Int:=Hu f (x.rs.drop x.i.toNat)
def sz(x:BP):Prop:=eX x.ds x.rs/\0<=x.i/\x.i<=x.rs.length
def Bo(x:BP):Out (Exit×S):= .aC (decide ((AJ (jN x.ds) x).2=0)) (.one (.exit 2,sp 57 [] [])) (.one (.ret,sp 57 [(2, .int (AJ (jN x.ds) x).1),(3, .int (AJ (jN x.ds) x).2)] []))
theorem Ho(f:AV->Int)(ds rs:List AV)(i:Int)(h0:0<=i)(hk:i.toNat<rs.length):AJ f ⟨ds,rs,i⟩=bif decide (f (nth rs i.toNat)=0) then AJ f ⟨ds,rs,i+1⟩ else(toInt (ae (nth rs i.toNat) 2),f (nth rs i.toNat)):=by
 unfold AJ
 simp only[show(i+1).toNat=i.toNat+1 by omega]
 rw[ab3 hk,←aZ rs i.toNat hk,Hu]
theorem GG(f:AV->Int)(ds rs:List AV)(i:Int)(h:rs.length<=i.toNat):AJ f ⟨ds,rs,i⟩=(0,0):=by
 unfold AJ
 simp only
 rw[ab0 h];rfl
theorem lC2(κ:Kp):bk (NW κ) 12 69 11 (aP 0 Ka sz Bo):=by
 refine aL (fun x=>x.rs.length - x.i.toNat) ?_
 rintro⟨ds,rs,i⟩ K ⟨h1,h2,h3⟩ ho
 simp only at h1 h2 h3
 rw[show(NW κ).P=Pr κ from rfl]
 refine Eq.mpr (xC2 κ ⟨ds,rs,i⟩ _ _ K) ?_
 have hml:=h1.2.1
 simp only[aM] at hml
 simp only[Bo,Out.run,af] at ho
 rw[af,aa2,aa4,an,aa3,aa2,aa2]
 refine⟨fun hi=>⟨⟨h2,hi⟩,(ds,dW (nth rs i.toNat)),rfl,⟨h1.1,?_⟩,?_⟩,fun hi=>?_⟩
 ·simp only at hi
  exact h1.2.2 _ (by rw[aZ _ _ (show i.toNat<rs.length by omega)];exact List.getElem_mem _)
 ·simp only at hi
  have hk:i.toNat<rs.length:=by omega
  rw[Ho _ _ _ _ h2 hk] at ho
  have next:jN ds (nth rs i.toNat)=0->∃m,m<rs.length - i.toNat/\eY Ka sz Bo (fun x=>x.rs.length - x.i.toNat) K m (Ka ⟨ds,rs,i+1⟩):=fun e=>by
   rw[e] at ho
   refine⟨_,?_,⟨ds,rs,i+1⟩,rfl,⟨h1,by simp only;omega,by simp only;omega⟩,rfl,?_⟩
   ·simp only;omega
   ·simp only[Bo,Out.run,af]
    exact ho
  have stop: ∀e:Int,jN ds (nth rs i.toNat)=e->e≠0->K .ret (sp 57 [(2, .int (toInt (ae (nth rs i.toNat) 2))),(3, .int e)] []):=fun e he h0=>by
   rw[he,aa6 h0] at ho
   exact ho.2 (aa6 h0)
  rw[aW (n:=i+1) (by omega) (by omega)]
  have ht:jN ds (nth rs i.toNat)=bif fc ds [aq (dW (nth rs i.toNat))] then(sa (ds,dW (nth rs i.toNat))).1 else 30:=rfl
  refine af.2 ⟨fun e1=>?_,fun e1=>?_⟩
  ·rw[e1,aa9] at ht
   refine af.2 ⟨fun e2=>next (by rw[ht];simpa using e2),fun e2=>?_⟩
   rw[aa4] at e2
   have:=stop _ ht e2
   simp only[JK]
   refine af.2 ⟨fun _=>this,fun e3=>?_⟩
   rw[ab4,aa2] at e3
   exact absurd e3 e2
  ·rw[e1,aa7] at ht
   exact stop 30 ht (by decide)
 ·simp only at hi
  rw[GG _ _ _ _ (by omega)] at ho
  exact ho.1 rfl
noncomputable def Va(κ:Kp):Env:=(NW κ).ak 69 11 (aP 0 Ka sz Bo)
theorem eC2(κ:Kp):aD (Va κ):=(eC1 κ).ak (Zh κ) (lC2 κ)
theorem ZB(κ:Kp):aj (Va κ):=(Zh κ).ak aI
theorem yCd(κ:Kp)(ds rs:List AV)(K:AV->List Dn.Obj->Prop):(bf (Va κ) 12 69 [gS ds rs] [] K)=(
 letI z1:=Pg.toProgram (Env.P (Nx κ))
 letI z2:=Pg.toProgram (Env.P (NW κ))
 ba (List.all rs iz) (aC (!fc ds rs) (K (AV.bp [AV.int 0,AV.int 30]) []) (ah z1 69 4=ah z1 69 4/\∃(e2:BP),sp 57 [(1,AV.ptr 0 0 [] 0),(16,AV.ad 61 ds),
 (17,AV.int (↑(ds.length):Int)),(18,AV.int 0)] [Obj.box 25 (AV.agg [AV.ad 61 ds,AV.ad 66 rs])]=sp 57 [(1,AV.ptr 0 0 [] 0),(16,AV.ad 61 e2.ds),(17,
 AV.int (↑(e2.ds.length):Int)),(18,AV.int e2.i)] [Obj.box 25 (AV.agg [AV.ad 61 e2.ds,AV.ad 66 e2.rs])]/\(e2.ds.length<=9223372036854775807/\(0:Int)<=
 e2.i/\e2.i<=(↑(e2.ds.length):Int))/\aC (decide (Prod.snd (Jm e2)=(0:Int))) (ah z2 69 11=ah z2 69 11/\∃(e1:BP),sp 57 [(1,AV.ptr 0 0 [] 0),(38,
 AV.ad 66 e2.rs),(39,AV.int (↑(e2.rs.length):Int)),(40,AV.int 0)] [Obj.box 25 (AV.agg [AV.ad 61 e2.ds,AV.ad 66 e2.rs])]=sp 57 [(1,AV.ptr 0 0 [] 0),
 (38,AV.ad 66 e1.rs),(39,AV.int (↑(e1.rs.length):Int)),(40,AV.int e1.i)] [Obj.box 25 (AV.agg [AV.ad 61 e1.ds,AV.ad 66 e1.rs])]/\((e1.ds.length<=
 9223372036854775807/\e1.rs.length<=9223372036854775807/\∀(e0:AV),List.Mem e0 e1.rs->aO (aa (bn 56 (cq.hl (dW e0)) (cq.bl (dW e0))))<=100000/\
 List.length (cq.bl (dW e0))<=100000)/\(0:Int)<=e1.i/\e1.i<=(↑(e1.rs.length):Int))/\aC (decide (Prod.snd (AJ (jN e1.ds) e1)=(0:Int))) (K (AV.bp
 [AV.int 0,AV.int 0]) []) (K (AV.bp [AV.int (Prod.fst (AJ (jN e1.ds) e1)),AV.int (Prod.snd (AJ (jN e1.ds) e1))]) [])) (K (AV.bp [AV.int (Prod.fst (Jm e2)),
 AV.int (Prod.snd (Jm e2))]) [])))):=by kernel_rfl
abbrev sm:=List AV×List AV
def Mq(x:sm):List AV×List Dn.Obj:=([gS x.1 x.2],[])
def v9(x:sm):Prop:=eX x.1 x.2
def MD(x:sm):Out (AV×List Dn.Obj):= .one (.bp [.int (vM x.1 x.2).1, .int (vM x.1 x.2).2],[])
theorem Eu(f:AV->Int): ∀l,(Hu f l).2=0->Hu f l=(0,0)
 |[],_=>rfl
 | x::l,h=>by
  rw[Hu] at h⊢
  cases e:decide (f x=0) with
  |true=>rw[e,aa9] at h;exact Eu f l h
  |false=>
   rw[e,aa7] at h
   rw[aa4] at e
   exact absurd h e
theorem cCd(κ:Kp):bz (Va κ) 12 69 (aR Mq v9 MD):=by
 refine bg ?_
 rintro⟨ds,rs⟩ K h1 ho
 have h1:eX ds rs:=h1
 refine Eq.mpr (yCd κ ds rs K) ?_
 simp only[MD,Out.run,vM] at ho
 refine an.2 ⟨OT h1,af.2 ⟨fun e=>?_,fun e=>?_⟩⟩
 ·rw[show fc ds rs=false by simpa using e] at ho
  exact ho
 ·rw[show fc ds rs=true by simpa using e,aa9] at ho
  have e1:Jm ⟨ds,rs,0⟩=PU ds ds 0:=rfl
  have e2:AJ (jN ds) ⟨ds,rs,0⟩=Hu (jN ds) rs:=rfl
  refine⟨rfl,⟨ds,rs,0⟩,rfl,⟨h1.1,by simp only;omega,by simp only;omega⟩,?_⟩
  rw[e1]
  refine af.2 ⟨fun e3=>⟨rfl,⟨ds,rs,0⟩,rfl,⟨h1,by simp only;omega,by simp only;omega⟩,?_⟩,fun e3=>?_⟩
  ·rw[e3,aa9] at ho
   rw[e2]
   refine af.2 ⟨fun e4=>?_,fun e4=>ho⟩
   rw[aa2] at e4
   rw[Eu _ _ e4] at ho
   exact ho
  ·rw[e3,aa7] at ho
   exact ho
noncomputable def OE(κ:Kp):Env:=(Va κ).ay 69 (aR Mq v9 MD)
theorem eCd(κ:Kp):aD (OE κ):=(eC2 κ).ay (ZB κ) (cCd κ)
theorem Y6(κ:Kp):aj (OE κ):=(ZB κ).ay aK
abbrev JM(x:BP):S:=sp 37 [(20, .ad 66 x.rs),(21, .int x.rs.length),(22, .int x.i)] []
theorem xC3(κ:Kp)(x:BP)(I:Nat->S->Prop)(n:Nat)(K:Exit->S->Prop):(vc (OE κ) 12 36 none 0 (ah (Pr κ).toProgram 36 5) (JM x) (bL (OE κ) 36 5 0 I n K))=(
 letI z1:=nth x.rs x.i.toNat
 letI z2:=x.i<(↑(x.rs.length):Int)
 letI z3:=toInt (ae z1 2)
 aC (decide z2) (ba (decide ((0:Int)<=x.i)&&decide z2) (∃(e1:cq),([AV.agg [AV.agg [AV.str (toStr (ae (ae z1 0) 0)),AV.ad 56 (ai (ae (ae z1 0) 1))],
 AV.ad 72 (ai (ae z1 1)),AV.int z3]],aJ)=([aq e1],aJ)/\(aO (aa (bn 56 e1.hl e1.bl))<=100000/\e1.bl.length<=100000)/\aC (aQ (aH e1)) (aC (iP (aH e1)) (∃
 (e0:Nat),e0<n/\I e0 (sp 37 [(20,AV.ad 66 x.rs),(21,AV.int (↑(x.rs.length):Int)),(22,AV.int (IntKind.wrap IntKind.i64 (x.i+(1:Int))))] [])) (K
 Exit.ret (sp 37 [(2,AV.int z3),(3,AV.int 60)] []))) (K Exit.ret (sp 37 [(2,AV.int z3),(3,AV.int 30)] [])))) (K (Exit.exit 0) (sp 37 [] []))):=by kernel_rfl
def B1(x:BP):Out (Exit×S):= .aC (decide ((AJ jo x).2=0)) (.one (.exit 0,sp 37 [] [])) (.one (.ret,sp 37 [(2, .int (AJ jo x).1),(3, .int (AJ jo x).2)] []))
theorem lC3(κ:Kp):bk (OE κ) 12 36 5 (aP 0 JM sz B1):=by
 refine aL (fun x=>x.rs.length - x.i.toNat) ?_
 rintro⟨ds,rs,i⟩ K ⟨h1,h2,h3⟩ ho
 simp only at h1 h2 h3
 rw[show(OE κ).P=Pr κ from rfl]
 refine Eq.mpr (xC3 κ ⟨ds,rs,i⟩ _ _ K) ?_
 have hml:=h1.2.1
 simp only[aM] at hml
 simp only[B1,Out.run,af] at ho
 rw[af,aa2,aa4,an,aa3,aa2,aa2]
 refine⟨fun hi=>⟨⟨h2,hi⟩,dW (nth rs i.toNat),rfl,?_,?_⟩,fun hi=>?_⟩
 ·simp only at hi
  exact h1.2.2 _ (by rw[aZ _ _ (show i.toNat<rs.length by omega)];exact List.getElem_mem _)
 ·simp only at hi
  have hk:i.toNat<rs.length:=by omega
  rw[Ho _ _ _ _ h2 hk] at ho
  have next:jo (nth rs i.toNat)=0->∃m,m<rs.length - i.toNat/\eY JM sz B1 (fun x=>x.rs.length - x.i.toNat) K m (JM ⟨ds,rs,i+1⟩):=fun e=>by
   rw[e] at ho
   refine⟨_,?_,⟨ds,rs,i+1⟩,rfl,⟨h1,by simp only;omega,by simp only;omega⟩,rfl,?_⟩
   ·simp only;omega
   ·simp only[B1,Out.run,af]
    exact ho
  have stop: ∀e:Int,jo (nth rs i.toNat)=e->e≠0->K .ret (sp 37 [(2, .int (toInt (ae (nth rs i.toNat) 2))),(3, .int e)] []):=fun e he h0=>by
   rw[he,aa6 h0] at ho
   exact ho.2 (aa6 h0)
  rw[aW (n:=i+1) (by omega) (by omega)]
  have ht:jo (nth rs i.toNat)=bif aQ (aH (dW (nth rs i.toNat))) then bif iP (aH (dW (nth rs i.toNat))) then 0 else 60 else 30:=rfl
  refine af.2 ⟨fun e1=>?_,fun e1=>?_⟩
  ·rw[e1,aa9] at ht
   refine af.2 ⟨fun e2=>next (by rw[ht,e2];rfl),fun e2=>stop 60 (by rw[ht,e2];rfl) (by decide)⟩
  ·rw[e1,aa7] at ht
   exact stop 30 ht (by decide)
 ·simp only at hi
  rw[GG _ _ _ _ (by omega)] at ho
  exact ho.1 rfl
noncomputable def U4(κ:Kp):Env:=(OE κ).ak 36 5 (aP 0 JM sz B1)
theorem eC3(κ:Kp):aD (U4 κ):=(eCd κ).ak (Y6 κ) (lC3 κ)
theorem Ze(κ:Kp):aj (U4 κ):=(Y6 κ).ak aI
theorem yCs(κ:Kp)(ds rs:List AV)(K:AV->List Dn.Obj->Prop):(bf (U4 κ) 12 36 [gS ds rs] [] K)=(
 ∃(a:sm),([AV.agg [AV.ad 61 ds,AV.ad 66 rs]],aJ)=([AV.agg [AV.ad 61 a.1,AV.ad 66 a.2]],aJ)/\(a.1.length<=9223372036854775807/\a.2.length<=
 9223372036854775807/\∀(x:AV),List.Mem x a.2->aO (aa (bn 56 (cq.hl (dW x)) (cq.bl (dW x))))<=100000/\List.length (cq.bl (dW x))<=100000)
 /\aC (Prod.snd (vM a.1 a.2) != (0:Int)) (K (AV.bp [AV.int (Prod.fst (vM a.1 a.2)),AV.int (Prod.snd (vM a.1 a.2))]) []) (ah (Pg.toProgram
 (Env.P (OE κ))) 36 5=ah (Pg.toProgram (Env.P (OE κ))) 36 5/\∃(a:BP),sp 37 [(20,AV.ad 66 rs),(21,AV.int (↑(rs.length):Int)),(22,AV.int
 0)] []=sp 37 [(20,AV.ad 66 a.rs),(21,AV.int (↑(a.rs.length):Int)),(22,AV.int a.i)] []/\((a.ds.length<=9223372036854775807/\a.rs.length<=
 9223372036854775807/\∀(x:AV),List.Mem x a.rs->aO (aa (bn 56 (cq.hl (dW x)) (cq.bl (dW x))))<=100000/\List.length (cq.bl (dW x))<=
 100000)/\(0:Int)<=a.i/\a.i<=(↑(a.rs.length):Int))/\aC (decide (Prod.snd (AJ jo a)=(0:Int))) (K (AV.bp [AV.int 0,AV.int 0]) []) (K (AV.bp
 [AV.int (Prod.fst (AJ jo a)),AV.int (Prod.snd (AJ jo a))]) []))):=by kernel_rfl
def Lf(x:sm):Out (AV×List Dn.Obj):= .one (.bp [.int (ft x.1 x.2).1, .int (ft x.1 x.2).2],[])
theorem cCs(κ:Kp):bz (U4 κ) 12 36 (aR Mq v9 Lf):=by
 refine bg ?_
 rintro⟨ds,rs⟩ K h1 ho
 have h1:eX ds rs:=h1
 refine Eq.mpr (yCs κ ds rs K) ?_
 simp only[Lf,Out.run,ft] at ho
 refine⟨(ds,rs),rfl,h1,?_⟩
 simp only[JK]
 have e2:AJ jo ⟨ds,rs,0⟩=Hu jo rs:=rfl
 refine af.2 ⟨fun e=>?_,fun e=>?_⟩
 ·rw[show decide ((vM ds rs).2=0)=false by simpa using e] at ho
  exact ho
 ·rw[show decide ((vM ds rs).2=0)=true by simpa using e] at ho
  refine⟨trivial,⟨ds,rs,0⟩,rfl,⟨h1,by simp only;omega,by simp only;omega⟩,?_⟩
  rw[e2]
  refine af.2 ⟨fun e4=>?_,fun e4=>ho⟩
  rw[aa2] at e4
  rw[aa9,Eu _ _ e4] at ho
  exact ho
noncomputable def V1(κ:Kp):Env:=(U4 κ).ay 36 (aR Mq v9 Lf)
theorem eCs(κ:Kp):aD (V1 κ):=(eC3 κ).ay (Ze κ) (cCs κ)
theorem ZE(κ:Kp):aj (V1 κ):=(Ze κ).ay aK
end Go.Proofs.YthaiinlfnommnaaGreatDoor
