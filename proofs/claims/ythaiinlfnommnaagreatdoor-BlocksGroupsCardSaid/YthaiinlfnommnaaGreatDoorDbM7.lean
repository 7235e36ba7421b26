import Derived.Test.YthaiinlfnommnaaGreatDoorDbM5
import Derived.Test.YthaiinlfnommnaaGreatDoorDbM6
namespace Go.Proofs.YthaiinlfnommnaaGreatDoor
open Go Go.Dn Go.Rl Go.Proofs Go.RowKit Go.Extern.Stop Go.Stop Go.Extern
def OB(κ:Kp)(e:Int):Addr:=bif decide (e=51) then κ.ft else bif decide (e=52) then κ.arity else κ.type
def a6(κ:Kp)(e:Int):Value:=bif decide (e=0) then .nilIface else .iface 306 (.pointer (some (OB κ e)))
def vO(e:Int):Prop:=e=51\/e=52\/e=53
def jl(e:Int):Prop:=e=0\/vO e
theorem cF(κ:Kp)(e:Int):aC (a6 κ e)=true:=by unfold a6;cases decide (e=0)<;>rfl
theorem jk(κ:Kp)(e:Int):bJ (a6 κ e)=decide (e=0):=by unfold a6;cases decide (e=0)<;>rfl
theorem KM(κ:Kp){e k:Int}(he:vO e)(hk:vO k)(h:e≠k):OB κ e≠OB κ k:=by
 rcases he with rfl|rfl|rfl<;>rcases hk with rfl|rfl|rfl<;>first|exact absurd rfl h|exact κ.d1|exact κ.d2|exact κ.d3|exact κ.d1.symm|exact κ.d2.symm|exact κ.d3.symm
theorem MX(κ:Kp){e k:Int}(he:jl e)(hk:jl k):a6 κ e=a6 κ k↔e=k:=by
 refine⟨fun h=>?_,fun h=>by rw[h]⟩
 rcases he with rfl|he
 ·rcases hk with rfl|hk
  ·rfl
  ·have:decide (k=0)=false:=by rcases hk with rfl|rfl|rfl<;>rfl
   unfold a6 at h
   rw[this] at h;cases h
 ·have e0:decide (e=0)=false:=by rcases he with rfl|rfl|rfl<;>rfl
  rcases hk with rfl|hk
  ·unfold a6 at h
   rw[e0] at h;cases h
  ·have k0:decide (k=0)=false:=by rcases hk with rfl|rfl|rfl<;>rfl
   unfold a6 at h
   rw[e0,k0,aa6,aa6] at h
   simp only[Value.iface.injEq,Value.pointer.injEq,aa4,true_and] at h
   by_cases hh:e=k
   ·exact hh
   ·exact absurd h (KM κ he hk hh)
theorem Fq(κ:Kp){e:Int}(he:vO e): ∃c t,xf κ (OB κ e).block=some (.cells c t (0,0)):=by
 have go: ∀b,(∀g,g∈[1,0,3,4,2]->b≠g)->b=κ.ft.block\/b=κ.arity.block\/b=κ.type.block->∃c t,xf κ b=some (.cells c t (0,0)):=by
  intro b hb h
  unfold xf
  rw[rN (hb _ (by simp)),rN (hb 0 (by simp)),rN (hb 3 (by simp)),rN (hb 4 (by simp)),rN (hb 2 (by simp))]
  simp only[aa6]
  cases h1:Nat.beq b κ.ft.block with
  |true=>exact⟨_,_,rfl⟩
  | false=>
   rw[aa6]
   cases h2:Nat.beq b κ.arity.block with
   |true=>exact⟨_,_,rfl⟩
   | false=>
    rw[aa6]
    cases h3:Nat.beq b κ.type.block with
    |true=>exact⟨_,_,rfl⟩
    |false=>
     rcases h with h|h|h
     ·rw[h,Nat.beq_refl] at h1;cases h1
     ·rw[h,Nat.beq_refl] at h2;cases h2
     ·rw[h,Nat.beq_refl] at h3;cases h3
 rcases he with rfl|rfl|rfl
 ·exact go _ κ.n3 (.inl rfl)
 ·exact go _ κ.n4 (.inr (.inl rfl))
 ·exact go _ κ.n5 (.inr (.inr rfl))
theorem RS(v:Value)(xT:TypeId)(w:World):(Instr.typeAssert (.iface 306 v) xT 284 true).run Tryz.prog w= .ok (.tuple #[.nilIface, .bool false]) w:=run_typeAssert_lacksB Tryz.underlying284 (by kernel_rfl) (by kernel_rfl) v xT w
theorem G5(v:Value)(xT:TypeId)(w:World):(Instr.typeAssert (.iface 306 v) xT 286 true).run Tryz.prog w= .ok (.tuple #[.nilIface, .bool false]) w:=run_typeAssert_lacksB Tryz.underlying286 (by kernel_rfl) (by kernel_rfl) v xT w
theorem Cy(v:Value)(xT:TypeId)(w:World):(Instr.typeAssert (.iface 306 v) xT 288 true).run Tryz.prog w= .ok (.tuple #[.nilIface, .bool false]) w:=run_typeAssert_lacksB Tryz.underlying288 (by kernel_rfl) (by kernel_rfl) v xT w
set_option maxRecDepth 8000 in
theorem Kh(a b:Addr)(w:World)(hab:a≠b){ca cb:Array Value}{ta tb:TypeId}(ha:w.heap[a.block]? =some (.cells ca ta (0,0)))(hb:w.heap[b.block]? =some (.cells cb tb (0,0))):
  Calls Tryz.prog 113 #[.iface 306 (.pointer (some a)), .iface 306 (.pointer (some b))] w fun e w'=>e= .returned (.bool false)/\w'=w:=by
 obtain⟨i,hi,hcmp⟩:=Option.map_eq_some_iff.1 Cv
 obtain⟨j,hj,hjs⟩:=Option.map_eq_some_iff.1 CX
 have h8:= @run_callFunc_extern Tryz.prog 184 _ Extern.ReflectliteType.typeOf Tryz.func184 (by kernel_rfl) (by kernel_rfl) (by kernel_rfl) (by kernel_rfl)
 have h32:= @run_callFunc_extern Tryz.prog 290 _ (Extern.ReflectliteType.method fun t=>do Go.Extern.Rtype.noPackHeld "Comparable" t;pure (.bool (←typeInfo t).comparable)) Tryz.func290 (by kernel_rfl) (by kernel_rfl) (by kernel_rfl) (by kernel_rfl)
 have tT:=uz
 have cT:=mq
 have mR:=ib
 have hne:=run_eql_iface_ptr_other (P:=Tryz.prog) w Tryz.underlying170 Tryz.underlying306 hi hcmp hj (by omega) hab ha hb
 have n1:=RS
 have n2:=G5
 have n3:=Cy
 go_enter Tryz.func113,Tryz.ntmps113
 go_wp2
 refine wp_loop_rounds 1 ?_
 rw[rounds_succ]
 go_wp2
 all_goals (go_ret;exact⟨rfl,rfl⟩)
open Classical in
noncomputable def kC(κ:Kp)(v:Value):Bool:=decide (∃e,jl e/\v=a6 κ e)
open Classical in
noncomputable def lx(κ:Kp)(v:Value):Bool:=decide (∃e,vO e/\v=a6 κ e)
open Classical in
noncomputable def fY(v t:Value):Bool:=decide (v=t)
theorem vJ(κ:Kp)(v:Value):kC κ v=true↔ ∃e,jl e/\v=a6 κ e:=by unfold kC;exact @decide_eq_true_iff _ (Classical.propDecidable _)
theorem BE(κ:Kp)(v:Value):lx κ v=true↔ ∃e,vO e/\v=a6 κ e:=by unfold lx;exact @decide_eq_true_iff _ (Classical.propDecidable _)
theorem Hu(v t:Value):fY v t=true↔v=t:=by unfold fY;exact @decide_eq_true_iff _ (Classical.propDecidable _)
theorem x3(κ:Kp){e:Int}(h:jl e):kC κ (a6 κ e)=true:=(vJ _ _).2 ⟨e,h,rfl⟩
theorem zn(κ:Kp){e:Int}(h:vO e):lx κ (a6 κ e)=true:=(BE _ _).2 ⟨e,h,rfl⟩
theorem hJ(κ:Kp){e k:Int}(he:jl e)(hk:jl k):fY (a6 κ e) (a6 κ k)=decide (e=k):=by
 rw[Bool.eq_iff_iff,Hu,aa1]
 exact MX κ he hk
noncomputable def Ps(κ:Kp):List AV->Option (Bool×AV)
 |[.lit v, .lit t]=>some (kC κ v&&lx κ t, .bool (fY v t))
 |_=>none
theorem WN(κ:Kp):gZ (Pr κ) 113 (Ps κ):=by
 intro args x hn hg
 unfold Ps at hg
 split at hg
 ·simp only[aa4,ab0,aa2] at hg
  obtain⟨⟨h1,h2⟩,rfl⟩:=hg
  obtain⟨e,he,rfl⟩:=(vJ _ _).1 h1
  obtain⟨k,hk,rfl⟩:=(BE _ _).1 h2
  have k0:decide (k=0)=false:=by rcases hk with rfl|rfl|rfl<;>rfl
  have hk':a6 κ k= .iface 306 (.pointer (some (OB κ k))):=by unfold a6;rw[k0];rfl
  refine⟨_,_,Tryz.func113,rfl,rfl,rfl,fun C vs hC hI hm=>?_⟩
  rw[wh hm,hJ κ he (.inr hk)]
  rcases he with rfl|he
  ·have e0:a6 κ 0= .nilIface:=rfl
   rw[e0,hk']
   refine(callsIn_wide.2 (Ic _ C.w)).mono ?_
   rintro e w' ⟨rfl,rfl⟩
   refine⟨?_,gU.refl _⟩
   rw[aa5 (by rcases hk with rfl|rfl|rfl<;>decide)]
  ·have e0:decide (e=0)=false:=by rcases he with rfl|rfl|rfl<;>rfl
   have he':a6 κ e= .iface 306 (.pointer (some (OB κ e))):=by unfold a6;rw[e0];rfl
   rw[he',hk']
   by_cases h:e=k
   ·subst h
    refine(callsIn_wide.2 (Fi _ C.w)).mono ?_
    rintro e w' ⟨rfl,rfl⟩
    refine⟨?_,gU.refl _⟩
    rw[aa7 rfl]
   ·obtain⟨c1,t1,q1⟩:=Fq κ he
    obtain⟨c2,t2,q2⟩:=Fq κ hk
    have w1:=(hI.kept _ _ (by rw[hC];exact q1)).2
    have w2:=(hI.kept _ _ (by rw[hC];exact q2)).2
    refine(callsIn_wide.2 (Kh _ _ C.w (KM κ he hk h) w1 w2)).mono ?_
    rintro e w' ⟨rfl,rfl⟩
    refine⟨?_,gU.refl _⟩
    rw[aa5 h]
 ·cases hg
noncomputable def Ng(κ:Kp):Env:=(Ve κ).aH 113 (Ps κ)
theorem eIe(κ:Kp):aB (Ng κ):=(Y6 κ).eZ (WN κ)
theorem W6(κ:Kp):aj (Ng κ):=(m15 κ).aH
end Go.Proofs.YthaiinlfnommnaaGreatDoor
namespace Go.Proofs.YthaiinlfnommnaaGreatDoor
open Go Go.Dn Go.Rl Go.Proofs
attribute [local irreducible] a9 vc
set_option maxRecDepth 20000
structure PG where
 rel:ByteArray
 names:List AV
 types:List AV
 i:Bool
 o:Bool
 line:Int
abbrev WA(d:PG):AV:= .agg [.lit (.string d.rel), .ad 9 d.names, .ad 3 d.types, .bool d.i, .bool d.o, .int d.line]
def DJ(t:AV):Bool:=decide (toInt t=1)||decide (toInt t=2)
def zy:List AV->List AV->Bool
 |n::ns,t::ts=>isName (toStr n)&&DJ t&&zy ns ts
 |_,_=>true
def Ad(rel:ByteArray)(ns ts:List AV):Bool:=isName rel&& !decide (ns.length=0)&&decide (ns.length<=8)&&decide (ts.length=ns.length)&&zy ns ts
def tp(a:AV):Bool:=Ad (toStr (ae a 0)) (ai (ae a 1)) (ai (ae a 2))
theorem Hs{ns ts:List AV}{i:Nat}(h1:i<ns.length)(h2:i<ts.length):zy (ns.drop i) (ts.drop i)=(isName (toStr (nth ns i))&&DJ (nth ts i)&&zy (ns.drop (i+1)) (ts.drop (i+1))):=by
 rw[ab2 h1,ab2 h2,zy,bg _ _ h1,bg _ _ h2]
theorem Z2(κ:Kp)(d:PG)(i:Int)(I:Nat->S->Prop)(n:Nat)(K:Exit->S->Prop):(vc (Ng κ) 12 176 none 0 (af (Pr κ).toProgram 176 4) (sp 58 [(1, .ptr 0 0 [] 0),(31, .ad 9 d.names),(32, .int d.names.length),(33, .int i)] [.box 61 (WA d)]) (bH (Ng κ) 176 4 0 I n K))=(
 letI z1:=∃(e0:Nat),e0<n/\I e0 (sp 58 [(1,AV.ptr 0 0 [] 0),(31,AV.ad 9 d.names),(32,AV.int (↑(d.names.length):Int)),(33,AV.int (IntKind.wrap
  IntKind.i64 (i+(1:Int))))] [Obj.box 61 (AV.agg [AV.str d.rel,AV.ad 9 d.names,AV.ad 3 d.types,AV.bool d.i,AV.bool d.o,AV.int d.line])])
 letI z2:=decide ((0:Int)<=i)&&decide (i<(↑(d.types.length):Int))
 letI z3:=K Exit.ret (sp 58 [(2,AV.bool false)] [])
 letI z4:=i<(↑(d.names.length):Int)
 aD (decide z4) (a7 (decide ((0:Int)<=i)&&decide z4) (aD (!isName (toStr (nth d.names i.toNat))) z3 (a7 z2 (aD (toInt (nth d.types i.toNat) != (1:Int))
 (a7 z2 (aD (toInt (nth d.types i.toNat) != (2:Int)) z3 z1)) z1)))) (K (Exit.exit 0) (sp 58 [] []))):=by kernel_rfl
abbrev LQ(a:PG×Int):S:=sp 58 [(1, .ptr 0 0 [] 0),(31, .ad 9 a.1.names),(32, .int a.1.names.length),(33, .int a.2)] [.box 61 (WA a.1)]
def CH(a:PG×Int):Prop:=a.1.types.length=a.1.names.length/\a.1.names.length<=8/\0<=a.2/\a.2<=a.1.names.length
def BP(a:PG×Int):Out (Exit×S):= .aD (zy (a.1.names.drop a.2.toNat) (a.1.types.drop a.2.toNat)) (.one (.exit 0,sp 58 [] [])) (.one (.ret,sp 58 [(2, .bool false)] []))
theorem lDc(κ:Kp):bh (Ng κ) 12 176 4 (aP 0 LQ CH BP):=by
 refine aL (fun a=>a.1.names.length - a.2.toNat) ?_
 rintro⟨d,i⟩ K ⟨h1,h2,h3,h4⟩ ho
 simp only at h1 h2 h3 h4
 rw[show(Ng κ).P=Pr κ from rfl]
 refine Eq.mpr (Z2 κ d i _ _ K) ?_
 simp only[BP,Out.run,ah] at ho
 simp only[ah,an,aa1,aa3,aa2,Bool.not_eq_true',ab3,bne_iff_ne,bne_eq_false_iff_eq]
 refine⟨fun hi=>?_,fun hi=>?_⟩
 ·have hk:i.toNat<d.names.length:=by omega
  rw[Hs hk (by omega)] at ho
  rw[aW (n:=i+1) (by omega) (by omega)]
  have go:DJ (nth d.types i.toNat)=true->isName (toStr (nth d.names i.toNat))=true->∃m,m<d.names.length - i.toNat/\fe LQ CH BP (fun a=>a.1.names.length - a.2.toNat) K m (LQ (d,i+1)):=fun e1 e2=>by
   rw[e1,e2,ac0,ac0] at ho
   refine⟨_,?_,(d,i+1),rfl,⟨h1,h2,by simp only;omega,by simp only;omega⟩,rfl,?_⟩
   ·simp only;omega
   ·simp only[BP,Out.run,ah,show(i+1).toNat=i.toNat+1 by omega]
    exact ho
  refine⟨⟨h3,hi⟩,fun e=>ho.2 (by rw[e];rfl),fun e=>⟨⟨h3,by omega⟩,fun e1=>⟨⟨h3,by omega⟩,fun e2=>ho.2 ?_,fun e2=>go ?_ e⟩,fun e1=>go ?_ e⟩⟩
  ·have:DJ (nth d.types i.toNat)=false:=by unfold DJ;rw[aa5 e1,aa5 e2];rfl
   rw[this,e];rfl
  ·unfold DJ;rw[aa7 e2,Bool.or_true]
  ·unfold DJ;rw[aa7 e1,Bool.true_or]
 ·rw[aa9 (by omega)] at ho
  exact ho.1 rfl
noncomputable def Ro(κ:Kp):Env:=(Ng κ).ak 176 4 (aP 0 LQ CH BP)
theorem eDl(κ:Kp):aB (Ro κ):=(eIe κ).ak (W6 κ) (lDc κ)
theorem XQ(κ:Kp):aj (Ro κ):=(W6 κ).ak aF
theorem yDc(κ:Kp)(d:PG)(K:AV->List Dn.Obj->Prop):(a9 (Ro κ) 12 176 [WA d] [] K)=(
 letI z1:=K (AV.bool false) []
 letI z2:=d.names.length
 letI z3:=Pg.toProgram (Env.P (Ng κ))
 aD (!isName d.rel) z1 (aD ((↑z2:Int)==(0:Int)) z1 (aD (decide ((↑z2:Int)>(8:Int))) z1 (aD ((↑(d.types.length):Int) != (↑z2:Int)) z1 (af z3 176 4
 =af z3 176 4/\∃(e0:PG×Int),sp 58 [(1,AV.ptr 0 0 [] 0),(31,AV.ad 9 d.names),(32,AV.int (↑z2:Int)),(33,AV.int 0)] [Obj.box 61 (AV.agg [AV.str
 d.rel,AV.ad 9 d.names,AV.ad 3 d.types,AV.bool d.i,AV.bool d.o,AV.int d.line])]=sp 58 [(1,AV.ptr 0 0 [] 0),(31,AV.ad 9 e0.1.names),(32,AV.int
 (↑(e0.1.names.length):Int)),(33,AV.int e0.2)] [Obj.box 61 (AV.agg [AV.str e0.1.rel,AV.ad 9 e0.1.names,AV.ad 3 e0.1.types,AV.bool e0.1.i,AV.bool e0.1.o,
 AV.int e0.1.line])]/\(e0.1.types.length=e0.1.names.length/\e0.1.names.length<=8/\(0:Int)<=e0.2/\e0.2<=(↑(e0.1.names.length):Int))/\aD (zy
 (List.drop e0.2.toNat e0.1.names) (List.drop e0.2.toNat e0.1.types)) (K (AV.bool true) []) z1))))):=by kernel_rfl
def UU:List AV->Option (Bool×AV)
 |[.agg [.lit (.string rel), .ad 9 ns, .ad 3 ts, .lit (.bool _), .lit (.bool _), .lit (.int .i64 _)]]=>some (true, .bool (Ad rel ns ts))
 |_=>none
theorem pDc(κ:Kp):c9 (Ro κ) 12 176 UU:=by
 intro args x hh
 unfold UU at hh
 split at hh
 ·rename_i rel ns ts bi bo line
  simp only[aa4,ab0,true_and] at hh
  subst hh
  refine⟨_,rfl,rfl,?_⟩
  refine Eq.mpr (yDc κ ⟨rel,ns,ts,bi,bo,line⟩ _) ?_
  unfold Ad
  simp only[ah,aa1,aa3,Bool.not_eq_true',ab3,beq_iff_eq,beq_eq_false_iff_ne,bne_iff_ne,bne_eq_false_iff_eq]
  refine⟨fun e=>nN (by rw[e];rfl),fun e=>⟨fun e2=>nN ?_,fun e2=>⟨fun e3=>nN ?_,fun e3=>⟨fun e4=>nN ?_,fun e4=>⟨trivial,(⟨rel,ns,ts,bi,bo,line⟩,0),rfl,⟨by simp only;omega,by simp only;omega,by simp only;omega,by simp only;omega⟩,?_⟩⟩⟩⟩⟩
  ·rw[aa7 (show ns.length=0 by omega)];simp
  ·rw[aa5 (show ¬ ns.length<=8 by omega)];simp
  ·rw[aa5 (show ¬ ts.length=ns.length by omega)];simp
  ·rw[e,aa5 (show ¬ ns.length=0 by omega),aa7 (show ns.length<=8 by omega),aa7 (show ts.length=ns.length by omega)]
   simp only[ab8,ab1,Bool.not_false,ac0]
   exact⟨fun e5=>nN e5.symm,fun e5=>nN e5.symm⟩
 ·cases hh
noncomputable def M3(κ:Kp):Env:=(Ro κ).aH 176 UU
theorem eDc(κ:Kp):aB (M3 κ):=(eDl κ).aH (XQ κ) (pDc κ)
theorem W7(κ:Kp):aj (M3 κ):=(XQ κ).aH
theorem WC(κ:Kp)(ds rs:List AV)(i:Int)(I:Nat->S->Prop)(n:Nat)(K:Exit->S->Prop):(vc (M3 κ) 12 95 none 1 (af (Pr κ).toProgram 95 2) (sp 19 [(0, .ad 61 ds),(1, .bI 175 []),(7, .int ds.length),(8, .int i)] [.box 25 (.agg [.ad 61 ds, .ad 66 rs])]) (bH (M3 κ) 95 2 1 I n K))=(
 letI z1:=AV.agg [AV.ad 61 ds,AV.ad 66 rs]
 letI z2:=nth ds i.toNat
 letI z3:=i<(↑(ds.length):Int)
 aD (decide z3) (a7 (decide ((0:Int)<=i)&&decide z3) (aD (!Ad (toStr (ae z2 0)) (ai (ae z2 1)) (ai (ae z2 2))) (K Exit.ret (sp 19 [(4,AV.int i)] [Obj.box
 25 z1])) (∃(e0:Nat),e0<n/\I e0 (sp 19 [(0,AV.ad 61 ds),(1,AV.bI 175 []),(7,AV.int (↑(ds.length):Int)),(8,AV.int (IntKind.wrap IntKind.i64 (i+
 (1:Int))))] [Obj.box 25 z1])))) (K (Exit.exit 0) (sp 19 [] [Obj.box 25 z1]))):=by kernel_rfl
abbrev KK:Nat:=95
abbrev QK:Nat:=194
abbrev GW(ds rs:List AV):Dn.Obj:= .box 25 (.agg [.ad 61 ds, .ad 66 rs])
abbrev MI:=List AV×List AV×Int
abbrev N5(a:MI):S:=sp 19 [(0, .ad 61 a.1),(1, .bI 175 []),(7, .int a.1.length),(8, .int a.2.2)] [GW a.1 a.2.1]
def EG(a:MI):Prop:=a.1.length<=aR/\0<=a.2.2/\a.2.2<=a.1.length
def yK(a:MI):Out (Exit×S):= .aD ((a.1.drop a.2.2.toNat).all tp) (.one (.exit 0,sp 19 [] [GW a.1 a.2.1])) (.all (fun j:Int=>0<=j) fun j=> .one (.ret,sp 19 [(4, .int j)] [GW a.1 a.2.1]))
theorem UT(κ:Kp):bh (M3 κ) 12 KK 2 (aP 1 N5 EG yK):=by
 refine aL (fun a=>a.1.length - a.2.2.toNat) ?_
 rintro⟨ds,rs,i⟩ K ⟨h1,h2,h3⟩ ho
 simp only at h1 h2 h3
 rw[show(M3 κ).P=Pr κ from rfl]
 refine Eq.mpr (WC κ ds rs i _ _ K) ?_
 simp only[aR] at h1
 simp only[yK,Out.run,ah] at ho
 simp only[ah,an,aa1,aa3,aa2,Bool.not_eq_true',ab3]
 refine⟨fun hi=>⟨⟨h2,hi⟩,?_⟩,fun hi=>?_⟩
 ·have hk:i.toNat<ds.length:=by omega
  rw[ab2 hk,←bg ds i.toNat hk,List.all_cons] at ho
  refine⟨fun e=>ho.2 (by rw[show tp (nth ds i.toNat)=false from e];rfl) i h2,fun e=>?_⟩
  rw[show tp (nth ds i.toNat)=true from e,ac0] at ho
  rw[aW (n:=i+1) (by omega) (by omega)]
  refine⟨_,?_,(ds,rs,i+1),rfl,⟨by simpa[aR] using h1,by simp only;omega,by simp only;omega⟩,rfl,?_⟩
  ·simp only;omega
  ·simp only[yK,Out.run,ah,show(i+1).toNat=i.toNat+1 by omega]
   exact ho
 ·rw[aa9 (by omega)] at ho
  exact ho.1 rfl
noncomputable def wi(κ:Kp):Env:=(M3 κ).ak KK 2 (aP 1 N5 EG yK)
theorem UG(κ:Kp):aB (wi κ):=(eDc κ).ak (W7 κ) (UT κ)
theorem S0(κ:Kp):aj (wi κ):=(W7 κ).ak aF
theorem Wr(κ:Kp)(ds rs:List AV)(i:Int)(I:Nat->S->Prop)(n:Nat)(K:Exit->S->Prop):(vc (wi κ) 12 194 none 1 (af (Pr κ).toProgram 194 2) (sp 19 [(0, .ad 66 rs),(1, .bI 177 []),(7, .int rs.length),(8, .int i)] [.box 25 (.agg [.ad 61 ds, .ad 66 rs])]) (bH (wi κ) 194 2 1 I n K))=(
 letI z1:=AV.agg [AV.ad 61 ds,AV.ad 66 rs]
 letI z2:=nth rs i.toNat
 letI z3:=i<(↑(rs.length):Int)
 aD (decide z3) (a7 (decide ((0:Int)<=i)&&decide z3) (a7 (decide (List.length (ai (ae (ae z2 0) 1))<=9223372036854775807)&&decide (List.length (ai (ae z2 1))<=9223372036854775807)) (aD (!aK {head:={rel:=toStr (ae (ae z2 0) 0),l:=aa (ai (ae (ae z2 0) 1))},body:=c6 (ai (ae z2 1))}) (K Exit.ret (sp 19 [(4,AV.int i)] [Obj.box 25 z1])) (∃(e0:Nat),e0<n/\I e0 (sp 19 [(0,AV.ad 66 rs),(1,AV.bI 177 []),(7,AV.int (↑(rs.length):Int)),(8,AV.int (IntKind.wrap IntKind.i64 (i+(1:Int))))] [Obj.box 25 z1]))))) (K (Exit.exit 0) (sp 19 [] [Obj.box 25 z1]))):=by kernel_rfl
def hH(a:AV):Bool:=decide ((ai (ae (ae a 0) 1)).length<=aR)&&decide ((ai (ae a 1)).length<=aR)
def lv(a:AV):Bool:=aK (sH a)
abbrev OC(a:MI):S:=sp 19 [(0, .ad 66 a.2.1),(1, .bI 177 []),(7, .int a.2.1.length),(8, .int a.2.2)] [GW a.1 a.2.1]
def E3(a:MI):Prop:=a.2.1.length<=aR/\0<=a.2.2/\a.2.2<=a.2.1.length/\a.2.1.all hH=true
def yq(a:MI):Out (Exit×S):= .aD ((a.2.1.drop a.2.2.toNat).all lv) (.one (.exit 0,sp 19 [] [GW a.1 a.2.1])) (.all (fun j:Int=>0<=j) fun j=> .one (.ret,sp 19 [(4, .int j)] [GW a.1 a.2.1]))
theorem M0{rs:List AV}(h:rs.all hH=true){k:Nat}(hk:k<rs.length):(ai (ae (ae (nth rs k) 0) 1)).length<=aR/\(ai (ae (nth rs k) 1)).length<=aR:=by
 have:=List.all_eq_true.1 h (nth rs k) (by rw[bg _ _ hk];exact List.getElem_mem hk)
 simpa[hH] using this
theorem Vf(κ:Kp):bh (wi κ) 12 QK 2 (aP 1 OC E3 yq):=by
 refine aL (fun a=>a.2.1.length - a.2.2.toNat) ?_
 rintro⟨ds,rs,i⟩ K ⟨h1,h2,h3,h4⟩ ho
 simp only at h1 h2 h3 h4
 rw[show(wi κ).P=Pr κ from rfl]
 refine Eq.mpr (Wr κ ds rs i _ _ K) ?_
 simp only[aR] at h1
 simp only[yq,Out.run,ah] at ho
 simp only[ah,an,aa1,aa3,aa2,Bool.not_eq_true',ab3]
 refine⟨fun hi=>⟨⟨h2,hi⟩,M0 h4 (by omega),?_⟩,fun hi=>?_⟩
 ·have hk:i.toNat<rs.length:=by omega
  rw[ab2 hk,←bg rs i.toNat hk,List.all_cons] at ho
  refine⟨fun e=>ho.2 (by rw[show lv (nth rs i.toNat)=false from e];rfl) i h2,fun e=>?_⟩
  rw[show lv (nth rs i.toNat)=true from e,ac0] at ho
  rw[aW (n:=i+1) (by omega) (by omega)]
  refine⟨_,?_,(ds,rs,i+1),rfl,⟨by simpa[aR] using h1,by simp only;omega,by simp only;omega,h4⟩,rfl,?_⟩
  ·simp only;omega
  ·simp only[yq,Out.run,ah,show(i+1).toNat=i.toNat+1 by omega]
   exact ho
 ·rw[aa9 (by omega)] at ho
  exact ho.1 rfl
noncomputable def Is(κ:Kp):Env:=(wi κ).ak QK 2 (aP 1 OC E3 yq)
theorem Vb(κ:Kp):aB (Is κ):=(UG κ).ak (S0 κ) (Vf κ)
theorem Sr(κ:Kp):aj (Is κ):=(S0 κ).ak aF
theorem YJ(κ:Kp)(ds rs:List AV)(K:AV->List Dn.Obj->Prop):(a9 (Is κ) 12 109 [.agg [.ad 61 ds, .ad 66 rs]] [] K)=(
 letI z1:=∀(e0:Int),(0:Int)<=e0->K (AV.lit (Value.bool !decide (e0>=(0:Int)))) []
 letI z2:=Pg.toProgram (Env.P (wi κ))
 letI z3:=K (AV.bool false) []
 letI z4:=Pg.toProgram (Env.P (M3 κ))
 aD (decide ((↑(ds.length):Int)>(60:Int))) z3 (aD (decide ((↑(rs.length):Int)>(200:Int))) z3 (af z4 KK 2=af z4 KK 2/\∃(e3:MI),sp 19 [(0,AV.ad
 61 ds),(1,AV.bI 175 []),(7,AV.int (↑(ds.length):Int)),(8,AV.int 0)] [Obj.box 25 (AV.agg [AV.ad 61 ds,AV.ad 66 rs])]=sp 19 [(0,AV.ad 61 e3.1),(1,
 AV.bI 175 []),(7,AV.int (↑(e3.1.length):Int)),(8,AV.int e3.2.2)] [Obj.box 25 (AV.agg [AV.ad 61 e3.1,AV.ad 66 e3.2.1])]/\(e3.1.length<=
 9223372036854775807/\(0:Int)<=e3.2.2/\e3.2.2<=(↑(e3.1.length):Int))/\aD (List.all (List.drop (Int.toNat e3.2.2) e3.1) tp) (af z2 QK 2=af z2 QK 2/\∃
 (e1:MI),sp 19 [(0,AV.ad 66 e3.2.1),(1,AV.bI 177 []),(7,AV.int (↑(e3.2.1.length):Int)),(8,AV.int 0)] [Obj.box 25 (AV.agg [AV.ad 61 e3.1,AV.ad 66
 e3.2.1])]=sp 19 [(0,AV.ad 66 e1.2.1),(1,AV.bI 177 []),(7,AV.int (↑(e1.2.1.length):Int)),(8,AV.int e1.2.2)] [Obj.box 25 (AV.agg [AV.ad 61 e1.1,AV.ad
 66 e1.2.1])]/\(e1.2.1.length<=9223372036854775807/\(0:Int)<=e1.2.2/\e1.2.2<=(↑(e1.2.1.length):Int)/\List.all e1.2.1 hH=true)/\aD (List.all
 (List.drop (Int.toNat e1.2.2) e1.2.1) lv) (K (AV.bool true) []) z1) (∀(e2:Int),(0:Int)<=e2->aD (!decide (e2>=(0:Int))) (af z2 QK 2=af z2 QK 2/\∃
 (e1:MI),sp 19 [(0,AV.ad 66 e3.2.1),(1,AV.bI 177 []),(7,AV.int (↑(e3.2.1.length):Int)),(8,AV.int 0)] [Obj.box 25 (AV.agg [AV.ad 61 e3.1,AV.ad 66
 e3.2.1])]=sp 19 [(0,AV.ad 66 e1.2.1),(1,AV.bI 177 []),(7,AV.int (↑(e1.2.1.length):Int)),(8,AV.int e1.2.2)] [Obj.box 25 (AV.agg [AV.ad 61 e1.1,AV.ad
 66 e1.2.1])]/\(e1.2.1.length<=9223372036854775807/\(0:Int)<=e1.2.2/\e1.2.2<=(↑(e1.2.1.length):Int)/\List.all e1.2.1 hH=true)/\aD (List.all
 (List.drop (Int.toNat e1.2.2) e1.2.1) lv) (K (AV.bool true) []) z1) z3)))):=by kernel_rfl
def eL(ds rs:List AV):Bool:=decide (ds.length<=60)&&decide (rs.length<=200)&&ds.all tp&&rs.all lv
def Ut:List AV->Option (Bool×AV)
 |[.agg [.ad 61 ds, .ad 66 rs]]=>some (rs.all hH, .bool (eL ds rs))
 |_=>none
theorem pRt(κ:Kp):c9 (Is κ) 12 109 Ut:=by
 intro args x hh
 unfold Ut at hh
 split at hh
 ·rename_i ds rs
  simp only[aa4,ab0] at hh
  obtain⟨h1,rfl⟩:=hh
  refine⟨_,rfl,rfl,?_⟩
  refine Eq.mpr (YJ κ ds rs _) ?_
  unfold eL
  rw[ah,aa1,aa3]
  refine⟨fun e=>nN (by rw[aa5 (show ¬ ds.length<=60 by omega)];rfl),fun e=>?_⟩
  rw[ah,aa1,aa3]
  refine⟨fun e2=>nN (by rw[aa5 (show ¬ rs.length<=200 by omega)];simp),fun e2=>?_⟩
  rw[aa7 (show ds.length<=60 by omega),aa7 (show rs.length<=200 by omega)]
  refine⟨rfl,(ds,rs,0),rfl,⟨by simp only[aR];omega,by simp only;omega,by simp only;omega⟩,?_⟩
  simp only[ab8,ab1,ac0]
  rw[ah]
  refine⟨fun e3=>⟨trivial,(ds,rs,0),rfl,⟨by simp only[aR];omega,by simp only;omega,by simp only;omega,h1⟩,?_⟩,fun e3 y hy=>?_⟩
  ·simp only[ab8,ab1]
   rw[ah,e3]
   refine⟨fun e4=>nN (by rw[e4];rfl),fun e4 y hy=>nN ?_⟩
   rw[e4,aa7 (show y>=0 from hy)];rfl
  ·rw[aa7 (show y>=0 from hy)]
   exact nN (by rw[e3];rfl)
 ·cases hh
noncomputable def Mq(κ:Kp):Env:=(Is κ).aH 109 Ut
theorem eRt(κ:Kp):aB (Mq κ):=(Vb κ).aH (Sr κ) (pRt κ)
theorem Xk(κ:Kp):aj (Mq κ):=(Sr κ).aH
theorem ZH(κ:Kp)(ds:List AV)(s:ByteArray)(i:Int)(I:Nat->S->Prop)(n:Nat)(K:Exit->S->Prop):(vc (Mq κ) 12 KK none 1 (af (Pr κ).toProgram KK 2) (sp 19 [(0, .ad 61 ds),(1, .bI 96 [.ptr 0 0 [] 0]),(7, .int ds.length),(8, .int i)] [.box 9 (.lit (.string s))]) (bH (Mq κ) KK 2 1 I n K))=(
 letI z1:=i<(↑(ds.length):Int)
 aD (decide z1) (a7 (decide ((0:Int)<=i)&&decide z1) (aD (ByteArray.toList (toStr (ae (nth ds i.toNat) 0))==ByteArray.toList s) (K Exit.ret (sp 19 [(4,
 AV.int i)] [Obj.box 9 (AV.str s)])) (∃(e0:Nat),e0<n/\I e0 (sp 19 [(0,AV.ad 61 ds),(1,AV.bI 96 [AV.ptr 0 0 [] 0]),(7,AV.int (↑(ds.length):Int)),
 (8,AV.int (IntKind.wrap IntKind.i64 (i+(1:Int))))] [Obj.box 9 (AV.str s)])))) (K (Exit.exit 0) (sp 19 [] [Obj.box 9 (AV.str s)]))):=by kernel_rfl
def lk(s:ByteArray):List AV->Int->Int
 |[],_=> -1
 |d::l,i=>bif lZ (toStr (ae d 0)) s then i else lk s l (i+1)
abbrev SK(a:List AV×ByteArray×Int):S:=sp 19 [(0, .ad 61 a.1),(1, .bI 96 [.ptr 0 0 [] 0]),(7, .int a.1.length),(8, .int a.2.2)] [.box 9 (.lit (.string a.2.1))]
def J8(a:List AV×ByteArray×Int):Prop:=a.1.length<=aR/\0<=a.2.2/\a.2.2<=a.1.length
def FJ(a:List AV×ByteArray×Int):Out (Exit×S):= .aD (decide (0<=lk a.2.1 (a.1.drop a.2.2.toNat) a.2.2)) (.one (.ret,sp 19 [(4, .int (lk a.2.1 (a.1.drop a.2.2.toNat) a.2.2))] [.box 9 (.lit (.string a.2.1))])) (.one (.exit 0,sp 19 [] [.box 9 (.lit (.string a.2.1))]))
theorem lFi(κ:Kp):bh (Mq κ) 12 KK 2 (aP 1 SK J8 FJ):=by
 refine aL (fun a=>a.1.length - a.2.2.toNat) ?_
 rintro⟨ds,s,i⟩ K ⟨h1,h2,h3⟩ ho
 simp only at h1 h2 h3
 rw[show(Mq κ).P=Pr κ from rfl]
 refine Eq.mpr (ZH κ ds s i _ _ K) ?_
 simp only[aR] at h1
 simp only[FJ,Out.run,ah] at ho
 simp only[ah,an,aa1,aa3,aa2]
 refine⟨fun hi=>⟨⟨h2,hi⟩,?_⟩,fun hi=>?_⟩
 ·have hk:i.toNat<ds.length:=by omega
  rw[ab2 hk,←bg ds i.toNat hk,lk] at ho
  refine⟨fun e=>?_,fun e=>?_⟩
  ·rw[show lZ (toStr (ae (nth ds i.toNat) 0)) s=true from e,aa8] at ho
   exact ho.1 (aa7 h2)
  ·rw[show lZ (toStr (ae (nth ds i.toNat) 0)) s=false from e,aa6] at ho
   rw[aW (n:=i+1) (by omega) (by omega)]
   refine⟨_,?_,(ds,s,i+1),rfl,⟨by simpa[aR] using h1,by simp only;omega,by simp only;omega⟩,rfl,?_⟩
   ·simp only;omega
   ·simp only[FJ,Out.run,ah,show(i+1).toNat=i.toNat+1 by omega]
    exact ho
 ·rw[aa9 (by omega)] at ho
  exact ho.2 rfl
noncomputable def Sq(κ:Kp):Env:=(Mq κ).ak KK 2 (aP 1 SK J8 FJ)
theorem eFl(κ:Kp):aB (Sq κ):=(eRt κ).ak (Xk κ) (lFi κ)
theorem Xu(κ:Kp):aj (Sq κ):=(Xk κ).ak aF
theorem ZS(κ:Kp)(ds:List AV)(s:ByteArray)(K:AV->List Dn.Obj->Prop):(a9 (Sq κ) 12 56 [.ad 61 ds, .lit (.string s)] [] K)=(
 af (Pg.toProgram (Env.P (Mq κ))) KK 2=af (Pg.toProgram (Env.P (Mq κ))) KK 2/\∃(a:List AV×ByteArray×Int),sp 19 [(0,AV.ad 61 ds),(1,
 AV.bI 96 [AV.ptr 0 0 [] 0]),(7,AV.int (↑(ds.length):Int)),(8,AV.int 0)] [Obj.box 9 (AV.str s)]=sp 19 [(0,AV.ad 61 a.1),(1,AV.bI 96 [AV.ptr 0 0 []
 0]),(7,AV.int (↑(a.1.length):Int)),(8,AV.int a.2.2)] [Obj.box 9 (AV.str a.2.1)]/\(a.1.length<=9223372036854775807/\(0:Int)<=a.2.2/\a.2.2<=
 (↑(a.1.length):Int))/\aD (decide ((0:Int)<=lk a.2.1 (List.drop (Int.toNat a.2.2) a.1) a.2.2)) (K (AV.ba [AV.int (if(0:Int)>lk a.2.1
 (List.drop (Int.toNat a.2.2) a.1) a.2.2 then(0:Int) else lk a.2.1 (List.drop (Int.toNat a.2.2) a.1) a.2.2),AV.bool (decide (lk a.2.1 (List.drop
 (Int.toNat a.2.2) a.1) a.2.2>=(0:Int)))]) []) (K (AV.ba [AV.int 0,AV.bool false]) [])):=by kernel_rfl
def bt(s:ByteArray)(ds:List AV):Int:=bif decide (0<=lk s ds 0) then lk s ds 0 else 0
def fh(s:ByteArray)(ds:List AV):Bool:=decide (0<=lk s ds 0)
def AH(a:List AV×ByteArray):List AV×List Dn.Obj:=([.ad 61 a.1, .lit (.string a.2)],[])
def gx(a:List AV×ByteArray):Prop:=a.1.length<=aR
def CY(a:List AV×ByteArray):Out (AV×List Dn.Obj):= .one (.ba [.int (bt a.2 a.1), .bool (fh a.2 a.1)],[])
theorem cFi(κ:Kp):bq (Sq κ) 12 56 (aM AH gx CY):=by
 refine aZ ?_
 rintro⟨ds,s⟩ K h1 ho
 refine Eq.mpr (ZS κ ds s K) ?_
 simp only[CY,Out.run,bt,fh] at ho
 refine⟨rfl,(ds,s,0),rfl,⟨h1,by simp only;omega,by simp only;omega⟩,?_⟩
 simp only[ab8,ab1]
 rw[ah]
 refine⟨fun e=>?_,fun e=>?_⟩
 ·rw[e,aa8] at ho
  rw[aa1] at e
  rw[if_neg (by omega),aa7 (show lk s ds 0>=0 from e)]
  exact ho
 ·rw[e,aa6] at ho
  exact ho
noncomputable def SQ(κ:Kp):Env:=(Sq κ).ay 56 (aM AH gx CY)
theorem ZU(κ:Kp):aB (SQ κ):=(eFl κ).ay (Xu κ) (cFi κ)
theorem Yk(κ:Kp):aj (SQ κ):=(Xu κ).ay aJ
structure ji where
 ds:List AV
 es:List (Value×AV)
 more:Bool
abbrev bK(a:ji):List Dn.Obj:=[.box 225 (.agg [.ad 61 a.ds, .mp 1, .bool a.more]), .map 9 3 a.es]
abbrev Co:AV:= .ptr 0 0 [] 0
theorem yOf(κ:Kp)(a:ji)(t:AT)(K:AV->List Dn.Obj->Prop):(a9 (SQ κ) 12 259 [Co,cv t] (bK a) K)=(
 aD (t.op==(1:Int)) (K (AV.int (toInt (dh a.es (Value.string t.s) (AV.int 0)))) (bK a)) (aD (t.op==(3:Int)) (K (AV.int 2) (bK a)) (aD (t.op==(4:Int))
 (K (AV.int 0) (bK a)) (K (AV.int 1) (bK a))))):=by kernel_rfl
def RI(x:ji×AT):List AV×List Dn.Obj:=([Co,cv x.2],bK x.1)
def IU(_:ji×AT):Prop:=True
def JS(x:ji×AT):Out (AV×List Dn.Obj):= .one (.int (bD getM x.2.tm x.1.es),bK x.1)
theorem cOf(κ:Kp):bq (SQ κ) 12 259 (aM RI IU JS):=by
 refine aZ ?_
 rintro⟨a,t⟩ K _ ho
 refine Eq.mpr (yOf κ a t K) ?_
 simp only[JS,Out.run] at ho
 have e:bD getM t.tm a.es=bif decide (t.op=1) then getM a.es t.s else bif decide (t.op=3) then 2 else bif decide (t.op=4) then 0 else 1:=rfl
 rw[e] at ho
 simp only[NQ]
 cases h1:decide (t.op=1) with
 |true=>rw[h1] at ho;exact ho
 | false=>
  rw[h1] at ho
  cases h3:decide (t.op=3) with
  |true=>rw[h3] at ho;exact ho
  |false=>
   rw[h3] at ho
   cases h4:decide (t.op=4) with
   |true=>rw[h4] at ho;exact ho
   |false=>rw[h4] at ho;exact ho
noncomputable def Ui(κ:Kp):Env:=(SQ κ).ay 259 (aM RI IU JS)
theorem Xa(κ:Kp):aB (Ui κ):=(ZU κ).ay (Yk κ) (cOf κ)
theorem Xl(κ:Kp):aj (Ui κ):=(Yk κ).ay aJ
structure oJ where
 a:ji
 t:AT
 k:Int
def aO(a:ji)(t:AT)(k:Int):Bool×(List (Value×AV)×Bool):=t.tm.want getM fU k (a.es,a.more)
def dI(a:ji)(r:List (Value×AV)×Bool):ji:=⟨a.ds,r.1,r.2⟩
def gJ(b:Bool):Int:=bif b then 53 else 0
def OX(x:oJ):List AV×List Dn.Obj:=([Co,cv x.t, .int x.k],bK x.a)
def Qk(n:Nat)(x:oJ):Prop:=x.t.tm.iS=n/\n<=100000
noncomputable def F6(κ:Kp)(x:oJ):Out (AV×List Dn.Obj):= .one (.lit (a6 κ (gJ (aO x.a x.t x.k).1)),bK (dI x.a (aO x.a x.t x.k).2))
noncomputable def IK(κ:Kp)(n:Nat):dj:=aM OX (Qk n) (F6 κ)
noncomputable def Ms(κ:Kp)(r:Nat):Env:=(Ui κ).ay 258 fun args st K=>∃m,m<r/\IK κ m args st K
theorem xWt(κ:Kp)(r:Nat)(a:ji)(t:AT)(k:Int)(i:Int)(I:Nat->S->Prop)(n:Nat)(K:Exit->S->Prop):(vc (Ms κ r) 12 258 none 2 (af (Pr κ).toProgram 258 2) (sp 56 [(0,Co),(2, .int k),(4, .ptr 2 0 [] 0),(12, .ad 56 t.l),(13, .int t.l.length),(14, .int i)] (bK a++[.box 56 (cv t)])) (bH (Ms κ r) 258 2 2 I n K))=(
 letI z1:=nth t.l i.toNat
 letI z2:=i<(↑(t.l.length):Int)
 aD (decide z2) (a7 (decide ((0:Int)<=i)&&decide z2) (∃(e2:Nat),e2<r/\∃(e1:oJ),([AV.ptr 0 0 [] 0,AV.agg [AV.int (toInt (ae z1 0)),AV.str (toStr
 (ae z1 1)),AV.int (toInt (ae z1 2)),AV.ad 56 (ai (ae z1 3))],AV.int 1],(bK a))=([AV.ptr 0 0 [] 0,cv e1.t,AV.int e1.k],(bK e1.a))/\(Tm.iS (AT.tm e1.t)
 =e2/\e2<=100000)/\a7 (aC (a6 κ (gJ (Prod.fst (aO e1.a e1.t e1.k))))) (aD (!bJ (a6 κ (gJ (Prod.fst (aO e1.a e1.t e1.k))))) (K Exit.ret (sp 56 [(6,AV.lit (a6
 κ (gJ (Prod.fst (aO e1.a e1.t e1.k)))))] (bK (dI e1.a (Prod.snd (aO e1.a e1.t e1.k)))))) (∃(e0:Nat),e0<n/\I e0 (sp 56 [(0,AV.ptr 0 0 [] 0),(2,AV.int
 k),(4,AV.ptr 2 0 [] 0),(12,AV.ad 56 t.l),(13,AV.int (↑(t.l.length):Int)),(14,AV.int (IntKind.wrap IntKind.i64 (i+(1:Int))))] [Obj.box 225 (AV.agg
 [AV.ad 61 (ji.ds (dI e1.a (Prod.snd (aO e1.a e1.t e1.k)))),AV.mp 1,AV.bool (ji.more (dI e1.a (Prod.snd (aO e1.a e1.t e1.k))))]),Dn.Obj.map 9 3 (ji.es (dI
 e1.a (Prod.snd (aO e1.a e1.t e1.k)))),Obj.box 56 (cv t)]))))) (K (Exit.exit 0) (sp 56 [(0,AV.ptr 0 0 [] 0),(2,AV.int k),(4,AV.ptr 2 0 [] 0)] [Obj.box 225
 (AV.agg [AV.ad 61 a.ds,AV.mp 1,AV.bool a.more]),Dn.Obj.map 9 3 a.es,Obj.box 56 (cv t)]))):=by kernel_rfl
abbrev Rv:=oJ×Int
abbrev Si(x:Rv):S:=sp 56 [(0,Co),(2, .int x.1.k),(4, .ptr 2 0 [] 0),(12, .ad 56 x.1.t.l),(13, .int x.1.t.l.length),(14, .int x.2)] (bK x.1.a++[.box 56 (cv x.1.t)])
def Ju(r:Nat)(x:Rv):Prop:=x.1.t.l.length<=aR/\0<=x.2/\x.2<=x.1.t.l.length/\aX (aa (x.1.t.l.drop x.2.toNat))<r/\aX (aa (x.1.t.l.drop x.2.toNat))<=100000
def fJ(x:Rv):Bool×(List (Value×AV)×Bool):=iw getM fU (aa (x.1.t.l.drop x.2.toNat)) (x.1.a.es,x.1.a.more)
noncomputable def Fo(κ:Kp)(x:Rv):Out (Exit×S):= .aD (fJ x).1 (.one (.ret,sp 56 [(6, .lit (a6 κ 53))] (bK (dI x.1.a (fJ x).2))))
 (.one (.exit 0,sp 56 [(0,Co),(2, .int x.1.k),(4, .ptr 2 0 [] 0)] (bK (dI x.1.a (fJ x).2)++[.box 56 (cv x.1.t)])))
theorem yB(b:Bool):decide (gJ b=0)= !b:=by cases b<;>rfl
theorem lWt(κ:Kp)(r:Nat):bh (Ms κ r) 12 258 2 (aP 2 Si (Ju r) (Fo κ)):=by
 refine aL (fun x=>x.1.t.l.length - x.2.toNat) ?_
 rintro⟨⟨a,t,k⟩,i⟩ K ⟨h1,h2,h3,h4,h5⟩ ho
 simp only at h1 h2 h3 h4 h5
 rw[show(Ms κ r).P=Pr κ from rfl]
 refine Eq.mpr (xWt κ r a t k i _ _ K) ?_
 simp only[aR] at h1
 simp only[Fo,Out.run,ah] at ho
 rw[ah,aa1,aa3]
 refine⟨fun hi=>?_,fun hi=>?_⟩
 ·have hk:i.toNat<t.l.length:=by omega
  have e:=eu t.l i.toNat hk
  have hw:fJ (⟨a,t,k⟩,i)=bif (aO a (wv (nth t.l i.toNat)) 1).1 then aO a (wv (nth t.l i.toNat)) 1 else fJ (⟨dI a (aO a (wv (nth t.l i.toNat)) 1).2,t,k⟩,i+1):=by
   unfold fJ aO
   simp only[show(i+1).toNat=i.toNat+1 by omega]
   rw[e,iw,nQ];rfl
  rw[e,aX] at h4 h5
  rw[hw] at ho
  rw[an,aa2,aa1,aa1]
  refine⟨⟨h2,hi⟩,(cM (nth t.l i.toNat)).iS,by omega,⟨a,wv (nth t.l i.toNat),1⟩,rfl,⟨by rw[nQ],by omega⟩,?_⟩
  rw[an]
  refine⟨cF _ _,?_⟩
  rw[jk,yB,Bool.not_not,ah]
  refine⟨fun e1=>?_,fun e1=>?_⟩
  ·simp only[e1,aa8] at ho⊢
   exact ho.1 trivial
  ·simp only[e1,aa6] at ho
   rw[aW (n:=i+1) (by omega) (by omega)]
   refine⟨_,?_,(⟨dI a (aO a (wv (nth t.l i.toNat)) 1).2,t,k⟩,i+1),rfl,⟨by simpa[aR] using h1,by simp only;omega,by simp only;omega,?_,?_⟩,rfl,?_⟩
   ·simp only;omega
   ·simp only[show(i+1).toNat=i.toNat+1 by omega];omega
   ·simp only[show(i+1).toNat=i.toNat+1 by omega];omega
   ·simp only[Fo,Out.run,ah]
    exact ho
 ·have hw:fJ (⟨a,t,k⟩,i)=(false,(a.es,a.more)):=by
   unfold fJ
   simp only
   rw[aa9 (by omega)];rfl
  rw[hw] at ho
  exact ho.2 rfl
noncomputable def QS(κ:Kp)(r:Nat):Env:=(Ms κ r).ak 258 2 (aP 2 Si (Ju r) (Fo κ))
theorem yWt(κ:Kp)(r:Nat)(a:ji)(t:AT)(k:Int)(K:AV->List Dn.Obj->Prop):(a9 (QS κ r) 12 258 [Co,cv t, .int k] (bK a) K)=(
 letI z1:=AV.lit Value.nilIface
 letI z2:=Pg.toProgram (Env.P (Ms κ r))
 af z2 258 2=af z2 258 2/\∃(e1:Rv),sp 56 [(0,AV.ptr 0 0 [] 0),(2,AV.int k),(4,AV.ptr 2 0 [] 0),(12,AV.ad 56 t.l),(13,AV.int (↑(t.l.length):
 Int)),(14,AV.int 0)] [Obj.box 225 (AV.agg [AV.ad 61 a.ds,AV.mp 1,AV.bool a.more]),Dn.Obj.map 9 3 a.es,Obj.box 56 (cv t)]=sp 56 [(0,AV.ptr 0 0 [] 0),
 (2,AV.int e1.1.k),(4,AV.ptr 2 0 [] 0),(12,AV.ad 56 e1.1.t.l),(13,AV.int (↑(List.length e1.1.t.l):Int)),(14,AV.int e1.2)] [Obj.box 225 (AV.agg [AV.ad
 61 e1.1.a.ds,AV.mp 1,AV.bool e1.1.a.more]),Dn.Obj.map 9 3 e1.1.a.es,Obj.box 56 (cv e1.1.t)]/\(List.length e1.1.t.l<=9223372036854775807/\(0:Int)<=e1.2
 /\e1.2<=(↑(List.length e1.1.t.l):Int)/\aX (aa (List.drop e1.2.toNat e1.1.t.l))<r/\aX (aa (List.drop e1.2.toNat e1.1.t.l))<=100000)/\aD (Prod.fst (fJ
 e1)) (K (AV.lit (Value.iface 306 (Value.pointer (some (OB κ (53:Int)))))) (bK (dI e1.1.a (Prod.snd (fJ e1))))) (∃(e0:ji×AT),([AV.ptr 0 0 [] 0,cv
 e1.1.t],(bK (dI e1.1.a (Prod.snd (fJ e1)))))=([AV.ptr 0 0 [] 0,cv e0.2],(bK e0.1))/\True/\aD (e1.1.k==(0:Int)) (K z1 (bK e0.1)) (aD (e1.1.t.op==(4
 :Int)) (K z1 (bK e0.1)) (aD (bD getM (AT.tm e0.2) e0.1.es==(0:Int)) (K z1 [Obj.box 225 (AV.agg [AV.ad 61 e0.1.ds,AV.mp 1,AV.bool true]),Dn.Obj.map 9 3
 (eM (eM e0.1.es (Value.string e1.1.t.s) (AV.int (toInt (dh e0.1.es (Value.string e1.1.t.s) (AV.int 0))))) (Value.string e1.1.t.s) (AV.int e1.1.k))]) (aD (bD
 getM (AT.tm e0.2) e0.1.es != e1.1.k) (K (AV.lit (Value.iface 306 (Value.pointer (some (Kp.type κ))))) (bK e0.1)) (K z1 (bK e0.1))))))):=by kernel_rfl
theorem Fh(s:ByteArray)(v w:AV): ∀es:List (Value×AV),eM (eM es (.string s) v) (.string s) w=eM es (.string s) w
 |[]=>by simp[eM,dc]
 |(k',a')::es=>by
  rw[eM,eM]
  cases h:dc (.string s) k' with
  |true=>simp[eM,dc]
  |false=>simp only[aa6,eM,h,Fh s v w es]
theorem GG(κ:Kp)(n:Nat):(IK κ n).iT:=aJ
theorem YO(κ:Kp)(r:Nat)(hp: ∀args st K,(∃m,m<r/\IK κ m args st K)->dp (Pr κ) 258 args st K):aB (QS κ r)/\aj (QS κ r)/\(QS κ r).P=Pr κ:=
 have h:aB (Ms κ r):=(Xa κ).iz hp
 have hm:aj (Ms κ r):=(Xl κ).ay (fun _ _ _ _ hK ⟨m,h1,h2⟩=>⟨m,h1,GG κ m _ _ _ _ hK h2⟩)
 ⟨h.ak hm (lWt κ r),hm.ak aF,rfl⟩
theorem cWt(κ:Kp)(r:Nat):bq (QS κ r) 12 258 (IK κ r):=by
 refine aZ ?_
 rintro⟨a,t,k⟩ K ⟨h1,h2⟩ ho
 refine Eq.mpr (yWt κ r a t k K) ?_
 simp only[F6,Out.run] at ho
 have e1:t.tm.iS=1+aX (aa t.l):=rfl
 have hl:=fk (aa t.l)
 rw[eC] at hl
 simp only at h1
 refine⟨rfl,(⟨a,t,k⟩,0),rfl,⟨by simp only[aR];omega,by simp only;omega,by simp only;omega,by simp only[ab8,ab1];omega,by simp only[ab8,ab1];omega⟩,?_⟩
 have hw:aO a t k=bif (fJ (⟨a,t,k⟩,0)).1 then fJ (⟨a,t,k⟩,0) else bif decide (k=0)||decide (t.op=4) then(false,(fJ (⟨a,t,k⟩,0)).2)
   else bif decide (bD getM t.tm (fJ (⟨a,t,k⟩,0)).2.1=0) then(false,(fU (fJ (⟨a,t,k⟩,0)).2.1 t.s k,true)) else(!decide (bD getM t.tm (fJ (⟨a,t,k⟩,0)).2.1=k),(fJ (⟨a,t,k⟩,0)).2):=by
  unfold aO fJ
  rw[AT.tm,Tm.want];rfl
 rw[hw] at ho
 simp only[NQ,KS]
 cases hd:(fJ (⟨a,t,k⟩,0)).1 with
 |true=>
  rw[hd,aa8,hd] at ho
  exact ho
 | false=>
  rw[hd,aa6] at ho
  refine⟨(dI a (fJ (⟨a,t,k⟩,0)).2,t),rfl,trivial,?_⟩
  cases hk:decide (k=0) with
  |true=>rw[hk] at ho;exact ho
  | false=>
   rw[hk] at ho
   cases h4:decide (t.op=4) with
   |true=>rw[h4] at ho;exact ho
   | false=>
    rw[h4] at ho
    rw[show(false||false)=false from rfl,aa6] at ho
    have ht:bD getM t.tm (dI a (fJ (⟨a,t,k⟩,0)).2).es=bD getM t.tm (fJ (⟨a,t,k⟩,0)).2.1:=rfl
    simp only[ht]
    cases h0:decide (bD getM t.tm (fJ (⟨a,t,k⟩,0)).2.1=0) with
    |true=>
     rw[h0,aa8] at ho
     simp only[aD,Fh]
     exact ho
    |false=>
     rw[h0,aa6] at ho
     cases hq:decide (bD getM t.tm (fJ (⟨a,t,k⟩,0)).2.1=k) with
     |true=>rw[hq] at ho;exact ho
     |false=>rw[hq] at ho;exact ho
def dq(x:oJ):Prop:=x.t.tm.iS<=100000
theorem qWt(κ:Kp): ∀args st K,aM OX dq (F6 κ) args st K->dp (Pr κ) 258 args st K:=by
 rintro args st K ⟨a,h1,h2,h3⟩
 exact aB.sV (IK κ) (QS κ) (YO κ) (cWt κ) a.t.tm.iS args st K ⟨a,h1,⟨rfl,h2⟩,h3⟩
noncomputable def L3(κ:Kp):Env:=(Ui κ).ay 258 (aM OX dq (F6 κ))
theorem eYw(κ:Kp):aB (L3 κ):=(Xa κ).iz (qWt κ)
theorem Xc(κ:Kp):aj (L3 κ):=(Xl κ).ay aJ
def P2(x:AV):Dc:=⟨toStr (ae x 0),(ai (ae x 2)).map toInt⟩
def cz(l:List AV):List Dc:=l.map P2
theorem vI(s:ByteArray): ∀(ds:List AV) (i:Int),lk s ds i=match jT s (cz ds) with|some k=>i+k|none=> -1
 |[],i=>rfl
 | d::ds,i=>by
  have ih:=vI s ds (i+1)
  rw[lk,ih,show cz (d::ds)=P2 d::cz ds from rfl,jT,show(P2 d).rel=toStr (ae d 0) from rfl]
  cases lZ (toStr (ae d 0)) s with
  |true=>simp
  | false=>
   rw[aa6,aa6]
   cases jT s (cz ds) with
   |none=>rfl
    |some k=>show i+1+(k:Int)=i+((k+1:Nat):Int);omega
theorem Cm(s:ByteArray): ∀(ds:List Dc) (k:Nat),jT s ds=some k->k<ds.length
 |[],_,h=>by cases h
 | d::ds,k,h=>by
  rw[jT] at h
  cases e:lZ d.rel s with
  |true=>rw[e,aa8] at h;cases h;simp
  | false=>
   rw[e,aa6] at h
   cases h2:jT s ds with
   |none=>rw[h2] at h;cases h
   |some j=>
    rw[h2] at h;cases h
    have:=Cm s ds j h2
    simp only[List.length_cons];omega
theorem tR{s:ByteArray}{ds:List AV}(h:jT s (cz ds)=none):fh s ds=false/\bt s ds=0:=by
 have e:=vI s ds 0
 rw[h] at e
 unfold fh bt
 rw[e];exact⟨rfl,rfl⟩
theorem qO{s:ByteArray}{ds:List AV}{k:Nat}(h:jT s (cz ds)=some k):fh s ds=true/\bt s ds=k/\k<ds.length:=by
 have e:=vI s ds 0
 rw[h] at e
 simp only[Int.zero_add] at e
 have h1:=Cm s _ k h
 unfold fh bt
 rw[e,aa7 (show(0:Int)<=k by omega)]
 exact⟨rfl,rfl,by simpa[cz] using h1⟩
def lL(ds:List AV)(i:Int):List Int:=(ai (ae (nth ds i.toNat) 2)).map toInt
theorem Am{s:ByteArray}{ds:List AV}{k:Nat}(h:jT s (cz ds)=some k):cw (cz ds) s=lL ds k:=by
 obtain⟨_,_,h2⟩:=qO h
 unfold cw lL
 rw[h,Int.toNat_natCast,bg _ _ h2]
 simp only[cz]
 rw[List.getD_eq_getElem?_getD,List.getElem?_map,ab7 h2]
 rfl
theorem Hz(ds:List AV)(rel:ByteArray)(l:List AV):known (cz ds) ⟨rel,aa l⟩=bif fh rel ds then(bif decide ((lL ds (bt rel ds)).length=l.length) then 0 else 52) else 51:=by
 unfold known
 simp only
 cases h:jT rel (cz ds) with
 |none=>rw[(tR h).1];rfl
 |some k=>
  obtain⟨h1,h2,_⟩:=qO h
  rw[h1,h2,Am h,eC];rfl
theorem MD{ds:List AV}{i:Int}{k:Nat}(h:k<(lL ds i).length):(lL ds i).drop k=toInt (nth (ai (ae (nth ds i.toNat) 2)) k)::(lL ds i).drop (k+1):=by
 rw[ab2 h]
 have h':k<(ai (ae (nth ds i.toNat) 2)).length:=by simpa[lL] using h
 rw[bg _ _ h']
 simp[lL]
structure QN where
 a:ji
 fi:Int
 l:List AV
 k:Int
abbrev Qx(x:QN):S:=sp 65 [(0,Co),(5, .int x.fi),(40, .ad 56 x.l),(41, .int x.l.length),(42, .int x.k)] (bK x.a)
theorem Zp(κ:Kp)(x:QN)(I:Nat->S->Prop)(n:Nat)(K:Exit->S->Prop):(vc (L3 κ) 12 227 none 2 (af (Pr κ).toProgram 227 7) (Qx x) (bH (L3 κ) 227 7 2 I n K))=(
 letI z1:=nth x.l x.k.toNat
 letI z2:=ai (ae (nth x.a.ds x.fi.toNat) 2)
 letI z3:=x.k<(↑(x.l.length):Int)
 aD (decide z3) (a7 (decide ((0:Int)<=x.k)&&decide z3) (a7 (decide ((0:Int)<=x.fi)&&decide (x.fi<(↑(List.length x.a.ds):Int))) (a7 (decide ((0:
 Int)<=x.k)&&decide (x.k<(↑(List.length z2):Int))) (∃(e1:oJ),([AV.ptr 0 0 [] 0,AV.agg [AV.int (toInt (ae z1 0)),AV.str (toStr (ae z1 1)),AV.int
 (toInt (ae z1 2)),AV.ad 56 (ai (ae z1 3))],AV.int (toInt (nth z2 x.k.toNat))],(bK x.a))=([AV.ptr 0 0 [] 0,cv e1.t,AV.int e1.k],(bK e1.a))/\dq e1/\a7
 (aC (a6 κ (gJ (Prod.fst (aO e1.a e1.t e1.k))))) (aD (!bJ (a6 κ (gJ (Prod.fst (aO e1.a e1.t e1.k))))) (K Exit.ret (sp 65 [(4,AV.lit (a6 κ (gJ (Prod.fst (aO e1.a
 e1.t e1.k)))))] (bK (dI e1.a (Prod.snd (aO e1.a e1.t e1.k)))))) (∃(e0:Nat),e0<n/\I e0 (sp 65 [(0,AV.ptr 0 0 [] 0),(5,AV.int x.fi),(40,AV.ad 56 x.l),
 (41,AV.int (↑(x.l.length):Int)),(42,AV.int (IntKind.wrap IntKind.i64 (x.k+(1:Int))))] (bK (dI e1.a (Prod.snd (aO e1.a e1.t e1.k))))))))))) (K
 (Exit.exit 1) (sp 65 [] (bK x.a)))):=by kernel_rfl
def jc(x:QN):Bool×(List (Value×AV)×Bool):=iq getM fU ((lL x.a.ds x.fi).drop x.k.toNat) (aa (x.l.drop x.k.toNat)) (x.a.es,x.a.more)
def Lr(x:QN):Prop:=0<=x.fi/\x.fi<x.a.ds.length/\(lL x.a.ds x.fi).length=x.l.length/\x.l.length<=aR/\0<=x.k/\x.k<=x.l.length/\aX (aa (x.l.drop x.k.toNat))<=100000
noncomputable def FO(κ:Kp)(x:QN):Out (Exit×S):= .aD (jc x).1 (.one (.ret,sp 65 [(4, .lit (a6 κ 53))] (bK (dI x.a (jc x).2)))) (.one (.exit 1,sp 65 [] (bK (dI x.a (jc x).2))))
theorem lAt(κ:Kp):bh (L3 κ) 12 227 7 (aP 2 Qx Lr (FO κ)):=by
 refine aL (fun x=>x.l.length - x.k.toNat) ?_
 rintro⟨a,fi,l,k⟩ K ⟨h1,h2,h3,h4,h5,h6,h7⟩ ho
 simp only at h1 h2 h3 h4 h5 h6 h7
 rw[show(L3 κ).P=Pr κ from rfl]
 refine Eq.mpr (Zp κ ⟨a,fi,l,k⟩ _ _ K) ?_
 simp only[aR] at h4
 simp only[FO,Out.run,ah] at ho
 have hwl:(ai (ae (nth a.ds fi.toNat) 2)).length=(lL a.ds fi).length:=by simp[lL]
 rw[ah,aa1,aa3]
 refine⟨fun hi=>?_,fun hi=>?_⟩
 ·simp only at hi
  have hk:k.toNat<l.length:=by omega
  have e:=eu l k.toNat hk
  have ew:=MD (ds:=a.ds) (i:=fi) (k:=k.toNat) (by omega)
  have hw:jc ⟨a,fi,l,k⟩=bif (aO a (wv (nth l k.toNat)) (toInt (nth (ai (ae (nth a.ds fi.toNat) 2)) k.toNat))).1 then aO a (wv (nth l k.toNat)) (toInt (nth (ai (ae (nth a.ds fi.toNat) 2)) k.toNat)) else jc ⟨dI a (aO a (wv (nth l k.toNat)) (toInt (nth (ai (ae (nth a.ds fi.toNat) 2)) k.toNat))).2,fi,l,k+1⟩:=by
   unfold jc aO
   simp only[show(k+1).toNat=k.toNat+1 by omega]
   rw[e,ew,iq,nQ];rfl
  rw[e,aX] at h7
  rw[hw] at ho
  simp only[an,aa2,aa1,hwl]
  refine⟨⟨h5,hi⟩,⟨h1,h2⟩,⟨h5,by omega⟩,⟨a,wv (nth l k.toNat),toInt (nth (ai (ae (nth a.ds fi.toNat) 2)) k.toNat)⟩,rfl,by show(wv (nth l k.toNat)).tm.iS<=100000;rw[nQ];omega,cF _ _,?_⟩
  rw[jk,yB,Bool.not_not,ah]
  refine⟨fun e1=>?_,fun e1=>?_⟩
  ·simp only[e1,aa8] at ho⊢
   exact ho.1 trivial
  ·simp only[e1,aa6] at ho
   rw[aW (n:=k+1) (by omega) (by omega)]
   refine⟨_,?_,⟨dI a (aO a (wv (nth l k.toNat)) (toInt (nth (ai (ae (nth a.ds fi.toNat) 2)) k.toNat))).2,fi,l,k+1⟩,rfl,⟨h1,h2,h3,by simpa[aR] using h4,by simp only;omega,by simp only;omega,?_⟩,rfl,?_⟩
   ·simp only;omega
   ·simp only[show(k+1).toNat=k.toNat+1 by omega];omega
   ·simp only[FO,Out.run,ah]
    exact ho
 ·simp only at hi
  have hw:jc ⟨a,fi,l,k⟩=(false,(a.es,a.more)):=by
   unfold jc
   simp only
   rw[aa9 (show l.length<=k.toNat by omega),aa9 (show(lL a.ds fi).length<=k.toNat by omega)];rfl
  rw[hw] at ho
  exact ho.2 rfl
noncomputable def Rz(κ:Kp):Env:=(L3 κ).ak 227 7 (aP 2 Qx Lr (FO κ))
theorem eYl(κ:Kp):aB (Rz κ):=(eYw κ).ak (Xc κ) (lAt κ)
theorem Yr(κ:Kp):aj (Rz κ):=(Xc κ).ak aF
theorem yAt(κ:Kp)(a:ji)(rel:ByteArray)(l:List AV)(K:AV->List Dn.Obj->Prop):(a9 (Rz κ) 12 227 [Co, .agg [.lit (.string rel), .ad 56 l]] (bK a) K)=(
 letI z1:=Pg.toProgram (Env.P (L3 κ))
 ∃(e1:List AV×ByteArray),([AV.ad 61 a.ds,AV.str rel],aI)=([AV.ad 61 e1.1,AV.str e1.2],aI)/\gx e1/\aD (!fh e1.2 e1.1) (K (AV.lit (Value.iface 306
 (Value.pointer (some (Kp.ft κ))))) (bK a)) (a7 (decide ((0:Int)<=bt e1.2 e1.1)&&decide (bt e1.2 e1.1<(↑(a.ds.length):Int))) (aD ((↑(List.length (ai (ae
 (nth a.ds (Int.toNat (bt e1.2 e1.1))) 2))):Int) != (↑(l.length):Int)) (K (AV.lit (Value.iface 306 (Value.pointer (some (Kp.arity κ))))) (bK a)) (af z1 227 7
 =af z1 227 7/\∃(e0:QN),sp 65 [(0,AV.ptr 0 0 [] 0),(5,AV.int (bt e1.2 e1.1)),(40,AV.ad 56 l),(41,AV.int (↑(l.length):Int)),(42,AV.int 0)] (bK a)
 =sp 65 [(0,AV.ptr 0 0 [] 0),(5,AV.int e0.fi),(40,AV.ad 56 e0.l),(41,AV.int (↑(e0.l.length):Int)),(42,AV.int e0.k)] (bK e0.a)/\((0:Int)<=e0.fi/\
 e0.fi<(↑(List.length e0.a.ds):Int)/\List.length (lL e0.a.ds e0.fi)=e0.l.length/\e0.l.length<=9223372036854775807/\(0:Int)<=e0.k/\e0.k<=
 (↑(e0.l.length):Int)/\aX (aa (List.drop e0.k.toNat e0.l))<=100000)/\aD (Prod.fst (jc e0)) (K (AV.lit (Value.iface 306 (Value.pointer (some (OB κ (53:
 Int)))))) (bK (dI e0.a (Prod.snd (jc e0))))) (K (AV.lit Value.nilIface) (bK (dI e0.a (Prod.snd (jc e0))))))))):=by kernel_rfl
def dy(a:ji)(rel:ByteArray)(l:List AV):Int×(List (Value×AV)×Bool):=dU getM fU (cz a.ds) ⟨rel,aa l⟩ (a.es,a.more)
abbrev PN:=ji×ByteArray×List AV
def TO(x:PN):List AV×List Dn.Obj:=([Co, .agg [.lit (.string x.2.1), .ad 56 x.2.2]],bK x.1)
def KC(x:PN):Prop:=x.1.ds.length<=aR/\aX (aa x.2.2)<=100000
noncomputable def Kx(κ:Kp)(x:PN):Out (AV×List Dn.Obj):= .one (.lit (a6 κ (dy x.1 x.2.1 x.2.2).1),bK (dI x.1 (dy x.1 x.2.1 x.2.2).2))
theorem ZT(κ:Kp):bq (Rz κ) 12 227 (aM TO KC (Kx κ)):=by
 refine aZ ?_
 rintro⟨a,rel,l⟩ K ⟨h1,h2⟩ ho
 simp only at h1 h2
 refine Eq.mpr (yAt κ a rel l K) ?_
 simp only[Kx,Out.run,dy,dU,Hz] at ho
 have hl:=fk (aa l)
 rw[eC] at hl
 refine⟨(a.ds,rel),rfl,h1,?_⟩
 cases hf:jT rel (cz a.ds) with
 |none=>
  rw[(tR hf).1] at ho
  simp only[(tR hf).1]
  exact ho
 | some k=>
  obtain⟨e1,e2,e3⟩:=qO hf
  rw[e1,e2,Am hf] at ho
  have hwl:(ai (ae (nth a.ds (Int.toNat (k:Int))) 2)).length=(lL a.ds k).length:=by simp[lL]
  simp only[e1,e2,hwl,KS]
  refine an.2 ⟨by simp;omega,?_⟩
  cases hq:decide ((lL a.ds k).length=l.length) with
  |false=>
   rw[hq] at ho
   rw[aa3] at hq
   rw[aa5 (show ¬ (((lL a.ds k).length:Int)=(l.length:Int)) by omega)]
   exact ho
  | true=>
   rw[hq] at ho
   rw[aa1] at hq
   rw[aa7 (show(((lL a.ds k).length:Int)=(l.length:Int)) by omega)]
   refine⟨trivial,⟨a,k,l,0⟩,rfl,⟨by simp only;omega,by simp only;omega,hq,by simp only[aR];omega,by simp only;omega,by simp only;omega,by simp only[ab8,ab1];exact h2⟩,?_⟩
   have hd:jc ⟨a,k,l,0⟩=iq getM fU (lL a.ds k) (aa l) (a.es,a.more):=by
    unfold jc;simp only[ab8,ab1]
   rw[hd]
   simp only[aa8,decide_true] at ho
   rw[ah]
   refine⟨fun e=>by rw[e] at ho;exact ho,fun e=>by rw[e] at ho;exact ho⟩
noncomputable def TT(κ:Kp):Env:=(Rz κ).ay 227 (aM TO KC (Kx κ))
theorem eYa(κ:Kp):aB (TT κ):=(eYl κ).ay (Yr κ) (ZT κ)
theorem Xf(κ:Kp):aj (TT κ):=(Yr κ).ay aJ
theorem yLi(κ:Kp)(a:ji)(op:Int)(rel:ByteArray)(l:List AV)(u v:AT)(K:AV->List Dn.Obj->Prop):(a9 (TT κ) 12 228 [Co, .agg [.int op, .agg [.lit (.string rel), .ad 56 l],cv u,cv v]] (bK a) K)=(
 letI z1:=∃(e3:ji×AT),([AV.ptr 0 0 [] 0,cv u],(bK a))=([AV.ptr 0 0 [] 0,cv e3.2],(bK e3.1))/\True/\∃(e2:ji×AT),([AV.ptr 0 0 [] 0,cv v],
  (bK e3.1))=([AV.ptr 0 0 [] 0,cv e2.2],(bK e2.1))/\True/\∃(e1:oJ),([AV.ptr 0 0 [] 0,cv u,AV.int (if bD getM (AT.tm e2.2) e2.1.es>bD getM (AT.tm
  e3.2) e3.1.es then bD getM (AT.tm e2.2) e2.1.es else bD getM (AT.tm e3.2) e3.1.es)],(bK e2.1))=([AV.ptr 0 0 [] 0,cv e1.t,AV.int e1.k],(bK e1.a))/\dq e1/\
  a7 (aC (a6 κ (gJ (Prod.fst (aO e1.a e1.t e1.k))))) (aD (!bJ (a6 κ (gJ (Prod.fst (aO e1.a e1.t e1.k))))) (K (AV.lit (a6 κ (gJ (Prod.fst (aO e1.a e1.t e1.k)))))
  (bK (dI e1.a (Prod.snd (aO e1.a e1.t e1.k))))) (∃(e0:oJ),([AV.ptr 0 0 [] 0,cv v,AV.int (if bD getM (AT.tm e2.2) e2.1.es>bD getM (AT.tm e3.2) e3.1.es
  then bD getM (AT.tm e2.2) e2.1.es else bD getM (AT.tm e3.2) e3.1.es)],(bK (dI e1.a (Prod.snd (aO e1.a e1.t e1.k)))))=([AV.ptr 0 0 [] 0,cv e0.t,AV.int
  e0.k],(bK e0.a))/\dq e0/\K (AV.lit (a6 κ (gJ (Prod.fst (aO e0.a e0.t e0.k))))) (bK (dI e0.a (Prod.snd (aO e0.a e0.t e0.k))))))
 letI z2:=∃(e0:PN),([AV.ptr 0 0 [] 0,AV.agg [AV.str rel,AV.ad 56 l]],(bK a))=([AV.ptr 0 0 [] 0,AV.agg [AV.str e0.2.1,AV.ad 56 e0.2.2]],(bK e0.1))/\
  (e0.1.ds.length<=9223372036854775807/\aX (aa e0.2.2)<=100000)/\K (AV.lit (a6 κ (Prod.fst (dy e0.1 e0.2.1 e0.2.2)))) (bK (dI e0.1 (Prod.snd (dy e0.1 e0.2.1
  e0.2.2))))
 letI z3:=z1/\z1/\z1
 aD (op==(3:Int)) z3 (aD (op==(4:Int)) z3 (aD (op==(5:Int)) z3 (aD (op==(6:Int)) z3 (aD (op==(1:Int)) z2 (aD (op==(2:Int)) z2 (∃(e2:
 PN),([AV.ptr 0 0 [] 0,AV.agg [AV.str rel,AV.ad 56 l]],(bK a))=([AV.ptr 0 0 [] 0,AV.agg [AV.str e2.2.1,AV.ad 56 e2.2.2]],(bK e2.1))/\(e2.1.ds.length<=
 9223372036854775807/\aX (aa e2.2.2)<=100000)/\a7 (aC (a6 κ (Prod.fst (dy e2.1 e2.2.1 e2.2.2)))) (aD (!bJ (a6 κ (Prod.fst (dy e2.1 e2.2.1 e2.2.2)))) (K
 (AV.lit (a6 κ (Prod.fst (dy e2.1 e2.2.1 e2.2.2)))) (bK (dI e2.1 (Prod.snd (dy e2.1 e2.2.1 e2.2.2))))) (∃(e1:oJ),([AV.ptr 0 0 [] 0,cv u,AV.int 1],(bK (dI
 e2.1 (Prod.snd (dy e2.1 e2.2.1 e2.2.2)))))=([AV.ptr 0 0 [] 0,cv e1.t,AV.int e1.k],(bK e1.a))/\dq e1/\a7 (aC (a6 κ (gJ (Prod.fst (aO e1.a e1.t e1.k)))))
 (aD (!bJ (a6 κ (gJ (Prod.fst (aO e1.a e1.t e1.k))))) (K (AV.lit (a6 κ (gJ (Prod.fst (aO e1.a e1.t e1.k))))) (bK (dI e1.a (Prod.snd (aO e1.a e1.t e1.k))))) (aD
 (op==(7:Int)) (K (AV.lit (a6 κ (gJ (Prod.fst (aO e1.a e1.t e1.k))))) (bK (dI e1.a (Prod.snd (aO e1.a e1.t e1.k))))) (∃(e0:oJ),([AV.ptr 0 0 [] 0,cv v,
 AV.int 1],(bK (dI e1.a (Prod.snd (aO e1.a e1.t e1.k)))))=([AV.ptr 0 0 [] 0,cv e0.t,AV.int e0.k],(bK e0.a))/\dq e0/\K (AV.lit (a6 κ (gJ (Prod.fst (aO
 e0.a e0.t e0.k))))) (bK (dI e0.a (Prod.snd (aO e0.a e0.t e0.k)))))))))))))))):=by kernel_rfl
structure Em where
 a:ji
 op:Int
 rel:ByteArray
 l:List AV
 u:AT
 v:AT
def Em.lt(x:Em):Lt:=⟨x.op,⟨x.rel,aa x.l⟩,x.u.tm,x.v.tm⟩
def bU(x:Em):Int×(List (Value×AV)×Bool):=jV getM fU (cz x.a.ds) x.lt (x.a.es,x.a.more)
def SP(x:Em):List AV×List Dn.Obj:=([Co, .agg [.int x.op, .agg [.lit (.string x.rel), .ad 56 x.l],cv x.u,cv x.v]],bK x.a)
def Ip(x:Em):Prop:=x.a.ds.length<=aR/\iJ x.lt<=100000
noncomputable def NW(κ:Kp)(x:Em):Out (AV×List Dn.Obj):= .one (.lit (a6 κ (bU x).1),bK (dI x.a (bU x).2))
def kd(a:ji)(u v:AT):Int:=if bD getM v.tm a.es>bD getM u.tm a.es then bD getM v.tm a.es else bD getM u.tm a.es
theorem S8(x:Em):kx getM x.lt x.a.es=kd x.a x.u x.v:=by
 unfold kx kd
 show(bif decide (bD getM x.v.tm x.a.es>bD getM x.u.tm x.a.es) then _ else _)=_
 by_cases h:bD getM x.v.tm x.a.es>bD getM x.u.tm x.a.es
 ·rw[aa7 h,if_pos h];rfl
 ·rw[aa5 h,if_neg h];rfl
theorem yU(κ:Kp)(b:Bool):(!bJ (a6 κ (gJ b)))=b:=by rw[jk,yB,Bool.not_not]
theorem YG(κ:Kp):bq (TT κ) 12 228 (aM SP Ip (NW κ)):=by
 refine aZ ?_
 rintro⟨a,op,rel,l,u,v⟩ K ⟨h1,h2⟩ ho
 simp only at h1
 refine Eq.mpr (yLi κ a op rel l u v K) ?_
 have ho:K (.lit (a6 κ (bU ⟨a,op,rel,l,u,v⟩).1)) (bK (dI a (bU ⟨a,op,rel,l,u,v⟩).2)):=ho
 have h2:aX [u.tm,v.tm]+aX (aa l)<=100000:=h2
 simp only[aX] at h2
 have hu:dq ⟨a,u,kd a u v⟩:=by show u.tm.iS<=100000;omega
 have hv:dq ⟨dI a (aO a u (kd a u v)).2,v,kd a u v⟩:=by show v.tm.iS<=100000;omega
 have both:fH op=true->bU ⟨a,op,rel,l,u,v⟩=kI (aO a u (kd a u v)) (v.tm.want getM fU (kd a u v)):=fun hc=>by
  unfold bU jV
  rw[S8 ⟨a,op,rel,l,u,v⟩,show(Em.lt ⟨a,op,rel,l,u,v⟩).op=op from rfl,hc];rfl
 have c1:fH op=true->(!bJ (a6 κ (gJ (aO a u (kd a u v)).1)))=true->K (.lit (a6 κ (gJ (aO a u (kd a u v)).1))) (bK (dI a (aO a u (kd a u v)).2)):=fun hc q=>by
  rw[yU] at q
  rw[both hc] at ho
  unfold kI at ho
  rw[q] at ho⊢
  exact ho
 have c2:fH op=true->(!bJ (a6 κ (gJ (aO a u (kd a u v)).1)))=false->K (.lit (a6 κ (gJ (aO (dI a (aO a u (kd a u v)).2) v (kd a u v)).1))) (bK (dI (dI a (aO a u (kd a u v)).2) (aO (dI a (aO a u (kd a u v)).2) v (kd a u v)).2)):=fun hc q=>by
  rw[yU] at q
  rw[both hc] at ho
  unfold kI at ho
  rw[q] at ho
  exact ho
 have hat: ∀b:ji,b=a->(b.ds.length<=9223372036854775807/\aX (aa l)<=100000):=fun b hb=>by subst hb;exact⟨h1,by omega⟩
 have nc:fH op=false->(decide (op=1)||decide (op=2))=true->bU ⟨a,op,rel,l,u,v⟩=dy a rel l:=fun hc h12=>by
  unfold bU jV
  rw[show(Em.lt ⟨a,op,rel,l,u,v⟩).op=op from rfl,hc,h12];rfl
 refine ah.2 ⟨fun e=>by
   have hc:fH op=true:=(by rw[show op=3 from eq_of_beq e];rfl)
   exact⟨⟨(a,u),rfl,trivial,(a,v),rfl,trivial,⟨a,u,_⟩,rfl,hu,an.2 ⟨cF _ _,ah.2 ⟨fun q=>c1 hc q,fun q=>⟨⟨_,v,_⟩,rfl,hv,c2 hc q⟩⟩⟩⟩,
    ⟨(a,u),rfl,trivial,(a,v),rfl,trivial,⟨a,u,_⟩,rfl,hu,an.2 ⟨cF _ _,ah.2 ⟨fun q=>c1 hc q,fun q=>⟨⟨_,v,_⟩,rfl,hv,c2 hc q⟩⟩⟩⟩,
    ⟨(a,u),rfl,trivial,(a,v),rfl,trivial,⟨a,u,_⟩,rfl,hu,an.2 ⟨cF _ _,ah.2 ⟨fun q=>c1 hc q,fun q=>⟨⟨_,v,_⟩,rfl,hv,c2 hc q⟩⟩⟩⟩⟩,fun e3=>ah.2 ⟨fun e=>by
   have hc:fH op=true:=(by rw[show op=4 from eq_of_beq e];rfl)
   exact⟨⟨(a,u),rfl,trivial,(a,v),rfl,trivial,⟨a,u,_⟩,rfl,hu,an.2 ⟨cF _ _,ah.2 ⟨fun q=>c1 hc q,fun q=>⟨⟨_,v,_⟩,rfl,hv,c2 hc q⟩⟩⟩⟩,
    ⟨(a,u),rfl,trivial,(a,v),rfl,trivial,⟨a,u,_⟩,rfl,hu,an.2 ⟨cF _ _,ah.2 ⟨fun q=>c1 hc q,fun q=>⟨⟨_,v,_⟩,rfl,hv,c2 hc q⟩⟩⟩⟩,
    ⟨(a,u),rfl,trivial,(a,v),rfl,trivial,⟨a,u,_⟩,rfl,hu,an.2 ⟨cF _ _,ah.2 ⟨fun q=>c1 hc q,fun q=>⟨⟨_,v,_⟩,rfl,hv,c2 hc q⟩⟩⟩⟩⟩,fun e4=>ah.2 ⟨fun e=>by
   have hc:fH op=true:=(by rw[show op=5 from eq_of_beq e];rfl)
   exact⟨⟨(a,u),rfl,trivial,(a,v),rfl,trivial,⟨a,u,_⟩,rfl,hu,an.2 ⟨cF _ _,ah.2 ⟨fun q=>c1 hc q,fun q=>⟨⟨_,v,_⟩,rfl,hv,c2 hc q⟩⟩⟩⟩,
    ⟨(a,u),rfl,trivial,(a,v),rfl,trivial,⟨a,u,_⟩,rfl,hu,an.2 ⟨cF _ _,ah.2 ⟨fun q=>c1 hc q,fun q=>⟨⟨_,v,_⟩,rfl,hv,c2 hc q⟩⟩⟩⟩,
    ⟨(a,u),rfl,trivial,(a,v),rfl,trivial,⟨a,u,_⟩,rfl,hu,an.2 ⟨cF _ _,ah.2 ⟨fun q=>c1 hc q,fun q=>⟨⟨_,v,_⟩,rfl,hv,c2 hc q⟩⟩⟩⟩⟩,fun e5=>ah.2 ⟨fun e=>by
   have hc:fH op=true:=(by rw[show op=6 from eq_of_beq e];rfl)
   exact⟨⟨(a,u),rfl,trivial,(a,v),rfl,trivial,⟨a,u,_⟩,rfl,hu,an.2 ⟨cF _ _,ah.2 ⟨fun q=>c1 hc q,fun q=>⟨⟨_,v,_⟩,rfl,hv,c2 hc q⟩⟩⟩⟩,
    ⟨(a,u),rfl,trivial,(a,v),rfl,trivial,⟨a,u,_⟩,rfl,hu,an.2 ⟨cF _ _,ah.2 ⟨fun q=>c1 hc q,fun q=>⟨⟨_,v,_⟩,rfl,hv,c2 hc q⟩⟩⟩⟩,
    ⟨(a,u),rfl,trivial,(a,v),rfl,trivial,⟨a,u,_⟩,rfl,hu,an.2 ⟨cF _ _,ah.2 ⟨fun q=>c1 hc q,fun q=>⟨⟨_,v,_⟩,rfl,hv,c2 hc q⟩⟩⟩⟩⟩,fun e6=>?_⟩⟩⟩⟩
 simp only[beq_eq_false_iff_ne] at e3 e4 e5 e6
 have hc:fH op=false:=by
  unfold fH
  rw[Bool.and_eq_false_iff,aa3,aa3];omega
 refine ah.2 ⟨fun e=>⟨(a,rel,l),rfl,hat a rfl,?_⟩,fun e1=>ah.2 ⟨fun e=>⟨(a,rel,l),rfl,hat a rfl,?_⟩,fun e2=>?_⟩⟩
 ·rw[nc hc (by rw[show op=1 by simpa using e];rfl)] at ho;exact ho
 ·rw[nc hc (by rw[show op=2 by simpa using e];rfl)] at ho;exact ho
 simp only[beq_eq_false_iff_ne] at e1 e2
 have hL:bU ⟨a,op,rel,l,u,v⟩=bif !decide ((dy a rel l).1=0) then dy a rel l
   else bif decide (op=7) then(gJ (aO (dI a (dy a rel l).2) u 1).1,(aO (dI a (dy a rel l).2) u 1).2)
   else kI (aO (dI a (dy a rel l).2) u 1) (v.tm.want getM fU 1):=by
  unfold bU jV
  rw[show(Em.lt ⟨a,op,rel,l,u,v⟩).op=op from rfl,hc,aa5 e1,aa5 e2];rfl
 rw[hL] at ho
 refine⟨(a,rel,l),rfl,hat a rfl,an.2 ⟨cF _ _,?_⟩⟩
 rw[jk]
 refine ah.2 ⟨fun q=>?_,fun q=>?_⟩
 ·rw[q] at ho;exact ho
 ·rw[q,aa6] at ho
  refine⟨⟨dI a (dy a rel l).2,u,1⟩,rfl,by show u.tm.iS<=100000;omega,an.2 ⟨cF _ _,?_⟩⟩
  rw[yU]
  refine ah.2 ⟨fun q1=>?_,fun q1=>ah.2 ⟨fun q7=>?_,fun q7=>⟨⟨dI (dI a (dy a rel l).2) (aO (dI a (dy a rel l).2) u 1).2,v,1⟩,rfl,by show v.tm.iS<=100000;omega,?_⟩⟩⟩
  ·have q1:(aO (dI a (dy a rel l).2) u 1).1=true:=q1
   unfold kI at ho
   rw[q1] at ho
   simp only[q1]
   cases h7:decide (op=7)<;>rw[h7] at ho<;>exact ho
  ·rw[show decide (op=7)=true by simpa using q7] at ho
   exact ho
  ·have q1:(aO (dI a (dy a rel l).2) u 1).1=false:=q1
   rw[show decide (op=7)=false by simpa using q7,aa6] at ho
   unfold kI at ho
   rw[q1] at ho
   exact ho
noncomputable def Tz(κ:Kp):Env:=(TT κ).ay 228 (aM SP Ip (NW κ))
theorem Y0(κ:Kp):aB (Tz κ):=(eYa κ).ay (Xf κ) (YG κ)
theorem WZ(κ:Kp):aj (Tz κ):=(Xf κ).ay aJ
end Go.Proofs.YthaiinlfnommnaaGreatDoor
