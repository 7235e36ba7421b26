import Derived.Test.YthaiinlfnommnaaGreatDoorDbM5
import Derived.Test.YthaiinlfnommnaaGreatDoorDbM6
namespace Go.Proofs.YthaiinlfnommnaaGreatDoor
open Go Go.Dn Go.Rl Go.Proofs Go.RowKit Go.Extern.Stop Go.Stop Go.Extern
def Po(κ:Kp)(e:Int):Addr:=bif decide (e=51) then κ.fK else bif decide (e=52) then κ.arity else κ.type
def ba(κ:Kp)(e:Int):Value:=bif decide (e=0) then .nilIface else .iface 306 (.pointer (some (Po κ e)))
def wo(e:Int):Prop:=e=51\/e=52\/e=53
def jv(e:Int):Prop:=e=0\/wo e
theorem cI(κ:Kp)(e:Int):aC (ba κ e)=true:=by unfold ba;cases decide (e=0)<;>rfl
theorem jo(κ:Kp)(e:Int):bM (ba κ e)=decide (e=0):=by unfold ba;cases decide (e=0)<;>rfl
theorem Jo(κ:Kp){e k:Int}(he:wo e)(hk:wo k)(h:e≠k):Po κ e≠Po κ k:=by
 rcases he with rfl|rfl|rfl<;>rcases hk with rfl|rfl|rfl<;>first|exact absurd rfl h|exact κ.d1|exact κ.d2|exact κ.d3|exact κ.d1.symm|exact κ.d2.symm|exact κ.d3.symm
theorem O9(κ:Kp){e k:Int}(he:jv e)(hk:jv k):ba κ e=ba κ k↔e=k:=by
 refine⟨fun h=>?_,fun h=>by rw[h]⟩
 rcases he with rfl|he
 ·rcases hk with rfl|hk
  ·rfl
  ·have:decide (k=0)=false:=by rcases hk with rfl|rfl|rfl<;>rfl
   unfold ba at h
   rw[this] at h;cases h
 ·have e0:decide (e=0)=false:=by rcases he with rfl|rfl|rfl<;>rfl
  rcases hk with rfl|hk
  ·unfold ba at h
   rw[e0] at h;cases h
  ·have k0:decide (k=0)=false:=by rcases hk with rfl|rfl|rfl<;>rfl
   unfold ba at h
   rw[e0,k0,aa6,aa6] at h
   simp only[Value.iface.injEq,Value.pointer.injEq,aa4,true_and] at h
   by_cases hh:e=k
   ·exact hh
   ·exact absurd h (Jo κ he hk hh)
theorem Gb(κ:Kp){e:Int}(he:wo e): ∃c t,x2 κ (Po κ e).block=some (.cells c t (0,0)):=by
 have go: ∀b,(∀g,g∈[1,0,3,4,2]->b≠g)->b=κ.fK.block\/b=κ.arity.block\/b=κ.type.block->∃c t,x2 κ b=some (.cells c t (0,0)):=by
  intro b hb h
  unfold x2
  rw[sD (hb _ (by simp)),sD (hb 0 (by simp)),sD (hb 3 (by simp)),sD (hb 4 (by simp)),sD (hb 2 (by simp))]
  simp only[aa6]
  cases h1:Nat.beq b κ.fK.block with
  |true=>exact⟨_,_,rfl⟩
  | false=>
   rw[aa6]
   cases h2:Nat.beq b κ.arity.block with
   |true=>exact⟨_,_,rfl⟩
   | false=>
    rw[aa6]
    cases h3:Nat.beq b κ.type.block with
    |true=>exact⟨_,_,rfl⟩
    |false=>
     rcases h with h|h|h
     ·rw[h,Nat.beq_refl] at h1;cases h1
     ·rw[h,Nat.beq_refl] at h2;cases h2
     ·rw[h,Nat.beq_refl] at h3;cases h3
 rcases he with rfl|rfl|rfl
 ·exact go _ κ.n3 (.inl rfl)
 ·exact go _ κ.n4 (.inr (.inl rfl))
 ·exact go _ κ.n5 (.inr (.inr rfl))
theorem Tt(v:Value)(xT:TypeId)(w:World):(Instr.typeAssert (.iface 306 v) xT 284 true).run Tryz.prog w= .ok (.tuple #[.nilIface, .bool false]) w:=run_typeAssert_lacksB Tryz.underlying284 (by kernel_rfl) (by kernel_rfl) v xT w
theorem HM(v:Value)(xT:TypeId)(w:World):(Instr.typeAssert (.iface 306 v) xT 286 true).run Tryz.prog w= .ok (.tuple #[.nilIface, .bool false]) w:=run_typeAssert_lacksB Tryz.underlying286 (by kernel_rfl) (by kernel_rfl) v xT w
theorem D8(v:Value)(xT:TypeId)(w:World):(Instr.typeAssert (.iface 306 v) xT 288 true).run Tryz.prog w= .ok (.tuple #[.nilIface, .bool false]) w:=run_typeAssert_lacksB Tryz.underlying288 (by kernel_rfl) (by kernel_rfl) v xT w
set_option maxRecDepth 8000 in
theorem Lq(a b:Addr)(w:World)(hab:a≠b){ca cb:Array Value}{ta tb:TypeId}(ha:w.heap[a.block]? =some (.cells ca ta (0,0)))(hb:w.heap[b.block]? =some (.cells cb tb (0,0))):
  Calls Tryz.prog 113 #[.iface 306 (.pointer (some a)), .iface 306 (.pointer (some b))] w fun e w'=>e= .returned (.bool false)/\w'=w:=by
 obtain⟨i,hi,hcmp⟩:=Option.map_eq_some_iff.1 Fw
 obtain⟨j,hj,hjs⟩:=Option.map_eq_some_iff.1 Em
 have h8:= @run_callFunc_extern Tryz.prog 184 _ Extern.ReflectliteType.typeOf Tryz.func184 (by kernel_rfl) (by kernel_rfl) (by kernel_rfl) (by kernel_rfl)
 have h32:= @run_callFunc_extern Tryz.prog 290 _ (Extern.ReflectliteType.method fun t=>do Go.Extern.Rtype.noPackHeld "Comparable" t;pure (.bool (←typeInfo t).comparable)) Tryz.func290 (by kernel_rfl) (by kernel_rfl) (by kernel_rfl) (by kernel_rfl)
 have tT:=uO
 have cT:=mX
 have mR:=iE
 have hne:=run_eql_iface_ptr_other (P:=Tryz.prog) w Tryz.underlying170 Tryz.underlying306 hi hcmp hj (by omega) hab ha hb
 have n1:=Tt
 have n2:=HM
 have n3:=D8
 go_enter Tryz.func113,Tryz.ntmps113
 go_wp2
 refine wp_loop_rounds 1 ?_
 rw[rounds_succ]
 go_wp2
 all_goals (go_ret;exact⟨rfl,rfl⟩)
open Classical in
noncomputable def kD(κ:Kp)(v:Value):Bool:=decide (∃e,jv e/\v=ba κ e)
open Classical in
noncomputable def lI(κ:Kp)(v:Value):Bool:=decide (∃e,wo e/\v=ba κ e)
open Classical in
noncomputable def gB(v t:Value):Bool:=decide (v=t)
theorem uB(κ:Kp)(v:Value):kD κ v=true↔ ∃e,jv e/\v=ba κ e:=by unfold kD;exact @decide_eq_true_iff _ (Classical.propDecidable _)
theorem C5(κ:Kp)(v:Value):lI κ v=true↔ ∃e,wo e/\v=ba κ e:=by unfold lI;exact @decide_eq_true_iff _ (Classical.propDecidable _)
theorem I5(v t:Value):gB v t=true↔v=t:=by unfold gB;exact @decide_eq_true_iff _ (Classical.propDecidable _)
theorem zJ(κ:Kp){e:Int}(h:jv e):kD κ (ba κ e)=true:=(uB _ _).2 ⟨e,h,rfl⟩
theorem yX(κ:Kp){e:Int}(h:wo e):lI κ (ba κ e)=true:=(C5 _ _).2 ⟨e,h,rfl⟩
theorem iv(κ:Kp){e k:Int}(he:jv e)(hk:jv k):gB (ba κ e) (ba κ k)=decide (e=k):=by
 rw[Bool.eq_iff_iff,I5,aa1]
 exact O9 κ he hk
noncomputable def R6(κ:Kp):List AV->Option (Bool×AV)
 |[.lit v, .lit t]=>some (kD κ v&&lI κ t, .bool (gB v t))
 |_=>none
theorem XU(κ:Kp):iB (Pr κ) 113 (R6 κ):=by
 intro args x hn hg
 unfold R6 at hg
 split at hg
 ·simp only[aa4,ab0,aa2] at hg
  obtain⟨⟨h1,h2⟩,rfl⟩:=hg
  obtain⟨e,he,rfl⟩:=(uB _ _).1 h1
  obtain⟨k,hk,rfl⟩:=(C5 _ _).1 h2
  have k0:decide (k=0)=false:=by rcases hk with rfl|rfl|rfl<;>rfl
  have hk':ba κ k= .iface 306 (.pointer (some (Po κ k))):=by unfold ba;rw[k0];rfl
  refine⟨_,_,Tryz.func113,rfl,rfl,rfl,fun C vs hC hI hm=>?_⟩
  rw[wb hm,iv κ he (.inr hk)]
  rcases he with rfl|he
  ·have e0:ba κ 0= .nilIface:=rfl
   rw[e0,hk']
   refine(callsIn_wide.2 (Lg _ C.w)).mono ?_
   rintro e w' ⟨rfl,rfl⟩
   refine⟨?_,gU.refl _⟩
   rw[aa5 (by rcases hk with rfl|rfl|rfl<;>decide)]
  ·have e0:decide (e=0)=false:=by rcases he with rfl|rfl|rfl<;>rfl
   have he':ba κ e= .iface 306 (.pointer (some (Po κ e))):=by unfold ba;rw[e0];rfl
   rw[he',hk']
   by_cases h:e=k
   ·subst h
    refine(callsIn_wide.2 (GW _ C.w)).mono ?_
    rintro e w' ⟨rfl,rfl⟩
    refine⟨?_,gU.refl _⟩
    rw[aa7 rfl]
   ·obtain⟨c1,t1,q1⟩:=Gb κ he
    obtain⟨c2,t2,q2⟩:=Gb κ hk
    have w1:=(hI.kept _ _ (by rw[hC];exact q1)).2
    have w2:=(hI.kept _ _ (by rw[hC];exact q2)).2
    refine(callsIn_wide.2 (Lq _ _ C.w (Jo κ he hk h) w1 w2)).mono ?_
    rintro e w' ⟨rfl,rfl⟩
    refine⟨?_,gU.refl _⟩
    rw[aa5 h]
 ·cases hg
noncomputable def NK(κ:Kp):Env:=(Yk κ).aH 113 (R6 κ)
theorem eIe(κ:Kp):aB (NK κ):=(e15 κ).fp (XU κ)
theorem YW(κ:Kp):aj (NK κ):=(m15 κ).aH
end Go.Proofs.YthaiinlfnommnaaGreatDoor
namespace Go.Proofs.YthaiinlfnommnaaGreatDoor
open Go Go.Dn Go.Rl Go.Proofs
attribute [local irreducible] a8 vc
set_option maxRecDepth 20000
structure RM where
 rel:ByteArray
 names:List AV
 types:List AV
 i:Bool
 o:Bool
 line:Int
abbrev Xo(d:RM):AV:= .agg [.lit (.string d.rel), .ad 9 d.names, .ad 3 d.types, .bool d.i, .bool d.o, .int d.line]
def DF(t:AV):Bool:=decide (toInt t=1)||decide (toInt t=2)
def z6:List AV->List AV->Bool
 |n::ns,t::ts=>isName (toStr n)&&DF t&&z6 ns ts
 |_,_=>true
def Cc(rel:ByteArray)(ns ts:List AV):Bool:=isName rel&& !decide (ns.length=0)&&decide (ns.length<=8)&&decide (ts.length=ns.length)&&z6 ns ts
def uJ(a:AV):Bool:=Cc (toStr (ae a 0)) (ai (ae a 1)) (ai (ae a 2))
theorem IC{ns ts:List AV}{i:Nat}(h1:i<ns.length)(h2:i<ts.length):z6 (ns.drop i) (ts.drop i)=(isName (toStr (nth ns i))&&DF (nth ts i)&&z6 (ns.drop (i+1)) (ts.drop (i+1))):=by
 rw[ab2 h1,ab2 h2,z6,bf _ _ h1,bf _ _ h2]
theorem xDc(κ:Kp)(d:RM)(i:Int)(I:Nat->S->Prop)(n:Nat)(K:Exit->S->Prop):(vc (NK κ) 12 176 none 0 (af (Pr κ).toProgram 176 4) (sp 58 [(1, .ptr 0 0 [] 0),(31, .ad 9 d.names),(32, .int d.names.length),(33, .int i)] [.box 61 (Xo d)]) (bK (NK κ) 176 4 0 I n K))=(
 letI z1:=∃(e0:Nat),e0<n/\I e0 (sp 58 [(1,AV.ptr 0 0 [] 0),(31,AV.ad 9 d.names),(32,AV.int (↑(d.names.length):Int)),(33,AV.int (IntKind.wrap
  IntKind.i64 (i+(1:Int))))] [Obj.box 61 (AV.agg [AV.str d.rel,AV.ad 9 d.names,AV.ad 3 d.types,AV.bool d.i,AV.bool d.o,AV.int d.line])])
 letI z2:=decide ((0:Int)<=i)&&decide (i<(↑(d.types.length):Int))
 letI z3:=K Exit.ret (sp 58 [(2,AV.bool false)] [])
 letI z4:=i<(↑(d.names.length):Int)
 aD (decide z4) (aX (decide ((0:Int)<=i)&&decide z4) (aD (!isName (toStr (nth d.names i.toNat))) z3 (aX z2 (aD (toInt (nth d.types i.toNat) != (1:Int))
 (aX z2 (aD (toInt (nth d.types i.toNat) != (2:Int)) z3 z1)) z1)))) (K (Exit.exit 0) (sp 58 [] []))):=by kernel_rfl
abbrev Nf(a:RM×Int):S:=sp 58 [(1, .ptr 0 0 [] 0),(31, .ad 9 a.1.names),(32, .int a.1.names.length),(33, .int a.2)] [.box 61 (Xo a.1)]
def Ea(a:RM×Int):Prop:=a.1.types.length=a.1.names.length/\a.1.names.length<=8/\0<=a.2/\a.2<=a.1.names.length
def Cz(a:RM×Int):Out (Exit×S):= .aD (z6 (a.1.names.drop a.2.toNat) (a.1.types.drop a.2.toNat)) (.one (.exit 0,sp 58 [] [])) (.one (.ret,sp 58 [(2, .bool false)] []))
theorem lDc(κ:Kp):bj (NK κ) 12 176 4 (aO 0 Nf Ea Cz):=by
 refine aK (fun a=>a.1.names.length - a.2.toNat) ?_
 rintro⟨d,i⟩ K ⟨h1,h2,h3,h4⟩ ho
 simp only at h1 h2 h3 h4
 rw[show(NK κ).P=Pr κ from rfl]
 refine Eq.mpr (xDc κ d i _ _ K) ?_
 simp only[Cz,Out.run,ah] at ho
 simp only[ah,aq,aa1,aa3,aa2,Bool.not_eq_true',ab3,bne_iff_ne,bne_eq_false_iff_eq]
 refine⟨fun hi=>?_,fun hi=>?_⟩
 ·have hk:i.toNat<d.names.length:=by omega
  rw[IC hk (by omega)] at ho
  rw[aW (n:=i+1) (by omega) (by omega)]
  have go:DF (nth d.types i.toNat)=true->isName (toStr (nth d.names i.toNat))=true->∃m,m<d.names.length - i.toNat/\fq Nf Ea Cz (fun a=>a.1.names.length - a.2.toNat) K m (Nf (d,i+1)):=fun e1 e2=>by
   rw[e1,e2,ac0,ac0] at ho
   refine⟨_,?_,(d,i+1),rfl,⟨h1,h2,by simp only;omega,by simp only;omega⟩,rfl,?_⟩
   ·simp only;omega
   ·simp only[Cz,Out.run,ah,show(i+1).toNat=i.toNat+1 by omega]
    exact ho
  refine⟨⟨h3,hi⟩,fun e=>ho.2 (by rw[e];rfl),fun e=>⟨⟨h3,by omega⟩,fun e1=>⟨⟨h3,by omega⟩,fun e2=>ho.2 ?_,fun e2=>go ?_ e⟩,fun e1=>go ?_ e⟩⟩
  ·have:DF (nth d.types i.toNat)=false:=by unfold DF;rw[aa5 e1,aa5 e2];rfl
   rw[this,e];rfl
  ·unfold DF;rw[aa7 e2,Bool.or_true]
  ·unfold DF;rw[aa7 e1,Bool.true_or]
 ·rw[aa9 (by omega)] at ho
  exact ho.1 rfl
noncomputable def SF(κ:Kp):Env:=(NK κ).ak 176 4 (aO 0 Nf Ea Cz)
theorem eDl(κ:Kp):aB (SF κ):=(eIe κ).ak (YW κ) (lDc κ)
theorem mDl(κ:Kp):aj (SF κ):=(YW κ).ak aG
theorem yDc(κ:Kp)(d:RM)(K:AV->List Dn.Obj->Prop):(a8 (SF κ) 12 176 [Xo d] [] K)=(
 letI z1:=K (AV.bool false) []
 letI z2:=d.names.length
 letI z3:=Pg.toProgram (Env.P (NK κ))
 aD (!isName d.rel) z1 (aD ((↑z2:Int)==(0:Int)) z1 (aD (decide ((↑z2:Int)>(8:Int))) z1 (aD ((↑(d.types.length):Int) != (↑z2:Int)) z1 (af z3 176 4
 =af z3 176 4/\∃(e0:RM×Int),sp 58 [(1,AV.ptr 0 0 [] 0),(31,AV.ad 9 d.names),(32,AV.int (↑z2:Int)),(33,AV.int 0)] [Obj.box 61 (AV.agg [AV.str
 d.rel,AV.ad 9 d.names,AV.ad 3 d.types,AV.bool d.i,AV.bool d.o,AV.int d.line])]=sp 58 [(1,AV.ptr 0 0 [] 0),(31,AV.ad 9 e0.1.names),(32,AV.int
 (↑(e0.1.names.length):Int)),(33,AV.int e0.2)] [Obj.box 61 (AV.agg [AV.str e0.1.rel,AV.ad 9 e0.1.names,AV.ad 3 e0.1.types,AV.bool e0.1.i,AV.bool e0.1.o,
 AV.int e0.1.line])]/\(e0.1.types.length=e0.1.names.length/\e0.1.names.length<=8/\(0:Int)<=e0.2/\e0.2<=(↑(e0.1.names.length):Int))/\aD (z6
 (List.drop e0.2.toNat e0.1.names) (List.drop e0.2.toNat e0.1.types)) (K (AV.bool true) []) z1))))):=by kernel_rfl
def XV:List AV->Option (Bool×AV)
 |[.agg [.lit (.string rel), .ad 9 ns, .ad 3 ts, .lit (.bool _), .lit (.bool _), .lit (.int .i64 _)]]=>some (true, .bool (Cc rel ns ts))
 |_=>none
theorem pDc(κ:Kp):cU (SF κ) 12 176 XV:=by
 intro args x hh
 unfold XV at hh
 split at hh
 ·rename_i rel ns ts bi bo line
  simp only[aa4,ab0,true_and] at hh
  subst hh
  refine⟨_,rfl,rfl,?_⟩
  refine Eq.mpr (yDc κ ⟨rel,ns,ts,bi,bo,line⟩ _) ?_
  unfold Cc
  simp only[ah,aa1,aa3,Bool.not_eq_true',ab3,beq_iff_eq,beq_eq_false_iff_ne,bne_iff_ne,bne_eq_false_iff_eq]
  refine⟨fun e=>nJ (by rw[e];rfl),fun e=>⟨fun e2=>nJ ?_,fun e2=>⟨fun e3=>nJ ?_,fun e3=>⟨fun e4=>nJ ?_,fun e4=>⟨trivial,(⟨rel,ns,ts,bi,bo,line⟩,0),rfl,⟨by simp only;omega,by simp only;omega,by simp only;omega,by simp only;omega⟩,?_⟩⟩⟩⟩⟩
  ·rw[aa7 (show ns.length=0 by omega)];simp
  ·rw[aa5 (show ¬ ns.length<=8 by omega)];simp
  ·rw[aa5 (show ¬ ts.length=ns.length by omega)];simp
  ·rw[e,aa5 (show ¬ ns.length=0 by omega),aa7 (show ns.length<=8 by omega),aa7 (show ts.length=ns.length by omega)]
   simp only[ab8,ab1,Bool.not_false,ac0]
   exact⟨fun e5=>nJ e5.symm,fun e5=>nJ e5.symm⟩
 ·cases hh
noncomputable def Nv(κ:Kp):Env:=(SF κ).aH 176 XV
theorem eDc(κ:Kp):aB (Nv κ):=(eDl κ).aH (mDl κ) (pDc κ)
theorem Zk(κ:Kp):aj (Nv κ):=(mDl κ).aH
theorem WD(κ:Kp)(ds rs:List AV)(i:Int)(I:Nat->S->Prop)(n:Nat)(K:Exit->S->Prop):(vc (Nv κ) 12 95 none 1 (af (Pr κ).toProgram 95 2) (sp 19 [(0, .ad 61 ds),(1, .bL 175 []),(7, .int ds.length),(8, .int i)] [.box 25 (.agg [.ad 61 ds, .ad 66 rs])]) (bK (Nv κ) 95 2 1 I n K))=(
 letI z1:=AV.agg [AV.ad 61 ds,AV.ad 66 rs]
 letI z2:=nth ds i.toNat
 letI z3:=i<(↑(ds.length):Int)
 aD (decide z3) (aX (decide ((0:Int)<=i)&&decide z3) (aD (!Cc (toStr (ae z2 0)) (ai (ae z2 1)) (ai (ae z2 2))) (K Exit.ret (sp 19 [(4,AV.int i)] [Obj.box
 25 z1])) (∃(e0:Nat),e0<n/\I e0 (sp 19 [(0,AV.ad 61 ds),(1,AV.bL 175 []),(7,AV.int (↑(ds.length):Int)),(8,AV.int (IntKind.wrap IntKind.i64 (i+
 (1:Int))))] [Obj.box 25 z1])))) (K (Exit.exit 0) (sp 19 [] [Obj.box 25 z1]))):=by kernel_rfl
abbrev Lf:Nat:=95
abbrev Sl:Nat:=194
abbrev IY(ds rs:List AV):Dn.Obj:= .box 25 (.agg [.ad 61 ds, .ad 66 rs])
abbrev Nu:=List AV×List AV×Int
abbrev P2(a:Nu):S:=sp 19 [(0, .ad 61 a.1),(1, .bL 175 []),(7, .int a.1.length),(8, .int a.2.2)] [IY a.1 a.2.1]
def F7(a:Nu):Prop:=a.1.length<=aR/\0<=a.2.2/\a.2.2<=a.1.length
def zj(a:Nu):Out (Exit×S):= .aD ((a.1.drop a.2.2.toNat).all uJ) (.one (.exit 0,sp 19 [] [IY a.1 a.2.1])) (.all (fun j:Int=>0<=j) fun j=> .one (.ret,sp 19 [(4, .int j)] [IY a.1 a.2.1]))
theorem Xx(κ:Kp):bj (Nv κ) 12 Lf 2 (aO 1 P2 F7 zj):=by
 refine aK (fun a=>a.1.length - a.2.2.toNat) ?_
 rintro⟨ds,rs,i⟩ K ⟨h1,h2,h3⟩ ho
 simp only at h1 h2 h3
 rw[show(Nv κ).P=Pr κ from rfl]
 refine Eq.mpr (WD κ ds rs i _ _ K) ?_
 simp only[aR] at h1
 simp only[zj,Out.run,ah] at ho
 simp only[ah,aq,aa1,aa3,aa2,Bool.not_eq_true',ab3]
 refine⟨fun hi=>⟨⟨h2,hi⟩,?_⟩,fun hi=>?_⟩
 ·have hk:i.toNat<ds.length:=by omega
  rw[ab2 hk,←bf ds i.toNat hk,List.all_cons] at ho
  refine⟨fun e=>ho.2 (by rw[show uJ (nth ds i.toNat)=false from e];rfl) i h2,fun e=>?_⟩
  rw[show uJ (nth ds i.toNat)=true from e,ac0] at ho
  rw[aW (n:=i+1) (by omega) (by omega)]
  refine⟨_,?_,(ds,rs,i+1),rfl,⟨by simpa[aR] using h1,by simp only;omega,by simp only;omega⟩,rfl,?_⟩
  ·simp only;omega
  ·simp only[zj,Out.run,ah,show(i+1).toNat=i.toNat+1 by omega]
   exact ho
 ·rw[aa9 (by omega)] at ho
  exact ho.1 rfl
noncomputable def uY(κ:Kp):Env:=(Nv κ).ak Lf 2 (aO 1 P2 F7 zj)
theorem Xs(κ:Kp):aB (uY κ):=(eDc κ).ak (Zk κ) (Xx κ)
theorem SL(κ:Kp):aj (uY κ):=(Zk κ).ak aG
theorem Wm(κ:Kp)(ds rs:List AV)(i:Int)(I:Nat->S->Prop)(n:Nat)(K:Exit->S->Prop):(vc (uY κ) 12 194 none 1 (af (Pr κ).toProgram 194 2) (sp 19 [(0, .ad 66 rs),(1, .bL 177 []),(7, .int rs.length),(8, .int i)] [.box 25 (.agg [.ad 61 ds, .ad 66 rs])]) (bK (uY κ) 194 2 1 I n K))=(
 letI z1:=AV.agg [AV.ad 61 ds,AV.ad 66 rs]
 letI z2:=nth rs i.toNat
 letI z3:=i<(↑(rs.length):Int)
 aD (decide z3) (aX (decide ((0:Int)<=i)&&decide z3) (aX (decide (List.length (ai (ae (ae z2 0) 1))<=9223372036854775807)&&decide (List.length (ai (ae z2 1))<=9223372036854775807)) (aD (!aM {head:={rel:=toStr (ae (ae z2 0) 0),l:=aa (ai (ae (ae z2 0) 1))},body:=dg (ai (ae z2 1))}) (K Exit.ret (sp 19 [(4,AV.int i)] [Obj.box 25 z1])) (∃(e0:Nat),e0<n/\I e0 (sp 19 [(0,AV.ad 66 rs),(1,AV.bL 177 []),(7,AV.int (↑(rs.length):Int)),(8,AV.int (IntKind.wrap IntKind.i64 (i+(1:Int))))] [Obj.box 25 z1]))))) (K (Exit.exit 0) (sp 19 [] [Obj.box 25 z1]))):=by kernel_rfl
def iw(a:AV):Bool:=decide ((ai (ae (ae a 0) 1)).length<=aR)&&decide ((ai (ae a 1)).length<=aR)
def lK(a:AV):Bool:=aM (tB a)
abbrev PD(a:Nu):S:=sp 19 [(0, .ad 66 a.2.1),(1, .bL 177 []),(7, .int a.2.1.length),(8, .int a.2.2)] [IY a.1 a.2.1]
def Hb(a:Nu):Prop:=a.2.1.length<=aR/\0<=a.2.2/\a.2.2<=a.2.1.length/\a.2.1.all iw=true
def Aa(a:Nu):Out (Exit×S):= .aD ((a.2.1.drop a.2.2.toNat).all lK) (.one (.exit 0,sp 19 [] [IY a.1 a.2.1])) (.all (fun j:Int=>0<=j) fun j=> .one (.ret,sp 19 [(4, .int j)] [IY a.1 a.2.1]))
theorem M6{rs:List AV}(h:rs.all iw=true){k:Nat}(hk:k<rs.length):(ai (ae (ae (nth rs k) 0) 1)).length<=aR/\(ai (ae (nth rs k) 1)).length<=aR:=by
 have:=List.all_eq_true.1 h (nth rs k) (by rw[bf _ _ hk];exact List.getElem_mem hk)
 simpa[iw] using this
theorem W3(κ:Kp):bj (uY κ) 12 Sl 2 (aO 1 PD Hb Aa):=by
 refine aK (fun a=>a.2.1.length - a.2.2.toNat) ?_
 rintro⟨ds,rs,i⟩ K ⟨h1,h2,h3,h4⟩ ho
 simp only at h1 h2 h3 h4
 rw[show(uY κ).P=Pr κ from rfl]
 refine Eq.mpr (Wm κ ds rs i _ _ K) ?_
 simp only[aR] at h1
 simp only[Aa,Out.run,ah] at ho
 simp only[ah,aq,aa1,aa3,aa2,Bool.not_eq_true',ab3]
 refine⟨fun hi=>⟨⟨h2,hi⟩,M6 h4 (by omega),?_⟩,fun hi=>?_⟩
 ·have hk:i.toNat<rs.length:=by omega
  rw[ab2 hk,←bf rs i.toNat hk,List.all_cons] at ho
  refine⟨fun e=>ho.2 (by rw[show lK (nth rs i.toNat)=false from e];rfl) i h2,fun e=>?_⟩
  rw[show lK (nth rs i.toNat)=true from e,ac0] at ho
  rw[aW (n:=i+1) (by omega) (by omega)]
  refine⟨_,?_,(ds,rs,i+1),rfl,⟨by simpa[aR] using h1,by simp only;omega,by simp only;omega,h4⟩,rfl,?_⟩
  ·simp only;omega
  ·simp only[Aa,Out.run,ah,show(i+1).toNat=i.toNat+1 by omega]
   exact ho
 ·rw[aa9 (by omega)] at ho
  exact ho.1 rfl
noncomputable def KW(κ:Kp):Env:=(uY κ).ak Sl 2 (aO 1 PD Hb Aa)
theorem Xv(κ:Kp):aB (KW κ):=(Xs κ).ak (SL κ) (W3 κ)
theorem TR(κ:Kp):aj (KW κ):=(SL κ).ak aG
theorem yRt(κ:Kp)(ds rs:List AV)(K:AV->List Dn.Obj->Prop):(a8 (KW κ) 12 109 [.agg [.ad 61 ds, .ad 66 rs]] [] K)=(
 letI z1:=∀(e0:Int),(0:Int)<=e0->K (AV.lit (Value.bool !decide (e0>=(0:Int)))) []
 letI z2:=Pg.toProgram (Env.P (uY κ))
 letI z3:=K (AV.bool false) []
 letI z4:=Pg.toProgram (Env.P (Nv κ))
 aD (decide ((↑(ds.length):Int)>(60:Int))) z3 (aD (decide ((↑(rs.length):Int)>(200:Int))) z3 (af z4 Lf 2=af z4 Lf 2/\∃(e3:Nu),sp 19 [(0,AV.ad
 61 ds),(1,AV.bL 175 []),(7,AV.int (↑(ds.length):Int)),(8,AV.int 0)] [Obj.box 25 (AV.agg [AV.ad 61 ds,AV.ad 66 rs])]=sp 19 [(0,AV.ad 61 e3.1),(1,
 AV.bL 175 []),(7,AV.int (↑(e3.1.length):Int)),(8,AV.int e3.2.2)] [Obj.box 25 (AV.agg [AV.ad 61 e3.1,AV.ad 66 e3.2.1])]/\(e3.1.length<=
 9223372036854775807/\(0:Int)<=e3.2.2/\e3.2.2<=(↑(e3.1.length):Int))/\aD (List.all (List.drop (Int.toNat e3.2.2) e3.1) uJ) (af z2 Sl 2=af z2 Sl 2/\∃
 (e1:Nu),sp 19 [(0,AV.ad 66 e3.2.1),(1,AV.bL 177 []),(7,AV.int (↑(e3.2.1.length):Int)),(8,AV.int 0)] [Obj.box 25 (AV.agg [AV.ad 61 e3.1,AV.ad 66
 e3.2.1])]=sp 19 [(0,AV.ad 66 e1.2.1),(1,AV.bL 177 []),(7,AV.int (↑(e1.2.1.length):Int)),(8,AV.int e1.2.2)] [Obj.box 25 (AV.agg [AV.ad 61 e1.1,AV.ad
 66 e1.2.1])]/\(e1.2.1.length<=9223372036854775807/\(0:Int)<=e1.2.2/\e1.2.2<=(↑(e1.2.1.length):Int)/\List.all e1.2.1 iw=true)/\aD (List.all
 (List.drop (Int.toNat e1.2.2) e1.2.1) lK) (K (AV.bool true) []) z1) (∀(e2:Int),(0:Int)<=e2->aD (!decide (e2>=(0:Int))) (af z2 Sl 2=af z2 Sl 2/\∃
 (e1:Nu),sp 19 [(0,AV.ad 66 e3.2.1),(1,AV.bL 177 []),(7,AV.int (↑(e3.2.1.length):Int)),(8,AV.int 0)] [Obj.box 25 (AV.agg [AV.ad 61 e3.1,AV.ad 66
 e3.2.1])]=sp 19 [(0,AV.ad 66 e1.2.1),(1,AV.bL 177 []),(7,AV.int (↑(e1.2.1.length):Int)),(8,AV.int e1.2.2)] [Obj.box 25 (AV.agg [AV.ad 61 e1.1,AV.ad
 66 e1.2.1])]/\(e1.2.1.length<=9223372036854775807/\(0:Int)<=e1.2.2/\e1.2.2<=(↑(e1.2.1.length):Int)/\List.all e1.2.1 iw=true)/\aD (List.all
 (List.drop (Int.toNat e1.2.2) e1.2.1) lK) (K (AV.bool true) []) z1) z3)))):=by kernel_rfl
def eW(ds rs:List AV):Bool:=decide (ds.length<=60)&&decide (rs.length<=200)&&ds.all uJ&&rs.all lK
def X5:List AV->Option (Bool×AV)
 |[.agg [.ad 61 ds, .ad 66 rs]]=>some (rs.all iw, .bool (eW ds rs))
 |_=>none
theorem pRt(κ:Kp):cU (KW κ) 12 109 X5:=by
 intro args x hh
 unfold X5 at hh
 split at hh
 ·rename_i ds rs
  simp only[aa4,ab0] at hh
  obtain⟨h1,rfl⟩:=hh
  refine⟨_,rfl,rfl,?_⟩
  refine Eq.mpr (yRt κ ds rs _) ?_
  unfold eW
  rw[ah,aa1,aa3]
  refine⟨fun e=>nJ (by rw[aa5 (show ¬ ds.length<=60 by omega)];rfl),fun e=>?_⟩
  rw[ah,aa1,aa3]
  refine⟨fun e2=>nJ (by rw[aa5 (show ¬ rs.length<=200 by omega)];simp),fun e2=>?_⟩
  rw[aa7 (show ds.length<=60 by omega),aa7 (show rs.length<=200 by omega)]
  refine⟨rfl,(ds,rs,0),rfl,⟨by simp only[aR];omega,by simp only;omega,by simp only;omega⟩,?_⟩
  simp only[ab8,ab1,ac0]
  rw[ah]
  refine⟨fun e3=>⟨trivial,(ds,rs,0),rfl,⟨by simp only[aR];omega,by simp only;omega,by simp only;omega,h1⟩,?_⟩,fun e3 y hy=>?_⟩
  ·simp only[ab8,ab1]
   rw[ah,e3]
   refine⟨fun e4=>nJ (by rw[e4];rfl),fun e4 y hy=>nJ ?_⟩
   rw[e4,aa7 (show y>=0 from hy)];rfl
  ·rw[aa7 (show y>=0 from hy)]
   exact nJ (by rw[e3];rfl)
 ·cases hh
noncomputable def NC(κ:Kp):Env:=(KW κ).aH 109 X5
theorem eRt(κ:Kp):aB (NC κ):=(Xv κ).aH (TR κ) (pRt κ)
theorem YD(κ:Kp):aj (NC κ):=(TR κ).aH
theorem xFi(κ:Kp)(ds:List AV)(s:ByteArray)(i:Int)(I:Nat->S->Prop)(n:Nat)(K:Exit->S->Prop):(vc (NC κ) 12 Lf none 1 (af (Pr κ).toProgram Lf 2) (sp 19 [(0, .ad 61 ds),(1, .bL 96 [.ptr 0 0 [] 0]),(7, .int ds.length),(8, .int i)] [.box 9 (.lit (.string s))]) (bK (NC κ) Lf 2 1 I n K))=(
 letI z1:=i<(↑(ds.length):Int)
 aD (decide z1) (aX (decide ((0:Int)<=i)&&decide z1) (aD (ByteArray.toList (toStr (ae (nth ds i.toNat) 0))==ByteArray.toList s) (K Exit.ret (sp 19 [(4,
 AV.int i)] [Obj.box 9 (AV.str s)])) (∃(e0:Nat),e0<n/\I e0 (sp 19 [(0,AV.ad 61 ds),(1,AV.bL 96 [AV.ptr 0 0 [] 0]),(7,AV.int (↑(ds.length):Int)),
 (8,AV.int (IntKind.wrap IntKind.i64 (i+(1:Int))))] [Obj.box 9 (AV.str s)])))) (K (Exit.exit 0) (sp 19 [] [Obj.box 9 (AV.str s)]))):=by kernel_rfl
def lj(s:ByteArray):List AV->Int->Int
 |[],_=> -1
 |d::l,i=>bif lU (toStr (ae d 0)) s then i else lj s l (i+1)
abbrev UC(a:List AV×ByteArray×Int):S:=sp 19 [(0, .ad 61 a.1),(1, .bL 96 [.ptr 0 0 [] 0]),(7, .int a.1.length),(8, .int a.2.2)] [.box 9 (.lit (.string a.2.1))]
def MF(a:List AV×ByteArray×Int):Prop:=a.1.length<=aR/\0<=a.2.2/\a.2.2<=a.1.length
def FN(a:List AV×ByteArray×Int):Out (Exit×S):= .aD (decide (0<=lj a.2.1 (a.1.drop a.2.2.toNat) a.2.2)) (.one (.ret,sp 19 [(4, .int (lj a.2.1 (a.1.drop a.2.2.toNat) a.2.2))] [.box 9 (.lit (.string a.2.1))])) (.one (.exit 0,sp 19 [] [.box 9 (.lit (.string a.2.1))]))
theorem lFi(κ:Kp):bj (NC κ) 12 Lf 2 (aO 1 UC MF FN):=by
 refine aK (fun a=>a.1.length - a.2.2.toNat) ?_
 rintro⟨ds,s,i⟩ K ⟨h1,h2,h3⟩ ho
 simp only at h1 h2 h3
 rw[show(NC κ).P=Pr κ from rfl]
 refine Eq.mpr (xFi κ ds s i _ _ K) ?_
 simp only[aR] at h1
 simp only[FN,Out.run,ah] at ho
 simp only[ah,aq,aa1,aa3,aa2]
 refine⟨fun hi=>⟨⟨h2,hi⟩,?_⟩,fun hi=>?_⟩
 ·have hk:i.toNat<ds.length:=by omega
  rw[ab2 hk,←bf ds i.toNat hk,lj] at ho
  refine⟨fun e=>?_,fun e=>?_⟩
  ·rw[show lU (toStr (ae (nth ds i.toNat) 0)) s=true from e,aa8] at ho
   exact ho.1 (aa7 h2)
  ·rw[show lU (toStr (ae (nth ds i.toNat) 0)) s=false from e,aa6] at ho
   rw[aW (n:=i+1) (by omega) (by omega)]
   refine⟨_,?_,(ds,s,i+1),rfl,⟨by simpa[aR] using h1,by simp only;omega,by simp only;omega⟩,rfl,?_⟩
   ·simp only;omega
   ·simp only[FN,Out.run,ah,show(i+1).toNat=i.toNat+1 by omega]
    exact ho
 ·rw[aa9 (by omega)] at ho
  exact ho.2 rfl
noncomputable def Ul(κ:Kp):Env:=(NC κ).ak Lf 2 (aO 1 UC MF FN)
theorem eFl(κ:Kp):aB (Ul κ):=(eRt κ).ak (YD κ) (lFi κ)
theorem mFl(κ:Kp):aj (Ul κ):=(YD κ).ak aG
theorem yFi(κ:Kp)(ds:List AV)(s:ByteArray)(K:AV->List Dn.Obj->Prop):(a8 (Ul κ) 12 56 [.ad 61 ds, .lit (.string s)] [] K)=(
 af (Pg.toProgram (Env.P (NC κ))) Lf 2=af (Pg.toProgram (Env.P (NC κ))) Lf 2/\∃(a:List AV×ByteArray×Int),sp 19 [(0,AV.ad 61 ds),(1,
 AV.bL 96 [AV.ptr 0 0 [] 0]),(7,AV.int (↑(ds.length):Int)),(8,AV.int 0)] [Obj.box 9 (AV.str s)]=sp 19 [(0,AV.ad 61 a.1),(1,AV.bL 96 [AV.ptr 0 0 []
 0]),(7,AV.int (↑(a.1.length):Int)),(8,AV.int a.2.2)] [Obj.box 9 (AV.str a.2.1)]/\(a.1.length<=9223372036854775807/\(0:Int)<=a.2.2/\a.2.2<=
 (↑(a.1.length):Int))/\aD (decide ((0:Int)<=lj a.2.1 (List.drop (Int.toNat a.2.2) a.1) a.2.2)) (K (AV.bh [AV.int (if(0:Int)>lj a.2.1
 (List.drop (Int.toNat a.2.2) a.1) a.2.2 then(0:Int) else lj a.2.1 (List.drop (Int.toNat a.2.2) a.1) a.2.2),AV.bool (decide (lj a.2.1 (List.drop
 (Int.toNat a.2.2) a.1) a.2.2>=(0:Int)))]) []) (K (AV.bh [AV.int 0,AV.bool false]) [])):=by kernel_rfl
def bw(s:ByteArray)(ds:List AV):Int:=bif decide (0<=lj s ds 0) then lj s ds 0 else 0
def fB(s:ByteArray)(ds:List AV):Bool:=decide (0<=lj s ds 0)
def CQ(a:List AV×ByteArray):List AV×List Dn.Obj:=([.ad 61 a.1, .lit (.string a.2)],[])
def gK(a:List AV×ByteArray):Prop:=a.1.length<=aR
def DN(a:List AV×ByteArray):Out (AV×List Dn.Obj):= .one (.bh [.int (bw a.2 a.1), .bool (fB a.2 a.1)],[])
theorem cFi(κ:Kp):bt (Ul κ) 12 56 (aL CQ gK DN):=by
 refine aZ ?_
 rintro⟨ds,s⟩ K h1 ho
 refine Eq.mpr (yFi κ ds s K) ?_
 simp only[DN,Out.run,bw,fB] at ho
 refine⟨rfl,(ds,s,0),rfl,⟨h1,by simp only;omega,by simp only;omega⟩,?_⟩
 simp only[ab8,ab1]
 rw[ah]
 refine⟨fun e=>?_,fun e=>?_⟩
 ·rw[e,aa8] at ho
  rw[aa1] at e
  rw[if_neg (by omega),aa7 (show lj s ds 0>=0 from e)]
  exact ho
 ·rw[e,aa6] at ho
  exact ho
noncomputable def Vb(κ:Kp):Env:=(Ul κ).ax 56 (aL CQ gK DN)
theorem eFi(κ:Kp):aB (Vb κ):=(eFl κ).ax (mFl κ) (cFi κ)
theorem Zi(κ:Kp):aj (Vb κ):=(mFl κ).ax aJ
structure jt where
 ds:List AV
 es:List (Value×AV)
 more:Bool
abbrev bO(a:jt):List Dn.Obj:=[.box 225 (.agg [.ad 61 a.ds, .mp 1, .bool a.more]), .map 9 3 a.es]
abbrev Ds:AV:= .ptr 0 0 [] 0
theorem yOf(κ:Kp)(a:jt)(t:AT)(K:AV->List Dn.Obj->Prop):(a8 (Vb κ) 12 259 [Ds,cy t] (bO a) K)=(
 aD (t.op==(1:Int)) (K (AV.int (toInt (dp a.es (Value.string t.s) (AV.int 0)))) (bO a)) (aD (t.op==(3:Int)) (K (AV.int 2) (bO a)) (aD (t.op==(4:Int))
 (K (AV.int 0) (bO a)) (K (AV.int 1) (bO a))))):=by kernel_rfl
def Vc(x:jt×AT):List AV×List Dn.Obj:=([Ds,cy x.2],bO x.1)
def KY(_:jt×AT):Prop:=True
def J0(x:jt×AT):Out (AV×List Dn.Obj):= .one (.int (bH getM x.2.tm x.1.es),bO x.1)
theorem cOf(κ:Kp):bt (Vb κ) 12 259 (aL Vc KY J0):=by
 refine aZ ?_
 rintro⟨a,t⟩ K _ ho
 refine Eq.mpr (yOf κ a t K) ?_
 simp only[J0,Out.run] at ho
 have e:bH getM t.tm a.es=bif decide (t.op=1) then getM a.es t.s else bif decide (t.op=3) then 2 else bif decide (t.op=4) then 0 else 1:=rfl
 rw[e] at ho
 simp only[Qi]
 cases h1:decide (t.op=1) with
 |true=>rw[h1] at ho;exact ho
 | false=>
  rw[h1] at ho
  cases h3:decide (t.op=3) with
  |true=>rw[h3] at ho;exact ho
  |false=>
   rw[h3] at ho
   cases h4:decide (t.op=4) with
   |true=>rw[h4] at ho;exact ho
   |false=>rw[h4] at ho;exact ho
noncomputable def VZ(κ:Kp):Env:=(Vb κ).ax 259 (aL Vc KY J0)
theorem ZI(κ:Kp):aB (VZ κ):=(eFi κ).ax (Zi κ) (cOf κ)
theorem Z1(κ:Kp):aj (VZ κ):=(Zi κ).ax aJ
structure pe where
 a:jt
 t:AT
 k:Int
def aP(a:jt)(t:AT)(k:Int):Bool×(List (Value×AV)×Bool):=t.tm.want getM gu k (a.es,a.more)
def dQ(a:jt)(r:List (Value×AV)×Bool):jt:=⟨a.ds,r.1,r.2⟩
def hH(b:Bool):Int:=bif b then 53 else 0
def QY(x:pe):List AV×List Dn.Obj:=([Ds,cy x.t, .int x.k],bO x.a)
def Sa(n:Nat)(x:pe):Prop:=x.t.tm.jf=n/\n<=100000
noncomputable def G7(κ:Kp)(x:pe):Out (AV×List Dn.Obj):= .one (.lit (ba κ (hH (aP x.a x.t x.k).1)),bO (dQ x.a (aP x.a x.t x.k).2))
noncomputable def LB(κ:Kp)(n:Nat):dr:=aL QY (Sa n) (G7 κ)
noncomputable def NB(κ:Kp)(r:Nat):Env:=(VZ κ).ax 258 fun args st K=>∃m,m<r/\LB κ m args st K
theorem xWt(κ:Kp)(r:Nat)(a:jt)(t:AT)(k:Int)(i:Int)(I:Nat->S->Prop)(n:Nat)(K:Exit->S->Prop):(vc (NB κ r) 12 258 none 2 (af (Pr κ).toProgram 258 2) (sp 56 [(0,Ds),(2, .int k),(4, .ptr 2 0 [] 0),(12, .ad 56 t.l),(13, .int t.l.length),(14, .int i)] (bO a++[.box 56 (cy t)])) (bK (NB κ r) 258 2 2 I n K))=(
 letI z1:=nth t.l i.toNat
 letI z2:=i<(↑(t.l.length):Int)
 aD (decide z2) (aX (decide ((0:Int)<=i)&&decide z2) (∃(e2:Nat),e2<r/\∃(e1:pe),([AV.ptr 0 0 [] 0,AV.agg [AV.int (toInt (ae z1 0)),AV.str (toStr
 (ae z1 1)),AV.int (toInt (ae z1 2)),AV.ad 56 (ai (ae z1 3))],AV.int 1],(bO a))=([AV.ptr 0 0 [] 0,cy e1.t,AV.int e1.k],(bO e1.a))/\(Tm.jf (AT.tm e1.t)
 =e2/\e2<=100000)/\aX (aC (ba κ (hH (Prod.fst (aP e1.a e1.t e1.k))))) (aD (!bM (ba κ (hH (Prod.fst (aP e1.a e1.t e1.k))))) (K Exit.ret (sp 56 [(6,AV.lit (ba
 κ (hH (Prod.fst (aP e1.a e1.t e1.k)))))] (bO (dQ e1.a (Prod.snd (aP e1.a e1.t e1.k)))))) (∃(e0:Nat),e0<n/\I e0 (sp 56 [(0,AV.ptr 0 0 [] 0),(2,AV.int
 k),(4,AV.ptr 2 0 [] 0),(12,AV.ad 56 t.l),(13,AV.int (↑(t.l.length):Int)),(14,AV.int (IntKind.wrap IntKind.i64 (i+(1:Int))))] [Obj.box 225 (AV.agg
 [AV.ad 61 (jt.ds (dQ e1.a (Prod.snd (aP e1.a e1.t e1.k)))),AV.mp 1,AV.bool (jt.more (dQ e1.a (Prod.snd (aP e1.a e1.t e1.k))))]),Dn.Obj.map 9 3 (jt.es (dQ
 e1.a (Prod.snd (aP e1.a e1.t e1.k)))),Obj.box 56 (cy t)]))))) (K (Exit.exit 0) (sp 56 [(0,AV.ptr 0 0 [] 0),(2,AV.int k),(4,AV.ptr 2 0 [] 0)] [Obj.box 225
 (AV.agg [AV.ad 61 a.ds,AV.mp 1,AV.bool a.more]),Dn.Obj.map 9 3 a.es,Obj.box 56 (cy t)]))):=by kernel_rfl
abbrev TG:=pe×Int
abbrev T8(x:TG):S:=sp 56 [(0,Ds),(2, .int x.1.k),(4, .ptr 2 0 [] 0),(12, .ad 56 x.1.t.l),(13, .int x.1.t.l.length),(14, .int x.2)] (bO x.1.a++[.box 56 (cy x.1.t)])
def LN(r:Nat)(x:TG):Prop:=x.1.t.l.length<=aR/\0<=x.2/\x.2<=x.1.t.l.length/\a6 (aa (x.1.t.l.drop x.2.toNat))<r/\a6 (aa (x.1.t.l.drop x.2.toNat))<=100000
def gi(x:TG):Bool×(List (Value×AV)×Bool):=jg getM gu (aa (x.1.t.l.drop x.2.toNat)) (x.1.a.es,x.1.a.more)
noncomputable def G5(κ:Kp)(x:TG):Out (Exit×S):= .aD (gi x).1 (.one (.ret,sp 56 [(6, .lit (ba κ 53))] (bO (dQ x.1.a (gi x).2))))
 (.one (.exit 0,sp 56 [(0,Ds),(2, .int x.1.k),(4, .ptr 2 0 [] 0)] (bO (dQ x.1.a (gi x).2)++[.box 56 (cy x.1.t)])))
theorem zb(b:Bool):decide (hH b=0)= !b:=by cases b<;>rfl
theorem lWt(κ:Kp)(r:Nat):bj (NB κ r) 12 258 2 (aO 2 T8 (LN r) (G5 κ)):=by
 refine aK (fun x=>x.1.t.l.length - x.2.toNat) ?_
 rintro⟨⟨a,t,k⟩,i⟩ K ⟨h1,h2,h3,h4,h5⟩ ho
 simp only at h1 h2 h3 h4 h5
 rw[show(NB κ r).P=Pr κ from rfl]
 refine Eq.mpr (xWt κ r a t k i _ _ K) ?_
 simp only[aR] at h1
 simp only[G5,Out.run,ah] at ho
 rw[ah,aa1,aa3]
 refine⟨fun hi=>?_,fun hi=>?_⟩
 ·have hk:i.toNat<t.l.length:=by omega
  have e:=eI t.l i.toNat hk
  have hw:gi (⟨a,t,k⟩,i)=bif (aP a (xz (nth t.l i.toNat)) 1).1 then aP a (xz (nth t.l i.toNat)) 1 else gi (⟨dQ a (aP a (xz (nth t.l i.toNat)) 1).2,t,k⟩,i+1):=by
   unfold gi aP
   simp only[show(i+1).toNat=i.toNat+1 by omega]
   rw[e,jg,oE];rfl
  rw[e,a6] at h4 h5
  rw[hw] at ho
  rw[aq,aa2,aa1,aa1]
  refine⟨⟨h2,hi⟩,(cR (nth t.l i.toNat)).jf,by omega,⟨a,xz (nth t.l i.toNat),1⟩,rfl,⟨by rw[oE],by omega⟩,?_⟩
  rw[aq]
  refine⟨cI _ _,?_⟩
  rw[jo,zb,Bool.not_not,ah]
  refine⟨fun e1=>?_,fun e1=>?_⟩
  ·simp only[e1,aa8] at ho⊢
   exact ho.1 trivial
  ·simp only[e1,aa6] at ho
   rw[aW (n:=i+1) (by omega) (by omega)]
   refine⟨_,?_,(⟨dQ a (aP a (xz (nth t.l i.toNat)) 1).2,t,k⟩,i+1),rfl,⟨by simpa[aR] using h1,by simp only;omega,by simp only;omega,?_,?_⟩,rfl,?_⟩
   ·simp only;omega
   ·simp only[show(i+1).toNat=i.toNat+1 by omega];omega
   ·simp only[show(i+1).toNat=i.toNat+1 by omega];omega
   ·simp only[G5,Out.run,ah]
    exact ho
 ·have hw:gi (⟨a,t,k⟩,i)=(false,(a.es,a.more)):=by
   unfold gi
   simp only
   rw[aa9 (by omega)];rfl
  rw[hw] at ho
  exact ho.2 rfl
noncomputable def Sv(κ:Kp)(r:Nat):Env:=(NB κ r).ak 258 2 (aO 2 T8 (LN r) (G5 κ))
theorem yWt(κ:Kp)(r:Nat)(a:jt)(t:AT)(k:Int)(K:AV->List Dn.Obj->Prop):(a8 (Sv κ r) 12 258 [Ds,cy t, .int k] (bO a) K)=(
 letI z1:=AV.lit Value.nilIface
 letI z2:=Pg.toProgram (Env.P (NB κ r))
 af z2 258 2=af z2 258 2/\∃(e1:TG),sp 56 [(0,AV.ptr 0 0 [] 0),(2,AV.int k),(4,AV.ptr 2 0 [] 0),(12,AV.ad 56 t.l),(13,AV.int (↑(t.l.length):
 Int)),(14,AV.int 0)] [Obj.box 225 (AV.agg [AV.ad 61 a.ds,AV.mp 1,AV.bool a.more]),Dn.Obj.map 9 3 a.es,Obj.box 56 (cy t)]=sp 56 [(0,AV.ptr 0 0 [] 0),
 (2,AV.int e1.1.k),(4,AV.ptr 2 0 [] 0),(12,AV.ad 56 e1.1.t.l),(13,AV.int (↑(List.length e1.1.t.l):Int)),(14,AV.int e1.2)] [Obj.box 225 (AV.agg [AV.ad
 61 e1.1.a.ds,AV.mp 1,AV.bool e1.1.a.more]),Dn.Obj.map 9 3 e1.1.a.es,Obj.box 56 (cy e1.1.t)]/\(List.length e1.1.t.l<=9223372036854775807/\(0:Int)<=e1.2
 /\e1.2<=(↑(List.length e1.1.t.l):Int)/\a6 (aa (List.drop e1.2.toNat e1.1.t.l))<r/\a6 (aa (List.drop e1.2.toNat e1.1.t.l))<=100000)/\aD (Prod.fst (gi
 e1)) (K (AV.lit (Value.iface 306 (Value.pointer (some (Po κ (53:Int)))))) (bO (dQ e1.1.a (Prod.snd (gi e1))))) (∃(e0:jt×AT),([AV.ptr 0 0 [] 0,cy
 e1.1.t],(bO (dQ e1.1.a (Prod.snd (gi e1)))))=([AV.ptr 0 0 [] 0,cy e0.2],(bO e0.1))/\True/\aD (e1.1.k==(0:Int)) (K z1 (bO e0.1)) (aD (e1.1.t.op==(4
 :Int)) (K z1 (bO e0.1)) (aD (bH getM (AT.tm e0.2) e0.1.es==(0:Int)) (K z1 [Obj.box 225 (AV.agg [AV.ad 61 e0.1.ds,AV.mp 1,AV.bool true]),Dn.Obj.map 9 3
 (eX (eX e0.1.es (Value.string e1.1.t.s) (AV.int (toInt (dp e0.1.es (Value.string e1.1.t.s) (AV.int 0))))) (Value.string e1.1.t.s) (AV.int e1.1.k))]) (aD (bH
 getM (AT.tm e0.2) e0.1.es != e1.1.k) (K (AV.lit (Value.iface 306 (Value.pointer (some (Kp.type κ))))) (bO e0.1)) (K z1 (bO e0.1))))))):=by kernel_rfl
theorem FC(s:ByteArray)(v w:AV): ∀es:List (Value×AV),eX (eX es (.string s) v) (.string s) w=eX es (.string s) w
 |[]=>by simp[eX,di]
 |(k',a')::es=>by
  rw[eX,eX]
  cases h:di (.string s) k' with
  |true=>simp[eX,di]
  |false=>simp only[aa6,eX,h,FC s v w es]
theorem H0(κ:Kp)(n:Nat):(LB κ n).ji:=aJ
theorem eYr(κ:Kp)(r:Nat)(hp: ∀args st K,(∃m,m<r/\LB κ m args st K)->cM (Pr κ) 258 args st K):aB (Sv κ r)/\aj (Sv κ r)/\(Sv κ r).P=Pr κ:=
 have h:aB (NB κ r):=(ZI κ).gZ hp
 have hm:aj (NB κ r):=(Z1 κ).ax (fun _ _ _ _ hK ⟨m,h1,h2⟩=>⟨m,h1,H0 κ m _ _ _ _ hK h2⟩)
 ⟨h.ak hm (lWt κ r),hm.ak aG,rfl⟩
theorem cWt(κ:Kp)(r:Nat):bt (Sv κ r) 12 258 (LB κ r):=by
 refine aZ ?_
 rintro⟨a,t,k⟩ K ⟨h1,h2⟩ ho
 refine Eq.mpr (yWt κ r a t k K) ?_
 simp only[G7,Out.run] at ho
 have e1:t.tm.jf=1+a6 (aa t.l):=rfl
 have hl:=fA (aa t.l)
 rw[eP] at hl
 simp only at h1
 refine⟨rfl,(⟨a,t,k⟩,0),rfl,⟨by simp only[aR];omega,by simp only;omega,by simp only;omega,by simp only[ab8,ab1];omega,by simp only[ab8,ab1];omega⟩,?_⟩
 have hw:aP a t k=bif (gi (⟨a,t,k⟩,0)).1 then gi (⟨a,t,k⟩,0) else bif decide (k=0)||decide (t.op=4) then(false,(gi (⟨a,t,k⟩,0)).2)
   else bif decide (bH getM t.tm (gi (⟨a,t,k⟩,0)).2.1=0) then(false,(gu (gi (⟨a,t,k⟩,0)).2.1 t.s k,true)) else(!decide (bH getM t.tm (gi (⟨a,t,k⟩,0)).2.1=k),(gi (⟨a,t,k⟩,0)).2):=by
  unfold aP gi
  rw[AT.tm,Tm.want];rfl
 rw[hw] at ho
 simp only[Qi,My]
 cases hd:(gi (⟨a,t,k⟩,0)).1 with
 |true=>
  rw[hd,aa8,hd] at ho
  exact ho
 | false=>
  rw[hd,aa6] at ho
  refine⟨(dQ a (gi (⟨a,t,k⟩,0)).2,t),rfl,trivial,?_⟩
  cases hk:decide (k=0) with
  |true=>rw[hk] at ho;exact ho
  | false=>
   rw[hk] at ho
   cases h4:decide (t.op=4) with
   |true=>rw[h4] at ho;exact ho
   | false=>
    rw[h4] at ho
    rw[show(false||false)=false from rfl,aa6] at ho
    have ht:bH getM t.tm (dQ a (gi (⟨a,t,k⟩,0)).2).es=bH getM t.tm (gi (⟨a,t,k⟩,0)).2.1:=rfl
    simp only[ht]
    cases h0:decide (bH getM t.tm (gi (⟨a,t,k⟩,0)).2.1=0) with
    |true=>
     rw[h0,aa8] at ho
     simp only[aD,FC]
     exact ho
    |false=>
     rw[h0,aa6] at ho
     cases hq:decide (bH getM t.tm (gi (⟨a,t,k⟩,0)).2.1=k) with
     |true=>rw[hq] at ho;exact ho
     |false=>rw[hq] at ho;exact ho
def dx(x:pe):Prop:=x.t.tm.jf<=100000
theorem qWt(κ:Kp): ∀args st K,aL QY dx (G7 κ) args st K->cM (Pr κ) 258 args st K:=by
 rintro args st K ⟨a,h1,h2,h3⟩
 exact aB.tX (LB κ) (Sv κ) (eYr κ) (cWt κ) a.t.tm.jf args st K ⟨a,h1,⟨rfl,h2⟩,h3⟩
noncomputable def OF(κ:Kp):Env:=(VZ κ).ax 258 (aL QY dx (G7 κ))
theorem eYw(κ:Kp):aB (OF κ):=(ZI κ).gZ (qWt κ)
theorem YH(κ:Kp):aj (OF κ):=(Z1 κ).ax aJ
def Rh(x:AV):Dc:=⟨toStr (ae x 0),(ai (ae x 2)).map toInt⟩
def cH(l:List AV):List Dc:=l.map Rh
theorem vG(s:ByteArray): ∀(ds:List AV) (i:Int),lj s ds i=match j5 s (cH ds) with|some k=>i+k|none=> -1
 |[],i=>rfl
 | d::ds,i=>by
  have ih:=vG s ds (i+1)
  rw[lj,ih,show cH (d::ds)=Rh d::cH ds from rfl,j5,show(Rh d).rel=toStr (ae d 0) from rfl]
  cases lU (toStr (ae d 0)) s with
  |true=>simp
  | false=>
   rw[aa6,aa6]
   cases j5 s (cH ds) with
   |none=>rfl
    |some k=>show i+1+(k:Int)=i+((k+1:Nat):Int);omega
theorem B4(s:ByteArray): ∀(ds:List Dc) (k:Nat),j5 s ds=some k->k<ds.length
 |[],_,h=>by cases h
 | d::ds,k,h=>by
  rw[j5] at h
  cases e:lU d.rel s with
  |true=>rw[e,aa8] at h;cases h;simp
  | false=>
   rw[e,aa6] at h
   cases h2:j5 s ds with
   |none=>rw[h2] at h;cases h
   |some j=>
    rw[h2] at h;cases h
    have:=B4 s ds j h2
    simp only[List.length_cons];omega
theorem xj{s:ByteArray}{ds:List AV}(h:j5 s (cH ds)=none):fB s ds=false/\bw s ds=0:=by
 have e:=vG s ds 0
 rw[h] at e
 unfold fB bw
 rw[e];exact⟨rfl,rfl⟩
theorem rj{s:ByteArray}{ds:List AV}{k:Nat}(h:j5 s (cH ds)=some k):fB s ds=true/\bw s ds=k/\k<ds.length:=by
 have e:=vG s ds 0
 rw[h] at e
 simp only[Int.zero_add] at e
 have h1:=B4 s _ k h
 unfold fB bw
 rw[e,aa7 (show(0:Int)<=k by omega)]
 exact⟨rfl,rfl,by simpa[cH] using h1⟩
def mf(ds:List AV)(i:Int):List Int:=(ai (ae (nth ds i.toNat) 2)).map toInt
theorem C7{s:ByteArray}{ds:List AV}{k:Nat}(h:j5 s (cH ds)=some k):cF (cH ds) s=mf ds k:=by
 obtain⟨_,_,h2⟩:=rj h
 unfold cF mf
 rw[h,Int.toNat_natCast,bf _ _ h2]
 simp only[cH]
 rw[List.getD_eq_getElem?_getD,List.getElem?_map,ab7 h2]
 rfl
theorem HT(ds:List AV)(rel:ByteArray)(l:List AV):known (cH ds) ⟨rel,aa l⟩=bif fB rel ds then(bif decide ((mf ds (bw rel ds)).length=l.length) then 0 else 52) else 51:=by
 unfold known
 simp only
 cases h:j5 rel (cH ds) with
 |none=>rw[(xj h).1];rfl
 |some k=>
  obtain⟨h1,h2,_⟩:=rj h
  rw[h1,h2,C7 h,eP];rfl
theorem O6{ds:List AV}{i:Int}{k:Nat}(h:k<(mf ds i).length):(mf ds i).drop k=toInt (nth (ai (ae (nth ds i.toNat) 2)) k)::(mf ds i).drop (k+1):=by
 rw[ab2 h]
 have h':k<(ai (ae (nth ds i.toNat) 2)).length:=by simpa[mf] using h
 rw[bf _ _ h']
 simp[mf]
structure Sh where
 a:jt
 fi:Int
 l:List AV
 k:Int
abbrev RZ(x:Sh):S:=sp 65 [(0,Ds),(5, .int x.fi),(40, .ad 56 x.l),(41, .int x.l.length),(42, .int x.k)] (bO x.a)
theorem xAt(κ:Kp)(x:Sh)(I:Nat->S->Prop)(n:Nat)(K:Exit->S->Prop):(vc (OF κ) 12 227 none 2 (af (Pr κ).toProgram 227 7) (RZ x) (bK (OF κ) 227 7 2 I n K))=(
 letI z1:=nth x.l x.k.toNat
 letI z2:=ai (ae (nth x.a.ds x.fi.toNat) 2)
 letI z3:=x.k<(↑(x.l.length):Int)
 aD (decide z3) (aX (decide ((0:Int)<=x.k)&&decide z3) (aX (decide ((0:Int)<=x.fi)&&decide (x.fi<(↑(List.length x.a.ds):Int))) (aX (decide ((0:
 Int)<=x.k)&&decide (x.k<(↑(List.length z2):Int))) (∃(e1:pe),([AV.ptr 0 0 [] 0,AV.agg [AV.int (toInt (ae z1 0)),AV.str (toStr (ae z1 1)),AV.int
 (toInt (ae z1 2)),AV.ad 56 (ai (ae z1 3))],AV.int (toInt (nth z2 x.k.toNat))],(bO x.a))=([AV.ptr 0 0 [] 0,cy e1.t,AV.int e1.k],(bO e1.a))/\dx e1/\aX
 (aC (ba κ (hH (Prod.fst (aP e1.a e1.t e1.k))))) (aD (!bM (ba κ (hH (Prod.fst (aP e1.a e1.t e1.k))))) (K Exit.ret (sp 65 [(4,AV.lit (ba κ (hH (Prod.fst (aP e1.a
 e1.t e1.k)))))] (bO (dQ e1.a (Prod.snd (aP e1.a e1.t e1.k)))))) (∃(e0:Nat),e0<n/\I e0 (sp 65 [(0,AV.ptr 0 0 [] 0),(5,AV.int x.fi),(40,AV.ad 56 x.l),
 (41,AV.int (↑(x.l.length):Int)),(42,AV.int (IntKind.wrap IntKind.i64 (x.k+(1:Int))))] (bO (dQ e1.a (Prod.snd (aP e1.a e1.t e1.k))))))))))) (K
 (Exit.exit 1) (sp 65 [] (bO x.a)))):=by kernel_rfl
def jx(x:Sh):Bool×(List (Value×AV)×Bool):=iI getM gu ((mf x.a.ds x.fi).drop x.k.toNat) (aa (x.l.drop x.k.toNat)) (x.a.es,x.a.more)
def Lv(x:Sh):Prop:=0<=x.fi/\x.fi<x.a.ds.length/\(mf x.a.ds x.fi).length=x.l.length/\x.l.length<=aR/\0<=x.k/\x.k<=x.l.length/\a6 (aa (x.l.drop x.k.toNat))<=100000
noncomputable def GV(κ:Kp)(x:Sh):Out (Exit×S):= .aD (jx x).1 (.one (.ret,sp 65 [(4, .lit (ba κ 53))] (bO (dQ x.a (jx x).2)))) (.one (.exit 1,sp 65 [] (bO (dQ x.a (jx x).2))))
theorem lAt(κ:Kp):bj (OF κ) 12 227 7 (aO 2 RZ Lv (GV κ)):=by
 refine aK (fun x=>x.l.length - x.k.toNat) ?_
 rintro⟨a,fi,l,k⟩ K ⟨h1,h2,h3,h4,h5,h6,h7⟩ ho
 simp only at h1 h2 h3 h4 h5 h6 h7
 rw[show(OF κ).P=Pr κ from rfl]
 refine Eq.mpr (xAt κ ⟨a,fi,l,k⟩ _ _ K) ?_
 simp only[aR] at h4
 simp only[GV,Out.run,ah] at ho
 have hwl:(ai (ae (nth a.ds fi.toNat) 2)).length=(mf a.ds fi).length:=by simp[mf]
 rw[ah,aa1,aa3]
 refine⟨fun hi=>?_,fun hi=>?_⟩
 ·simp only at hi
  have hk:k.toNat<l.length:=by omega
  have e:=eI l k.toNat hk
  have ew:=O6 (ds:=a.ds) (i:=fi) (k:=k.toNat) (by omega)
  have hw:jx ⟨a,fi,l,k⟩=bif (aP a (xz (nth l k.toNat)) (toInt (nth (ai (ae (nth a.ds fi.toNat) 2)) k.toNat))).1 then aP a (xz (nth l k.toNat)) (toInt (nth (ai (ae (nth a.ds fi.toNat) 2)) k.toNat)) else jx ⟨dQ a (aP a (xz (nth l k.toNat)) (toInt (nth (ai (ae (nth a.ds fi.toNat) 2)) k.toNat))).2,fi,l,k+1⟩:=by
   unfold jx aP
   simp only[show(k+1).toNat=k.toNat+1 by omega]
   rw[e,ew,iI,oE];rfl
  rw[e,a6] at h7
  rw[hw] at ho
  simp only[aq,aa2,aa1,hwl]
  refine⟨⟨h5,hi⟩,⟨h1,h2⟩,⟨h5,by omega⟩,⟨a,xz (nth l k.toNat),toInt (nth (ai (ae (nth a.ds fi.toNat) 2)) k.toNat)⟩,rfl,by show(xz (nth l k.toNat)).tm.jf<=100000;rw[oE];omega,cI _ _,?_⟩
  rw[jo,zb,Bool.not_not,ah]
  refine⟨fun e1=>?_,fun e1=>?_⟩
  ·simp only[e1,aa8] at ho⊢
   exact ho.1 trivial
  ·simp only[e1,aa6] at ho
   rw[aW (n:=k+1) (by omega) (by omega)]
   refine⟨_,?_,⟨dQ a (aP a (xz (nth l k.toNat)) (toInt (nth (ai (ae (nth a.ds fi.toNat) 2)) k.toNat))).2,fi,l,k+1⟩,rfl,⟨h1,h2,h3,by simpa[aR] using h4,by simp only;omega,by simp only;omega,?_⟩,rfl,?_⟩
   ·simp only;omega
   ·simp only[show(k+1).toNat=k.toNat+1 by omega];omega
   ·simp only[GV,Out.run,ah]
    exact ho
 ·simp only at hi
  have hw:jx ⟨a,fi,l,k⟩=(false,(a.es,a.more)):=by
   unfold jx
   simp only
   rw[aa9 (show l.length<=k.toNat by omega),aa9 (show(mf a.ds fi).length<=k.toNat by omega)];rfl
  rw[hw] at ho
  exact ho.2 rfl
noncomputable def VK(κ:Kp):Env:=(OF κ).ak 227 7 (aO 2 RZ Lv (GV κ))
theorem eYl(κ:Kp):aB (VK κ):=(eYw κ).ak (YH κ) (lAt κ)
theorem ZQ(κ:Kp):aj (VK κ):=(YH κ).ak aG
theorem yAt(κ:Kp)(a:jt)(rel:ByteArray)(l:List AV)(K:AV->List Dn.Obj->Prop):(a8 (VK κ) 12 227 [Ds, .agg [.lit (.string rel), .ad 56 l]] (bO a) K)=(
 letI z1:=Pg.toProgram (Env.P (OF κ))
 ∃(e1:List AV×ByteArray),([AV.ad 61 a.ds,AV.str rel],aI)=([AV.ad 61 e1.1,AV.str e1.2],aI)/\gK e1/\aD (!fB e1.2 e1.1) (K (AV.lit (Value.iface 306
 (Value.pointer (some (Kp.fK κ))))) (bO a)) (aX (decide ((0:Int)<=bw e1.2 e1.1)&&decide (bw e1.2 e1.1<(↑(a.ds.length):Int))) (aD ((↑(List.length (ai (ae
 (nth a.ds (Int.toNat (bw e1.2 e1.1))) 2))):Int) != (↑(l.length):Int)) (K (AV.lit (Value.iface 306 (Value.pointer (some (Kp.arity κ))))) (bO a)) (af z1 227 7
 =af z1 227 7/\∃(e0:Sh),sp 65 [(0,AV.ptr 0 0 [] 0),(5,AV.int (bw e1.2 e1.1)),(40,AV.ad 56 l),(41,AV.int (↑(l.length):Int)),(42,AV.int 0)] (bO a)
 =sp 65 [(0,AV.ptr 0 0 [] 0),(5,AV.int e0.fi),(40,AV.ad 56 e0.l),(41,AV.int (↑(e0.l.length):Int)),(42,AV.int e0.k)] (bO e0.a)/\((0:Int)<=e0.fi/\
 e0.fi<(↑(List.length e0.a.ds):Int)/\List.length (mf e0.a.ds e0.fi)=e0.l.length/\e0.l.length<=9223372036854775807/\(0:Int)<=e0.k/\e0.k<=
 (↑(e0.l.length):Int)/\a6 (aa (List.drop e0.k.toNat e0.l))<=100000)/\aD (Prod.fst (jx e0)) (K (AV.lit (Value.iface 306 (Value.pointer (some (Po κ (53:
 Int)))))) (bO (dQ e0.a (Prod.snd (jx e0))))) (K (AV.lit Value.nilIface) (bO (dQ e0.a (Prod.snd (jx e0))))))))):=by kernel_rfl
def dF(a:jt)(rel:ByteArray)(l:List AV):Int×(List (Value×AV)×Bool):=eh getM gu (cH a.ds) ⟨rel,aa l⟩ (a.es,a.more)
abbrev Q7:=jt×ByteArray×List AV
def Tv(x:Q7):List AV×List Dn.Obj:=([Ds, .agg [.lit (.string x.2.1), .ad 56 x.2.2]],bO x.1)
def LF(x:Q7):Prop:=x.1.ds.length<=aR/\a6 (aa x.2.2)<=100000
noncomputable def MK(κ:Kp)(x:Q7):Out (AV×List Dn.Obj):= .one (.lit (ba κ (dF x.1 x.2.1 x.2.2).1),bO (dQ x.1 (dF x.1 x.2.1 x.2.2).2))
theorem cAc(κ:Kp):bt (VK κ) 12 227 (aL Tv LF (MK κ)):=by
 refine aZ ?_
 rintro⟨a,rel,l⟩ K ⟨h1,h2⟩ ho
 simp only at h1 h2
 refine Eq.mpr (yAt κ a rel l K) ?_
 simp only[MK,Out.run,dF,eh,HT] at ho
 have hl:=fA (aa l)
 rw[eP] at hl
 refine⟨(a.ds,rel),rfl,h1,?_⟩
 cases hf:j5 rel (cH a.ds) with
 |none=>
  rw[(xj hf).1] at ho
  simp only[(xj hf).1]
  exact ho
 | some k=>
  obtain⟨e1,e2,e3⟩:=rj hf
  rw[e1,e2,C7 hf] at ho
  have hwl:(ai (ae (nth a.ds (Int.toNat (k:Int))) 2)).length=(mf a.ds k).length:=by simp[mf]
  simp only[e1,e2,hwl,My]
  refine aq.2 ⟨by simp;omega,?_⟩
  cases hq:decide ((mf a.ds k).length=l.length) with
  |false=>
   rw[hq] at ho
   rw[aa3] at hq
   rw[aa5 (show ¬ (((mf a.ds k).length:Int)=(l.length:Int)) by omega)]
   exact ho
  | true=>
   rw[hq] at ho
   rw[aa1] at hq
   rw[aa7 (show(((mf a.ds k).length:Int)=(l.length:Int)) by omega)]
   refine⟨trivial,⟨a,k,l,0⟩,rfl,⟨by simp only;omega,by simp only;omega,hq,by simp only[aR];omega,by simp only;omega,by simp only;omega,by simp only[ab8,ab1];exact h2⟩,?_⟩
   have hd:jx ⟨a,k,l,0⟩=iI getM gu (mf a.ds k) (aa l) (a.es,a.more):=by
    unfold jx;simp only[ab8,ab1]
   rw[hd]
   simp only[aa8,decide_true] at ho
   rw[ah]
   refine⟨fun e=>by rw[e] at ho;exact ho,fun e=>by rw[e] at ho;exact ho⟩
noncomputable def TQ(κ:Kp):Env:=(VK κ).ax 227 (aL Tv LF (MK κ))
theorem eYa(κ:Kp):aB (TQ κ):=(eYl κ).ax (ZQ κ) (cAc κ)
theorem ZE(κ:Kp):aj (TQ κ):=(ZQ κ).ax aJ
theorem yLi(κ:Kp)(a:jt)(op:Int)(rel:ByteArray)(l:List AV)(u v:AT)(K:AV->List Dn.Obj->Prop):(a8 (TQ κ) 12 228 [Ds, .agg [.int op, .agg [.lit (.string rel), .ad 56 l],cy u,cy v]] (bO a) K)=(
 letI z1:=∃(e3:jt×AT),([AV.ptr 0 0 [] 0,cy u],(bO a))=([AV.ptr 0 0 [] 0,cy e3.2],(bO e3.1))/\True/\∃(e2:jt×AT),([AV.ptr 0 0 [] 0,cy v],
  (bO e3.1))=([AV.ptr 0 0 [] 0,cy e2.2],(bO e2.1))/\True/\∃(e1:pe),([AV.ptr 0 0 [] 0,cy u,AV.int (if bH getM (AT.tm e2.2) e2.1.es>bH getM (AT.tm
  e3.2) e3.1.es then bH getM (AT.tm e2.2) e2.1.es else bH getM (AT.tm e3.2) e3.1.es)],(bO e2.1))=([AV.ptr 0 0 [] 0,cy e1.t,AV.int e1.k],(bO e1.a))/\dx e1/\
  aX (aC (ba κ (hH (Prod.fst (aP e1.a e1.t e1.k))))) (aD (!bM (ba κ (hH (Prod.fst (aP e1.a e1.t e1.k))))) (K (AV.lit (ba κ (hH (Prod.fst (aP e1.a e1.t e1.k)))))
  (bO (dQ e1.a (Prod.snd (aP e1.a e1.t e1.k))))) (∃(e0:pe),([AV.ptr 0 0 [] 0,cy v,AV.int (if bH getM (AT.tm e2.2) e2.1.es>bH getM (AT.tm e3.2) e3.1.es
  then bH getM (AT.tm e2.2) e2.1.es else bH getM (AT.tm e3.2) e3.1.es)],(bO (dQ e1.a (Prod.snd (aP e1.a e1.t e1.k)))))=([AV.ptr 0 0 [] 0,cy e0.t,AV.int
  e0.k],(bO e0.a))/\dx e0/\K (AV.lit (ba κ (hH (Prod.fst (aP e0.a e0.t e0.k))))) (bO (dQ e0.a (Prod.snd (aP e0.a e0.t e0.k))))))
 letI z2:=∃(e0:Q7),([AV.ptr 0 0 [] 0,AV.agg [AV.str rel,AV.ad 56 l]],(bO a))=([AV.ptr 0 0 [] 0,AV.agg [AV.str e0.2.1,AV.ad 56 e0.2.2]],(bO e0.1))/\
  (e0.1.ds.length<=9223372036854775807/\a6 (aa e0.2.2)<=100000)/\K (AV.lit (ba κ (Prod.fst (dF e0.1 e0.2.1 e0.2.2)))) (bO (dQ e0.1 (Prod.snd (dF e0.1 e0.2.1
  e0.2.2))))
 letI z3:=z1/\z1/\z1
 aD (op==(3:Int)) z3 (aD (op==(4:Int)) z3 (aD (op==(5:Int)) z3 (aD (op==(6:Int)) z3 (aD (op==(1:Int)) z2 (aD (op==(2:Int)) z2 (∃(e2:
 Q7),([AV.ptr 0 0 [] 0,AV.agg [AV.str rel,AV.ad 56 l]],(bO a))=([AV.ptr 0 0 [] 0,AV.agg [AV.str e2.2.1,AV.ad 56 e2.2.2]],(bO e2.1))/\(e2.1.ds.length<=
 9223372036854775807/\a6 (aa e2.2.2)<=100000)/\aX (aC (ba κ (Prod.fst (dF e2.1 e2.2.1 e2.2.2)))) (aD (!bM (ba κ (Prod.fst (dF e2.1 e2.2.1 e2.2.2)))) (K
 (AV.lit (ba κ (Prod.fst (dF e2.1 e2.2.1 e2.2.2)))) (bO (dQ e2.1 (Prod.snd (dF e2.1 e2.2.1 e2.2.2))))) (∃(e1:pe),([AV.ptr 0 0 [] 0,cy u,AV.int 1],(bO (dQ
 e2.1 (Prod.snd (dF e2.1 e2.2.1 e2.2.2)))))=([AV.ptr 0 0 [] 0,cy e1.t,AV.int e1.k],(bO e1.a))/\dx e1/\aX (aC (ba κ (hH (Prod.fst (aP e1.a e1.t e1.k)))))
 (aD (!bM (ba κ (hH (Prod.fst (aP e1.a e1.t e1.k))))) (K (AV.lit (ba κ (hH (Prod.fst (aP e1.a e1.t e1.k))))) (bO (dQ e1.a (Prod.snd (aP e1.a e1.t e1.k))))) (aD
 (op==(7:Int)) (K (AV.lit (ba κ (hH (Prod.fst (aP e1.a e1.t e1.k))))) (bO (dQ e1.a (Prod.snd (aP e1.a e1.t e1.k))))) (∃(e0:pe),([AV.ptr 0 0 [] 0,cy v,
 AV.int 1],(bO (dQ e1.a (Prod.snd (aP e1.a e1.t e1.k)))))=([AV.ptr 0 0 [] 0,cy e0.t,AV.int e0.k],(bO e0.a))/\dx e0/\K (AV.lit (ba κ (hH (Prod.fst (aP
 e0.a e0.t e0.k))))) (bO (dQ e0.a (Prod.snd (aP e0.a e0.t e0.k)))))))))))))))):=by kernel_rfl
structure G4 where
 a:jt
 op:Int
 rel:ByteArray
 l:List AV
 u:AT
 v:AT
def G4.lt(x:G4):Lt:=⟨x.op,⟨x.rel,aa x.l⟩,x.u.tm,x.v.tm⟩
def b7(x:G4):Int×(List (Value×AV)×Bool):=kk getM gu (cH x.a.ds) x.lt (x.a.es,x.a.more)
def TW(x:G4):List AV×List Dn.Obj:=([Ds, .agg [.int x.op, .agg [.lit (.string x.rel), .ad 56 x.l],cy x.u,cy x.v]],bO x.a)
def JL(x:G4):Prop:=x.a.ds.length<=aR/\iQ x.lt<=100000
noncomputable def Pj(κ:Kp)(x:G4):Out (AV×List Dn.Obj):= .one (.lit (ba κ (b7 x).1),bO (dQ x.a (b7 x).2))
def kd(a:jt)(u v:AT):Int:=if bH getM v.tm a.es>bH getM u.tm a.es then bH getM v.tm a.es else bH getM u.tm a.es
theorem UJ(x:G4):kz getM x.lt x.a.es=kd x.a x.u x.v:=by
 unfold kz kd
 show(bif decide (bH getM x.v.tm x.a.es>bH getM x.u.tm x.a.es) then _ else _)=_
 by_cases h:bH getM x.v.tm x.a.es>bH getM x.u.tm x.a.es
 ·rw[aa7 h,if_pos h];rfl
 ·rw[aa5 h,if_neg h];rfl
theorem zY(κ:Kp)(b:Bool):(!bM (ba κ (hH b)))=b:=by rw[jo,zb,Bool.not_not]
theorem cLi(κ:Kp):bt (TQ κ) 12 228 (aL TW JL (Pj κ)):=by
 refine aZ ?_
 rintro⟨a,op,rel,l,u,v⟩ K ⟨h1,h2⟩ ho
 simp only at h1
 refine Eq.mpr (yLi κ a op rel l u v K) ?_
 have ho:K (.lit (ba κ (b7 ⟨a,op,rel,l,u,v⟩).1)) (bO (dQ a (b7 ⟨a,op,rel,l,u,v⟩).2)):=ho
 have h2:a6 [u.tm,v.tm]+a6 (aa l)<=100000:=h2
 simp only[a6] at h2
 have hu:dx ⟨a,u,kd a u v⟩:=by show u.tm.jf<=100000;omega
 have hv:dx ⟨dQ a (aP a u (kd a u v)).2,v,kd a u v⟩:=by show v.tm.jf<=100000;omega
 have both:gf op=true->b7 ⟨a,op,rel,l,u,v⟩=lb (aP a u (kd a u v)) (v.tm.want getM gu (kd a u v)):=fun hc=>by
  unfold b7 kk
  rw[UJ ⟨a,op,rel,l,u,v⟩,show(G4.lt ⟨a,op,rel,l,u,v⟩).op=op from rfl,hc];rfl
 have c1:gf op=true->(!bM (ba κ (hH (aP a u (kd a u v)).1)))=true->K (.lit (ba κ (hH (aP a u (kd a u v)).1))) (bO (dQ a (aP a u (kd a u v)).2)):=fun hc q=>by
  rw[zY] at q
  rw[both hc] at ho
  unfold lb at ho
  rw[q] at ho⊢
  exact ho
 have c2:gf op=true->(!bM (ba κ (hH (aP a u (kd a u v)).1)))=false->K (.lit (ba κ (hH (aP (dQ a (aP a u (kd a u v)).2) v (kd a u v)).1))) (bO (dQ (dQ a (aP a u (kd a u v)).2) (aP (dQ a (aP a u (kd a u v)).2) v (kd a u v)).2)):=fun hc q=>by
  rw[zY] at q
  rw[both hc] at ho
  unfold lb at ho
  rw[q] at ho
  exact ho
 have hat: ∀b:jt,b=a->(b.ds.length<=9223372036854775807/\a6 (aa l)<=100000):=fun b hb=>by subst hb;exact⟨h1,by omega⟩
 have nc:gf op=false->(decide (op=1)||decide (op=2))=true->b7 ⟨a,op,rel,l,u,v⟩=dF a rel l:=fun hc h12=>by
  unfold b7 kk
  rw[show(G4.lt ⟨a,op,rel,l,u,v⟩).op=op from rfl,hc,h12];rfl
 refine ah.2 ⟨fun e=>by
   have hc:gf op=true:=(by rw[show op=3 from eq_of_beq e];rfl)
   exact⟨⟨(a,u),rfl,trivial,(a,v),rfl,trivial,⟨a,u,_⟩,rfl,hu,aq.2 ⟨cI _ _,ah.2 ⟨fun q=>c1 hc q,fun q=>⟨⟨_,v,_⟩,rfl,hv,c2 hc q⟩⟩⟩⟩,
    ⟨(a,u),rfl,trivial,(a,v),rfl,trivial,⟨a,u,_⟩,rfl,hu,aq.2 ⟨cI _ _,ah.2 ⟨fun q=>c1 hc q,fun q=>⟨⟨_,v,_⟩,rfl,hv,c2 hc q⟩⟩⟩⟩,
    ⟨(a,u),rfl,trivial,(a,v),rfl,trivial,⟨a,u,_⟩,rfl,hu,aq.2 ⟨cI _ _,ah.2 ⟨fun q=>c1 hc q,fun q=>⟨⟨_,v,_⟩,rfl,hv,c2 hc q⟩⟩⟩⟩⟩,fun e3=>ah.2 ⟨fun e=>by
   have hc:gf op=true:=(by rw[show op=4 from eq_of_beq e];rfl)
   exact⟨⟨(a,u),rfl,trivial,(a,v),rfl,trivial,⟨a,u,_⟩,rfl,hu,aq.2 ⟨cI _ _,ah.2 ⟨fun q=>c1 hc q,fun q=>⟨⟨_,v,_⟩,rfl,hv,c2 hc q⟩⟩⟩⟩,
    ⟨(a,u),rfl,trivial,(a,v),rfl,trivial,⟨a,u,_⟩,rfl,hu,aq.2 ⟨cI _ _,ah.2 ⟨fun q=>c1 hc q,fun q=>⟨⟨_,v,_⟩,rfl,hv,c2 hc q⟩⟩⟩⟩,
    ⟨(a,u),rfl,trivial,(a,v),rfl,trivial,⟨a,u,_⟩,rfl,hu,aq.2 ⟨cI _ _,ah.2 ⟨fun q=>c1 hc q,fun q=>⟨⟨_,v,_⟩,rfl,hv,c2 hc q⟩⟩⟩⟩⟩,fun e4=>ah.2 ⟨fun e=>by
   have hc:gf op=true:=(by rw[show op=5 from eq_of_beq e];rfl)
   exact⟨⟨(a,u),rfl,trivial,(a,v),rfl,trivial,⟨a,u,_⟩,rfl,hu,aq.2 ⟨cI _ _,ah.2 ⟨fun q=>c1 hc q,fun q=>⟨⟨_,v,_⟩,rfl,hv,c2 hc q⟩⟩⟩⟩,
    ⟨(a,u),rfl,trivial,(a,v),rfl,trivial,⟨a,u,_⟩,rfl,hu,aq.2 ⟨cI _ _,ah.2 ⟨fun q=>c1 hc q,fun q=>⟨⟨_,v,_⟩,rfl,hv,c2 hc q⟩⟩⟩⟩,
    ⟨(a,u),rfl,trivial,(a,v),rfl,trivial,⟨a,u,_⟩,rfl,hu,aq.2 ⟨cI _ _,ah.2 ⟨fun q=>c1 hc q,fun q=>⟨⟨_,v,_⟩,rfl,hv,c2 hc q⟩⟩⟩⟩⟩,fun e5=>ah.2 ⟨fun e=>by
   have hc:gf op=true:=(by rw[show op=6 from eq_of_beq e];rfl)
   exact⟨⟨(a,u),rfl,trivial,(a,v),rfl,trivial,⟨a,u,_⟩,rfl,hu,aq.2 ⟨cI _ _,ah.2 ⟨fun q=>c1 hc q,fun q=>⟨⟨_,v,_⟩,rfl,hv,c2 hc q⟩⟩⟩⟩,
    ⟨(a,u),rfl,trivial,(a,v),rfl,trivial,⟨a,u,_⟩,rfl,hu,aq.2 ⟨cI _ _,ah.2 ⟨fun q=>c1 hc q,fun q=>⟨⟨_,v,_⟩,rfl,hv,c2 hc q⟩⟩⟩⟩,
    ⟨(a,u),rfl,trivial,(a,v),rfl,trivial,⟨a,u,_⟩,rfl,hu,aq.2 ⟨cI _ _,ah.2 ⟨fun q=>c1 hc q,fun q=>⟨⟨_,v,_⟩,rfl,hv,c2 hc q⟩⟩⟩⟩⟩,fun e6=>?_⟩⟩⟩⟩
 simp only[beq_eq_false_iff_ne] at e3 e4 e5 e6
 have hc:gf op=false:=by
  unfold gf
  rw[Bool.and_eq_false_iff,aa3,aa3];omega
 refine ah.2 ⟨fun e=>⟨(a,rel,l),rfl,hat a rfl,?_⟩,fun e1=>ah.2 ⟨fun e=>⟨(a,rel,l),rfl,hat a rfl,?_⟩,fun e2=>?_⟩⟩
 ·rw[nc hc (by rw[show op=1 by simpa using e];rfl)] at ho;exact ho
 ·rw[nc hc (by rw[show op=2 by simpa using e];rfl)] at ho;exact ho
 simp only[beq_eq_false_iff_ne] at e1 e2
 have hL:b7 ⟨a,op,rel,l,u,v⟩=bif !decide ((dF a rel l).1=0) then dF a rel l
   else bif decide (op=7) then(hH (aP (dQ a (dF a rel l).2) u 1).1,(aP (dQ a (dF a rel l).2) u 1).2)
   else lb (aP (dQ a (dF a rel l).2) u 1) (v.tm.want getM gu 1):=by
  unfold b7 kk
  rw[show(G4.lt ⟨a,op,rel,l,u,v⟩).op=op from rfl,hc,aa5 e1,aa5 e2];rfl
 rw[hL] at ho
 refine⟨(a,rel,l),rfl,hat a rfl,aq.2 ⟨cI _ _,?_⟩⟩
 rw[jo]
 refine ah.2 ⟨fun q=>?_,fun q=>?_⟩
 ·rw[q] at ho;exact ho
 ·rw[q,aa6] at ho
  refine⟨⟨dQ a (dF a rel l).2,u,1⟩,rfl,by show u.tm.jf<=100000;omega,aq.2 ⟨cI _ _,?_⟩⟩
  rw[zY]
  refine ah.2 ⟨fun q1=>?_,fun q1=>ah.2 ⟨fun q7=>?_,fun q7=>⟨⟨dQ (dQ a (dF a rel l).2) (aP (dQ a (dF a rel l).2) u 1).2,v,1⟩,rfl,by show v.tm.jf<=100000;omega,?_⟩⟩⟩
  ·have q1:(aP (dQ a (dF a rel l).2) u 1).1=true:=q1
   unfold lb at ho
   rw[q1] at ho
   simp only[q1]
   cases h7:decide (op=7)<;>rw[h7] at ho<;>exact ho
  ·rw[show decide (op=7)=true by simpa using q7] at ho
   exact ho
  ·have q1:(aP (dQ a (dF a rel l).2) u 1).1=false:=q1
   rw[show decide (op=7)=false by simpa using q7,aa6] at ho
   unfold lb at ho
   rw[q1] at ho
   exact ho
noncomputable def TK(κ:Kp):Env:=(TQ κ).ax 228 (aL TW JL (Pj κ))
theorem eYt(κ:Kp):aB (TK κ):=(eYa κ).ax (ZE κ) (cLi κ)
theorem mYt(κ:Kp):aj (TK κ):=(ZE κ).ax aJ
theorem yCo(κ:Kp)(v:Value)(K:AV->List Dn.Obj->Prop):(a8 (TK κ) 12 179 [.lit v] [] K)=(
 letI z1:=Value.iface 306 (Value.pointer (some (Kp.arity κ)))
 letI z2:=Value.iface 306 (Value.pointer (some (Kp.type κ)))
 letI z3:=Value.iface 306 (Value.pointer (some (Kp.fK κ)))
 aX (kD κ v&&lI κ z3) (aD (gB v z3) (K (AV.int 51) []) (aX (kD κ v&&lI κ z1) (aD (gB v z1) (K (AV.int 52) []) (aX (kD κ v&&lI κ z2) (aD (gB v z2) (K
 (AV.int 53) []) (K (AV.int 0) []))))))):=by kernel_rfl
noncomputable def OH(κ:Kp)(v:Value):Int:=bif gB v (ba κ 51) then 51 else bif gB v (ba κ 52) then 52 else bif gB v (ba κ 53) then 53 else 0
theorem KU(κ:Kp){e:Int}(h:jv e):OH κ (ba κ e)=e:=by
 unfold OH
 rw[iv κ h (.inr (.inl rfl)),iv κ h (.inr (.inr (.inl rfl))),iv κ h (.inr (.inr (.inr rfl)))]
 rcases h with rfl|rfl|rfl|rfl<;>rfl
noncomputable def Wr(κ:Kp):List AV->Option (Bool×AV)
 |[.lit v]=>some (kD κ v, .int (OH κ v))
 |_=>none
theorem pCo(κ:Kp):cU (TK κ) 12 179 (Wr κ):=by
 intro args x hh
 unfold Wr at hh
 split at hh
 ·simp only[aa4,ab0] at hh
  obtain⟨h1,rfl⟩:=hh
  refine⟨_,rfl,rfl,?_⟩
  obtain⟨e,he,rfl⟩:=(uB _ _).1 h1
  refine Eq.mpr (yCo κ _ _) ?_
  rw[KU κ he]
  have k1: ∀k,wo k->(kD κ (ba κ e)&&lI κ (ba κ k))=true:=fun k hk=>by rw[zJ κ he,yX κ hk];rfl
  have n51:Value.iface 306 (.pointer (some κ.fK))=ba κ 51:=rfl
  have n52:Value.iface 306 (.pointer (some κ.arity))=ba κ 52:=rfl
  have n53:Value.iface 306 (.pointer (some κ.type))=ba κ 53:=rfl
  rw[n51,n52,n53,k1 _ (.inl rfl),k1 _ (.inr (.inl rfl)),k1 _ (.inr (.inr rfl)),iv κ he (.inr (.inl rfl)),iv κ he (.inr (.inr (.inl rfl))),iv κ he (.inr (.inr (.inr rfl)))]
  rcases he with rfl|rfl|rfl|rfl<;>rfl
 ·cases hh
noncomputable def NR(κ:Kp):Env:=(TK κ).aH 179 (Wr κ)
theorem eYc(κ:Kp):aB (NR κ):=(eYt κ).aH (mYt κ) (pCo κ)
theorem Z9(κ:Kp):aj (NR κ):=(mYt κ).aH
structure Sr where
 a:jt
 w:Int
 bl:List AV
 i:Int
noncomputable abbrev NS(κ:Kp)(x:Sr):S:=sp 52 [(0,Ds),(5, .lit (ba κ x.w)),(14, .ad 72 x.bl),(15, .int x.bl.length),(16, .int x.i)] (bO x.a)
theorem xPa(κ:Kp)(x:Sr)(I:Nat->S->Prop)(n:Nat)(K:Exit->S->Prop):(vc (NR κ) 12 178 none 2 (af (Pr κ).toProgram 178 3) (NS κ x) (bK (NR κ) 178 3 2 I n K))=(
 letI z1:=Value.iface 306 (Value.pointer (some (Kp.arity κ)))
 letI z2:=Value.iface 306 (Value.pointer (some (Kp.fK κ)))
 letI z3:=nth x.bl x.i.toNat
 letI z4:=IntKind.wrap IntKind.i64 (x.i+(1:Int))
 letI z5:=x.bl.length
 letI z6:=Value.iface 306 (Value.pointer (some (Kp.type κ)))
 letI z7:=kD κ (ba κ x.w)&&lI κ z2
 letI z8:=kD κ (ba κ x.w)&&lI κ z1
 aD (decide (x.i<(↑z5:Int))) (aX (decide ((0:Int)<=x.i)&&decide (x.i<(↑z5:Int))) (∃(e1:G4),([AV.ptr 0 0 [] 0,AV.agg [AV.int (toInt (ae z3 0)),
 AV.agg [AV.str (toStr (ae (ae z3 1) 0)),AV.ad 56 (ai (ae (ae z3 1) 1))],AV.agg [AV.int (toInt (ae (ae z3 2) 0)),AV.str (toStr (ae (ae z3 2) 1)),AV.int
 (toInt (ae (ae z3 2) 2)),AV.ad 56 (ai (ae (ae z3 2) 3))],AV.agg [AV.int (toInt (ae (ae z3 3) 0)),AV.str (toStr (ae (ae z3 3) 1)),AV.int (toInt (ae (ae z3 3)
 2)),AV.ad 56 (ai (ae (ae z3 3) 3))]]],(bO x.a))=([AV.ptr 0 0 [] 0,AV.agg [AV.int e1.op,AV.agg [AV.str e1.rel,AV.ad 56 e1.l],AV.agg [AV.int e1.u.op,
 AV.str e1.u.s,AV.int e1.u.n,AV.ad 56 e1.u.l],AV.agg [AV.int e1.v.op,AV.str e1.v.s,AV.int e1.v.n,AV.ad 56 e1.v.l]]],(bO e1.a))/\(List.length e1.a.ds<=
 9223372036854775807/\iQ (G4.lt e1)<=100000)/\aX (aC (ba κ x.w)) (aD (bM (ba κ x.w)) (aX (kD κ (ba κ (Prod.fst (b7 e1)))&&lI κ z2) (aD (gB (ba κ (Prod.fst
 (b7 e1))) z2) (K Exit.ret (sp 52 [(4,AV.lit (ba κ (Prod.fst (b7 e1))))] (bO (dQ e1.a (Prod.snd (b7 e1)))))) (aX (kD κ (ba κ (Prod.fst (b7 e1)))&&lI κ z1) (aD
 (gB (ba κ (Prod.fst (b7 e1))) z1) (K Exit.ret (sp 52 [(4,AV.lit (ba κ (Prod.fst (b7 e1))))] (bO (dQ e1.a (Prod.snd (b7 e1)))))) (∃(e0:Nat),e0<n/\I e0
 (sp 52 [(0,AV.ptr 0 0 [] 0),(5,AV.lit (ba κ (Prod.fst (b7 e1)))),(14,AV.ad 72 x.bl),(15,AV.int (↑z5:Int)),(16,AV.int z4)] (bO (dQ e1.a (Prod.snd (b7
 e1)))))))))) (aX (kD κ (ba κ x.w)&&lI κ z6) (aD (gB (ba κ x.w) z6) (aX (kD κ (ba κ (Prod.fst (b7 e1)))&&lI κ z2) (aD (gB (ba κ (Prod.fst (b7 e1))) z2) (aX
 (kD κ (ba κ (Prod.fst (b7 e1)))&&lI κ z2) (aD (gB (ba κ (Prod.fst (b7 e1))) z2) (K Exit.ret (sp 52 [(4,AV.lit (ba κ (Prod.fst (b7 e1))))] (bO (dQ e1.a
 (Prod.snd (b7 e1)))))) (aX (kD κ (ba κ (Prod.fst (b7 e1)))&&lI κ z1) (aD (gB (ba κ (Prod.fst (b7 e1))) z1) (K Exit.ret (sp 52 [(4,AV.lit (ba κ (Prod.fst (b7
 e1))))] (bO (dQ e1.a (Prod.snd (b7 e1)))))) (∃(e0:Nat),e0<n/\I e0 (sp 52 [(0,AV.ptr 0 0 [] 0),(5,AV.lit (ba κ (Prod.fst (b7 e1)))),(14,AV.ad 72
 x.bl),(15,AV.int (↑z5:Int)),(16,AV.int z4)] (bO (dQ e1.a (Prod.snd (b7 e1)))))))))) (aX (kD κ (ba κ (Prod.fst (b7 e1)))&&lI κ z1) (aD (gB (ba κ
 (Prod.fst (b7 e1))) z1) (aX (kD κ (ba κ (Prod.fst (b7 e1)))&&lI κ z2) (aD (gB (ba κ (Prod.fst (b7 e1))) z2) (K Exit.ret (sp 52 [(4,AV.lit (ba κ (Prod.fst (b7
 e1))))] (bO (dQ e1.a (Prod.snd (b7 e1)))))) (aX (kD κ (ba κ (Prod.fst (b7 e1)))&&lI κ z1) (aD (gB (ba κ (Prod.fst (b7 e1))) z1) (K Exit.ret (sp 52 [(4,AV.lit
 (ba κ (Prod.fst (b7 e1))))] (bO (dQ e1.a (Prod.snd (b7 e1)))))) (∃(e0:Nat),e0<n/\I e0 (sp 52 [(0,AV.ptr 0 0 [] 0),(5,AV.lit (ba κ (Prod.fst (b7
 e1)))),(14,AV.ad 72 x.bl),(15,AV.int (↑z5:Int)),(16,AV.int z4)] (bO (dQ e1.a (Prod.snd (b7 e1)))))))))) (aX z7 (aD (gB (ba κ x.w) z2) (K Exit.ret (sp 52
 [(4,AV.lit (ba κ x.w))] (bO (dQ e1.a (Prod.snd (b7 e1)))))) (aX z8 (aD (gB (ba κ x.w) z1) (K Exit.ret (sp 52 [(4,AV.lit (ba κ x.w))] (bO (dQ e1.a (Prod.snd
 (b7 e1)))))) (∃(e0:Nat),e0<n/\I e0 (sp 52 [(0,AV.ptr 0 0 [] 0),(5,AV.lit (ba κ x.w)),(14,AV.ad 72 x.bl),(15,AV.int (↑z5:Int)),(16,AV.int z4)]
 (bO (dQ e1.a (Prod.snd (b7 e1)))))))))))))) (aX z7 (aD (gB (ba κ x.w) z2) (K Exit.ret (sp 52 [(4,AV.lit (ba κ x.w))] (bO (dQ e1.a (Prod.snd (b7 e1)))))) (aX z8
 (aD (gB (ba κ x.w) z1) (K Exit.ret (sp 52 [(4,AV.lit (ba κ x.w))] (bO (dQ e1.a (Prod.snd (b7 e1)))))) (∃(e0:Nat),e0<n/\I e0 (sp 52 [(0,AV.ptr 0 0 []
 0),(5,AV.lit (ba κ x.w)),(14,AV.ad 72 x.bl),(15,AV.int (↑z5:Int)),(16,AV.int z4)] (bO (dQ e1.a (Prod.snd (b7 e1))))))))))))))) (K (Exit.exit 0) (sp 52
 [(5,AV.lit (ba κ x.w))] (bO x.a)))):=by kernel_rfl
def iP(a:jt)(x:AV):G4:=⟨a,toInt (ae x 0),toStr (ae (ae x 1) 0),ai (ae (ae x 1) 1),xz (ae x 2),xz (ae x 3)⟩
theorem BX(a:jt)(x:AV):(iP a x).lt=cK x:=by
 unfold G4.lt iP
 simp only[oE]
 rfl
theorem qp{σ:Type}{get:σ->ByteArray->Int}{set:σ->ByteArray->Int->σ}(ds:List Dc)(l:Lt)(x:σ×Bool):jv (kk get set ds l x).1:=by
 have hk: ∀e,(e=0\/e=51\/e=52)->jv e:=fun e h=>by
  rcases h with rfl|rfl|rfl
  ·exact .inl rfl
  ·exact .inr (.inl rfl)
  ·exact .inr (.inr (.inl rfl))
 have h53:jv 53:= .inr (.inr (.inr rfl))
 have hb: ∀{y:Bool×(σ×Bool)} {f:σ×Bool->Bool×(σ×Bool)},jv (lb y f).1:=fun{y f}=>by
  rcases sz (y:=y) (f:=f) with e|e<;>rw[e]
  ·exact .inl rfl
  ·exact h53
 have ha:jv (eh get set ds l.a x).1:=by
  unfold eh
  cases decide (known ds l.a=0) with
  |false=>exact hk _ (mi ds l.a)
  |true=>
   rw[aa8]
   cases(iI get set (cF ds l.a.rel) l.a.l x).1
   ·exact .inl rfl
   ·exact h53
 unfold kk
 cases gf l.op with
 |true=>exact hb
 | false=>
  rw[aa6]
  cases decide (l.op=1)||decide (l.op=2) with
  |true=>exact ha
  | false=>
   rw[aa6]
   cases decide ((eh get set ds l.a x).1=0) with
   |false=>exact ha
   | true=>
    rw[Bool.not_true,aa6]
    cases decide (l.op=7) with
    |true=>
     rw[aa8]
     cases(l.x.want get set 1 (eh get set ds l.a x).2).1
     ·exact .inl rfl
     ·exact h53
    |false=>exact hb
theorem tp{σ:Type}{get:σ->ByteArray->Int}{set:σ->ByteArray->Int->σ}(ds:List Dc)(a:At)(x:σ×Bool):jv (eh get set ds a x).1:=by
 have h:=qp (get:=get) (set:=set) ds ⟨1,a, .mk 0 ByteArray.empty 0 [], .mk 0 ByteArray.empty 0 []⟩ x
 exact h
theorem tg{w e:Int}(hw:jv w)(he:jv e):jv (ia w e):=by
 unfold ia
 cases(decide (w=0)||decide (w=53)&&tH e)
 ·exact hw
 ·exact he
theorem sX{σ:Type}{get:σ->ByteArray->Int}{set:σ->ByteArray->Int->σ}(ds:List Dc): ∀(b:List Lt) (y:Int×(σ×Bool)),jv y.1->jv (j7 get set ds b y).1
 |[],_,h=>h
 |l::b,y,h=>by
  rw[j7]
  have:=tg h (qp (get:=get) (set:=set) ds l y.2)
  cases tH (ia y.1 (kk get set ds l y.2).1) with
  |true=>exact this
  |false=>exact sX ds b _ this
def kG(x:Sr):Int×(List (Value×AV)×Bool):=j7 getM gu (cH x.a.ds) (dg (x.bl.drop x.i.toNat)) (x.w,(x.a.es,x.a.more))
def Fa(x:Sr):Prop:=x.a.ds.length<=aR/\jv x.w/\x.bl.length<=100000/\(∀l,l∈x.bl->iQ (cK l)<=100000)/\0<=x.i/\x.i<=x.bl.length
noncomputable def KK(κ:Kp)(x:Sr):Out (Exit×S):= .all (fun _:Bool=>True) fun b=> .aD b (.one (.ret,sp 52 [(4, .lit (ba κ (kG x).1))] (bO (dQ x.a (kG x).2)))) (.one (.exit 0,sp 52 [(5, .lit (ba κ (kG x).1))] (bO (dQ x.a (kG x).2))))
theorem lPa(κ:Kp):bj (NR κ) 12 178 3 (aO 2 (NS κ) Fa (KK κ)):=by
 refine aK (fun x=>x.bl.length - x.i.toNat) ?_
 rintro⟨a,w,bl,i⟩ K ⟨h1,h2,h3,h4,h5,h6⟩ ho
 simp only at h1 h2 h3 h4 h5 h6
 rw[show(NR κ).P=Pr κ from rfl]
 refine Eq.mpr (xPa κ ⟨a,w,bl,i⟩ _ _ K) ?_
 have ho1:=ho true trivial
 have ho2:=ho false trivial
 simp only[Out.run,aD] at ho1 ho2
 rw[ah,aa1,aa3]
 refine⟨fun hi=>?_,fun hi=>?_⟩
 ·simp only at hi
  have hk:i.toNat<bl.length:=by omega
  have hb:kG ⟨a,w,bl,i⟩=bif tH (ia w (b7 (iP a (nth bl i.toNat))).1) then(ia w (b7 (iP a (nth bl i.toNat))).1,(b7 (iP a (nth bl i.toNat))).2) else kG ⟨dQ a (b7 (iP a (nth bl i.toNat))).2,ia w (b7 (iP a (nth bl i.toNat))).1,bl,i+1⟩:=by
   unfold kG b7
   simp only[show(i+1).toNat=i.toNat+1 by omega]
   rw[nE bl i.toNat hk,j7,BX];rfl
  have he:jv (b7 (iP a (nth bl i.toNat))).1:=qp _ _ _
  have hlc:iQ (cK (nth bl i.toNat))<=100000:=h4 _ (by rw[bf _ _ hk];exact List.getElem_mem hk)
  have R:tH (ia w (b7 (iP a (nth bl i.toNat))).1)=true->K .ret (sp 52 [(4, .lit (ba κ (ia w (b7 (iP a (nth bl i.toNat))).1)))] (bO (dQ a (b7 (iP a (nth bl i.toNat))).2))):=fun e=>by
   rw[hb,e,aa8] at ho1
   exact ho1
  have N:tH (ia w (b7 (iP a (nth bl i.toNat))).1)=false->∃m,m<bl.length - i.toNat/\fq (NS κ) Fa (KK κ) (fun x=>x.bl.length - x.i.toNat) K m (sp 52 [(0,Ds),(5, .lit (ba κ (ia w (b7 (iP a (nth bl i.toNat))).1))),(14, .ad 72 bl),(15, .int bl.length),(16, .int (IntKind.wrap .i64 (i+1)))] (bO (dQ a (b7 (iP a (nth bl i.toNat))).2))):=fun e=>by
   rw[hb,e,aa6] at ho1 ho2
   rw[aW (n:=i+1) (by omega) (by omega)]
   refine⟨_,?_,⟨dQ a (b7 (iP a (nth bl i.toNat))).2,ia w (b7 (iP a (nth bl i.toNat))).1,bl,i+1⟩,rfl,⟨h1,tg h2 he,h3,h4,by simp only;omega,by simp only;omega⟩,rfl,?_⟩
   ·simp only;omega
   ·intro b _
    cases b
    ·exact ho2
    ·exact ho1
  refine aq.2 ⟨by simp;omega,iP a (nth bl i.toNat),rfl,⟨h1,by rw[BX];exact hlc⟩,?_⟩
  have n51:Value.iface 306 (.pointer (some κ.fK))=ba κ 51:=rfl
  have n52:Value.iface 306 (.pointer (some κ.arity))=ba κ 52:=rfl
  have n53:Value.iface 306 (.pointer (some κ.type))=ba κ 53:=rfl
  have ta:(iP a (nth bl i.toNat)).a=a:=rfl
  simp only[n51,n52,n53,ta,cI,jo]
  revert R N he
  generalize b7 (iP a (nth bl i.toNat))=y
  intro he R N
  simp only[zJ κ he,zJ κ h2,yX κ (show wo 51 from .inl rfl),yX κ (show wo 52 from .inr (.inl rfl)),yX κ (show wo 53 from .inr (.inr rfl)),iv κ he (show jv 51 from .inr (.inl rfl)),iv κ he (show jv 52 from .inr (.inr (.inl rfl))),iv κ h2 (show jv 51 from .inr (.inl rfl)),iv κ h2 (show jv 52 from .inr (.inr (.inl rfl))),iv κ h2 (show jv 53 from .inr (.inr (.inr rfl)))]
  obtain⟨e,y2⟩:=y
  simp only at he R N⊢
  rcases h2 with rfl|rfl|rfl|rfl<;>rcases he with rfl|rfl|rfl|rfl<;>first|exact R rfl|exact N rfl
 ·simp only at hi
  have hb:kG ⟨a,w,bl,i⟩=(w,(a.es,a.more)):=by
   unfold kG
   simp only
   rw[aa9 (by omega)];rfl
  rw[hb] at ho2
  exact ho2
noncomputable def Tp(κ:Kp):Env:=(NR κ).ak 178 3 (aO 2 (NS κ) Fa (KK κ))
theorem eYq(κ:Kp):aB (Tp κ):=(eYc κ).ak (Z9 κ) (lPa κ)
theorem YO(κ:Kp):aj (Tp κ):=(Z9 κ).ak aG
theorem yPa(κ:Kp)(a:jt)(r:cm)(K:AV->List Dn.Obj->Prop):(a8 (Tp κ) 12 178 [Ds,ar r] (bO a) K)=(
 letI z1:=Pg.toProgram (Env.P (NR κ))
 ∃(e2:Q7),([AV.ptr 0 0 [] 0,AV.agg [AV.str r.rel,AV.ad 56 r.hl]],(bO a))=([AV.ptr 0 0 [] 0,AV.agg [AV.str e2.2.1,AV.ad 56 e2.2.2]],(bO e2.1))/\
 (e2.1.ds.length<=9223372036854775807/\a6 (aa e2.2.2)<=100000)/\af z1 178 3=af z1 178 3/\∃(e1:Sr),sp 52 [(0,AV.ptr 0 0 [] 0),(5,AV.lit (ba κ
 (Prod.fst (dF e2.1 e2.2.1 e2.2.2)))),(14,AV.ad 72 r.bl),(15,AV.int (↑(r.bl.length):Int)),(16,AV.int 0)] (bO (dQ e2.1 (Prod.snd (dF e2.1 e2.2.1
 e2.2.2))))=sp 52 [(0,AV.ptr 0 0 [] 0),(5,AV.lit (ba κ e1.w)),(14,AV.ad 72 e1.bl),(15,AV.int (↑(e1.bl.length):Int)),(16,AV.int e1.i)] (bO e1.a)/\
 (List.length e1.a.ds<=9223372036854775807/\(e1.w=(0:Int)\/e1.w=(51:Int)\/e1.w=(52:Int)\/e1.w=(53:Int))/\e1.bl.length<=100000/\(∀(e0:
 AV),List.Mem e0 e1.bl->iQ (cK e0)<=100000)/\(0:Int)<=e1.i/\e1.i<=(↑(e1.bl.length):Int))/\∀(e0:Bool),True->aD e0 (K (AV.lit (ba κ (Prod.fst (kG
 e1)))) (bO (dQ e1.a (Prod.snd (kG e1))))) (K (AV.lit (ba κ (Prod.fst (kG e1)))) (bO (dQ e1.a (Prod.snd (kG e1)))))):=by kernel_rfl
abbrev To:=jt×cm
def lB(x:To):Int×(List (Value×AV)×Bool):=j7 getM gu (cH x.1.ds) (dg x.2.bl) (eh getM gu (cH x.1.ds) ⟨x.2.rel,aa x.2.hl⟩ (x.1.es,x.1.more))
def Un(x:To):List AV×List Dn.Obj:=([Ds,ar x.2],bO x.1)
def JO(x:To):Prop:=x.1.ds.length<=aR/\dd x.2
noncomputable def PJ(κ:Kp)(x:To):Out (AV×List Dn.Obj):= .one (.lit (ba κ (lB x).1),bO (dQ x.1 (lB x).2))
theorem cPs(κ:Kp):bt (Tp κ) 12 178 (aL Un JO (PJ κ)):=by
 refine aZ ?_
 rintro⟨a,r⟩ K ⟨h1,h2⟩ ho
 simp only at h1 h2
 refine Eq.mpr (yPa κ a r K) ?_
 have hlit: ∀l,l∈r.bl->iQ (cK l)<=100000:=fun l hl=>by
  obtain⟨k,hk,e⟩:=List.getElem_of_mem hl
  have:=kE h2 hk
  rwa [bf _ _ hk,e] at this
 have hs:lB (a,r)=kG ⟨dQ a (dF a r.rel r.hl).2,(dF a r.rel r.hl).1,r.bl,0⟩:=by
  unfold lB kG dF
  simp only[ab8,ab1];rfl
 have ho:K (.lit (ba κ (lB (a,r)).1)) (bO (dQ a (lB (a,r)).2)):=ho
 rw[hs] at ho
 refine⟨(a,r.rel,r.hl),rfl,⟨h1,o5 h2⟩,rfl,⟨dQ a (dF a r.rel r.hl).2,(dF a r.rel r.hl).1,r.bl,0⟩,rfl,⟨h1,tp _ _ _,h2.2,hlit,by simp only;omega,by simp only;omega⟩,fun b _=>?_⟩
 cases b<;>exact ho
noncomputable def Of(κ:Kp):Env:=(Tp κ).ax 178 (aL Un JO (PJ κ))
theorem eYs(κ:Kp):aB (Of κ):=(eYq κ).ax (YO κ) (cPs κ)
theorem Y5(κ:Kp):aj (Of κ):=(YO κ).ax aJ
end Go.Proofs.YthaiinlfnommnaaGreatDoor
namespace Go.Rl
open Go Go.Dn
section
variable {σ:Type} {get:σ->ByteArray->Int} {set:σ->ByteArray->Int->σ}
variable (hgs: ∀st s k t,get (set st s k) t=bif t==s then k else get st t)
include hgs
theorem so(ds:List Dc){r:Rl}(hr:aM r=true)(V:List ByteArray)(hV: ∀s,s∈ft r->s∈V)(st:σ)(h0:(fk get set ds r st).1=0)(hm:(fk get set ds r st).2.2=true):lQ get V (fk get set ds r st).2.1<lQ get V st:=by
 have hk:jT ds r=0:=by
  cases e:decide (jT ds r=0) with
  |true=>simpa using e
  |false=>
   rw[aa3] at e
   rw[Cm ds r st e] at h0;exact h0
 simp only[aM,aa2,List.all_eq_true] at hr
 have e1:=KI (get:=get) (set:=set) ds (r:=r) (ue hr.1.1.1) (fun l hl=>Qz (hr.2 l hl)) hk st h0
 rw[e1] at hm⊢
 exact x7 (D2 hgs ds r st) V ((EV hgs ds r st hm).left (Ext.refl _ _) hV)
theorem om(ds:List Dc){r:Rl}(hr:aM r=true)(V:List ByteArray)(hV: ∀s,s∈ft r->s∈V): ∀(n m:Nat) (st:σ),lQ get V st<n->lQ get V st<m->fO get set ds r n st=fO get set ds r m st
 |0,_,_,h,_=>by omega
 |_+1,0,_,_,h=>by omega
 | n+1,m+1,st,h1,h2=>by
  rw[fO,fO]
  cases h0:decide ((fk get set ds r st).1=0) with
  |false=>rfl
  | true=>
   rw[aa8,aa8]
   cases hm:(fk get set ds r st).2.2 with
   |false=>rfl
   |true=>
    rw[aa8,aa8]
    have:=so hgs ds hr V hV st (by simpa using h0) hm
    exact om ds hr V hV n m _ (by omega) (by omega)
end
end Go.Rl
namespace Go.Proofs.YthaiinlfnommnaaGreatDoor
open Go Go.Dn Go.Rl Go.Proofs
attribute [local irreducible] a8 vc
set_option maxRecDepth 20000
structure pU where
 ds:List AV
 r:cm
 es:List (Value×AV)
 more:Bool
abbrev Oc(x:pU):S:=sp 60 [(3, .ptr 0 0 [] 0),(6, .ptr 1 0 [] 0)] [.box 66 (ar x.r), .box 225 (.agg [.ad 61 x.ds, .mp 2, .bool x.more]), .map 9 3 x.es]
theorem xTy(κ:Kp)(x:pU)(I:Nat->S->Prop)(n:Nat)(K:Exit->S->Prop):(vc (Of κ) 12 110 none 0 (af (Pr κ).toProgram 110 4) (Oc x) (bK (Of κ) 110 4 0 I n K))=(
 aD x.more (∃(a:To),([AV.ptr 0 0 [] 0,ar x.r],[Obj.box 225 (AV.agg [AV.ad 61 x.ds,AV.mp 1,AV.bool false]),Dn.Obj.map 9 3 x.es])=([AV.ptr 0 0 [] 0,
 ar a.2],[Obj.box 225 (AV.agg [AV.ad 61 a.1.ds,AV.mp 1,AV.bool a.1.more]),Dn.Obj.map 9 3 a.1.es])/\(a.1.ds.length<=9223372036854775807/\a6 (aa
 (bm 56 a.2.hl a.2.bl))<=100000/\a.2.bl.length<=100000)/\aX (aC (ba κ (Prod.fst (lB a)))) (aD (!bM (ba κ (Prod.fst (lB a)))) (aX
 (kD κ (ba κ (Prod.fst (lB a)))) (K Exit.ret (sp 60 [(4,AV.nil),(5,AV.int (OH κ (ba κ (Prod.fst (lB a)))))] []))) (∃(m:Nat),m<n/\I m (sp
 60 [(3,AV.ptr 0 0 [] 0),(6,AV.ptr 1 0 [] 0)] [Obj.box 66 (ar x.r),Obj.box 225 (AV.agg [AV.ad 61 (jt.ds (dQ a.1 (Prod.snd (lB a)))),AV.mp 2,
 AV.bool (jt.more (dQ a.1 (Prod.snd (lB a))))]),Dn.Obj.map 9 3 (jt.es (dQ a.1 (Prod.snd (lB a))))])))) (K (Exit.exit 0) (sp 60 [(3,AV.ptr 0 0 [] 0),
 (6,AV.ptr 1 0 [] 0)] [Obj.box 66 (ar x.r),Obj.box 225 (AV.agg [AV.ad 61 x.ds,AV.mp 2,AV.bool x.more]),Dn.Obj.map 9 3 x.es]))):=by kernel_rfl
abbrev dsR(x:pU):List Dc:=cH x.ds
def WJ(x:pU):Nat:=lQ getM (cZ (aF x.r)) x.es
def Wu(x:pU):Int×List (Value×AV):=fO getM gu (dsR x) (aF x.r) (WJ x+1) x.es
def gz(x:pU):Int×List (Value×AV):=bif x.more then Wu x else(0,x.es)
def Mh(x:pU):Prop:=aM (aF x.r)=true/\x.ds.length<=aR/\dd x.r
def Fy(x:pU):Out (Exit×S):= .aD (decide ((gz x).1=0)) (.one (.exit 0,Oc ⟨x.ds,x.r,(gz x).2,false⟩)) (.one (.ret,sp 60 [(4, .nil),(5, .int (gz x).1)] []))
theorem CJ(ds:List Dc)(r:Rl)(es:List (Value×AV)):jv (fk getM gu ds r es).1:=sX _ _ _ (tp _ _ _)
theorem lTy(κ:Kp):bj (Of κ) 12 110 4 (aO 0 Oc Mh Fy):=by
 refine aK (fun x=>bif x.more then WJ x+1 else 0) ?_
 rintro⟨ds,r,es,more⟩ K ⟨h1,h2,h3⟩ ho
 simp only at h1 h2 h3
 rw[show(Of κ).P=Pr κ from rfl]
 refine Eq.mpr (xTy κ ⟨ds,r,es,more⟩ _ _ K) ?_
 simp only[Fy,Out.run,ah] at ho
 cases more with
 |false=>exact ho.1 rfl
 | true=>
  have hp:lB (⟨ds,es,false⟩,r)=fk getM gu (cH ds) (aF r) es:=rfl
  have hV: ∀s,s∈ft (aF r)->s∈cZ (aF r):=fun s hs=>(yz h1).2 hs
  have hr:=CJ (cH ds) (aF r) es
  have he:gz ⟨ds,r,es,true⟩=bif decide ((fk getM gu (cH ds) (aF r) es).1=0) then gz ⟨ds,r,(fk getM gu (cH ds) (aF r) es).2.1,(fk getM gu (cH ds) (aF r) es).2.2⟩ else((fk getM gu (cH ds) (aF r) es).1,(fk getM gu (cH ds) (aF r) es).2.1):=by
   have e0:gz ⟨ds,r,es,true⟩=fO getM gu (cH ds) (aF r) (WJ ⟨ds,r,es,true⟩+1) es:=rfl
   rw[e0,fO]
   cases h0:decide ((fk getM gu (cH ds) (aF r) es).1=0) with
   |false=>rfl
   | true=>
    rw[aa8,aa8]
    unfold gz
    cases hm:(fk getM gu (cH ds) (aF r) es).2.2 with
    |false=>rfl
    |true=>
     rw[aa8]
     have:=so n7 (cH ds) h1 _ hV es (by simpa using h0) hm
     exact om n7 (cH ds) h1 _ hV _ _ _ this (Nat.lt_succ_self _)
  refine⟨(⟨ds,es,false⟩,r),rfl,⟨h2,h3⟩,?_⟩
  rw[hp]
  refine aq.2 ⟨cI _ _,?_⟩
  rw[jo]
  cases h0:decide ((fk getM gu (cH ds) (aF r) es).1=0) with
  |false=>
   rw[he,h0,aa6] at ho
   refine aq.2 ⟨zJ κ hr,?_⟩
   rw[KU κ hr]
   exact ho.2 h0
  | true=>
   rw[he,h0,aa8] at ho
   refine⟨_,?_,⟨ds,r,(fk getM gu (cH ds) (aF r) es).2.1,(fk getM gu (cH ds) (aF r) es).2.2⟩,rfl,⟨h1,h2,h3⟩,rfl,?_⟩
   ·simp only
    cases hm:(fk getM gu (cH ds) (aF r) es).2.2 with
    |false=>exact Nat.succ_pos _
    |true=>
     have:=so n7 (cH ds) h1 _ hV es (by simpa using h0) hm
     exact Nat.succ_lt_succ this
   ·simp only[Fy,Out.run,ah]
    exact ho
noncomputable def On(κ:Kp):Env:=(Of κ).ak 110 4 (aO 0 Oc Mh Fy)
theorem eYv(κ:Kp):aB (On κ):=(eYs κ).ak (Y5 κ) (lTy κ)
theorem mYv(κ:Kp):aj (On κ):=(Y5 κ).ak aG
def iA(l:List Int):List AV:=l.map fun k=> .lit (.int .i64 k)
theorem fo(l:List Int):(iA l).length=l.length:=by simp[iA]
theorem se(l m:List Int):iA (l++m)=iA l++iA m:=by simp[iA]
structure QP where
 ds:List AV
 es:List (Value×AV)
 o:List Int
 vs:List ByteArray
 i:Int
abbrev NU(x:QP):S:=sp 60 [(6, .ptr 0 0 [] 0),(8, .an 2 0 (iA x.o).length),(36, .an 3 0 x.vs.length),(37, .int x.vs.length),(38, .int x.i)] [.box 225 (.agg [.ad 61 x.ds, .mp 1, .bool false]), .map 9 3 x.es, .row 3 (iA x.o), .row 9 (strs x.vs)]
theorem xTz(κ:Kp)(ds:List AV)(es:List (Value×AV))(o vs:List AV)(i:Int)(I:Nat->S->Prop)(n:Nat)(K:Exit->S->Prop):(vc (On κ) 12 110 none 0 (af (Pr κ).toProgram 110 11) (sp 60 [(6, .ptr 0 0 [] 0),(8, .an 2 0 o.length),(36, .an 3 0 vs.length),(37, .int vs.length),(38, .int i)] [.box 225 (.agg [.ad 61 ds, .mp 1, .bool false]), .map 9 3 es, .row 3 o, .row 9 vs]) (bK (On κ) 110 11 0 I n K))=(
 letI z1:=dp es (Value.string (toStr (nth vs (0+i.toNat)))) (AV.int 0)
 letI z2:=i<(↑(vs.length):Int)
 aD (decide z2) (aX (decide ((0:Int)<=i)&&decide z2) (aD (toInt z1==(0:Int)) (K Exit.ret (sp 60 [(4,AV.nil),(5,AV.int 53)] [])) (aX (decide
 ((o.length+1+1)*9<=70368744177664)) (∃(e0:Nat),e0<n/\I e0 (sp 60 [(6,AV.ptr 0 0 [] 0),(8,AV.an 2 0 (o.length+1)),(36,AV.an 3 0 vs.length),
 (37,AV.int (↑(vs.length):Int)),(38,AV.int (IntKind.wrap IntKind.i64 (i+(1:Int))))] [Obj.box 225 (AV.agg [AV.ad 61 ds,AV.mp 1,AV.bool false]),
 Dn.Obj.map 9 3 es,Obj.row 3 (List.take o.length o++[AV.int (toInt z1)]),Obj.row 9 vs]))))) (K (Exit.exit 2) (sp 60 [(8,AV.an 0 0 o.length)] [Obj.row 3 o]))):=by kernel_rfl
def jO(x:QP):List ByteArray:=x.vs.drop x.i.toNat
def sM(x:QP):Bool:=(jO x).all fun s=>!decide (getM x.es s=0)
def K6(x:QP):Prop:=x.vs.length<=100000/\x.o.length<=x.i.toNat/\0<=x.i/\x.i<=x.vs.length
def Fz(x:QP):Out (Exit×S):= .aD (sM x) (.one (.exit 2,sp 60 [(8, .an 0 0 (iA (x.o++(jO x).map (getM x.es))).length)] [.row 3 (iA (x.o++(jO x).map (getM x.es)))])) (.one (.ret,sp 60 [(4, .nil),(5, .int 53)] []))
theorem lTz(κ:Kp):bj (On κ) 12 110 11 (aO 0 NU K6 Fz):=by
 refine aK (fun x=>x.vs.length - x.i.toNat) ?_
 rintro⟨ds,es,o,vs,i⟩ K ⟨h1,h2,h3,h4⟩ ho
 simp only at h1 h2 h3 h4
 rw[show(On κ).P=Pr κ from rfl]
 have e0:(⟨ds,es,o,vs,i⟩:QP).vs.length=(strs vs).length:=(aV vs).symm
 simp only[NU,e0]
 refine Eq.mpr (xTz κ ds es (iA o) (strs vs) i _ _ K) ?_
 simp only[Fz,Out.run,ah] at ho
 simp only[aV]
 rw[ah,aa1,aa3,aq,aa2,aa1,aa1]
 refine⟨fun hi=>⟨⟨h3,hi⟩,?_⟩,fun hi=>?_⟩
 ·have hk:i.toNat<vs.length:=by omega
  have hr:jO ⟨ds,es,o,vs,i⟩=vs[i.toNat]::jO ⟨ds,es,o++[getM es vs[i.toNat]],vs,i+1⟩:=by
   unfold jO
   simp only[show(i+1).toNat=i.toNat+1 by omega]
   exact ab2 hk
  have ha:sM ⟨ds,es,o,vs,i⟩=(!decide (getM es vs[i.toNat]=0)&&sM ⟨ds,es,o++[getM es vs[i.toNat]],vs,i+1⟩):=by
   unfold sM
   rw[hr,List.all_cons]
  rw[Nat.zero_add,wZ vs _ hk,Qi]
  have hg:toInt (dp es (Value.string (toStr (.lit (.string vs[i.toNat])))) (AV.int 0))=getM es vs[i.toNat]:=rfl
  rw[hg,ah]
  refine⟨fun e=>?_,fun e=>?_⟩
  ·rw[ha,e] at ho
   exact ho.2 rfl
  ·rw[ha,e,hr,Bool.not_false,ac0] at ho
   rw[aq,aa1,fo]
   rw[aW (n:=i+1) (by omega) (by omega)]
   refine⟨by omega,_,?_,⟨ds,es,o++[getM es vs[i.toNat]],vs,i+1⟩,?_,⟨h1,by simp only[ab9,List.length_singleton];omega,by simp only;omega,by simp only;omega⟩,rfl,?_⟩
   ·simp only;omega
   ·simp only[NU,se,fo,ab9,List.length_singleton,List.take_of_length_le (show(iA o).length<=o.length by rw[fo];omega)]
    rfl
   ·simp only[Fz,Out.run,ah]
    rw[show o++[getM es vs[i.toNat]]++(jO ⟨ds,es,o++[getM es vs[i.toNat]],vs,i+1⟩).map (getM es)=o++(vs[i.toNat]::jO ⟨ds,es,o++[getM es vs[i.toNat]],vs,i+1⟩).map (getM es) by simp]
    exact ho
 ·have hr:jO ⟨ds,es,o,vs,i⟩=[]:=by
   unfold jO
   exact aa9 (by simp only;omega)
  have ha:sM ⟨ds,es,o,vs,i⟩=true:=by
   unfold sM
   rw[hr];rfl
  rw[ha,hr] at ho
  have:=ho.1 rfl
  simp only[ac2,List.append_nil] at this
  exact this
noncomputable def SB(κ:Kp):Env:=(On κ).ak 110 11 (aO 0 NU K6 Fz)
theorem eYz(κ:Kp):aB (SB κ):=(eYv κ).ak (mYv κ) (lTz κ)
theorem Zu(κ:Kp):aj (SB κ):=(mYv κ).ak aG
theorem yTz(κ:Kp)(ds:List AV)(r:cm)(K:AV->List Dn.Obj->Prop):(a8 (SB κ) 12 110 [.ad 61 ds,ar r] [] K)=(
 letI z1:=Pg.toProgram (Env.P (Of κ))
 letI z2:=Pg.toProgram (Env.P (On κ))
 aX (List.all [AV.agg [AV.agg [AV.str r.rel,AV.ad 56 r.hl],AV.ad 72 r.bl,AV.int r.line]] iw) (aD (!eW ds [AV.agg [AV.agg [AV.str r.rel,AV.ad 56 r.hl],AV.ad 72 r.bl,AV.int r.line]]) (K (AV.bh [AV.nil,AV.int 30]) []) (af z1 110 4=af z1 110 4/\∃(e2:pU),sp 60 [(3,AV.ptr 0 0 [] 0),(6,AV.ptr 1 0 [] 0)] [Obj.box 66 (AV.agg [AV.agg [AV.str r.rel,AV.ad 56 r.hl],AV.ad 72 r.bl,AV.int r.line]),Obj.box 225 (AV.agg [AV.ad 61 ds,AV.mp 2,AV.bool true]),Dn.Obj.map 9 3 []]=sp 60 [(3,AV.ptr 0 0 [] 0),(6,AV.ptr 1 0 [] 0)] [Obj.box 66 (AV.agg [AV.agg [AV.str e2.r.rel,AV.ad 56 e2.r.hl],AV.ad 72 e2.r.bl,AV.int e2.r.line]),Obj.box 225 (AV.agg [AV.ad 61 e2.ds,AV.mp 2,AV.bool e2.more]),Dn.Obj.map 9 3 e2.es]/\(aM (aF e2.r)=true/\e2.ds.length<=9223372036854775807/\a6 (aa (bm 56 e2.r.hl e2.r.bl))<=100000/\List.length e2.r.bl<=100000)/\aD (decide (Prod.fst (gz e2)=(0:Int))) (∃(e1:cm),([AV.agg [AV.agg [AV.lit (Value.string (cm.rel (pU.r {ds:=e2.ds,r:=e2.r,es:=Prod.snd (gz e2),more:=false}))),AV.ad 56 (cm.hl (pU.r {ds:=e2.ds,r:=e2.r,es:=Prod.snd (gz e2),more:=false}))],AV.ad 72 (cm.bl (pU.r {ds:=e2.ds,r:=e2.r,es:=Prod.snd (gz e2),more:=false})),AV.lit (Value.int IntKind.i64 (cm.line (pU.r {ds:=e2.ds,r:=e2.r,es:=Prod.snd (gz e2),more:=false})))]],aI)=([AV.agg [AV.agg [AV.str e1.rel,AV.ad 56 e1.hl],AV.ad 72 e1.bl,AV.int e1.line]],aI)/\(aM (aF e1)=true/\a6 (aa (bm 56 e1.hl e1.bl))<=100000/\e1.bl.length<=100000)/\af z2 110 11=af z2 110 11/\∃(e0:QP),sp 60 [(6,AV.ptr 0 0 [] 0),(8,AV.an 2 0 0),(36,AV.an 3 0 (List.length (cZ (aF e1)))),(37,AV.int (↑(List.length (cZ (aF e1))):Int)),(38,AV.int 0)] [Obj.box 225 (AV.agg [AV.ad 61 (pU.ds {ds:=e2.ds,r:=e2.r,es:=Prod.snd (gz e2),more:=false}),AV.mp 1,AV.bool false]),Dn.Obj.map 9 3 (pU.es {ds:=e2.ds,r:=e2.r,es:=Prod.snd (gz e2),more:=false}),Obj.row 3 [],Obj.row 9 (strs (cZ (aF e1)))]=sp 60 [(6,AV.ptr 0 0 [] 0),(8,AV.an 2 0 (List.length (iA e0.o))),(36,AV.an 3 0 e0.vs.length),(37,AV.int (↑(e0.vs.length):Int)),(38,AV.int e0.i)] [Obj.box 225 (AV.agg [AV.ad 61 e0.ds,AV.mp 1,AV.bool false]),Dn.Obj.map 9 3 e0.es,Obj.row 3 (iA e0.o),Obj.row 9 (strs e0.vs)]/\(e0.vs.length<=100000/\e0.o.length<=e0.i.toNat/\(0:Int)<=e0.i/\e0.i<=(↑(e0.vs.length):Int))/\aD (sM e0) (K (AV.bh [AV.an 0 0 (List.length (iA (e0.o++List.map (getM e0.es) (jO e0)))),AV.int 0]) [Obj.row 3 (iA (e0.o++List.map (getM e0.es) (jO e0)))]) (K (AV.bh [AV.nil,AV.int 53]) [])) (K (AV.bh [AV.nil,AV.int (Prod.fst (gz e2))]) [])))):=by kernel_rfl
abbrev TN:=List AV×cm
def sI(x:TN):Int×List Int:=pV (cH x.1) (aF x.2)
def Uv(x:TN):List AV×List Dn.Obj:=([.ad 61 x.1,ar x.2],[])
def LU(x:TN):Prop:=x.1.length<=aR/\dd x.2
def LX(x:TN):Out (AV×List Dn.Obj):= .aD (eW x.1 [ar x.2]) (.aD (decide ((sI x).1=0)) (.one (.bh [.an 0 0 (iA (sI x).2).length, .int 0],[.row 3 (iA (sI x).2)])) (.one (.bh [.nil, .int (sI x).1],[]))) (.one (.bh [.nil, .int 30],[]))
theorem I1{ds:List AV}{r:cm}(h:eW ds [ar r]=true):aM (aF r)=true:=by
 unfold eW at h
 rw[aa2] at h
 have:=h.2
 rw[List.all_cons,aa2] at this
 exact this.1
theorem cTs(κ:Kp):bt (SB κ) 12 110 (aL Uv LU LX):=by
 refine aZ ?_
 rintro⟨ds,r⟩ K ⟨h1,h2⟩ ho
 simp only at h1 h2
 refine Eq.mpr (yTz κ ds r K) ?_
 simp only[LX,Out.run,ah] at ho
 have hl1:=fA (aa r.hl)
 rw[eP] at hl1
 have hc:=o5 h2
 have hl:=h2.2
 refine aq.2 ⟨?_,?_⟩
 ·show(iw (ar r)&&true)=true
  have:iw (ar r)=(decide (r.hl.length<=aR)&&decide (r.bl.length<=aR)):=rfl
  rw[this,aa7 (by simp only[aR];omega),aa7 (by simp only[aR];omega)];rfl
 refine ah.2 ⟨fun e=>ho.2 (by simpa using e),fun e=>?_⟩
 have e':eW ds [ar r]=true:=by simpa using e
 have hr:=I1 e'
 have ho1:=ho.1 e'
 have hf:gz ⟨ds,r,[],true⟩=fO getM gu (cH ds) (aF r) ((cZ (aF r)).length+1) []:=om n7 (cH ds) hr _ (fun s hs=>(yz hr).2 hs) _ _ _ (Nat.lt_succ_self _) (Nat.lt_succ_of_le (J3 _ _ _))
 have ht:sI (ds,r)=bif decide ((gz ⟨ds,r,[],true⟩).1=0) then(bif (cZ (aF r)).all (fun s=>!decide (getM (gz ⟨ds,r,[],true⟩).2 s=0)) then(0,(cZ (aF r)).map (getM (gz ⟨ds,r,[],true⟩).2)) else(53,[])) else((gz ⟨ds,r,[],true⟩).1,[]):=by
  rw[hf];rfl
 rw[ht] at ho1
 refine⟨rfl,⟨ds,r,[],true⟩,rfl,⟨hr,h1,h2⟩,?_⟩
 refine ah.2 ⟨fun e1=>⟨r,rfl,⟨hr,h2⟩,rfl,⟨ds,(gz ⟨ds,r,[],true⟩).2,[],cZ (aF r),0⟩,rfl,⟨yp h2,Nat.zero_le _,by simp only;omega,by simp only;omega⟩,?_⟩,fun e1=>?_⟩
 ·rw[e1,aa8] at ho1
  have ha:sM ⟨ds,(gz ⟨ds,r,[],true⟩).2,[],cZ (aF r),0⟩=(cZ (aF r)).all (fun s=>!decide (getM (gz ⟨ds,r,[],true⟩).2 s=0)):=rfl
  rw[ha]
  refine ah.2 ⟨fun e2=>?_,fun e2=>?_⟩
  ·rw[e2] at ho1
   exact ho1.1 rfl
  ·rw[e2] at ho1
   exact ho1.2 rfl
 ·rw[e1,aa6] at ho1
  exact ho1.2 e1
noncomputable def Ng(κ:Kp):Env:=(SB κ).ax 110 (aL Uv LU LX)
theorem eTy(κ:Kp):aB (Ng κ):=(eYz κ).ax (Zu κ) (cTs κ)
theorem ZY(κ:Kp):aj (Ng κ):=(Zu κ).ax aJ
abbrev gJ(ds rs:List AV):AV:= .agg [.ad 61 ds, .ad 66 rs]
def ez(x:AV):cm:=⟨[],[],toStr (ae (ae x 0) 0),ai (ae (ae x 0) 1),ai (ae x 1),toInt (ae x 2),0⟩
structure Bh where
 ds:List AV
 rs:List AV
 i:Int
abbrev Q4(x:Bh):Dn.Obj:= .box 25 (gJ x.ds x.rs)
def Qa(ds:List AV):List AV->Int->Int×Int
 |[],_=>(0,0)
 |d::l,i=>bif decide (bw (toStr (ae d 0)) ds=i) then Qa ds l (i+1) else(toInt (ae d 5),50)
def jJ(ds:List AV)(x:AV):Int:=bif eW ds [ar (ez x)] then(sI (ds,ez x)).1 else 30
def FO(f:AV->Int):List AV->Int×Int
 |[]=>(0,0)
 |x::l=>bif decide (f x=0) then FO f l else(toInt (ae x 2),f x)
def vn(ds rs:List AV):Int×Int:=bif eW ds rs then(bif decide ((Qa ds ds 0).2=0) then FO (jJ ds) rs else Qa ds ds 0) else(0,30)
def jk(x:AV):Int:=wh (aF (ez x))
def fH(ds rs:List AV):Int×Int:=bif decide ((vn ds rs).2=0) then FO jk rs else vn ds rs
def fE(ds rs:List AV):Prop:=ds.length<=aR/\rs.length<=aR/\∀x,x∈rs->dd (ez x)
theorem OI{ds rs:List AV}(h:fE ds rs):rs.all iw=true:=by
 refine List.all_eq_true.2 fun x hx=>?_
 have h2:=h.2.2 x hx
 have hl1:=fA (aa (ez x).hl)
 rw[eP] at hl1
 have hc:=o5 h2
 have hl:=h2.2
 have:iw x=(decide ((ez x).hl.length<=aR)&&decide ((ez x).bl.length<=aR)):=rfl
 rw[this,aa7 (by simp only[aR];omega),aa7 (by simp only[aR];omega)];rfl
abbrev Qs(x:Bh):S:=sp 57 [(1, .ptr 0 0 [] 0),(16, .ad 61 x.ds),(17, .int x.ds.length),(18, .int x.i)] [Q4 x]
theorem xC1(κ:Kp)(x:Bh)(I:Nat->S->Prop)(n:Nat)(K:Exit->S->Prop):(vc (Ng κ) 12 69 none 0 (af (Pr κ).toProgram 69 4) (Qs x) (bK (Ng κ) 69 4 0 I n K))=(
 letI z1:=AV.agg [AV.ad 61 x.ds,AV.ad 66 x.rs]
 letI z2:=x.i<(↑(x.ds.length):Int)
 aD (decide z2) (aX (decide ((0:Int)<=x.i)&&decide z2) (∃(e1:List AV×ByteArray),([AV.ad 61 x.ds,AV.str (toStr (ae (nth x.ds x.i.toNat) 0))],aI)=
 ([AV.ad 61 e1.1,AV.str e1.2],aI)/\gK e1/\aD (bw e1.2 e1.1 != x.i) (K Exit.ret (sp 57 [(2,AV.int (toInt (ae (nth x.ds x.i.toNat) 5))),(3,AV.int 50)] []))
 (∃(e0:Nat),e0<n/\I e0 (sp 57 [(1,AV.ptr 0 0 [] 0),(16,AV.ad 61 x.ds),(17,AV.int (↑(x.ds.length):Int)),(18,AV.int (IntKind.wrap IntKind.i64 (x.i
 +(1:Int))))] [Obj.box 25 z1])))) (K (Exit.exit 0) (sp 57 [(1,AV.ptr 0 0 [] 0)] [Obj.box 25 z1]))):=by kernel_rfl
def Ji(x:Bh):Int×Int:=Qa x.ds (x.ds.drop x.i.toNat) x.i
def KC(x:Bh):Prop:=x.ds.length<=aR/\0<=x.i/\x.i<=x.ds.length
def Hl(x:Bh):Out (Exit×S):= .aD (decide ((Ji x).2=0)) (.one (.exit 0,sp 57 [(1, .ptr 0 0 [] 0)] [Q4 x])) (.one (.ret,sp 57 [(2, .int (Ji x).1),(3, .int (Ji x).2)] []))
theorem lC1(κ:Kp):bj (Ng κ) 12 69 4 (aO 0 Qs KC Hl):=by
 refine aK (fun x=>x.ds.length - x.i.toNat) ?_
 rintro⟨ds,rs,i⟩ K ⟨h1,h2,h3⟩ ho
 simp only at h1 h2 h3
 rw[show(Ng κ).P=Pr κ from rfl]
 refine Eq.mpr (xC1 κ ⟨ds,rs,i⟩ _ _ K) ?_
 simp only[aR] at h1
 simp only[Hl,Out.run,ah] at ho
 rw[ah,aa1,aa3,aq,aa2,aa1,aa1]
 refine⟨fun hi=>⟨⟨h2,hi⟩,(ds,toStr (ae (nth ds i.toNat) 0)),rfl,h1,?_⟩,fun hi=>?_⟩
 ·simp only at hi
  have hk:i.toNat<ds.length:=by omega
  have hr:Ji ⟨ds,rs,i⟩=bif decide (bw (toStr (ae (nth ds i.toNat) 0)) ds=i) then Ji ⟨ds,rs,i+1⟩ else(toInt (ae (nth ds i.toNat) 5),50):=by
   unfold Ji
   simp only[show(i+1).toNat=i.toNat+1 by omega]
   rw[ab2 hk,←bf ds i.toNat hk,Qa]
  rw[hr] at ho
  simp only[My]
  cases e:decide (bw (toStr (ae (nth ds i.toNat) 0)) ds=i) with
  |false=>
   rw[e] at ho
   exact ho.2 rfl
  | true=>
   rw[e] at ho
   rw[aW (n:=i+1) (by omega) (by omega)]
   refine⟨_,?_,⟨ds,rs,i+1⟩,rfl,⟨by simpa[aR] using h1,by simp only;omega,by simp only;omega⟩,rfl,?_⟩
   ·simp only;omega
   ·simp only[Hl,Out.run,ah]
    exact ho
 ·simp only at hi
  have hr:Ji ⟨ds,rs,i⟩=(0,0):=by
   unfold Ji
   simp only
   rw[aa9 (by omega)];rfl
  rw[hr] at ho
  exact ho.1 rfl
noncomputable def O2(κ:Kp):Env:=(Ng κ).ak 69 4 (aO 0 Qs KC Hl)
theorem eC1(κ:Kp):aB (O2 κ):=(eTy κ).ak (ZY κ) (lC1 κ)
theorem Y6(κ:Kp):aj (O2 κ):=(ZY κ).ak aG
abbrev JA(x:Bh):S:=sp 57 [(1, .ptr 0 0 [] 0),(38, .ad 66 x.rs),(39, .int x.rs.length),(40, .int x.i)] [Q4 x]
theorem xC2(κ:Kp)(x:Bh)(I:Nat->S->Prop)(n:Nat)(K:Exit->S->Prop):(vc (O2 κ) 12 69 none 0 (af (Pr κ).toProgram 69 11) (JA x) (bK (O2 κ) 69 11 0 I n K))=(
 letI z1:=∃(e0:Nat),e0<n/\I e0 (sp 57 [(1,AV.ptr 0 0 [] 0),(38,AV.ad 66 x.rs),(39,AV.int (↑(x.rs.length):Int)),(40,AV.int (IntKind.wrap
  IntKind.i64 (x.i+(1:Int))))] [Obj.box 25 (AV.agg [AV.ad 61 x.ds,AV.ad 66 x.rs])])
 letI z2:=nth x.rs x.i.toNat
 letI z3:=x.i<(↑(x.rs.length):Int)
 letI z4:=toInt (ae z2 2)
 aD (decide z3) (aX (decide ((0:Int)<=x.i)&&decide z3) (∃(e1:TN),([AV.ad 61 x.ds,AV.agg [AV.agg [AV.str (toStr (ae (ae z2 0) 0)),AV.ad 56 (ai (ae (ae
 z2 0) 1))],AV.ad 72 (ai (ae z2 1)),AV.int z4]],aI)=([AV.ad 61 e1.1,ar e1.2],aI)/\(e1.1.length<=9223372036854775807/\a6 (aa (bm 56 e1.2.hl e1.2.bl))<=
 100000/\e1.2.bl.length<=100000)/\aD (eW e1.1 [ar e1.2]) (aD (decide (Prod.fst (sI e1)=(0:Int))) z1 (aD (Prod.fst (sI e1) != (0:Int)) (K Exit.ret (sp 57
 [(2,AV.int z4),(3,AV.int (Prod.fst (sI e1)))] [])) z1)) (K Exit.ret (sp 57 [(2,AV.int z4),(3,AV.int 30)] [])))) (K (Exit.exit 2) (sp 57 [] []))):=by kernel_rfl
def zE(f:AV->Int)(x:Bh):Int×Int:=FO f (x.rs.drop x.i.toNat)
def sl(x:Bh):Prop:=fE x.ds x.rs/\0<=x.i/\x.i<=x.rs.length
def CI(x:Bh):Out (Exit×S):= .aD (decide ((zE (jJ x.ds) x).2=0)) (.one (.exit 2,sp 57 [] [])) (.one (.ret,sp 57 [(2, .int (zE (jJ x.ds) x).1),(3, .int (zE (jJ x.ds) x).2)] []))
theorem GQ(f:AV->Int)(ds rs:List AV)(i:Int)(h0:0<=i)(hk:i.toNat<rs.length):zE f ⟨ds,rs,i⟩=bif decide (f (nth rs i.toNat)=0) then zE f ⟨ds,rs,i+1⟩ else(toInt (ae (nth rs i.toNat) 2),f (nth rs i.toNat)):=by
 unfold zE
 simp only[show(i+1).toNat=i.toNat+1 by omega]
 rw[ab2 hk,←bf rs i.toNat hk,FO]
theorem Hf(f:AV->Int)(ds rs:List AV)(i:Int)(h:rs.length<=i.toNat):zE f ⟨ds,rs,i⟩=(0,0):=by
 unfold zE
 simp only
 rw[aa9 h];rfl
theorem lC2(κ:Kp):bj (O2 κ) 12 69 11 (aO 0 JA sl CI):=by
 refine aK (fun x=>x.rs.length - x.i.toNat) ?_
 rintro⟨ds,rs,i⟩ K ⟨h1,h2,h3⟩ ho
 simp only at h1 h2 h3
 rw[show(O2 κ).P=Pr κ from rfl]
 refine Eq.mpr (xC2 κ ⟨ds,rs,i⟩ _ _ K) ?_
 have hml:=h1.2.1
 simp only[aR] at hml
 simp only[CI,Out.run,ah] at ho
 rw[ah,aa1,aa3,aq,aa2,aa1,aa1]
 refine⟨fun hi=>⟨⟨h2,hi⟩,(ds,ez (nth rs i.toNat)),rfl,⟨h1.1,?_⟩,?_⟩,fun hi=>?_⟩
 ·simp only at hi
  exact h1.2.2 _ (by rw[bf _ _ (show i.toNat<rs.length by omega)];exact List.getElem_mem _)
 ·simp only at hi
  have hk:i.toNat<rs.length:=by omega
  rw[GQ _ _ _ _ h2 hk] at ho
  have next:jJ ds (nth rs i.toNat)=0->∃m,m<rs.length - i.toNat/\fq JA sl CI (fun x=>x.rs.length - x.i.toNat) K m (JA ⟨ds,rs,i+1⟩):=fun e=>by
   rw[e] at ho
   refine⟨_,?_,⟨ds,rs,i+1⟩,rfl,⟨h1,by simp only;omega,by simp only;omega⟩,rfl,?_⟩
   ·simp only;omega
   ·simp only[CI,Out.run,ah]
    exact ho
  have stop: ∀e:Int,jJ ds (nth rs i.toNat)=e->e≠0->K .ret (sp 57 [(2, .int (toInt (ae (nth rs i.toNat) 2))),(3, .int e)] []):=fun e he h0=>by
   rw[he,aa5 h0] at ho
   exact ho.2 (aa5 h0)
  rw[aW (n:=i+1) (by omega) (by omega)]
  have ht:jJ ds (nth rs i.toNat)=bif eW ds [ar (ez (nth rs i.toNat))] then(sI (ds,ez (nth rs i.toNat))).1 else 30:=rfl
  refine ah.2 ⟨fun e1=>?_,fun e1=>?_⟩
  ·rw[e1,aa8] at ht
   refine ah.2 ⟨fun e2=>next (by rw[ht];simpa using e2),fun e2=>?_⟩
   rw[aa3] at e2
   have:=stop _ ht e2
   simp only[My]
   refine ah.2 ⟨fun _=>this,fun e3=>?_⟩
   rw[ab3,aa1] at e3
   exact absurd e3 e2
  ·rw[e1,aa6] at ht
   exact stop 30 ht (by decide)
 ·simp only at hi
  rw[Hf _ _ _ _ (by omega)] at ho
  exact ho.1 rfl
noncomputable def SQ(κ:Kp):Env:=(O2 κ).ak 69 11 (aO 0 JA sl CI)
theorem eC2(κ:Kp):aB (SQ κ):=(eC1 κ).ak (Y6 κ) (lC2 κ)
theorem ZS(κ:Kp):aj (SQ κ):=(Y6 κ).ak aG
theorem yCd(κ:Kp)(ds rs:List AV)(K:AV->List Dn.Obj->Prop):(a8 (SQ κ) 12 69 [gJ ds rs] [] K)=(
 letI z1:=Pg.toProgram (Env.P (Ng κ))
 letI z2:=Pg.toProgram (Env.P (O2 κ))
 aX (List.all rs iw) (aD (!eW ds rs) (K (AV.bh [AV.int 0,AV.int 30]) []) (af z1 69 4=af z1 69 4/\∃(e2:Bh),sp 57 [(1,AV.ptr 0 0 [] 0),(16,AV.ad 61 ds),
 (17,AV.int (↑(ds.length):Int)),(18,AV.int 0)] [Obj.box 25 (AV.agg [AV.ad 61 ds,AV.ad 66 rs])]=sp 57 [(1,AV.ptr 0 0 [] 0),(16,AV.ad 61 e2.ds),(17,
 AV.int (↑(e2.ds.length):Int)),(18,AV.int e2.i)] [Obj.box 25 (AV.agg [AV.ad 61 e2.ds,AV.ad 66 e2.rs])]/\(e2.ds.length<=9223372036854775807/\(0:Int)<=
 e2.i/\e2.i<=(↑(e2.ds.length):Int))/\aD (decide (Prod.snd (Ji e2)=(0:Int))) (af z2 69 11=af z2 69 11/\∃(e1:Bh),sp 57 [(1,AV.ptr 0 0 [] 0),(38,
 AV.ad 66 e2.rs),(39,AV.int (↑(e2.rs.length):Int)),(40,AV.int 0)] [Obj.box 25 (AV.agg [AV.ad 61 e2.ds,AV.ad 66 e2.rs])]=sp 57 [(1,AV.ptr 0 0 [] 0),
 (38,AV.ad 66 e1.rs),(39,AV.int (↑(e1.rs.length):Int)),(40,AV.int e1.i)] [Obj.box 25 (AV.agg [AV.ad 61 e1.ds,AV.ad 66 e1.rs])]/\((e1.ds.length<=
 9223372036854775807/\e1.rs.length<=9223372036854775807/\∀(e0:AV),List.Mem e0 e1.rs->a6 (aa (bm 56 (cm.hl (ez e0)) (cm.bl (ez e0))))<=100000/\
 List.length (cm.bl (ez e0))<=100000)/\(0:Int)<=e1.i/\e1.i<=(↑(e1.rs.length):Int))/\aD (decide (Prod.snd (zE (jJ e1.ds) e1)=(0:Int))) (K (AV.bh
 [AV.int 0,AV.int 0]) []) (K (AV.bh [AV.int (Prod.fst (zE (jJ e1.ds) e1)),AV.int (Prod.snd (zE (jJ e1.ds) e1))]) [])) (K (AV.bh [AV.int (Prod.fst (Ji e2)),
 AV.int (Prod.snd (Ji e2))]) [])))):=by kernel_rfl
abbrev rT:=List AV×List AV
def Kj(x:rT):List AV×List Dn.Obj:=([gJ x.1 x.2],[])
def xb(x:rT):Prop:=fE x.1 x.2
def MC(x:rT):Out (AV×List Dn.Obj):= .one (.bh [.int (vn x.1 x.2).1, .int (vn x.1 x.2).2],[])
theorem Fc(f:AV->Int): ∀l,(FO f l).2=0->FO f l=(0,0)
 |[],_=>rfl
 | x::l,h=>by
  rw[FO] at h⊢
  cases e:decide (f x=0) with
  |true=>rw[e,aa8] at h;exact Fc f l h
  |false=>
   rw[e,aa6] at h
   rw[aa3] at e
   exact absurd h e
theorem cCd(κ:Kp):bt (SQ κ) 12 69 (aL Kj xb MC):=by
 refine aZ ?_
 rintro⟨ds,rs⟩ K h1 ho
 have h1:fE ds rs:=h1
 refine Eq.mpr (yCd κ ds rs K) ?_
 simp only[MC,Out.run,vn] at ho
 refine aq.2 ⟨OI h1,ah.2 ⟨fun e=>?_,fun e=>?_⟩⟩
 ·rw[show eW ds rs=false by simpa using e] at ho
  exact ho
 ·rw[show eW ds rs=true by simpa using e,aa8] at ho
  have e1:Ji ⟨ds,rs,0⟩=Qa ds ds 0:=rfl
  have e2:zE (jJ ds) ⟨ds,rs,0⟩=FO (jJ ds) rs:=rfl
  refine⟨rfl,⟨ds,rs,0⟩,rfl,⟨h1.1,by simp only;omega,by simp only;omega⟩,?_⟩
  rw[e1]
  refine ah.2 ⟨fun e3=>⟨rfl,⟨ds,rs,0⟩,rfl,⟨h1,by simp only;omega,by simp only;omega⟩,?_⟩,fun e3=>?_⟩
  ·rw[e3,aa8] at ho
   rw[e2]
   refine ah.2 ⟨fun e4=>?_,fun e4=>ho⟩
   rw[aa1] at e4
   rw[Fc _ _ e4] at ho
   exact ho
  ·rw[e3,aa6] at ho
   exact ho
noncomputable def M5(κ:Kp):Env:=(SQ κ).ax 69 (aL Kj xb MC)
theorem eCd(κ:Kp):aB (M5 κ):=(eC2 κ).ax (ZS κ) (cCd κ)
theorem Z0(κ:Kp):aj (M5 κ):=(ZS κ).ax aJ
abbrev KZ(x:Bh):S:=sp 37 [(20, .ad 66 x.rs),(21, .int x.rs.length),(22, .int x.i)] []
theorem xC3(κ:Kp)(x:Bh)(I:Nat->S->Prop)(n:Nat)(K:Exit->S->Prop):(vc (M5 κ) 12 36 none 0 (af (Pr κ).toProgram 36 5) (KZ x) (bK (M5 κ) 36 5 0 I n K))=(
 letI z1:=nth x.rs x.i.toNat
 letI z2:=x.i<(↑(x.rs.length):Int)
 letI z3:=toInt (ae z1 2)
 aD (decide z2) (aX (decide ((0:Int)<=x.i)&&decide z2) (∃(e1:cm),([AV.agg [AV.agg [AV.str (toStr (ae (ae z1 0) 0)),AV.ad 56 (ai (ae (ae z1 0) 1))],
 AV.ad 72 (ai (ae z1 1)),AV.int z3]],aI)=([ar e1],aI)/\(a6 (aa (bm 56 e1.hl e1.bl))<=100000/\e1.bl.length<=100000)/\aD (aM (aF e1)) (aD (iO (aF e1)) (∃
 (e0:Nat),e0<n/\I e0 (sp 37 [(20,AV.ad 66 x.rs),(21,AV.int (↑(x.rs.length):Int)),(22,AV.int (IntKind.wrap IntKind.i64 (x.i+(1:Int))))] [])) (K
 Exit.ret (sp 37 [(2,AV.int z3),(3,AV.int 60)] []))) (K Exit.ret (sp 37 [(2,AV.int z3),(3,AV.int 30)] [])))) (K (Exit.exit 0) (sp 37 [] []))):=by kernel_rfl
def Bj(x:Bh):Out (Exit×S):= .aD (decide ((zE jk x).2=0)) (.one (.exit 0,sp 37 [] [])) (.one (.ret,sp 37 [(2, .int (zE jk x).1),(3, .int (zE jk x).2)] []))
theorem lC3(κ:Kp):bj (M5 κ) 12 36 5 (aO 0 KZ sl Bj):=by
 refine aK (fun x=>x.rs.length - x.i.toNat) ?_
 rintro⟨ds,rs,i⟩ K ⟨h1,h2,h3⟩ ho
 simp only at h1 h2 h3
 rw[show(M5 κ).P=Pr κ from rfl]
 refine Eq.mpr (xC3 κ ⟨ds,rs,i⟩ _ _ K) ?_
 have hml:=h1.2.1
 simp only[aR] at hml
 simp only[Bj,Out.run,ah] at ho
 rw[ah,aa1,aa3,aq,aa2,aa1,aa1]
 refine⟨fun hi=>⟨⟨h2,hi⟩,ez (nth rs i.toNat),rfl,?_,?_⟩,fun hi=>?_⟩
 ·simp only at hi
  exact h1.2.2 _ (by rw[bf _ _ (show i.toNat<rs.length by omega)];exact List.getElem_mem _)
 ·simp only at hi
  have hk:i.toNat<rs.length:=by omega
  rw[GQ _ _ _ _ h2 hk] at ho
  have next:jk (nth rs i.toNat)=0->∃m,m<rs.length - i.toNat/\fq KZ sl Bj (fun x=>x.rs.length - x.i.toNat) K m (KZ ⟨ds,rs,i+1⟩):=fun e=>by
   rw[e] at ho
   refine⟨_,?_,⟨ds,rs,i+1⟩,rfl,⟨h1,by simp only;omega,by simp only;omega⟩,rfl,?_⟩
   ·simp only;omega
   ·simp only[Bj,Out.run,ah]
    exact ho
  have stop: ∀e:Int,jk (nth rs i.toNat)=e->e≠0->K .ret (sp 37 [(2, .int (toInt (ae (nth rs i.toNat) 2))),(3, .int e)] []):=fun e he h0=>by
   rw[he,aa5 h0] at ho
   exact ho.2 (aa5 h0)
  rw[aW (n:=i+1) (by omega) (by omega)]
  have ht:jk (nth rs i.toNat)=bif aM (aF (ez (nth rs i.toNat))) then bif iO (aF (ez (nth rs i.toNat))) then 0 else 60 else 30:=rfl
  refine ah.2 ⟨fun e1=>?_,fun e1=>?_⟩
  ·rw[e1,aa8] at ht
   refine ah.2 ⟨fun e2=>next (by rw[ht,e2];rfl),fun e2=>stop 60 (by rw[ht,e2];rfl) (by decide)⟩
  ·rw[e1,aa6] at ht
   exact stop 30 ht (by decide)
 ·simp only at hi
  rw[Hf _ _ _ _ (by omega)] at ho
  exact ho.1 rfl
noncomputable def U5(κ:Kp):Env:=(M5 κ).ak 36 5 (aO 0 KZ sl Bj)
theorem eC3(κ:Kp):aB (U5 κ):=(eCd κ).ak (Z0 κ) (lC3 κ)
theorem mC3(κ:Kp):aj (U5 κ):=(Z0 κ).ak aG
theorem yCs(κ:Kp)(ds rs:List AV)(K:AV->List Dn.Obj->Prop):(a8 (U5 κ) 12 36 [gJ ds rs] [] K)=(
 ∃(a:rT),([AV.agg [AV.ad 61 ds,AV.ad 66 rs]],aI)=([AV.agg [AV.ad 61 a.1,AV.ad 66 a.2]],aI)/\(a.1.length<=9223372036854775807/\a.2.length<=
 9223372036854775807/\∀(x:AV),List.Mem x a.2->a6 (aa (bm 56 (cm.hl (ez x)) (cm.bl (ez x))))<=100000/\List.length (cm.bl (ez x))<=100000)
 /\aD (Prod.snd (vn a.1 a.2) != (0:Int)) (K (AV.bh [AV.int (Prod.fst (vn a.1 a.2)),AV.int (Prod.snd (vn a.1 a.2))]) []) (af (Pg.toProgram
 (Env.P (M5 κ))) 36 5=af (Pg.toProgram (Env.P (M5 κ))) 36 5/\∃(a:Bh),sp 37 [(20,AV.ad 66 rs),(21,AV.int (↑(rs.length):Int)),(22,AV.int
 0)] []=sp 37 [(20,AV.ad 66 a.rs),(21,AV.int (↑(a.rs.length):Int)),(22,AV.int a.i)] []/\((a.ds.length<=9223372036854775807/\a.rs.length<=
 9223372036854775807/\∀(x:AV),List.Mem x a.rs->a6 (aa (bm 56 (cm.hl (ez x)) (cm.bl (ez x))))<=100000/\List.length (cm.bl (ez x))<=
 100000)/\(0:Int)<=a.i/\a.i<=(↑(a.rs.length):Int))/\aD (decide (Prod.snd (zE jk a)=(0:Int))) (K (AV.bh [AV.int 0,AV.int 0]) []) (K (AV.bh
 [AV.int (Prod.fst (zE jk a)),AV.int (Prod.snd (zE jk a))]) []))):=by kernel_rfl
def KT(x:rT):Out (AV×List Dn.Obj):= .one (.bh [.int (fH x.1 x.2).1, .int (fH x.1 x.2).2],[])
theorem cCs(κ:Kp):bt (U5 κ) 12 36 (aL Kj xb KT):=by
 refine aZ ?_
 rintro⟨ds,rs⟩ K h1 ho
 have h1:fE ds rs:=h1
 refine Eq.mpr (yCs κ ds rs K) ?_
 simp only[KT,Out.run,fH] at ho
 refine⟨(ds,rs),rfl,h1,?_⟩
 simp only[My]
 have e2:zE jk ⟨ds,rs,0⟩=FO jk rs:=rfl
 refine ah.2 ⟨fun e=>?_,fun e=>?_⟩
 ·rw[show decide ((vn ds rs).2=0)=false by simpa using e] at ho
  exact ho
 ·rw[show decide ((vn ds rs).2=0)=true by simpa using e] at ho
  refine⟨trivial,⟨ds,rs,0⟩,rfl,⟨h1,by simp only;omega,by simp only;omega⟩,?_⟩
  rw[e2]
  refine ah.2 ⟨fun e4=>?_,fun e4=>ho⟩
  rw[aa1] at e4
  rw[aa8,Fc _ _ e4] at ho
  exact ho
noncomputable def Tj(κ:Kp):Env:=(U5 κ).ax 36 (aL Kj xb KT)
theorem eCs(κ:Kp):aB (Tj κ):=(eC3 κ).ax (mC3 κ) (cCs κ)
theorem ZX(κ:Kp):aj (Tj κ):=(mC3 κ).ax aJ
end Go.Proofs.YthaiinlfnommnaaGreatDoor
