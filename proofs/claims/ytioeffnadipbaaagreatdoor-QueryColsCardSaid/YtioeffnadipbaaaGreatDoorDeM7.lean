import Derived.Test.YtioeffnadipbaaaGreatDoorDeM5
import Derived.Test.YtioeffnadipbaaaGreatDoorDeM6
namespace Go.Proofs.YtioeffnadipbaaaGreatDoor
open Go Go.Dn Go.Rl Go.Proofs Go.RowKit Go.Extern.Stop Go.Stop Go.Extern
def Nz(κ:Kp)(e:Int):Addr:=bif decide (e=51) then κ.ft else bif decide (e=52) then κ.arity else κ.type
def a8(κ:Kp)(e:Int):Value:=bif decide (e=0) then .nilIface else .iface 273 (.pointer (some (Nz κ e)))
def wc(e:Int):Prop:=e=51\/e=52\/e=53
def iU(e:Int):Prop:=e=0\/wc e
theorem cM(κ:Kp)(e:Int):ay (a8 κ e)=true:=by unfold a8;cases decide (e=0)<;>rfl
theorem iR(κ:Kp)(e:Int):bI (a8 κ e)=decide (e=0):=by unfold a8;cases decide (e=0)<;>rfl
theorem I2(κ:Kp){e k:Int}(he:wc e)(hk:wc k)(h:e≠k):Nz κ e≠Nz κ k:=by
 rcases he with rfl|rfl|rfl<;>rcases hk with rfl|rfl|rfl<;>first|exact absurd rfl h|exact κ.d1|exact κ.d2|exact κ.d3|exact κ.d1.symm|exact κ.d2.symm|exact κ.d3.symm
theorem M6(κ:Kp){e k:Int}(he:iU e)(hk:iU k):a8 κ e=a8 κ k↔e=k:=by
 refine⟨fun h=>?_,fun h=>by rw[h]⟩
 rcases he with rfl|he
 ·rcases hk with rfl|hk
  ·rfl
  ·have:decide (k=0)=false:=by rcases hk with rfl|rfl|rfl<;>rfl
   unfold a8 at h
   rw[this] at h;cases h
 ·have e0:decide (e=0)=false:=by rcases he with rfl|rfl|rfl<;>rfl
  rcases hk with rfl|hk
  ·unfold a8 at h
   rw[e0] at h;cases h
  ·have k0:decide (k=0)=false:=by rcases hk with rfl|rfl|rfl<;>rfl
   unfold a8 at h
   rw[e0,k0,aa5,aa5] at h
   simp only[Value.iface.injEq,Value.pointer.injEq,aa3,true_and] at h
   by_cases hh:e=k
   ·exact hh
   ·exact absurd h (I2 κ he hk hh)
theorem Es(κ:Kp){e:Int}(he:wc e): ∃c t,xz κ (Nz κ e).block=some (.cells c t (0,0)):=by
 have go: ∀b,(∀g,g∈[1,0,3,4,2]->b≠g)->b=κ.ft.block\/b=κ.arity.block\/b=κ.type.block->∃c t,xz κ b=some (.cells c t (0,0)):=by
  intro b hb h
  unfold xz
  rw[rX (hb _ (by simp)),rX (hb 0 (by simp)),rX (hb 3 (by simp)),rX (hb 4 (by simp)),rX (hb 2 (by simp))]
  simp only[aa5]
  cases h1:Nat.beq b κ.ft.block with
  |true=>exact⟨_,_,rfl⟩
  | false=>
   rw[aa5]
   cases h2:Nat.beq b κ.arity.block with
   |true=>exact⟨_,_,rfl⟩
   | false=>
    rw[aa5]
    cases h3:Nat.beq b κ.type.block with
    |true=>exact⟨_,_,rfl⟩
    |false=>
     rcases h with h|h|h
     ·rw[h,Nat.beq_refl] at h1;cases h1
     ·rw[h,Nat.beq_refl] at h2;cases h2
     ·rw[h,Nat.beq_refl] at h3;cases h3
 rcases he with rfl|rfl|rfl
 ·exact go _ κ.n3 (.inl rfl)
 ·exact go _ κ.n4 (.inr (.inl rfl))
 ·exact go _ κ.n5 (.inr (.inr rfl))
theorem TS(v:Value)(xT:TypeId)(w:World):(Instr.typeAssert (.iface 273 v) xT 259 true).run Tryz.prog w= .ok (.tuple #[.nilIface, .bool false]) w:=run_typeAssert_lacksB Tryz.underlying259 (by kernel_rfl) (by kernel_rfl) v xT w
theorem Gx(v:Value)(xT:TypeId)(w:World):(Instr.typeAssert (.iface 273 v) xT 261 true).run Tryz.prog w= .ok (.tuple #[.nilIface, .bool false]) w:=run_typeAssert_lacksB Tryz.underlying261 (by kernel_rfl) (by kernel_rfl) v xT w
theorem CF(v:Value)(xT:TypeId)(w:World):(Instr.typeAssert (.iface 273 v) xT 263 true).run Tryz.prog w= .ok (.tuple #[.nilIface, .bool false]) w:=run_typeAssert_lacksB Tryz.underlying263 (by kernel_rfl) (by kernel_rfl) v xT w
set_option maxRecDepth 8000 in
theorem Kv(a b:Addr)(w:World)(hab:a≠b){ca cb:Array Value}{ta tb:TypeId}(ha:w.heap[a.block]? =some (.cells ca ta (0,0)))(hb:w.heap[b.block]? =some (.cells cb tb (0,0))):
  Calls Tryz.prog 108 #[.iface 273 (.pointer (some a)), .iface 273 (.pointer (some b))] w fun e w'=>e= .returned (.bool false)/\w'=w:=by
 obtain⟨i,hi,hcmp⟩:=Option.map_eq_some_iff.1 CI
 obtain⟨j,hj,hjs⟩:=Option.map_eq_some_iff.1 CS
 have h8:= @run_callFunc_extern Tryz.prog 157 _ Extern.ReflectliteType.typeOf Tryz.func157 (by kernel_rfl) (by kernel_rfl) (by kernel_rfl) (by kernel_rfl)
 have h32:= @run_callFunc_extern Tryz.prog 222 _ (Extern.ReflectliteType.method fun t=>do Go.Extern.Rtype.noPackHeld "Comparable" t;pure (.bool (←typeInfo t).comparable)) Tryz.func222 (by kernel_rfl) (by kernel_rfl) (by kernel_rfl) (by kernel_rfl)
 have tT:=uP
 have cT:=mB
 have mR:=ie
 have hne:=run_eql_iface_ptr_other (P:=Tryz.prog) w Tryz.underlying171 Tryz.underlying273 hi hcmp hj (by omega) hab ha hb
 have n1:=TS
 have n2:=Gx
 have n3:=CF
 go_enter Tryz.func108,Tryz.ntmps108
 go_wp2
 refine wp_loop_rounds 1 ?_
 rw[rounds_succ]
 go_wp2
 all_goals (go_ret;exact⟨rfl,rfl⟩)
open Classical in
noncomputable def kx(κ:Kp)(v:Value):Bool:=decide (∃e,iU e/\v=a8 κ e)
open Classical in
noncomputable def lg(κ:Kp)(v:Value):Bool:=decide (∃e,wc e/\v=a8 κ e)
open Classical in
noncomputable def gx(v t:Value):Bool:=decide (v=t)
theorem vn(κ:Kp)(v:Value):kx κ v=true↔ ∃e,iU e/\v=a8 κ e:=by unfold kx;exact @decide_eq_true_iff _ (Classical.propDecidable _)
theorem BM(κ:Kp)(v:Value):lg κ v=true↔ ∃e,wc e/\v=a8 κ e:=by unfold lg;exact @decide_eq_true_iff _ (Classical.propDecidable _)
theorem HB(v t:Value):gx v t=true↔v=t:=by unfold gx;exact @decide_eq_true_iff _ (Classical.propDecidable _)
theorem z7(κ:Kp){e:Int}(h:iU e):kx κ (a8 κ e)=true:=(vn _ _).2 ⟨e,h,rfl⟩
theorem Ab(κ:Kp){e:Int}(h:wc e):lg κ (a8 κ e)=true:=(BM _ _).2 ⟨e,h,rfl⟩
theorem gX(κ:Kp){e k:Int}(he:iU e)(hk:iU k):gx (a8 κ e) (a8 κ k)=decide (e=k):=by
 rw[Bool.eq_iff_iff,HB,aa0]
 exact M6 κ he hk
noncomputable def OK(κ:Kp):List AV->Option (Bool×AV)
 |[.lit v, .lit t]=>some (kx κ v&&lg κ t, .bool (gx v t))
 |_=>none
theorem Vc(κ:Kp):fg (Pr κ) 108 (OK κ):=by
 intro args x hn hg
 unfold OK at hg
 split at hg
 ·simp only[aa3,aa9,aa1] at hg
  obtain⟨⟨h1,h2⟩,rfl⟩:=hg
  obtain⟨e,he,rfl⟩:=(vn _ _).1 h1
  obtain⟨k,hk,rfl⟩:=(BM _ _).1 h2
  have k0:decide (k=0)=false:=by rcases hk with rfl|rfl|rfl<;>rfl
  have hk':a8 κ k= .iface 273 (.pointer (some (Nz κ k))):=by unfold a8;rw[k0];rfl
  refine⟨_,_,Tryz.func108,rfl,rfl,rfl,fun C vs hC hI hm=>?_⟩
  rw[tO hm,gX κ he (.inr hk)]
  rcases he with rfl|he
  ·have e0:a8 κ 0= .nilIface:=rfl
   rw[e0,hk']
   refine(callsIn_wide.2 (JG _ C.w)).mono ?_
   rintro e w' ⟨rfl,rfl⟩
   refine⟨?_,gT.refl _⟩
   rw[aa4 (by rcases hk with rfl|rfl|rfl<;>decide)]
  ·have e0:decide (e=0)=false:=by rcases he with rfl|rfl|rfl<;>rfl
   have he':a8 κ e= .iface 273 (.pointer (some (Nz κ e))):=by unfold a8;rw[e0];rfl
   rw[he',hk']
   by_cases h:e=k
   ·subst h
    refine(callsIn_wide.2 (ER _ C.w)).mono ?_
    rintro e w' ⟨rfl,rfl⟩
    refine⟨?_,gT.refl _⟩
    rw[aa6 rfl]
   ·obtain⟨c1,t1,q1⟩:=Es κ he
    obtain⟨c2,t2,q2⟩:=Es κ hk
    have w1:=(hI.kept _ _ (by rw[hC];exact q1)).2
    have w2:=(hI.kept _ _ (by rw[hC];exact q2)).2
    refine(callsIn_wide.2 (Kv _ _ C.w (I2 κ he hk h) w1 w2)).mono ?_
    rintro e w' ⟨rfl,rfl⟩
    refine⟨?_,gT.refl _⟩
    rw[aa4 h]
 ·cases hg
noncomputable def Nc(κ:Kp):Env:=(Vi κ).aK 108 (OK κ)
theorem eIe(κ:Kp):aE (Nc κ):=(e15 κ).dZ (Vc κ)
theorem YH(κ:Kp):aj (Nc κ):=(m15 κ).aK
end Go.Proofs.YtioeffnadipbaaaGreatDoor
namespace Go.Proofs.YtioeffnadipbaaaGreatDoor
open Go Go.Dn Go.Rl Go.Proofs
attribute [local irreducible] ba vc
set_option maxRecDepth 20000
structure J0 where
 rel:ByteArray
 names:List AV
 types:List AV
 i:Bool
 o:Bool
 line:Int
abbrev Oc(d:J0):AV:= .agg [.lit (.string d.rel), .ad 9 d.names, .ad 3 d.types, .bool d.i, .bool d.o, .int d.line]
def DD(t:AV):Bool:=decide (toInt t=1)||decide (toInt t=2)
def DN:List AV->List AV->Bool
 |n::ns,t::ts=>isName (toStr n)&&DD t&&DN ns ts
 |_,_=>true
def Ej(rel:ByteArray)(ns ts:List AV):Bool:=isName rel&& !decide (ns.length=0)&&decide (ns.length<=8)&&decide (ts.length=ns.length)&&DN ns ts
def Iw(a:AV):Bool:=Ej (toStr (af a 0)) (ah (af a 1)) (ah (af a 2))
theorem Gk{ns ts:List AV}{i:Nat}(h1:i<ns.length)(h2:i<ts.length):DN (ns.drop i) (ts.drop i)=(isName (toStr (nth ns i))&&DD (nth ts i)&&DN (ns.drop (i+1)) (ts.drop (i+1))):=by
 rw[ab1 h1,ab1 h2,DN,a7 _ _ h1,a7 _ _ h2]
theorem xDc(κ:Kp)(d:J0)(i:Int)(I:Nat->S->Prop)(n:Nat)(K:Exit->S->Prop):(vc (Nc κ) 12 94 none 0 (ag (Pr κ).toProgram 94 4) (sp 58 [(1, .ptr 0 0 [] 0),(31, .ad 9 d.names),(32, .int d.names.length),(33, .int i)] [.box 43 (Oc d)]) (bB (Nc κ) 94 4 0 I n K))=(
 letI z1:=∃(e0:Nat),e0<n/\I e0 (sp 58 [(1,AV.ptr 0 0 [] 0),(31,AV.ad 9 d.names),(32,AV.int (↑(d.names.length):Int)),(33,AV.int (IntKind.wrap
  IntKind.i64 (i+(1:Int))))] [Obj.box 43 (AV.agg [AV.str d.rel,AV.ad 9 d.names,AV.ad 3 d.types,AV.bool d.i,AV.bool d.o,AV.int d.line])])
 letI z2:=decide ((0:Int)<=i)&&decide (i<(↑(d.types.length):Int))
 letI z3:=K Exit.ret (sp 58 [(2,AV.bool false)] [])
 letI z4:=i<(↑(d.names.length):Int)
 aw (decide z4) (aP (decide ((0:Int)<=i)&&decide z4) (aw (!isName (toStr (nth d.names i.toNat))) z3 (aP z2 (aw (toInt (nth d.types i.toNat) != (1:Int))
 (aP z2 (aw (toInt (nth d.types i.toNat) != (2:Int)) z3 z1)) z1)))) (K (Exit.exit 0) (sp 58 [] []))):=by kernel_rfl
abbrev LO(a:J0×Int):S:=sp 58 [(1, .ptr 0 0 [] 0),(31, .ad 9 a.1.names),(32, .int a.1.names.length),(33, .int a.2)] [.box 43 (Oc a.1)]
def DP(a:J0×Int):Prop:=a.1.types.length=a.1.names.length/\a.1.names.length<=8/\0<=a.2/\a.2<=a.1.names.length
def B2(a:J0×Int):Out (Exit×S):= .aw (DN (a.1.names.drop a.2.toNat) (a.1.types.drop a.2.toNat)) (.one (.exit 0,sp 58 [] [])) (.one (.ret,sp 58 [(2, .bool false)] []))
theorem lDc(κ:Kp):bf (Nc κ) 12 94 4 (aR 0 LO DP B2):=by
 refine aG (fun a=>a.1.names.length - a.2.toNat) ?_
 rintro⟨d,i⟩ K ⟨h1,h2,h3,h4⟩ ho
 simp only at h1 h2 h3 h4
 rw[show(Nc κ).P=Pr κ from rfl]
 refine Eq.mpr (xDc κ d i _ _ K) ?_
 simp only[B2,Out.run,ae] at ho
 simp only[ae,ai,aa0,aa2,aa1,Bool.not_eq_true',ab2,bne_iff_ne,bne_eq_false_iff_eq]
 refine⟨fun hi=>?_,fun hi=>?_⟩
 ·have hk:i.toNat<d.names.length:=by omega
  rw[Gk hk (by omega)] at ho
  rw[aC (n:=i+1) (by omega) (by omega)]
  have go:DD (nth d.types i.toNat)=true->isName (toStr (nth d.names i.toNat))=true->∃m,m<d.names.length - i.toNat/\ig LO DP B2 (fun a=>a.1.names.length - a.2.toNat) K m (LO (d,i+1)):=fun e1 e2=>by
   rw[e1,e2,ab9,ab9] at ho
   refine⟨_,?_,(d,i+1),rfl,⟨h1,h2,by simp only;omega,by simp only;omega⟩,rfl,?_⟩
   ·simp only;omega
   ·simp only[B2,Out.run,ae,show(i+1).toNat=i.toNat+1 by omega]
    exact ho
  refine⟨⟨h3,hi⟩,fun e=>ho.2 (by rw[e];rfl),fun e=>⟨⟨h3,by omega⟩,fun e1=>⟨⟨h3,by omega⟩,fun e2=>ho.2 ?_,fun e2=>go ?_ e⟩,fun e1=>go ?_ e⟩⟩
  ·have:DD (nth d.types i.toNat)=false:=by unfold DD;rw[aa4 e1,aa4 e2];rfl
   rw[this,e];rfl
  ·unfold DD;rw[aa6 e2,Bool.or_true]
  ·unfold DD;rw[aa6 e1,Bool.true_or]
 ·rw[aa8 (by omega)] at ho
  exact ho.1 rfl
noncomputable def Sn(κ:Kp):Env:=(Nc κ).ar 94 4 (aR 0 LO DP B2)
theorem ZQ(κ:Kp):aE (Sn κ):=(eIe κ).ar (YH κ) (lDc κ)
theorem Y8(κ:Kp):aj (Sn κ):=(YH κ).ar aW
theorem yDc(κ:Kp)(d:J0)(K:AV->List Dn.Obj->Prop):(ba (Sn κ) 12 94 [Oc d] [] K)=(
 letI z1:=K (AV.bool false) []
 letI z2:=d.names.length
 letI z3:=Pg.toProgram (Env.P (Nc κ))
 aw (!isName d.rel) z1 (aw ((↑z2:Int)==(0:Int)) z1 (aw (decide ((↑z2:Int)>(8:Int))) z1 (aw ((↑(d.types.length):Int) != (↑z2:Int)) z1 (ag z3 94 4
 =ag z3 94 4/\∃(e0:J0×Int),sp 58 [(1,AV.ptr 0 0 [] 0),(31,AV.ad 9 d.names),(32,AV.int (↑z2:Int)),(33,AV.int 0)] [Obj.box 43 (AV.agg [AV.str
 d.rel,AV.ad 9 d.names,AV.ad 3 d.types,AV.bool d.i,AV.bool d.o,AV.int d.line])]=sp 58 [(1,AV.ptr 0 0 [] 0),(31,AV.ad 9 e0.1.names),(32,AV.int
 (↑(e0.1.names.length):Int)),(33,AV.int e0.2)] [Obj.box 43 (AV.agg [AV.str e0.1.rel,AV.ad 9 e0.1.names,AV.ad 3 e0.1.types,AV.bool e0.1.i,AV.bool e0.1.o,
 AV.int e0.1.line])]/\(e0.1.types.length=e0.1.names.length/\e0.1.names.length<=8/\(0:Int)<=e0.2/\e0.2<=(↑(e0.1.names.length):Int))/\aw (DN
 (List.drop e0.2.toNat e0.1.names) (List.drop e0.2.toNat e0.1.types)) (K (AV.bool true) []) z1))))):=by kernel_rfl
def VF:List AV->Option (Bool×AV)
 |[.agg [.lit (.string rel), .ad 9 ns, .ad 3 ts, .lit (.bool _), .lit (.bool _), .lit (.int .i64 _)]]=>some (true, .bool (Ej rel ns ts))
 |_=>none
theorem ZY(κ:Kp):cj (Sn κ) 12 94 VF:=by
 intro args x hh
 unfold VF at hh
 split at hh
 ·rename_i rel ns ts bi bo line
  simp only[aa3,aa9,true_and] at hh
  subst hh
  refine⟨_,rfl,rfl,?_⟩
  refine Eq.mpr (yDc κ ⟨rel,ns,ts,bi,bo,line⟩ _) ?_
  unfold Ej
  simp only[ae,aa0,aa2,Bool.not_eq_true',ab2,beq_iff_eq,beq_eq_false_iff_ne,bne_iff_ne,bne_eq_false_iff_eq]
  refine⟨fun e=>n8 (by rw[e];rfl),fun e=>⟨fun e2=>n8 ?_,fun e2=>⟨fun e3=>n8 ?_,fun e3=>⟨fun e4=>n8 ?_,fun e4=>⟨trivial,(⟨rel,ns,ts,bi,bo,line⟩,0),rfl,⟨by simp only;omega,by simp only;omega,by simp only;omega,by simp only;omega⟩,?_⟩⟩⟩⟩⟩
  ·rw[aa6 (show ns.length=0 by omega)];simp
  ·rw[aa4 (show ¬ ns.length<=8 by omega)];simp
  ·rw[aa4 (show ¬ ts.length=ns.length by omega)];simp
  ·rw[e,aa4 (show ¬ ns.length=0 by omega),aa6 (show ns.length<=8 by omega),aa6 (show ts.length=ns.length by omega)]
   simp only[ab7,ab0,Bool.not_false,ab9]
   exact⟨fun e5=>n8 e5.symm,fun e5=>n8 e5.symm⟩
 ·cases hh
noncomputable def Ms(κ:Kp):Env:=(Sn κ).aK 94 VF
theorem eDc(κ:Kp):aE (Ms κ):=(ZQ κ).aK (Y8 κ) (ZY κ)
theorem YM(κ:Kp):aj (Ms κ):=(Y8 κ).aK
theorem Vz(κ:Kp)(ds rs:List AV)(i:Int)(I:Nat->S->Prop)(n:Nat)(K:Exit->S->Prop):(vc (Ms κ) 12 109 none 1 (ag (Pr κ).toProgram 109 2) (sp 19 [(0, .ad 43 ds),(1, .bq 93 []),(7, .int ds.length),(8, .int i)] [.box 25 (.agg [.ad 43 ds, .ad 48 rs])]) (bB (Ms κ) 109 2 1 I n K))=(
 letI z1:=AV.agg [AV.ad 43 ds,AV.ad 48 rs]
 letI z2:=nth ds i.toNat
 letI z3:=i<(↑(ds.length):Int)
 aw (decide z3) (aP (decide ((0:Int)<=i)&&decide z3) (aw (!Ej (toStr (af z2 0)) (ah (af z2 1)) (ah (af z2 2))) (K Exit.ret (sp 19 [(4,AV.int i)] [Obj.box
 25 z1])) (∃(e0:Nat),e0<n/\I e0 (sp 19 [(0,AV.ad 43 ds),(1,AV.bq 93 []),(7,AV.int (↑(ds.length):Int)),(8,AV.int (IntKind.wrap IntKind.i64 (i+(1
 :Int))))] [Obj.box 25 z1])))) (K (Exit.exit 0) (sp 19 [] [Obj.box 25 z1]))):=by kernel_rfl
abbrev Le:Nat:=109
abbrev Qt:Nat:=119
abbrev Ho(ds rs:List AV):Dn.Obj:= .box 25 (.agg [.ad 43 ds, .ad 48 rs])
abbrev M0:=List AV×List AV×Int
abbrev NI(a:M0):S:=sp 19 [(0, .ad 43 a.1),(1, .bq 93 []),(7, .int a.1.length),(8, .int a.2.2)] [Ho a.1 a.2.1]
def EU(a:M0):Prop:=a.1.length<=aL/\0<=a.2.2/\a.2.2<=a.1.length
def yI(a:M0):Out (Exit×S):= .aw ((a.1.drop a.2.2.toNat).all Iw) (.one (.exit 0,sp 19 [] [Ho a.1 a.2.1])) (.all (fun j:Int=>0<=j) fun j=> .one (.ret,sp 19 [(4, .int j)] [Ho a.1 a.2.1]))
theorem VD(κ:Kp):bf (Ms κ) 12 Le 2 (aR 1 NI EU yI):=by
 refine aG (fun a=>a.1.length - a.2.2.toNat) ?_
 rintro⟨ds,rs,i⟩ K ⟨h1,h2,h3⟩ ho
 simp only at h1 h2 h3
 rw[show(Ms κ).P=Pr κ from rfl]
 refine Eq.mpr (Vz κ ds rs i _ _ K) ?_
 simp only[aL] at h1
 simp only[yI,Out.run,ae] at ho
 simp only[ae,ai,aa0,aa2,aa1,Bool.not_eq_true',ab2]
 refine⟨fun hi=>⟨⟨h2,hi⟩,?_⟩,fun hi=>?_⟩
 ·have hk:i.toNat<ds.length:=by omega
  rw[ab1 hk,←a7 ds i.toNat hk,List.all_cons] at ho
  refine⟨fun e=>ho.2 (by rw[show Iw (nth ds i.toNat)=false from e];rfl) i h2,fun e=>?_⟩
  rw[show Iw (nth ds i.toNat)=true from e,ab9] at ho
  rw[aC (n:=i+1) (by omega) (by omega)]
  refine⟨_,?_,(ds,rs,i+1),rfl,⟨by simpa[aL] using h1,by simp only;omega,by simp only;omega⟩,rfl,?_⟩
  ·simp only;omega
  ·simp only[yI,Out.run,ae,show(i+1).toNat=i.toNat+1 by omega]
   exact ho
 ·rw[aa8 (by omega)] at ho
  exact ho.1 rfl
noncomputable def uL(κ:Kp):Env:=(Ms κ).ar Le 2 (aR 1 NI EU yI)
theorem Wz(κ:Kp):aE (uL κ):=(eDc κ).ar (YM κ) (VD κ)
theorem Tz(κ:Kp):aj (uL κ):=(YM κ).ar aW
theorem Xg(κ:Kp)(ds rs:List AV)(i:Int)(I:Nat->S->Prop)(n:Nat)(K:Exit->S->Prop):(vc (uL κ) 12 119 none 1 (ag (Pr κ).toProgram 119 2) (sp 19 [(0, .ad 48 rs),(1, .bq 95 []),(7, .int rs.length),(8, .int i)] [.box 25 (.agg [.ad 43 ds, .ad 48 rs])]) (bB (uL κ) 119 2 1 I n K))=(
 letI z1:=AV.agg [AV.ad 43 ds,AV.ad 48 rs]
 letI z2:=nth rs i.toNat
 letI z3:=i<(↑(rs.length):Int)
 aw (decide z3) (aP (decide ((0:Int)<=i)&&decide z3) (aP (decide (List.length (ah (af (af z2 0) 1))<=9223372036854775807)&&decide (List.length (ah (af z2 1))<=9223372036854775807)) (aw (!aV {head:={rel:=toStr (af (af z2 0) 0),l:=aa (ah (af (af z2 0) 1))},body:=dh (ah (af z2 1))}) (K Exit.ret (sp 19 [(4,AV.int i)] [Obj.box 25 z1])) (∃(e0:Nat),e0<n/\I e0 (sp 19 [(0,AV.ad 48 rs),(1,AV.bq 95 []),(7,AV.int (↑(rs.length):Int)),(8,AV.int (IntKind.wrap IntKind.i64 (i+(1:Int))))] [Obj.box 25 z1]))))) (K (Exit.exit 0) (sp 19 [] [Obj.box 25 z1]))):=by kernel_rfl
def fX(a:AV):Bool:=decide ((ah (af (af a 0) 1)).length<=aL)&&decide ((ah (af a 1)).length<=aL)
def sc(a:AV):Bool:=aV (uU a)
abbrev Oe(a:M0):S:=sp 19 [(0, .ad 48 a.2.1),(1, .bq 95 []),(7, .int a.2.1.length),(8, .int a.2.2)] [Ho a.1 a.2.1]
def DV(a:M0):Prop:=a.2.1.length<=aL/\0<=a.2.2/\a.2.2<=a.2.1.length/\a.2.1.all fX=true
def ze(a:M0):Out (Exit×S):= .aw ((a.2.1.drop a.2.2.toNat).all sc) (.one (.exit 0,sp 19 [] [Ho a.1 a.2.1])) (.all (fun j:Int=>0<=j) fun j=> .one (.ret,sp 19 [(4, .int j)] [Ho a.1 a.2.1]))
theorem LG{rs:List AV}(h:rs.all fX=true){k:Nat}(hk:k<rs.length):(ah (af (af (nth rs k) 0) 1)).length<=aL/\(ah (af (nth rs k) 1)).length<=aL:=by
 have:=List.all_eq_true.1 h (nth rs k) (by rw[a7 _ _ hk];exact List.getElem_mem hk)
 simpa[fX] using this
theorem Vg(κ:Kp):bf (uL κ) 12 Qt 2 (aR 1 Oe DV ze):=by
 refine aG (fun a=>a.2.1.length - a.2.2.toNat) ?_
 rintro⟨ds,rs,i⟩ K ⟨h1,h2,h3,h4⟩ ho
 simp only at h1 h2 h3 h4
 rw[show(uL κ).P=Pr κ from rfl]
 refine Eq.mpr (Xg κ ds rs i _ _ K) ?_
 simp only[aL] at h1
 simp only[ze,Out.run,ae] at ho
 simp only[ae,ai,aa0,aa2,aa1,Bool.not_eq_true',ab2]
 refine⟨fun hi=>⟨⟨h2,hi⟩,LG h4 (by omega),?_⟩,fun hi=>?_⟩
 ·have hk:i.toNat<rs.length:=by omega
  rw[ab1 hk,←a7 rs i.toNat hk,List.all_cons] at ho
  refine⟨fun e=>ho.2 (by rw[show sc (nth rs i.toNat)=false from e];rfl) i h2,fun e=>?_⟩
  rw[show sc (nth rs i.toNat)=true from e,ab9] at ho
  rw[aC (n:=i+1) (by omega) (by omega)]
  refine⟨_,?_,(ds,rs,i+1),rfl,⟨by simpa[aL] using h1,by simp only;omega,by simp only;omega,h4⟩,rfl,?_⟩
  ·simp only;omega
  ·simp only[ze,Out.run,ae,show(i+1).toNat=i.toNat+1 by omega]
   exact ho
 ·rw[aa8 (by omega)] at ho
  exact ho.1 rfl
noncomputable def JN(κ:Kp):Env:=(uL κ).ar Qt 2 (aR 1 Oe DV ze)
theorem Wb(κ:Kp):aE (JN κ):=(Wz κ).ar (Tz κ) (Vg κ)
theorem TN(κ:Kp):aj (JN κ):=(Tz κ).ar aW
theorem Zu(κ:Kp)(ds rs:List AV)(K:AV->List Dn.Obj->Prop):(ba (JN κ) 12 48 [.agg [.ad 43 ds, .ad 48 rs]] [] K)=(
 letI z1:=∀(e0:Int),(0:Int)<=e0->K (AV.lit (Value.bool !decide (e0>=(0:Int)))) []
 letI z2:=Pg.toProgram (Env.P (uL κ))
 letI z3:=K (AV.bool false) []
 letI z4:=Pg.toProgram (Env.P (Ms κ))
 aw (decide ((↑(ds.length):Int)>(60:Int))) z3 (aw (decide ((↑(rs.length):Int)>(200:Int))) z3 (ag z4 Le 2=ag z4 Le 2/\∃(e3:M0),sp 19 [(0,AV.ad
 43 ds),(1,AV.bq 93 []),(7,AV.int (↑(ds.length):Int)),(8,AV.int 0)] [Obj.box 25 (AV.agg [AV.ad 43 ds,AV.ad 48 rs])]=sp 19 [(0,AV.ad 43 e3.1),(1,
 AV.bq 93 []),(7,AV.int (↑(e3.1.length):Int)),(8,AV.int e3.2.2)] [Obj.box 25 (AV.agg [AV.ad 43 e3.1,AV.ad 48 e3.2.1])]/\(e3.1.length<=
 9223372036854775807/\(0:Int)<=e3.2.2/\e3.2.2<=(↑(e3.1.length):Int))/\aw (List.all (List.drop (Int.toNat e3.2.2) e3.1) Iw) (ag z2 Qt 2=ag z2 Qt 2/\∃
 (e1:M0),sp 19 [(0,AV.ad 48 e3.2.1),(1,AV.bq 95 []),(7,AV.int (↑(e3.2.1.length):Int)),(8,AV.int 0)] [Obj.box 25 (AV.agg [AV.ad 43 e3.1,AV.ad 48
 e3.2.1])]=sp 19 [(0,AV.ad 48 e1.2.1),(1,AV.bq 95 []),(7,AV.int (↑(e1.2.1.length):Int)),(8,AV.int e1.2.2)] [Obj.box 25 (AV.agg [AV.ad 43 e1.1,AV.ad
 48 e1.2.1])]/\(e1.2.1.length<=9223372036854775807/\(0:Int)<=e1.2.2/\e1.2.2<=(↑(e1.2.1.length):Int)/\List.all e1.2.1 fX=true)/\aw (List.all
 (List.drop (Int.toNat e1.2.2) e1.2.1) sc) (K (AV.bool true) []) z1) (∀(e2:Int),(0:Int)<=e2->aw (!decide (e2>=(0:Int))) (ag z2 Qt 2=ag z2 Qt 2/\∃
 (e1:M0),sp 19 [(0,AV.ad 48 e3.2.1),(1,AV.bq 95 []),(7,AV.int (↑(e3.2.1.length):Int)),(8,AV.int 0)] [Obj.box 25 (AV.agg [AV.ad 43 e3.1,AV.ad 48
 e3.2.1])]=sp 19 [(0,AV.ad 48 e1.2.1),(1,AV.bq 95 []),(7,AV.int (↑(e1.2.1.length):Int)),(8,AV.int e1.2.2)] [Obj.box 25 (AV.agg [AV.ad 43 e1.1,AV.ad
 48 e1.2.1])]/\(e1.2.1.length<=9223372036854775807/\(0:Int)<=e1.2.2/\e1.2.2<=(↑(e1.2.1.length):Int)/\List.all e1.2.1 fX=true)/\aw (List.all
 (List.drop (Int.toNat e1.2.2) e1.2.1) sc) (K (AV.bool true) []) z1) z3)))):=by kernel_rfl
def fB(ds rs:List AV):Bool:=decide (ds.length<=60)&&decide (rs.length<=200)&&ds.all Iw&&rs.all sc
def Xb:List AV->Option (Bool×AV)
 |[.agg [.ad 43 ds, .ad 48 rs]]=>some (rs.all fX, .bool (fB ds rs))
 |_=>none
theorem pRt(κ:Kp):cj (JN κ) 12 48 Xb:=by
 intro args x hh
 unfold Xb at hh
 split at hh
 ·rename_i ds rs
  simp only[aa3,aa9] at hh
  obtain⟨h1,rfl⟩:=hh
  refine⟨_,rfl,rfl,?_⟩
  refine Eq.mpr (Zu κ ds rs _) ?_
  unfold fB
  rw[ae,aa0,aa2]
  refine⟨fun e=>n8 (by rw[aa4 (show ¬ ds.length<=60 by omega)];rfl),fun e=>?_⟩
  rw[ae,aa0,aa2]
  refine⟨fun e2=>n8 (by rw[aa4 (show ¬ rs.length<=200 by omega)];simp),fun e2=>?_⟩
  rw[aa6 (show ds.length<=60 by omega),aa6 (show rs.length<=200 by omega)]
  refine⟨rfl,(ds,rs,0),rfl,⟨by simp only[aL];omega,by simp only;omega,by simp only;omega⟩,?_⟩
  simp only[ab7,ab0,ab9]
  rw[ae]
  refine⟨fun e3=>⟨trivial,(ds,rs,0),rfl,⟨by simp only[aL];omega,by simp only;omega,by simp only;omega,h1⟩,?_⟩,fun e3 y hy=>?_⟩
  ·simp only[ab7,ab0]
   rw[ae,e3]
   refine⟨fun e4=>n8 (by rw[e4];rfl),fun e4 y hy=>n8 ?_⟩
   rw[e4,aa6 (show y>=0 from hy)];rfl
  ·rw[aa6 (show y>=0 from hy)]
   exact n8 (by rw[e3];rfl)
 ·cases hh
noncomputable def Na(κ:Kp):Env:=(JN κ).aK 48 Xb
theorem eRt(κ:Kp):aE (Na κ):=(Wb κ).aK (TN κ) (pRt κ)
theorem Yu(κ:Kp):aj (Na κ):=(TN κ).aK
theorem Z9(κ:Kp)(ds:List AV)(s:ByteArray)(i:Int)(I:Nat->S->Prop)(n:Nat)(K:Exit->S->Prop):(vc (Na κ) 12 Le none 1 (ag (Pr κ).toProgram Le 2) (sp 19 [(0, .ad 43 ds),(1, .bq 110 [.ptr 0 0 [] 0]),(7, .int ds.length),(8, .int i)] [.box 9 (.lit (.string s))]) (bB (Na κ) Le 2 1 I n K))=(
 letI z1:=i<(↑(ds.length):Int)
 aw (decide z1) (aP (decide ((0:Int)<=i)&&decide z1) (aw (ByteArray.toList (toStr (af (nth ds i.toNat) 0))==ByteArray.toList s) (K Exit.ret (sp 19 [(4,
 AV.int i)] [Obj.box 9 (AV.str s)])) (∃(e0:Nat),e0<n/\I e0 (sp 19 [(0,AV.ad 43 ds),(1,AV.bq 110 [AV.ptr 0 0 [] 0]),(7,AV.int (↑(ds.length):Int)),
 (8,AV.int (IntKind.wrap IntKind.i64 (i+(1:Int))))] [Obj.box 9 (AV.str s)])))) (K (Exit.exit 0) (sp 19 [] [Obj.box 9 (AV.str s)]))):=by kernel_rfl
def kM(s:ByteArray):List AV->Int->Int
 |[],_=> -1
 |d::l,i=>bif ma (toStr (af d 0)) s then i else kM s l (i+1)
abbrev Q4(a:List AV×ByteArray×Int):S:=sp 19 [(0, .ad 43 a.1),(1, .bq 110 [.ptr 0 0 [] 0]),(7, .int a.1.length),(8, .int a.2.2)] [.box 9 (.lit (.string a.2.1))]
def Ka(a:List AV×ByteArray×Int):Prop:=a.1.length<=aL/\0<=a.2.2/\a.2.2<=a.1.length
def FB(a:List AV×ByteArray×Int):Out (Exit×S):= .aw (decide (0<=kM a.2.1 (a.1.drop a.2.2.toNat) a.2.2)) (.one (.ret,sp 19 [(4, .int (kM a.2.1 (a.1.drop a.2.2.toNat) a.2.2))] [.box 9 (.lit (.string a.2.1))])) (.one (.exit 0,sp 19 [] [.box 9 (.lit (.string a.2.1))]))
theorem lFi(κ:Kp):bf (Na κ) 12 Le 2 (aR 1 Q4 Ka FB):=by
 refine aG (fun a=>a.1.length - a.2.2.toNat) ?_
 rintro⟨ds,s,i⟩ K ⟨h1,h2,h3⟩ ho
 simp only at h1 h2 h3
 rw[show(Na κ).P=Pr κ from rfl]
 refine Eq.mpr (Z9 κ ds s i _ _ K) ?_
 simp only[aL] at h1
 simp only[FB,Out.run,ae] at ho
 simp only[ae,ai,aa0,aa2,aa1]
 refine⟨fun hi=>⟨⟨h2,hi⟩,?_⟩,fun hi=>?_⟩
 ·have hk:i.toNat<ds.length:=by omega
  rw[ab1 hk,←a7 ds i.toNat hk,kM] at ho
  refine⟨fun e=>?_,fun e=>?_⟩
  ·rw[show ma (toStr (af (nth ds i.toNat) 0)) s=true from e,aa7] at ho
   exact ho.1 (aa6 h2)
  ·rw[show ma (toStr (af (nth ds i.toNat) 0)) s=false from e,aa5] at ho
   rw[aC (n:=i+1) (by omega) (by omega)]
   refine⟨_,?_,(ds,s,i+1),rfl,⟨by simpa[aL] using h1,by simp only;omega,by simp only;omega⟩,rfl,?_⟩
   ·simp only;omega
   ·simp only[FB,Out.run,ae,show(i+1).toNat=i.toNat+1 by omega]
    exact ho
 ·rw[aa8 (by omega)] at ho
  exact ho.2 rfl
noncomputable def Tl(κ:Kp):Env:=(Na κ).ar Le 2 (aR 1 Q4 Ka FB)
theorem eFl(κ:Kp):aE (Tl κ):=(eRt κ).ar (Yu κ) (lFi κ)
theorem X1(κ:Kp):aj (Tl κ):=(Yu κ).ar aW
theorem yFi(κ:Kp)(ds:List AV)(s:ByteArray)(K:AV->List Dn.Obj->Prop):(ba (Tl κ) 12 63 [.ad 43 ds, .lit (.string s)] [] K)=(
 ag (Pg.toProgram (Env.P (Na κ))) Le 2=ag (Pg.toProgram (Env.P (Na κ))) Le 2/\∃(a:List AV×ByteArray×Int),sp 19 [(0,AV.ad 43 ds),(1,
 AV.bq 110 [AV.ptr 0 0 [] 0]),(7,AV.int (↑(ds.length):Int)),(8,AV.int 0)] [Obj.box 9 (AV.str s)]=sp 19 [(0,AV.ad 43 a.1),(1,AV.bq 110 [AV.ptr 0 0
 [] 0]),(7,AV.int (↑(a.1.length):Int)),(8,AV.int a.2.2)] [Obj.box 9 (AV.str a.2.1)]/\(a.1.length<=9223372036854775807/\(0:Int)<=a.2.2/\a.2.2<=
 (↑(a.1.length):Int))/\aw (decide ((0:Int)<=kM a.2.1 (List.drop (Int.toNat a.2.2) a.1) a.2.2)) (K (AV.aX [AV.int (if(0:Int)>kM a.2.1
 (List.drop (Int.toNat a.2.2) a.1) a.2.2 then(0:Int) else kM a.2.1 (List.drop (Int.toNat a.2.2) a.1) a.2.2),AV.bool (decide (kM a.2.1 (List.drop
 (Int.toNat a.2.2) a.1) a.2.2>=(0:Int)))]) []) (K (AV.aX [AV.int 0,AV.bool false]) [])):=by kernel_rfl
def cv(s:ByteArray)(ds:List AV):Int:=bif decide (0<=kM s ds 0) then kM s ds 0 else 0
def fr(s:ByteArray)(ds:List AV):Bool:=decide (0<=kM s ds 0)
def FV(a:List AV×ByteArray):List AV×List Dn.Obj:=([.ad 43 a.1, .lit (.string a.2)],[])
def oC(a:List AV×ByteArray):Prop:=a.1.length<=aL
def Dx(a:List AV×ByteArray):Out (AV×List Dn.Obj):= .one (.aX [.int (cv a.2 a.1), .bool (fr a.2 a.1)],[])
theorem cFi(κ:Kp):bG (Tl κ) 12 63 (a0 FV oC Dx):=by
 refine bc ?_
 rintro⟨ds,s⟩ K h1 ho
 refine Eq.mpr (yFi κ ds s K) ?_
 simp only[Dx,Out.run,cv,fr] at ho
 refine⟨rfl,(ds,s,0),rfl,⟨h1,by simp only;omega,by simp only;omega⟩,?_⟩
 simp only[ab7,ab0]
 rw[ae]
 refine⟨fun e=>?_,fun e=>?_⟩
 ·rw[e,aa7] at ho
  rw[aa0] at e
  rw[if_neg (by omega),aa6 (show kM s ds 0>=0 from e)]
  exact ho
 ·rw[e,aa5] at ho
  exact ho
noncomputable def Uh(κ:Kp):Env:=(Tl κ).az 63 (a0 FV oC Dx)
theorem eFi(κ:Kp):aE (Uh κ):=(eFl κ).az (X1 κ) (cFi κ)
theorem Yv(κ:Kp):aj (Uh κ):=(X1 κ).az aZ
structure iT where
 ds:List AV
 es:List (Value×AV)
 more:Bool
abbrev bK(a:iT):List Dn.Obj:=[.box 219 (.agg [.ad 43 a.ds, .mp 1, .bool a.more]), .map 9 3 a.es]
abbrev B9:AV:= .ptr 0 0 [] 0
theorem yOf(κ:Kp)(a:iT)(t:AT)(K:AV->List Dn.Obj->Prop):(ba (Uh κ) 12 197 [B9,cz t] (bK a) K)=(
 aw (t.op==(1:Int)) (K (AV.int (toInt (dO a.es (Value.string t.s) (AV.int 0)))) (bK a)) (aw (t.op==(3:Int)) (K (AV.int 2) (bK a)) (aw (t.op==(4:Int))
 (K (AV.int 0) (bK a)) (K (AV.int 1) (bK a))))):=by kernel_rfl
def TQ(x:iT×AT):List AV×List Dn.Obj:=([B9,cz x.2],bK x.1)
def I1(_:iT×AT):Prop:=True
def Iu(x:iT×AT):Out (AV×List Dn.Obj):= .one (.int (bz getM x.2.tm x.1.es),bK x.1)
theorem cOf(κ:Kp):bG (Uh κ) 12 197 (a0 TQ I1 Iu):=by
 refine bc ?_
 rintro⟨a,t⟩ K _ ho
 refine Eq.mpr (yOf κ a t K) ?_
 simp only[Iu,Out.run] at ho
 have e:bz getM t.tm a.es=bif decide (t.op=1) then getM a.es t.s else bif decide (t.op=3) then 2 else bif decide (t.op=4) then 0 else 1:=rfl
 rw[e] at ho
 simp only[UB]
 cases h1:decide (t.op=1) with
 |true=>rw[h1] at ho;exact ho
 | false=>
  rw[h1] at ho
  cases h3:decide (t.op=3) with
  |true=>rw[h3] at ho;exact ho
  |false=>
   rw[h3] at ho
   cases h4:decide (t.op=4) with
   |true=>rw[h4] at ho;exact ho
   |false=>rw[h4] at ho;exact ho
noncomputable def Um(κ:Kp):Env:=(Uh κ).az 197 (a0 TQ I1 Iu)
theorem Yb(κ:Kp):aE (Um κ):=(eFi κ).az (Yv κ) (cOf κ)
theorem YP(κ:Kp):aj (Um κ):=(Yv κ).az aZ
structure oR where
 a:iT
 t:AT
 k:Int
def aM(a:iT)(t:AT)(k:Int):Bool×(List (Value×AV)×Bool):=t.tm.want getM fZ k (a.es,a.more)
def dH(a:iT)(r:List (Value×AV)×Bool):iT:=⟨a.ds,r.1,r.2⟩
def gJ(b:Bool):Int:=bif b then 53 else 0
def OL(x:oR):List AV×List Dn.Obj:=([B9,cz x.t, .int x.k],bK x.a)
def OR(n:Nat)(x:oR):Prop:=x.t.tm.fS=n/\n<=100000
noncomputable def Ep(κ:Kp)(x:oR):Out (AV×List Dn.Obj):= .one (.lit (a8 κ (gJ (aM x.a x.t x.k).1)),bK (dH x.a (aM x.a x.t x.k).2))
noncomputable def Il(κ:Kp)(n:Nat):b7:=a0 OL (OR n) (Ep κ)
noncomputable def Nw(κ:Kp)(r:Nat):Env:=(Um κ).az 196 fun args st K=>∃m,m<r/\Il κ m args st K
theorem xWt(κ:Kp)(r:Nat)(a:iT)(t:AT)(k:Int)(i:Int)(I:Nat->S->Prop)(n:Nat)(K:Exit->S->Prop):(vc (Nw κ r) 12 196 none 2 (ag (Pr κ).toProgram 196 2) (sp 56 [(0,B9),(2, .int k),(4, .ptr 2 0 [] 0),(12, .ad 38 t.l),(13, .int t.l.length),(14, .int i)] (bK a++[.box 38 (cz t)])) (bB (Nw κ r) 196 2 2 I n K))=(
 letI z1:=nth t.l i.toNat
 letI z2:=i<(↑(t.l.length):Int)
 aw (decide z2) (aP (decide ((0:Int)<=i)&&decide z2) (∃(e2:Nat),e2<r/\∃(e1:oR),([AV.ptr 0 0 [] 0,AV.agg [AV.int (toInt (af z1 0)),AV.str (toStr
 (af z1 1)),AV.int (toInt (af z1 2)),AV.ad 38 (ah (af z1 3))],AV.int 1],(bK a))=([AV.ptr 0 0 [] 0,cz e1.t,AV.int e1.k],(bK e1.a))/\(Tm.fS (AT.tm e1.t)
 =e2/\e2<=100000)/\aP (ay (a8 κ (gJ (Prod.fst (aM e1.a e1.t e1.k))))) (aw (!bI (a8 κ (gJ (Prod.fst (aM e1.a e1.t e1.k))))) (K Exit.ret (sp 56 [(6,AV.lit (a8
 κ (gJ (Prod.fst (aM e1.a e1.t e1.k)))))] (bK (dH e1.a (Prod.snd (aM e1.a e1.t e1.k)))))) (∃(e0:Nat),e0<n/\I e0 (sp 56 [(0,AV.ptr 0 0 [] 0),(2,AV.int
 k),(4,AV.ptr 2 0 [] 0),(12,AV.ad 38 t.l),(13,AV.int (↑(t.l.length):Int)),(14,AV.int (IntKind.wrap IntKind.i64 (i+(1:Int))))] [Obj.box 219 (AV.agg
 [AV.ad 43 (iT.ds (dH e1.a (Prod.snd (aM e1.a e1.t e1.k)))),AV.mp 1,AV.bool (iT.more (dH e1.a (Prod.snd (aM e1.a e1.t e1.k))))]),Dn.Obj.map 9 3 (iT.es (dH
 e1.a (Prod.snd (aM e1.a e1.t e1.k)))),Obj.box 38 (cz t)]))))) (K (Exit.exit 0) (sp 56 [(0,AV.ptr 0 0 [] 0),(2,AV.int k),(4,AV.ptr 2 0 [] 0)] [Obj.box 219
 (AV.agg [AV.ad 43 a.ds,AV.mp 1,AV.bool a.more]),Dn.Obj.map 9 3 a.es,Obj.box 38 (cz t)]))):=by kernel_rfl
abbrev Ud:=oR×Int
abbrev Sv(x:Ud):S:=sp 56 [(0,B9),(2, .int x.1.k),(4, .ptr 2 0 [] 0),(12, .ad 38 x.1.t.l),(13, .int x.1.t.l.length),(14, .int x.2)] (bK x.1.a++[.box 38 (cz x.1.t)])
def KW(r:Nat)(x:Ud):Prop:=x.1.t.l.length<=aL/\0<=x.2/\x.2<=x.1.t.l.length/\aI (aa (x.1.t.l.drop x.2.toNat))<r/\aI (aa (x.1.t.l.drop x.2.toNat))<=100000
def fP(x:Ud):Bool×(List (Value×AV)×Bool):=iy getM fZ (aa (x.1.t.l.drop x.2.toNat)) (x.1.a.es,x.1.a.more)
noncomputable def ED(κ:Kp)(x:Ud):Out (Exit×S):= .aw (fP x).1 (.one (.ret,sp 56 [(6, .lit (a8 κ 53))] (bK (dH x.1.a (fP x).2))))
 (.one (.exit 0,sp 56 [(0,B9),(2, .int x.1.k),(4, .ptr 2 0 [] 0)] (bK (dH x.1.a (fP x).2)++[.box 38 (cz x.1.t)])))
theorem yR(b:Bool):decide (gJ b=0)= !b:=by cases b<;>rfl
theorem lWt(κ:Kp)(r:Nat):bf (Nw κ r) 12 196 2 (aR 2 Sv (KW r) (ED κ)):=by
 refine aG (fun x=>x.1.t.l.length - x.2.toNat) ?_
 rintro⟨⟨a,t,k⟩,i⟩ K ⟨h1,h2,h3,h4,h5⟩ ho
 simp only at h1 h2 h3 h4 h5
 rw[show(Nw κ r).P=Pr κ from rfl]
 refine Eq.mpr (xWt κ r a t k i _ _ K) ?_
 simp only[aL] at h1
 simp only[ED,Out.run,ae] at ho
 rw[ae,aa0,aa2]
 refine⟨fun hi=>?_,fun hi=>?_⟩
 ·have hk:i.toNat<t.l.length:=by omega
  have e:=dR t.l i.toNat hk
  have hw:fP (⟨a,t,k⟩,i)=bif (aM a (sQ (nth t.l i.toNat)) 1).1 then aM a (sQ (nth t.l i.toNat)) 1 else fP (⟨dH a (aM a (sQ (nth t.l i.toNat)) 1).2,t,k⟩,i+1):=by
   unfold fP aM
   simp only[show(i+1).toNat=i.toNat+1 by omega]
   rw[e,iy,j8];rfl
  rw[e,aI] at h4 h5
  rw[hw] at ho
  rw[ai,aa1,aa0,aa0]
  refine⟨⟨h2,hi⟩,(cI (nth t.l i.toNat)).fS,by omega,⟨a,sQ (nth t.l i.toNat),1⟩,rfl,⟨by rw[j8],by omega⟩,?_⟩
  rw[ai]
  refine⟨cM _ _,?_⟩
  rw[iR,yR,Bool.not_not,ae]
  refine⟨fun e1=>?_,fun e1=>?_⟩
  ·simp only[e1,aa7] at ho⊢
   exact ho.1 trivial
  ·simp only[e1,aa5] at ho
   rw[aC (n:=i+1) (by omega) (by omega)]
   refine⟨_,?_,(⟨dH a (aM a (sQ (nth t.l i.toNat)) 1).2,t,k⟩,i+1),rfl,⟨by simpa[aL] using h1,by simp only;omega,by simp only;omega,?_,?_⟩,rfl,?_⟩
   ·simp only;omega
   ·simp only[show(i+1).toNat=i.toNat+1 by omega];omega
   ·simp only[show(i+1).toNat=i.toNat+1 by omega];omega
   ·simp only[ED,Out.run,ae]
    exact ho
 ·have hw:fP (⟨a,t,k⟩,i)=(false,(a.es,a.more)):=by
   unfold fP
   simp only
   rw[aa8 (by omega)];rfl
  rw[hw] at ho
  exact ho.2 rfl
noncomputable def Qv(κ:Kp)(r:Nat):Env:=(Nw κ r).ar 196 2 (aR 2 Sv (KW r) (ED κ))
theorem yWt(κ:Kp)(r:Nat)(a:iT)(t:AT)(k:Int)(K:AV->List Dn.Obj->Prop):(ba (Qv κ r) 12 196 [B9,cz t, .int k] (bK a) K)=(
 letI z1:=AV.lit Value.nilIface
 letI z2:=Pg.toProgram (Env.P (Nw κ r))
 ag z2 196 2=ag z2 196 2/\∃(e1:Ud),sp 56 [(0,AV.ptr 0 0 [] 0),(2,AV.int k),(4,AV.ptr 2 0 [] 0),(12,AV.ad 38 t.l),(13,AV.int (↑(t.l.length):
 Int)),(14,AV.int 0)] [Obj.box 219 (AV.agg [AV.ad 43 a.ds,AV.mp 1,AV.bool a.more]),Dn.Obj.map 9 3 a.es,Obj.box 38 (cz t)]=sp 56 [(0,AV.ptr 0 0 [] 0),
 (2,AV.int e1.1.k),(4,AV.ptr 2 0 [] 0),(12,AV.ad 38 e1.1.t.l),(13,AV.int (↑(List.length e1.1.t.l):Int)),(14,AV.int e1.2)] [Obj.box 219 (AV.agg [AV.ad
 43 e1.1.a.ds,AV.mp 1,AV.bool e1.1.a.more]),Dn.Obj.map 9 3 e1.1.a.es,Obj.box 38 (cz e1.1.t)]/\(List.length e1.1.t.l<=9223372036854775807/\(0:Int)<=e1.2
 /\e1.2<=(↑(List.length e1.1.t.l):Int)/\aI (aa (List.drop e1.2.toNat e1.1.t.l))<r/\aI (aa (List.drop e1.2.toNat e1.1.t.l))<=100000)/\aw (Prod.fst (fP
 e1)) (K (AV.lit (Value.iface 273 (Value.pointer (some (Nz κ (53:Int)))))) (bK (dH e1.1.a (Prod.snd (fP e1))))) (∃(e0:iT×AT),([AV.ptr 0 0 [] 0,cz
 e1.1.t],(bK (dH e1.1.a (Prod.snd (fP e1)))))=([AV.ptr 0 0 [] 0,cz e0.2],(bK e0.1))/\True/\aw (e1.1.k==(0:Int)) (K z1 (bK e0.1)) (aw (e1.1.t.op==(4
 :Int)) (K z1 (bK e0.1)) (aw (bz getM (AT.tm e0.2) e0.1.es==(0:Int)) (K z1 [Obj.box 219 (AV.agg [AV.ad 43 e0.1.ds,AV.mp 1,AV.bool true]),Dn.Obj.map 9 3
 (eX (eX e0.1.es (Value.string e1.1.t.s) (AV.int (toInt (dO e0.1.es (Value.string e1.1.t.s) (AV.int 0))))) (Value.string e1.1.t.s) (AV.int e1.1.k))]) (aw (bz
 getM (AT.tm e0.2) e0.1.es != e1.1.k) (K (AV.lit (Value.iface 273 (Value.pointer (some (Kp.type κ))))) (bK e0.1)) (K z1 (bK e0.1))))))):=by kernel_rfl
theorem Ed(s:ByteArray)(v w:AV): ∀es:List (Value×AV),eX (eX es (.string s) v) (.string s) w=eX es (.string s) w
 |[]=>by simp[eX,dm]
 |(k',a')::es=>by
  rw[eX,eX]
  cases h:dm (.string s) k' with
  |true=>simp[eX,dm]
  |false=>simp only[aa5,eX,h,Ed s v w es]
theorem HW(κ:Kp)(n:Nat):(Il κ n).ib:=aZ
theorem Zx(κ:Kp)(r:Nat)(hp: ∀args st K,(∃m,m<r/\Il κ m args st K)->bD (Pr κ) 196 args st K):aE (Qv κ r)/\aj (Qv κ r)/\(Qv κ r).P=Pr κ:=
 have h:aE (Nw κ r):=(Yb κ).fT hp
 have hm:aj (Nw κ r):=(YP κ).az (fun _ _ _ _ hK ⟨m,h1,h2⟩=>⟨m,h1,HW κ m _ _ _ _ hK h2⟩)
 ⟨h.ar hm (lWt κ r),hm.ar aW,rfl⟩
theorem cWt(κ:Kp)(r:Nat):bG (Qv κ r) 12 196 (Il κ r):=by
 refine bc ?_
 rintro⟨a,t,k⟩ K ⟨h1,h2⟩ ho
 refine Eq.mpr (yWt κ r a t k K) ?_
 simp only[Ep,Out.run] at ho
 have e1:t.tm.fS=1+aI (aa t.l):=rfl
 have hl:=ee (aa t.l)
 rw[du] at hl
 simp only at h1
 refine⟨rfl,(⟨a,t,k⟩,0),rfl,⟨by simp only[aL];omega,by simp only;omega,by simp only;omega,by simp only[ab7,ab0];omega,by simp only[ab7,ab0];omega⟩,?_⟩
 have hw:aM a t k=bif (fP (⟨a,t,k⟩,0)).1 then fP (⟨a,t,k⟩,0) else bif decide (k=0)||decide (t.op=4) then(false,(fP (⟨a,t,k⟩,0)).2)
   else bif decide (bz getM t.tm (fP (⟨a,t,k⟩,0)).2.1=0) then(false,(fZ (fP (⟨a,t,k⟩,0)).2.1 t.s k,true)) else(!decide (bz getM t.tm (fP (⟨a,t,k⟩,0)).2.1=k),(fP (⟨a,t,k⟩,0)).2):=by
  unfold aM fP
  rw[AT.tm,Tm.want];rfl
 rw[hw] at ho
 simp only[UB,Kb]
 cases hd:(fP (⟨a,t,k⟩,0)).1 with
 |true=>
  rw[hd,aa7,hd] at ho
  exact ho
 | false=>
  rw[hd,aa5] at ho
  refine⟨(dH a (fP (⟨a,t,k⟩,0)).2,t),rfl,trivial,?_⟩
  cases hk:decide (k=0) with
  |true=>rw[hk] at ho;exact ho
  | false=>
   rw[hk] at ho
   cases h4:decide (t.op=4) with
   |true=>rw[h4] at ho;exact ho
   | false=>
    rw[h4] at ho
    rw[show(false||false)=false from rfl,aa5] at ho
    have ht:bz getM t.tm (dH a (fP (⟨a,t,k⟩,0)).2).es=bz getM t.tm (fP (⟨a,t,k⟩,0)).2.1:=rfl
    simp only[ht]
    cases h0:decide (bz getM t.tm (fP (⟨a,t,k⟩,0)).2.1=0) with
    |true=>
     rw[h0,aa7] at ho
     simp only[aw,Ed]
     exact ho
    |false=>
     rw[h0,aa5] at ho
     cases hq:decide (bz getM t.tm (fP (⟨a,t,k⟩,0)).2.1=k) with
     |true=>rw[hq] at ho;exact ho
     |false=>rw[hq] at ho;exact ho
def dk(x:oR):Prop:=x.t.tm.fS<=100000
theorem qWt(κ:Kp): ∀args st K,a0 OL dk (Ep κ) args st K->bD (Pr κ) 196 args st K:=by
 rintro args st K ⟨a,h1,h2,h3⟩
 exact aE.q9 (Il κ) (Qv κ) (Zx κ) (cWt κ) a.t.tm.fS args st K ⟨a,h1,⟨rfl,h2⟩,h3⟩
noncomputable def M9(κ:Kp):Env:=(Um κ).az 196 (a0 OL dk (Ep κ))
theorem eYw(κ:Kp):aE (M9 κ):=(Yb κ).fT (qWt κ)
theorem XQ(κ:Kp):aj (M9 κ):=(YP κ).az aZ
def I0(x:AV):Dc:=⟨toStr (af x 0),(ah (af x 2)).map toInt⟩
def ct(l:List AV):List Dc:=l.map I0
theorem tG(s:ByteArray): ∀(ds:List AV) (i:Int),kM s ds i=match iE s (ct ds) with|some k=>i+k|none=> -1
 |[],i=>rfl
 | d::ds,i=>by
  have ih:=tG s ds (i+1)
  rw[kM,ih,show ct (d::ds)=I0 d::ct ds from rfl,iE,show(I0 d).rel=toStr (af d 0) from rfl]
  cases ma (toStr (af d 0)) s with
  |true=>simp
  | false=>
   rw[aa5,aa5]
   cases iE s (ct ds) with
   |none=>rfl
    |some k=>show i+1+(k:Int)=i+((k+1:Nat):Int);omega
theorem Az(s:ByteArray): ∀(ds:List Dc) (k:Nat),iE s ds=some k->k<ds.length
 |[],_,h=>by cases h
 | d::ds,k,h=>by
  rw[iE] at h
  cases e:ma d.rel s with
  |true=>rw[e,aa7] at h;cases h;simp
  | false=>
   rw[e,aa5] at h
   cases h2:iE s ds with
   |none=>rw[h2] at h;cases h
   |some j=>
    rw[h2] at h;cases h
    have:=Az s ds j h2
    simp only[List.length_cons];omega
theorem uf{s:ByteArray}{ds:List AV}(h:iE s (ct ds)=none):fr s ds=false/\cv s ds=0:=by
 have e:=tG s ds 0
 rw[h] at e
 unfold fr cv
 rw[e];exact⟨rfl,rfl⟩
theorem qo{s:ByteArray}{ds:List AV}{k:Nat}(h:iE s (ct ds)=some k):fr s ds=true/\cv s ds=k/\k<ds.length:=by
 have e:=tG s ds 0
 rw[h] at e
 simp only[Int.zero_add] at e
 have h1:=Az s _ k h
 unfold fr cv
 rw[e,aa6 (show(0:Int)<=k by omega)]
 exact⟨rfl,rfl,by simpa[ct] using h1⟩
def lG(ds:List AV)(i:Int):List Int:=(ah (af (nth ds i.toNat) 2)).map toInt
theorem An{s:ByteArray}{ds:List AV}{k:Nat}(h:iE s (ct ds)=some k):cd (ct ds) s=lG ds k:=by
 obtain⟨_,_,h2⟩:=qo h
 unfold cd lG
 rw[h,Int.toNat_natCast,a7 _ _ h2]
 simp only[ct]
 rw[List.getD_eq_getElem?_getD,List.getElem?_map,ab6 h2]
 rfl
theorem GY(ds:List AV)(rel:ByteArray)(l:List AV):known (ct ds) ⟨rel,aa l⟩=bif fr rel ds then(bif decide ((lG ds (cv rel ds)).length=l.length) then 0 else 52) else 51:=by
 unfold known
 simp only
 cases h:iE rel (ct ds) with
 |none=>rw[(uf h).1];rfl
 |some k=>
  obtain⟨h1,h2,_⟩:=qo h
  rw[h1,h2,An h,du];rfl
theorem M7{ds:List AV}{i:Int}{k:Nat}(h:k<(lG ds i).length):(lG ds i).drop k=toInt (nth (ah (af (nth ds i.toNat) 2)) k)::(lG ds i).drop (k+1):=by
 rw[ab1 h]
 have h':k<(ah (af (nth ds i.toNat) 2)).length:=by simpa[lG] using h
 rw[a7 _ _ h']
 simp[lG]
structure Qr where
 a:iT
 fi:Int
 l:List AV
 k:Int
abbrev Pt(x:Qr):S:=sp 65 [(0,B9),(5, .int x.fi),(40, .ad 38 x.l),(41, .int x.l.length),(42, .int x.k)] (bK x.a)
theorem xAt(κ:Kp)(x:Qr)(I:Nat->S->Prop)(n:Nat)(K:Exit->S->Prop):(vc (M9 κ) 12 180 none 2 (ag (Pr κ).toProgram 180 7) (Pt x) (bB (M9 κ) 180 7 2 I n K))=(
 letI z1:=nth x.l x.k.toNat
 letI z2:=ah (af (nth x.a.ds x.fi.toNat) 2)
 letI z3:=x.k<(↑(x.l.length):Int)
 aw (decide z3) (aP (decide ((0:Int)<=x.k)&&decide z3) (aP (decide ((0:Int)<=x.fi)&&decide (x.fi<(↑(List.length x.a.ds):Int))) (aP (decide ((0:
 Int)<=x.k)&&decide (x.k<(↑(List.length z2):Int))) (∃(e1:oR),([AV.ptr 0 0 [] 0,AV.agg [AV.int (toInt (af z1 0)),AV.str (toStr (af z1 1)),AV.int
 (toInt (af z1 2)),AV.ad 38 (ah (af z1 3))],AV.int (toInt (nth z2 x.k.toNat))],(bK x.a))=([AV.ptr 0 0 [] 0,cz e1.t,AV.int e1.k],(bK e1.a))/\dk e1/\aP
 (ay (a8 κ (gJ (Prod.fst (aM e1.a e1.t e1.k))))) (aw (!bI (a8 κ (gJ (Prod.fst (aM e1.a e1.t e1.k))))) (K Exit.ret (sp 65 [(4,AV.lit (a8 κ (gJ (Prod.fst (aM e1.a
 e1.t e1.k)))))] (bK (dH e1.a (Prod.snd (aM e1.a e1.t e1.k)))))) (∃(e0:Nat),e0<n/\I e0 (sp 65 [(0,AV.ptr 0 0 [] 0),(5,AV.int x.fi),(40,AV.ad 38 x.l),
 (41,AV.int (↑(x.l.length):Int)),(42,AV.int (IntKind.wrap IntKind.i64 (x.k+(1:Int))))] (bK (dH e1.a (Prod.snd (aM e1.a e1.t e1.k))))))))))) (K
 (Exit.exit 1) (sp 65 [] (bK x.a)))):=by kernel_rfl
def jc(x:Qr):Bool×(List (Value×AV)×Bool):=iq getM fZ ((lG x.a.ds x.fi).drop x.k.toNat) (aa (x.l.drop x.k.toNat)) (x.a.es,x.a.more)
def KF(x:Qr):Prop:=0<=x.fi/\x.fi<x.a.ds.length/\(lG x.a.ds x.fi).length=x.l.length/\x.l.length<=aL/\0<=x.k/\x.k<=x.l.length/\aI (aa (x.l.drop x.k.toNat))<=100000
noncomputable def D9(κ:Kp)(x:Qr):Out (Exit×S):= .aw (jc x).1 (.one (.ret,sp 65 [(4, .lit (a8 κ 53))] (bK (dH x.a (jc x).2)))) (.one (.exit 1,sp 65 [] (bK (dH x.a (jc x).2))))
theorem lAt(κ:Kp):bf (M9 κ) 12 180 7 (aR 2 Pt KF (D9 κ)):=by
 refine aG (fun x=>x.l.length - x.k.toNat) ?_
 rintro⟨a,fi,l,k⟩ K ⟨h1,h2,h3,h4,h5,h6,h7⟩ ho
 simp only at h1 h2 h3 h4 h5 h6 h7
 rw[show(M9 κ).P=Pr κ from rfl]
 refine Eq.mpr (xAt κ ⟨a,fi,l,k⟩ _ _ K) ?_
 simp only[aL] at h4
 simp only[D9,Out.run,ae] at ho
 have hwl:(ah (af (nth a.ds fi.toNat) 2)).length=(lG a.ds fi).length:=by simp[lG]
 rw[ae,aa0,aa2]
 refine⟨fun hi=>?_,fun hi=>?_⟩
 ·simp only at hi
  have hk:k.toNat<l.length:=by omega
  have e:=dR l k.toNat hk
  have ew:=M7 (ds:=a.ds) (i:=fi) (k:=k.toNat) (by omega)
  have hw:jc ⟨a,fi,l,k⟩=bif (aM a (sQ (nth l k.toNat)) (toInt (nth (ah (af (nth a.ds fi.toNat) 2)) k.toNat))).1 then aM a (sQ (nth l k.toNat)) (toInt (nth (ah (af (nth a.ds fi.toNat) 2)) k.toNat)) else jc ⟨dH a (aM a (sQ (nth l k.toNat)) (toInt (nth (ah (af (nth a.ds fi.toNat) 2)) k.toNat))).2,fi,l,k+1⟩:=by
   unfold jc aM
   simp only[show(k+1).toNat=k.toNat+1 by omega]
   rw[e,ew,iq,j8];rfl
  rw[e,aI] at h7
  rw[hw] at ho
  simp only[ai,aa1,aa0,hwl]
  refine⟨⟨h5,hi⟩,⟨h1,h2⟩,⟨h5,by omega⟩,⟨a,sQ (nth l k.toNat),toInt (nth (ah (af (nth a.ds fi.toNat) 2)) k.toNat)⟩,rfl,by show(sQ (nth l k.toNat)).tm.fS<=100000;rw[j8];omega,cM _ _,?_⟩
  rw[iR,yR,Bool.not_not,ae]
  refine⟨fun e1=>?_,fun e1=>?_⟩
  ·simp only[e1,aa7] at ho⊢
   exact ho.1 trivial
  ·simp only[e1,aa5] at ho
   rw[aC (n:=k+1) (by omega) (by omega)]
   refine⟨_,?_,⟨dH a (aM a (sQ (nth l k.toNat)) (toInt (nth (ah (af (nth a.ds fi.toNat) 2)) k.toNat))).2,fi,l,k+1⟩,rfl,⟨h1,h2,h3,by simpa[aL] using h4,by simp only;omega,by simp only;omega,?_⟩,rfl,?_⟩
   ·simp only;omega
   ·simp only[show(k+1).toNat=k.toNat+1 by omega];omega
   ·simp only[D9,Out.run,ae]
    exact ho
 ·simp only at hi
  have hw:jc ⟨a,fi,l,k⟩=(false,(a.es,a.more)):=by
   unfold jc
   simp only
   rw[aa8 (show l.length<=k.toNat by omega),aa8 (show(lG a.ds fi).length<=k.toNat by omega)];rfl
  rw[hw] at ho
  exact ho.2 rfl
noncomputable def TE(κ:Kp):Env:=(M9 κ).ar 180 7 (aR 2 Pt KF (D9 κ))
theorem eYl(κ:Kp):aE (TE κ):=(eYw κ).ar (XQ κ) (lAt κ)
theorem YX(κ:Kp):aj (TE κ):=(XQ κ).ar aW
theorem yAt(κ:Kp)(a:iT)(rel:ByteArray)(l:List AV)(K:AV->List Dn.Obj->Prop):(ba (TE κ) 12 180 [B9, .agg [.lit (.string rel), .ad 38 l]] (bK a) K)=(
 letI z1:=Pg.toProgram (Env.P (M9 κ))
 ∃(e1:List AV×ByteArray),([AV.ad 43 a.ds,AV.str rel],aJ)=([AV.ad 43 e1.1,AV.str e1.2],aJ)/\oC e1/\aw (!fr e1.2 e1.1) (K (AV.lit (Value.iface 273
 (Value.pointer (some (Kp.ft κ))))) (bK a)) (aP (decide ((0:Int)<=cv e1.2 e1.1)&&decide (cv e1.2 e1.1<(↑(a.ds.length):Int))) (aw ((↑(List.length (ah (af
 (nth a.ds (Int.toNat (cv e1.2 e1.1))) 2))):Int) != (↑(l.length):Int)) (K (AV.lit (Value.iface 273 (Value.pointer (some (Kp.arity κ))))) (bK a)) (ag z1 180 7
 =ag z1 180 7/\∃(e0:Qr),sp 65 [(0,AV.ptr 0 0 [] 0),(5,AV.int (cv e1.2 e1.1)),(40,AV.ad 38 l),(41,AV.int (↑(l.length):Int)),(42,AV.int 0)] (bK a)
 =sp 65 [(0,AV.ptr 0 0 [] 0),(5,AV.int e0.fi),(40,AV.ad 38 e0.l),(41,AV.int (↑(e0.l.length):Int)),(42,AV.int e0.k)] (bK e0.a)/\((0:Int)<=e0.fi/\
 e0.fi<(↑(List.length e0.a.ds):Int)/\List.length (lG e0.a.ds e0.fi)=e0.l.length/\e0.l.length<=9223372036854775807/\(0:Int)<=e0.k/\e0.k<=
 (↑(e0.l.length):Int)/\aI (aa (List.drop e0.k.toNat e0.l))<=100000)/\aw (Prod.fst (jc e0)) (K (AV.lit (Value.iface 273 (Value.pointer (some (Nz κ (53:
 Int)))))) (bK (dH e0.a (Prod.snd (jc e0))))) (K (AV.lit Value.nilIface) (bK (dH e0.a (Prod.snd (jc e0))))))))):=by kernel_rfl
def dw(a:iT)(rel:ByteArray)(l:List AV):Int×(List (Value×AV)×Bool):=dY getM fZ (ct a.ds) ⟨rel,aa l⟩ (a.es,a.more)
abbrev Ph:=iT×ByteArray×List AV
def Sl(x:Ph):List AV×List Dn.Obj:=([B9, .agg [.lit (.string x.2.1), .ad 38 x.2.2]],bK x.1)
def JW(x:Ph):Prop:=x.1.ds.length<=aL/\aI (aa x.2.2)<=100000
noncomputable def Jg(κ:Kp)(x:Ph):Out (AV×List Dn.Obj):= .one (.lit (a8 κ (dw x.1 x.2.1 x.2.2).1),bK (dH x.1 (dw x.1 x.2.1 x.2.2).2))
theorem cAc(κ:Kp):bG (TE κ) 12 180 (a0 Sl JW (Jg κ)):=by
 refine bc ?_
 rintro⟨a,rel,l⟩ K ⟨h1,h2⟩ ho
 simp only at h1 h2
 refine Eq.mpr (yAt κ a rel l K) ?_
 simp only[Jg,Out.run,dw,dY,GY] at ho
 have hl:=ee (aa l)
 rw[du] at hl
 refine⟨(a.ds,rel),rfl,h1,?_⟩
 cases hf:iE rel (ct a.ds) with
 |none=>
  rw[(uf hf).1] at ho
  simp only[(uf hf).1]
  exact ho
 | some k=>
  obtain⟨e1,e2,e3⟩:=qo hf
  rw[e1,e2,An hf] at ho
  have hwl:(ah (af (nth a.ds (Int.toNat (k:Int))) 2)).length=(lG a.ds k).length:=by simp[lG]
  simp only[e1,e2,hwl,Kb]
  refine ai.2 ⟨by simp;omega,?_⟩
  cases hq:decide ((lG a.ds k).length=l.length) with
  |false=>
   rw[hq] at ho
   rw[aa2] at hq
   rw[aa4 (show ¬ (((lG a.ds k).length:Int)=(l.length:Int)) by omega)]
   exact ho
  | true=>
   rw[hq] at ho
   rw[aa0] at hq
   rw[aa6 (show(((lG a.ds k).length:Int)=(l.length:Int)) by omega)]
   refine⟨trivial,⟨a,k,l,0⟩,rfl,⟨by simp only;omega,by simp only;omega,hq,by simp only[aL];omega,by simp only;omega,by simp only;omega,by simp only[ab7,ab0];exact h2⟩,?_⟩
   have hd:jc ⟨a,k,l,0⟩=iq getM fZ (lG a.ds k) (aa l) (a.es,a.more):=by
    unfold jc;simp only[ab7,ab0]
   rw[hd]
   simp only[aa7,decide_true] at ho
   rw[ae]
   refine⟨fun e=>by rw[e] at ho;exact ho,fun e=>by rw[e] at ho;exact ho⟩
noncomputable def TD(κ:Kp):Env:=(TE κ).az 180 (a0 Sl JW (Jg κ))
theorem eYa(κ:Kp):aE (TD κ):=(eYl κ).az (YX κ) (cAc κ)
theorem YC(κ:Kp):aj (TD κ):=(YX κ).az aZ
theorem yLi(κ:Kp)(a:iT)(op:Int)(rel:ByteArray)(l:List AV)(u v:AT)(K:AV->List Dn.Obj->Prop):(ba (TD κ) 12 181 [B9, .agg [.int op, .agg [.lit (.string rel), .ad 38 l],cz u,cz v]] (bK a) K)=(
 letI z1:=∃(e3:iT×AT),([AV.ptr 0 0 [] 0,cz u],(bK a))=([AV.ptr 0 0 [] 0,cz e3.2],(bK e3.1))/\True/\∃(e2:iT×AT),([AV.ptr 0 0 [] 0,cz v],
  (bK e3.1))=([AV.ptr 0 0 [] 0,cz e2.2],(bK e2.1))/\True/\∃(e1:oR),([AV.ptr 0 0 [] 0,cz u,AV.int (if bz getM (AT.tm e2.2) e2.1.es>bz getM (AT.tm
  e3.2) e3.1.es then bz getM (AT.tm e2.2) e2.1.es else bz getM (AT.tm e3.2) e3.1.es)],(bK e2.1))=([AV.ptr 0 0 [] 0,cz e1.t,AV.int e1.k],(bK e1.a))/\dk e1/\
  aP (ay (a8 κ (gJ (Prod.fst (aM e1.a e1.t e1.k))))) (aw (!bI (a8 κ (gJ (Prod.fst (aM e1.a e1.t e1.k))))) (K (AV.lit (a8 κ (gJ (Prod.fst (aM e1.a e1.t e1.k)))))
  (bK (dH e1.a (Prod.snd (aM e1.a e1.t e1.k))))) (∃(e0:oR),([AV.ptr 0 0 [] 0,cz v,AV.int (if bz getM (AT.tm e2.2) e2.1.es>bz getM (AT.tm e3.2) e3.1.es
  then bz getM (AT.tm e2.2) e2.1.es else bz getM (AT.tm e3.2) e3.1.es)],(bK (dH e1.a (Prod.snd (aM e1.a e1.t e1.k)))))=([AV.ptr 0 0 [] 0,cz e0.t,AV.int
  e0.k],(bK e0.a))/\dk e0/\K (AV.lit (a8 κ (gJ (Prod.fst (aM e0.a e0.t e0.k))))) (bK (dH e0.a (Prod.snd (aM e0.a e0.t e0.k))))))
 letI z2:=∃(e0:Ph),([AV.ptr 0 0 [] 0,AV.agg [AV.str rel,AV.ad 38 l]],(bK a))=([AV.ptr 0 0 [] 0,AV.agg [AV.str e0.2.1,AV.ad 38 e0.2.2]],(bK e0.1))/\
  (e0.1.ds.length<=9223372036854775807/\aI (aa e0.2.2)<=100000)/\K (AV.lit (a8 κ (Prod.fst (dw e0.1 e0.2.1 e0.2.2)))) (bK (dH e0.1 (Prod.snd (dw e0.1 e0.2.1
  e0.2.2))))
 letI z3:=z1/\z1/\z1
 aw (op==(3:Int)) z3 (aw (op==(4:Int)) z3 (aw (op==(5:Int)) z3 (aw (op==(6:Int)) z3 (aw (op==(1:Int)) z2 (aw (op==(2:Int)) z2 (∃(e2:
 Ph),([AV.ptr 0 0 [] 0,AV.agg [AV.str rel,AV.ad 38 l]],(bK a))=([AV.ptr 0 0 [] 0,AV.agg [AV.str e2.2.1,AV.ad 38 e2.2.2]],(bK e2.1))/\(e2.1.ds.length<=
 9223372036854775807/\aI (aa e2.2.2)<=100000)/\aP (ay (a8 κ (Prod.fst (dw e2.1 e2.2.1 e2.2.2)))) (aw (!bI (a8 κ (Prod.fst (dw e2.1 e2.2.1 e2.2.2)))) (K
 (AV.lit (a8 κ (Prod.fst (dw e2.1 e2.2.1 e2.2.2)))) (bK (dH e2.1 (Prod.snd (dw e2.1 e2.2.1 e2.2.2))))) (∃(e1:oR),([AV.ptr 0 0 [] 0,cz u,AV.int 1],(bK (dH
 e2.1 (Prod.snd (dw e2.1 e2.2.1 e2.2.2)))))=([AV.ptr 0 0 [] 0,cz e1.t,AV.int e1.k],(bK e1.a))/\dk e1/\aP (ay (a8 κ (gJ (Prod.fst (aM e1.a e1.t e1.k)))))
 (aw (!bI (a8 κ (gJ (Prod.fst (aM e1.a e1.t e1.k))))) (K (AV.lit (a8 κ (gJ (Prod.fst (aM e1.a e1.t e1.k))))) (bK (dH e1.a (Prod.snd (aM e1.a e1.t e1.k))))) (aw
 (op==(7:Int)) (K (AV.lit (a8 κ (gJ (Prod.fst (aM e1.a e1.t e1.k))))) (bK (dH e1.a (Prod.snd (aM e1.a e1.t e1.k))))) (∃(e0:oR),([AV.ptr 0 0 [] 0,cz v,
 AV.int 1],(bK (dH e1.a (Prod.snd (aM e1.a e1.t e1.k)))))=([AV.ptr 0 0 [] 0,cz e0.t,AV.int e0.k],(bK e0.a))/\dk e0/\K (AV.lit (a8 κ (gJ (Prod.fst (aM
 e0.a e0.t e0.k))))) (bK (dH e0.a (Prod.snd (aM e0.a e0.t e0.k)))))))))))))))):=by kernel_rfl
structure FF where
 a:iT
 op:Int
 rel:ByteArray
 l:List AV
 u:AT
 v:AT
def FF.lt(x:FF):Lt:=⟨x.op,⟨x.rel,aa x.l⟩,x.u.tm,x.v.tm⟩
def bQ(x:FF):Int×(List (Value×AV)×Bool):=jK getM fZ (ct x.a.ds) x.lt (x.a.es,x.a.more)
def Q3(x:FF):List AV×List Dn.Obj:=([B9, .agg [.int x.op, .agg [.lit (.string x.rel), .ad 38 x.l],cz x.u,cz x.v]],bK x.a)
def KC(x:FF):Prop:=x.a.ds.length<=aL/\iH x.lt<=100000
noncomputable def NN(κ:Kp)(x:FF):Out (AV×List Dn.Obj):= .one (.lit (a8 κ (bQ x).1),bK (dH x.a (bQ x).2))
def kd(a:iT)(u v:AT):Int:=if bz getM v.tm a.es>bz getM u.tm a.es then bz getM v.tm a.es else bz getM u.tm a.es
theorem Rj(x:FF):kc getM x.lt x.a.es=kd x.a x.u x.v:=by
 unfold kc kd
 show(bif decide (bz getM x.v.tm x.a.es>bz getM x.u.tm x.a.es) then _ else _)=_
 by_cases h:bz getM x.v.tm x.a.es>bz getM x.u.tm x.a.es
 ·rw[aa6 h,if_pos h];rfl
 ·rw[aa4 h,if_neg h];rfl
theorem yj(κ:Kp)(b:Bool):(!bI (a8 κ (gJ b)))=b:=by rw[iR,yR,Bool.not_not]
theorem cLi(κ:Kp):bG (TD κ) 12 181 (a0 Q3 KC (NN κ)):=by
 refine bc ?_
 rintro⟨a,op,rel,l,u,v⟩ K ⟨h1,h2⟩ ho
 simp only at h1
 refine Eq.mpr (yLi κ a op rel l u v K) ?_
 have ho:K (.lit (a8 κ (bQ ⟨a,op,rel,l,u,v⟩).1)) (bK (dH a (bQ ⟨a,op,rel,l,u,v⟩).2)):=ho
 have h2:aI [u.tm,v.tm]+aI (aa l)<=100000:=h2
 simp only[aI] at h2
 have hu:dk ⟨a,u,kd a u v⟩:=by show u.tm.fS<=100000;omega
 have hv:dk ⟨dH a (aM a u (kd a u v)).2,v,kd a u v⟩:=by show v.tm.fS<=100000;omega
 have both:fO op=true->bQ ⟨a,op,rel,l,u,v⟩=ke (aM a u (kd a u v)) (v.tm.want getM fZ (kd a u v)):=fun hc=>by
  unfold bQ jK
  rw[Rj ⟨a,op,rel,l,u,v⟩,show(FF.lt ⟨a,op,rel,l,u,v⟩).op=op from rfl,hc];rfl
 have c1:fO op=true->(!bI (a8 κ (gJ (aM a u (kd a u v)).1)))=true->K (.lit (a8 κ (gJ (aM a u (kd a u v)).1))) (bK (dH a (aM a u (kd a u v)).2)):=fun hc q=>by
  rw[yj] at q
  rw[both hc] at ho
  unfold ke at ho
  rw[q] at ho⊢
  exact ho
 have c2:fO op=true->(!bI (a8 κ (gJ (aM a u (kd a u v)).1)))=false->K (.lit (a8 κ (gJ (aM (dH a (aM a u (kd a u v)).2) v (kd a u v)).1))) (bK (dH (dH a (aM a u (kd a u v)).2) (aM (dH a (aM a u (kd a u v)).2) v (kd a u v)).2)):=fun hc q=>by
  rw[yj] at q
  rw[both hc] at ho
  unfold ke at ho
  rw[q] at ho
  exact ho
 have hat: ∀b:iT,b=a->(b.ds.length<=9223372036854775807/\aI (aa l)<=100000):=fun b hb=>by subst hb;exact⟨h1,by omega⟩
 have nc:fO op=false->(decide (op=1)||decide (op=2))=true->bQ ⟨a,op,rel,l,u,v⟩=dw a rel l:=fun hc h12=>by
  unfold bQ jK
  rw[show(FF.lt ⟨a,op,rel,l,u,v⟩).op=op from rfl,hc,h12];rfl
 refine ae.2 ⟨fun e=>by
   have hc:fO op=true:=(by rw[show op=3 from eq_of_beq e];rfl)
   exact⟨⟨(a,u),rfl,trivial,(a,v),rfl,trivial,⟨a,u,_⟩,rfl,hu,ai.2 ⟨cM _ _,ae.2 ⟨fun q=>c1 hc q,fun q=>⟨⟨_,v,_⟩,rfl,hv,c2 hc q⟩⟩⟩⟩,
    ⟨(a,u),rfl,trivial,(a,v),rfl,trivial,⟨a,u,_⟩,rfl,hu,ai.2 ⟨cM _ _,ae.2 ⟨fun q=>c1 hc q,fun q=>⟨⟨_,v,_⟩,rfl,hv,c2 hc q⟩⟩⟩⟩,
    ⟨(a,u),rfl,trivial,(a,v),rfl,trivial,⟨a,u,_⟩,rfl,hu,ai.2 ⟨cM _ _,ae.2 ⟨fun q=>c1 hc q,fun q=>⟨⟨_,v,_⟩,rfl,hv,c2 hc q⟩⟩⟩⟩⟩,fun e3=>ae.2 ⟨fun e=>by
   have hc:fO op=true:=(by rw[show op=4 from eq_of_beq e];rfl)
   exact⟨⟨(a,u),rfl,trivial,(a,v),rfl,trivial,⟨a,u,_⟩,rfl,hu,ai.2 ⟨cM _ _,ae.2 ⟨fun q=>c1 hc q,fun q=>⟨⟨_,v,_⟩,rfl,hv,c2 hc q⟩⟩⟩⟩,
    ⟨(a,u),rfl,trivial,(a,v),rfl,trivial,⟨a,u,_⟩,rfl,hu,ai.2 ⟨cM _ _,ae.2 ⟨fun q=>c1 hc q,fun q=>⟨⟨_,v,_⟩,rfl,hv,c2 hc q⟩⟩⟩⟩,
    ⟨(a,u),rfl,trivial,(a,v),rfl,trivial,⟨a,u,_⟩,rfl,hu,ai.2 ⟨cM _ _,ae.2 ⟨fun q=>c1 hc q,fun q=>⟨⟨_,v,_⟩,rfl,hv,c2 hc q⟩⟩⟩⟩⟩,fun e4=>ae.2 ⟨fun e=>by
   have hc:fO op=true:=(by rw[show op=5 from eq_of_beq e];rfl)
   exact⟨⟨(a,u),rfl,trivial,(a,v),rfl,trivial,⟨a,u,_⟩,rfl,hu,ai.2 ⟨cM _ _,ae.2 ⟨fun q=>c1 hc q,fun q=>⟨⟨_,v,_⟩,rfl,hv,c2 hc q⟩⟩⟩⟩,
    ⟨(a,u),rfl,trivial,(a,v),rfl,trivial,⟨a,u,_⟩,rfl,hu,ai.2 ⟨cM _ _,ae.2 ⟨fun q=>c1 hc q,fun q=>⟨⟨_,v,_⟩,rfl,hv,c2 hc q⟩⟩⟩⟩,
    ⟨(a,u),rfl,trivial,(a,v),rfl,trivial,⟨a,u,_⟩,rfl,hu,ai.2 ⟨cM _ _,ae.2 ⟨fun q=>c1 hc q,fun q=>⟨⟨_,v,_⟩,rfl,hv,c2 hc q⟩⟩⟩⟩⟩,fun e5=>ae.2 ⟨fun e=>by
   have hc:fO op=true:=(by rw[show op=6 from eq_of_beq e];rfl)
   exact⟨⟨(a,u),rfl,trivial,(a,v),rfl,trivial,⟨a,u,_⟩,rfl,hu,ai.2 ⟨cM _ _,ae.2 ⟨fun q=>c1 hc q,fun q=>⟨⟨_,v,_⟩,rfl,hv,c2 hc q⟩⟩⟩⟩,
    ⟨(a,u),rfl,trivial,(a,v),rfl,trivial,⟨a,u,_⟩,rfl,hu,ai.2 ⟨cM _ _,ae.2 ⟨fun q=>c1 hc q,fun q=>⟨⟨_,v,_⟩,rfl,hv,c2 hc q⟩⟩⟩⟩,
    ⟨(a,u),rfl,trivial,(a,v),rfl,trivial,⟨a,u,_⟩,rfl,hu,ai.2 ⟨cM _ _,ae.2 ⟨fun q=>c1 hc q,fun q=>⟨⟨_,v,_⟩,rfl,hv,c2 hc q⟩⟩⟩⟩⟩,fun e6=>?_⟩⟩⟩⟩
 simp only[beq_eq_false_iff_ne] at e3 e4 e5 e6
 have hc:fO op=false:=by
  unfold fO
  rw[Bool.and_eq_false_iff,aa2,aa2];omega
 refine ae.2 ⟨fun e=>⟨(a,rel,l),rfl,hat a rfl,?_⟩,fun e1=>ae.2 ⟨fun e=>⟨(a,rel,l),rfl,hat a rfl,?_⟩,fun e2=>?_⟩⟩
 ·rw[nc hc (by rw[show op=1 by simpa using e];rfl)] at ho;exact ho
 ·rw[nc hc (by rw[show op=2 by simpa using e];rfl)] at ho;exact ho
 simp only[beq_eq_false_iff_ne] at e1 e2
 have hL:bQ ⟨a,op,rel,l,u,v⟩=bif !decide ((dw a rel l).1=0) then dw a rel l
   else bif decide (op=7) then(gJ (aM (dH a (dw a rel l).2) u 1).1,(aM (dH a (dw a rel l).2) u 1).2)
   else ke (aM (dH a (dw a rel l).2) u 1) (v.tm.want getM fZ 1):=by
  unfold bQ jK
  rw[show(FF.lt ⟨a,op,rel,l,u,v⟩).op=op from rfl,hc,aa4 e1,aa4 e2];rfl
 rw[hL] at ho
 refine⟨(a,rel,l),rfl,hat a rfl,ai.2 ⟨cM _ _,?_⟩⟩
 rw[iR]
 refine ae.2 ⟨fun q=>?_,fun q=>?_⟩
 ·rw[q] at ho;exact ho
 ·rw[q,aa5] at ho
  refine⟨⟨dH a (dw a rel l).2,u,1⟩,rfl,by show u.tm.fS<=100000;omega,ai.2 ⟨cM _ _,?_⟩⟩
  rw[yj]
  refine ae.2 ⟨fun q1=>?_,fun q1=>ae.2 ⟨fun q7=>?_,fun q7=>⟨⟨dH (dH a (dw a rel l).2) (aM (dH a (dw a rel l).2) u 1).2,v,1⟩,rfl,by show v.tm.fS<=100000;omega,?_⟩⟩⟩
  ·have q1:(aM (dH a (dw a rel l).2) u 1).1=true:=q1
   unfold ke at ho
   rw[q1] at ho
   simp only[q1]
   cases h7:decide (op=7)<;>rw[h7] at ho<;>exact ho
  ·rw[show decide (op=7)=true by simpa using q7] at ho
   exact ho
  ·have q1:(aM (dH a (dw a rel l).2) u 1).1=false:=q1
   rw[show decide (op=7)=false by simpa using q7,aa5] at ho
   unfold ke at ho
   rw[q1] at ho
   exact ho
noncomputable def Ra(κ:Kp):Env:=(TD κ).az 181 (a0 Q3 KC (NN κ))
theorem eYt(κ:Kp):aE (Ra κ):=(eYa κ).az (YC κ) (cLi κ)
theorem XS(κ:Kp):aj (Ra κ):=(YC κ).az aZ
theorem yCo(κ:Kp)(v:Value)(K:AV->List Dn.Obj->Prop):(ba (Ra κ) 12 153 [.lit v] [] K)=(
 letI z1:=Value.iface 273 (Value.pointer (some (Kp.arity κ)))
 letI z2:=Value.iface 273 (Value.pointer (some (Kp.type κ)))
 letI z3:=Value.iface 273 (Value.pointer (some (Kp.ft κ)))
 aP (kx κ v&&lg κ z3) (aw (gx v z3) (K (AV.int 51) []) (aP (kx κ v&&lg κ z1) (aw (gx v z1) (K (AV.int 52) []) (aP (kx κ v&&lg κ z2) (aw (gx v z2) (K
 (AV.int 53) []) (K (AV.int 0) []))))))):=by kernel_rfl
noncomputable def LY(κ:Kp)(v:Value):Int:=bif gx v (a8 κ 51) then 51 else bif gx v (a8 κ 52) then 52 else bif gx v (a8 κ 53) then 53 else 0
theorem JM(κ:Kp){e:Int}(h:iU e):LY κ (a8 κ e)=e:=by
 unfold LY
 rw[gX κ h (.inr (.inl rfl)),gX κ h (.inr (.inr (.inl rfl))),gX κ h (.inr (.inr (.inr rfl)))]
 rcases h with rfl|rfl|rfl|rfl<;>rfl
noncomputable def V9(κ:Kp):List AV->Option (Bool×AV)
 |[.lit v]=>some (kx κ v, .int (LY κ v))
 |_=>none
theorem pCo(κ:Kp):cj (Ra κ) 12 153 (V9 κ):=by
 intro args x hh
 unfold V9 at hh
 split at hh
 ·simp only[aa3,aa9] at hh
  obtain⟨h1,rfl⟩:=hh
  refine⟨_,rfl,rfl,?_⟩
  obtain⟨e,he,rfl⟩:=(vn _ _).1 h1
  refine Eq.mpr (yCo κ _ _) ?_
  rw[JM κ he]
  have k1: ∀k,wc k->(kx κ (a8 κ e)&&lg κ (a8 κ k))=true:=fun k hk=>by rw[z7 κ he,Ab κ hk];rfl
  have n51:Value.iface 273 (.pointer (some κ.ft))=a8 κ 51:=rfl
  have n52:Value.iface 273 (.pointer (some κ.arity))=a8 κ 52:=rfl
  have n53:Value.iface 273 (.pointer (some κ.type))=a8 κ 53:=rfl
  rw[n51,n52,n53,k1 _ (.inl rfl),k1 _ (.inr (.inl rfl)),k1 _ (.inr (.inr rfl)),gX κ he (.inr (.inl rfl)),gX κ he (.inr (.inr (.inl rfl))),gX κ he (.inr (.inr (.inr rfl)))]
  rcases he with rfl|rfl|rfl|rfl<;>rfl
 ·cases hh
noncomputable def L9(κ:Kp):Env:=(Ra κ).aK 153 (V9 κ)
theorem eYc(κ:Kp):aE (L9 κ):=(eYt κ).aK (XS κ) (pCo κ)
theorem Zi(κ:Kp):aj (L9 κ):=(XS κ).aK
structure Qu where
 a:iT
 w:Int
 bl:List AV
 i:Int
noncomputable abbrev L7(κ:Kp)(x:Qu):S:=sp 52 [(0,B9),(5, .lit (a8 κ x.w)),(14, .ad 80 x.bl),(15, .int x.bl.length),(16, .int x.i)] (bK x.a)
theorem xPa(κ:Kp)(x:Qu)(I:Nat->S->Prop)(n:Nat)(K:Exit->S->Prop):(vc (L9 κ) 12 152 none 2 (ag (Pr κ).toProgram 152 3) (L7 κ x) (bB (L9 κ) 152 3 2 I n K))=(
 letI z1:=Value.iface 273 (Value.pointer (some (Kp.arity κ)))
 letI z2:=Value.iface 273 (Value.pointer (some (Kp.ft κ)))
 letI z3:=nth x.bl x.i.toNat
 letI z4:=IntKind.wrap IntKind.i64 (x.i+(1:Int))
 letI z5:=x.bl.length
 letI z6:=Value.iface 273 (Value.pointer (some (Kp.type κ)))
 letI z7:=kx κ (a8 κ x.w)&&lg κ z2
 letI z8:=kx κ (a8 κ x.w)&&lg κ z1
 aw (decide (x.i<(↑z5:Int))) (aP (decide ((0:Int)<=x.i)&&decide (x.i<(↑z5:Int))) (∃(e1:FF),([AV.ptr 0 0 [] 0,AV.agg [AV.int (toInt (af z3 0)),
 AV.agg [AV.str (toStr (af (af z3 1) 0)),AV.ad 38 (ah (af (af z3 1) 1))],AV.agg [AV.int (toInt (af (af z3 2) 0)),AV.str (toStr (af (af z3 2) 1)),AV.int
 (toInt (af (af z3 2) 2)),AV.ad 38 (ah (af (af z3 2) 3))],AV.agg [AV.int (toInt (af (af z3 3) 0)),AV.str (toStr (af (af z3 3) 1)),AV.int (toInt (af (af z3 3)
 2)),AV.ad 38 (ah (af (af z3 3) 3))]]],(bK x.a))=([AV.ptr 0 0 [] 0,AV.agg [AV.int e1.op,AV.agg [AV.str e1.rel,AV.ad 38 e1.l],AV.agg [AV.int e1.u.op,
 AV.str e1.u.s,AV.int e1.u.n,AV.ad 38 e1.u.l],AV.agg [AV.int e1.v.op,AV.str e1.v.s,AV.int e1.v.n,AV.ad 38 e1.v.l]]],(bK e1.a))/\(List.length e1.a.ds<=
 9223372036854775807/\iH (FF.lt e1)<=100000)/\aP (ay (a8 κ x.w)) (aw (bI (a8 κ x.w)) (aP (kx κ (a8 κ (Prod.fst (bQ e1)))&&lg κ z2) (aw (gx (a8 κ (Prod.fst
 (bQ e1))) z2) (K Exit.ret (sp 52 [(4,AV.lit (a8 κ (Prod.fst (bQ e1))))] (bK (dH e1.a (Prod.snd (bQ e1)))))) (aP (kx κ (a8 κ (Prod.fst (bQ e1)))&&lg κ z1) (aw
 (gx (a8 κ (Prod.fst (bQ e1))) z1) (K Exit.ret (sp 52 [(4,AV.lit (a8 κ (Prod.fst (bQ e1))))] (bK (dH e1.a (Prod.snd (bQ e1)))))) (∃(e0:Nat),e0<n/\I e0
 (sp 52 [(0,AV.ptr 0 0 [] 0),(5,AV.lit (a8 κ (Prod.fst (bQ e1)))),(14,AV.ad 80 x.bl),(15,AV.int (↑z5:Int)),(16,AV.int z4)] (bK (dH e1.a (Prod.snd (bQ
 e1)))))))))) (aP (kx κ (a8 κ x.w)&&lg κ z6) (aw (gx (a8 κ x.w) z6) (aP (kx κ (a8 κ (Prod.fst (bQ e1)))&&lg κ z2) (aw (gx (a8 κ (Prod.fst (bQ e1))) z2) (aP
 (kx κ (a8 κ (Prod.fst (bQ e1)))&&lg κ z2) (aw (gx (a8 κ (Prod.fst (bQ e1))) z2) (K Exit.ret (sp 52 [(4,AV.lit (a8 κ (Prod.fst (bQ e1))))] (bK (dH e1.a
 (Prod.snd (bQ e1)))))) (aP (kx κ (a8 κ (Prod.fst (bQ e1)))&&lg κ z1) (aw (gx (a8 κ (Prod.fst (bQ e1))) z1) (K Exit.ret (sp 52 [(4,AV.lit (a8 κ (Prod.fst (bQ
 e1))))] (bK (dH e1.a (Prod.snd (bQ e1)))))) (∃(e0:Nat),e0<n/\I e0 (sp 52 [(0,AV.ptr 0 0 [] 0),(5,AV.lit (a8 κ (Prod.fst (bQ e1)))),(14,AV.ad 80
 x.bl),(15,AV.int (↑z5:Int)),(16,AV.int z4)] (bK (dH e1.a (Prod.snd (bQ e1)))))))))) (aP (kx κ (a8 κ (Prod.fst (bQ e1)))&&lg κ z1) (aw (gx (a8 κ
 (Prod.fst (bQ e1))) z1) (aP (kx κ (a8 κ (Prod.fst (bQ e1)))&&lg κ z2) (aw (gx (a8 κ (Prod.fst (bQ e1))) z2) (K Exit.ret (sp 52 [(4,AV.lit (a8 κ (Prod.fst (bQ
 e1))))] (bK (dH e1.a (Prod.snd (bQ e1)))))) (aP (kx κ (a8 κ (Prod.fst (bQ e1)))&&lg κ z1) (aw (gx (a8 κ (Prod.fst (bQ e1))) z1) (K Exit.ret (sp 52 [(4,AV.lit
 (a8 κ (Prod.fst (bQ e1))))] (bK (dH e1.a (Prod.snd (bQ e1)))))) (∃(e0:Nat),e0<n/\I e0 (sp 52 [(0,AV.ptr 0 0 [] 0),(5,AV.lit (a8 κ (Prod.fst (bQ
 e1)))),(14,AV.ad 80 x.bl),(15,AV.int (↑z5:Int)),(16,AV.int z4)] (bK (dH e1.a (Prod.snd (bQ e1)))))))))) (aP z7 (aw (gx (a8 κ x.w) z2) (K Exit.ret (sp 52
 [(4,AV.lit (a8 κ x.w))] (bK (dH e1.a (Prod.snd (bQ e1)))))) (aP z8 (aw (gx (a8 κ x.w) z1) (K Exit.ret (sp 52 [(4,AV.lit (a8 κ x.w))] (bK (dH e1.a (Prod.snd
 (bQ e1)))))) (∃(e0:Nat),e0<n/\I e0 (sp 52 [(0,AV.ptr 0 0 [] 0),(5,AV.lit (a8 κ x.w)),(14,AV.ad 80 x.bl),(15,AV.int (↑z5:Int)),(16,AV.int z4)]
 (bK (dH e1.a (Prod.snd (bQ e1)))))))))))))) (aP z7 (aw (gx (a8 κ x.w) z2) (K Exit.ret (sp 52 [(4,AV.lit (a8 κ x.w))] (bK (dH e1.a (Prod.snd (bQ e1)))))) (aP z8
 (aw (gx (a8 κ x.w) z1) (K Exit.ret (sp 52 [(4,AV.lit (a8 κ x.w))] (bK (dH e1.a (Prod.snd (bQ e1)))))) (∃(e0:Nat),e0<n/\I e0 (sp 52 [(0,AV.ptr 0 0 []
 0),(5,AV.lit (a8 κ x.w)),(14,AV.ad 80 x.bl),(15,AV.int (↑z5:Int)),(16,AV.int z4)] (bK (dH e1.a (Prod.snd (bQ e1))))))))))))))) (K (Exit.exit 0) (sp 52
 [(5,AV.lit (a8 κ x.w))] (bK x.a)))):=by kernel_rfl
def iM(a:iT)(x:AV):FF:=⟨a,toInt (af x 0),toStr (af (af x 1) 0),ah (af (af x 1) 1),sQ (af x 2),sQ (af x 3)⟩
theorem AH(a:iT)(x:AV):(iM a x).lt=cR x:=by
 unfold FF.lt iM
 simp only[j8]
 rfl
theorem pn{σ:Type}{get:σ->ByteArray->Int}{set:σ->ByteArray->Int->σ}(ds:List Dc)(l:Lt)(x:σ×Bool):iU (jK get set ds l x).1:=by
 have hk: ∀e,(e=0\/e=51\/e=52)->iU e:=fun e h=>by
  rcases h with rfl|rfl|rfl
  ·exact .inl rfl
  ·exact .inr (.inl rfl)
  ·exact .inr (.inr (.inl rfl))
 have h53:iU 53:= .inr (.inr (.inr rfl))
 have hb: ∀{y:Bool×(σ×Bool)} {f:σ×Bool->Bool×(σ×Bool)},iU (ke y f).1:=fun{y f}=>by
  rcases rL (y:=y) (f:=f) with e|e<;>rw[e]
  ·exact .inl rfl
  ·exact h53
 have ha:iU (dY get set ds l.a x).1:=by
  unfold dY
  cases decide (known ds l.a=0) with
  |false=>exact hk _ (lI ds l.a)
  |true=>
   rw[aa7]
   cases(iq get set (cd ds l.a.rel) l.a.l x).1
   ·exact .inl rfl
   ·exact h53
 unfold jK
 cases fO l.op with
 |true=>exact hb
 | false=>
  rw[aa5]
  cases decide (l.op=1)||decide (l.op=2) with
  |true=>exact ha
  | false=>
   rw[aa5]
   cases decide ((dY get set ds l.a x).1=0) with
   |false=>exact ha
   | true=>
    rw[Bool.not_true,aa5]
    cases decide (l.op=7) with
    |true=>
     rw[aa7]
     cases(l.x.want get set 1 (dY get set ds l.a x).2).1
     ·exact .inl rfl
     ·exact h53
    |false=>exact hb
theorem so{σ:Type}{get:σ->ByteArray->Int}{set:σ->ByteArray->Int->σ}(ds:List Dc)(a:At)(x:σ×Bool):iU (dY get set ds a x).1:=by
 have h:=pn (get:=get) (set:=set) ds ⟨1,a, .mk 0 ByteArray.empty 0 [], .mk 0 ByteArray.empty 0 []⟩ x
 exact h
theorem sF{w e:Int}(hw:iU w)(he:iU e):iU (gR w e):=by
 unfold gR
 cases(decide (w=0)||decide (w=53)&&sU e)
 ·exact hw
 ·exact he
theorem sK{σ:Type}{get:σ->ByteArray->Int}{set:σ->ByteArray->Int->σ}(ds:List Dc): ∀(b:List Lt) (y:Int×(σ×Bool)),iU y.1->iU (jJ get set ds b y).1
 |[],_,h=>h
 |l::b,y,h=>by
  rw[jJ]
  have:=sF h (pn (get:=get) (set:=set) ds l y.2)
  cases sU (gR y.1 (jK get set ds l y.2).1) with
  |true=>exact this
  |false=>exact sK ds b _ this
def kb(x:Qu):Int×(List (Value×AV)×Bool):=jJ getM fZ (ct x.a.ds) (dh (x.bl.drop x.i.toNat)) (x.w,(x.a.es,x.a.more))
def Dd(x:Qu):Prop:=x.a.ds.length<=aL/\iU x.w/\x.bl.length<=100000/\(∀l,l∈x.bl->iH (cR l)<=100000)/\0<=x.i/\x.i<=x.bl.length
noncomputable def Kg(κ:Kp)(x:Qu):Out (Exit×S):= .all (fun _:Bool=>True) fun b=> .aw b (.one (.ret,sp 52 [(4, .lit (a8 κ (kb x).1))] (bK (dH x.a (kb x).2)))) (.one (.exit 0,sp 52 [(5, .lit (a8 κ (kb x).1))] (bK (dH x.a (kb x).2))))
theorem lPa(κ:Kp):bf (L9 κ) 12 152 3 (aR 2 (L7 κ) Dd (Kg κ)):=by
 refine aG (fun x=>x.bl.length - x.i.toNat) ?_
 rintro⟨a,w,bl,i⟩ K ⟨h1,h2,h3,h4,h5,h6⟩ ho
 simp only at h1 h2 h3 h4 h5 h6
 rw[show(L9 κ).P=Pr κ from rfl]
 refine Eq.mpr (xPa κ ⟨a,w,bl,i⟩ _ _ K) ?_
 have ho1:=ho true trivial
 have ho2:=ho false trivial
 simp only[Out.run,aw] at ho1 ho2
 rw[ae,aa0,aa2]
 refine⟨fun hi=>?_,fun hi=>?_⟩
 ·simp only at hi
  have hk:i.toNat<bl.length:=by omega
  have hb:kb ⟨a,w,bl,i⟩=bif sU (gR w (bQ (iM a (nth bl i.toNat))).1) then(gR w (bQ (iM a (nth bl i.toNat))).1,(bQ (iM a (nth bl i.toNat))).2) else kb ⟨dH a (bQ (iM a (nth bl i.toNat))).2,gR w (bQ (iM a (nth bl i.toNat))).1,bl,i+1⟩:=by
   unfold kb bQ
   simp only[show(i+1).toNat=i.toNat+1 by omega]
   rw[nO bl i.toNat hk,jJ,AH];rfl
  have he:iU (bQ (iM a (nth bl i.toNat))).1:=pn _ _ _
  have hlc:iH (cR (nth bl i.toNat))<=100000:=h4 _ (by rw[a7 _ _ hk];exact List.getElem_mem hk)
  have R:sU (gR w (bQ (iM a (nth bl i.toNat))).1)=true->K .ret (sp 52 [(4, .lit (a8 κ (gR w (bQ (iM a (nth bl i.toNat))).1)))] (bK (dH a (bQ (iM a (nth bl i.toNat))).2))):=fun e=>by
   rw[hb,e,aa7] at ho1
   exact ho1
  have N:sU (gR w (bQ (iM a (nth bl i.toNat))).1)=false->∃m,m<bl.length - i.toNat/\ig (L7 κ) Dd (Kg κ) (fun x=>x.bl.length - x.i.toNat) K m (sp 52 [(0,B9),(5, .lit (a8 κ (gR w (bQ (iM a (nth bl i.toNat))).1))),(14, .ad 80 bl),(15, .int bl.length),(16, .int (IntKind.wrap .i64 (i+1)))] (bK (dH a (bQ (iM a (nth bl i.toNat))).2))):=fun e=>by
   rw[hb,e,aa5] at ho1 ho2
   rw[aC (n:=i+1) (by omega) (by omega)]
   refine⟨_,?_,⟨dH a (bQ (iM a (nth bl i.toNat))).2,gR w (bQ (iM a (nth bl i.toNat))).1,bl,i+1⟩,rfl,⟨h1,sF h2 he,h3,h4,by simp only;omega,by simp only;omega⟩,rfl,?_⟩
   ·simp only;omega
   ·intro b _
    cases b
    ·exact ho2
    ·exact ho1
  refine ai.2 ⟨by simp;omega,iM a (nth bl i.toNat),rfl,⟨h1,by rw[AH];exact hlc⟩,?_⟩
  have n51:Value.iface 273 (.pointer (some κ.ft))=a8 κ 51:=rfl
  have n52:Value.iface 273 (.pointer (some κ.arity))=a8 κ 52:=rfl
  have n53:Value.iface 273 (.pointer (some κ.type))=a8 κ 53:=rfl
  have ta:(iM a (nth bl i.toNat)).a=a:=rfl
  simp only[n51,n52,n53,ta,cM,iR]
  revert R N he
  generalize bQ (iM a (nth bl i.toNat))=y
  intro he R N
  simp only[z7 κ he,z7 κ h2,Ab κ (show wc 51 from .inl rfl),Ab κ (show wc 52 from .inr (.inl rfl)),Ab κ (show wc 53 from .inr (.inr rfl)),gX κ he (show iU 51 from .inr (.inl rfl)),gX κ he (show iU 52 from .inr (.inr (.inl rfl))),gX κ h2 (show iU 51 from .inr (.inl rfl)),gX κ h2 (show iU 52 from .inr (.inr (.inl rfl))),gX κ h2 (show iU 53 from .inr (.inr (.inr rfl)))]
  obtain⟨e,y2⟩:=y
  simp only at he R N⊢
  rcases h2 with rfl|rfl|rfl|rfl<;>rcases he with rfl|rfl|rfl|rfl<;>first|exact R rfl|exact N rfl
 ·simp only at hi
  have hb:kb ⟨a,w,bl,i⟩=(w,(a.es,a.more)):=by
   unfold kb
   simp only
   rw[aa8 (by omega)];rfl
  rw[hb] at ho2
  exact ho2
noncomputable def RE(κ:Kp):Env:=(L9 κ).ar 152 3 (aR 2 (L7 κ) Dd (Kg κ))
theorem eYq(κ:Kp):aE (RE κ):=(eYc κ).ar (Zi κ) (lPa κ)
theorem Yy(κ:Kp):aj (RE κ):=(Zi κ).ar aW
theorem yPa(κ:Kp)(a:iT)(r:cf)(K:AV->List Dn.Obj->Prop):(ba (RE κ) 12 152 [B9,au r] (bK a) K)=(
 letI z1:=Pg.toProgram (Env.P (L9 κ))
 ∃(e2:Ph),([AV.ptr 0 0 [] 0,AV.agg [AV.str r.rel,AV.ad 38 r.hl]],(bK a))=([AV.ptr 0 0 [] 0,AV.agg [AV.str e2.2.1,AV.ad 38 e2.2.2]],(bK e2.1))/\
 (e2.1.ds.length<=9223372036854775807/\aI (aa e2.2.2)<=100000)/\ag z1 152 3=ag z1 152 3/\∃(e1:Qu),sp 52 [(0,AV.ptr 0 0 [] 0),(5,AV.lit (a8 κ
 (Prod.fst (dw e2.1 e2.2.1 e2.2.2)))),(14,AV.ad 80 r.bl),(15,AV.int (↑(r.bl.length):Int)),(16,AV.int 0)] (bK (dH e2.1 (Prod.snd (dw e2.1 e2.2.1
 e2.2.2))))=sp 52 [(0,AV.ptr 0 0 [] 0),(5,AV.lit (a8 κ e1.w)),(14,AV.ad 80 e1.bl),(15,AV.int (↑(e1.bl.length):Int)),(16,AV.int e1.i)] (bK e1.a)/\
 (List.length e1.a.ds<=9223372036854775807/\(e1.w=(0:Int)\/e1.w=(51:Int)\/e1.w=(52:Int)\/e1.w=(53:Int))/\e1.bl.length<=100000/\(∀(e0:
 AV),List.Mem e0 e1.bl->iH (cR e0)<=100000)/\(0:Int)<=e1.i/\e1.i<=(↑(e1.bl.length):Int))/\∀(e0:Bool),True->aw e0 (K (AV.lit (a8 κ (Prod.fst (kb
 e1)))) (bK (dH e1.a (Prod.snd (kb e1))))) (K (AV.lit (a8 κ (Prod.fst (kb e1)))) (bK (dH e1.a (Prod.snd (kb e1)))))):=by kernel_rfl
abbrev Q1:=iT×cf
def kQ(x:Q1):Int×(List (Value×AV)×Bool):=jJ getM fZ (ct x.1.ds) (dh x.2.bl) (dY getM fZ (ct x.1.ds) ⟨x.2.rel,aa x.2.hl⟩ (x.1.es,x.1.more))
def Tj(x:Q1):List AV×List Dn.Obj:=([B9,au x.2],bK x.1)
def Ld(x:Q1):Prop:=x.1.ds.length<=aL/\da x.2
noncomputable def Od(κ:Kp)(x:Q1):Out (AV×List Dn.Obj):= .one (.lit (a8 κ (kQ x).1),bK (dH x.1 (kQ x).2))
theorem cPs(κ:Kp):bG (RE κ) 12 152 (a0 Tj Ld (Od κ)):=by
 refine bc ?_
 rintro⟨a,r⟩ K ⟨h1,h2⟩ ho
 simp only at h1 h2
 refine Eq.mpr (yPa κ a r K) ?_
 have hlit: ∀l,l∈r.bl->iH (cR l)<=100000:=fun l hl=>by
  obtain⟨k,hk,e⟩:=List.getElem_of_mem hl
  have:=kr h2 hk
  rwa [a7 _ _ hk,e] at this
 have hs:kQ (a,r)=kb ⟨dH a (dw a r.rel r.hl).2,(dw a r.rel r.hl).1,r.bl,0⟩:=by
  unfold kQ kb dw
  simp only[ab7,ab0];rfl
 have ho:K (.lit (a8 κ (kQ (a,r)).1)) (bK (dH a (kQ (a,r)).2)):=ho
 rw[hs] at ho
 refine⟨(a,r.rel,r.hl),rfl,⟨h1,oG h2⟩,rfl,⟨dH a (dw a r.rel r.hl).2,(dw a r.rel r.hl).1,r.bl,0⟩,rfl,⟨h1,so _ _ _,h2.2,hlit,by simp only;omega,by simp only;omega⟩,fun b _=>?_⟩
 cases b<;>exact ho
noncomputable def My(κ:Kp):Env:=(RE κ).az 152 (a0 Tj Ld (Od κ))
theorem eYs(κ:Kp):aE (My κ):=(eYq κ).az (Yy κ) (cPs κ)
theorem YV(κ:Kp):aj (My κ):=(Yy κ).az aZ
end Go.Proofs.YtioeffnadipbaaaGreatDoor
namespace Go.Rl
open Go Go.Dn
section
variable {σ:Type} {get:σ->ByteArray->Int} {set:σ->ByteArray->Int->σ}
variable (hgs: ∀st s k t,get (set st s k) t=bif t==s then k else get st t)
include hgs
theorem rz(ds:List Dc){r:Rl}(hr:aV r=true)(V:List ByteArray)(hV: ∀s,s∈ff r->s∈V)(st:σ)(h0:(eT get set ds r st).1=0)(hm:(eT get set ds r st).2.2=true):lz get V (eT get set ds r st).2.1<lz get V st:=by
 have hk:jE ds r=0:=by
  cases e:decide (jE ds r=0) with
  |true=>simpa using e
  |false=>
   rw[aa2] at e
   rw[BO ds r st e] at h0;exact h0
 simp only[aV,aa1,List.all_eq_true] at hr
 have e1:=Kf (get:=get) (set:=set) ds (r:=r) (tD hr.1.1.1) (fun l hl=>Ov (hr.2 l hl)) hk st h0
 rw[e1] at hm⊢
 exact xJ (Db hgs ds r st) V ((DT hgs ds r st hm).left (Ext.refl _ _) hV)
theorem oa(ds:List Dc){r:Rl}(hr:aV r=true)(V:List ByteArray)(hV: ∀s,s∈ff r->s∈V): ∀(n m:Nat) (st:σ),lz get V st<n->lz get V st<m->fD get set ds r n st=fD get set ds r m st
 |0,_,_,h,_=>by omega
 |_+1,0,_,_,h=>by omega
 | n+1,m+1,st,h1,h2=>by
  rw[fD,fD]
  cases h0:decide ((eT get set ds r st).1=0) with
  |false=>rfl
  | true=>
   rw[aa7,aa7]
   cases hm:(eT get set ds r st).2.2 with
   |false=>rfl
   |true=>
    rw[aa7,aa7]
    have:=rz hgs ds hr V hV st (by simpa using h0) hm
    exact oa ds hr V hV n m _ (by omega) (by omega)
end
end Go.Rl
namespace Go.Proofs.YtioeffnadipbaaaGreatDoor
open Go Go.Dn Go.Rl Go.Proofs
attribute [local irreducible] ba vc
set_option maxRecDepth 20000
structure pY where
 ds:List AV
 r:cf
 es:List (Value×AV)
 more:Bool
abbrev MP(x:pY):S:=sp 60 [(3, .ptr 0 0 [] 0),(6, .ptr 1 0 [] 0)] [.box 48 (au x.r), .box 219 (.agg [.ad 43 x.ds, .mp 2, .bool x.more]), .map 9 3 x.es]
theorem Zl(κ:Kp)(x:pY)(I:Nat->S->Prop)(n:Nat)(K:Exit->S->Prop):(vc (My κ) 12 106 none 0 (ag (Pr κ).toProgram 106 4) (MP x) (bB (My κ) 106 4 0 I n K))=(
 aw x.more (∃(a:Q1),([AV.ptr 0 0 [] 0,au x.r],[Obj.box 219 (AV.agg [AV.ad 43 x.ds,AV.mp 1,AV.bool false]),Dn.Obj.map 9 3 x.es])=([AV.ptr 0 0 [] 0,
 au a.2],[Obj.box 219 (AV.agg [AV.ad 43 a.1.ds,AV.mp 1,AV.bool a.1.more]),Dn.Obj.map 9 3 a.1.es])/\(a.1.ds.length<=9223372036854775807/\aI (aa
 (bh 38 a.2.hl a.2.bl))<=100000/\a.2.bl.length<=100000)/\aP (ay (a8 κ (Prod.fst (kQ a)))) (aw (!bI (a8 κ (Prod.fst (kQ a)))) (aP
 (kx κ (a8 κ (Prod.fst (kQ a)))) (K Exit.ret (sp 60 [(4,AV.nil),(5,AV.int (LY κ (a8 κ (Prod.fst (kQ a)))))] []))) (∃(m:Nat),m<n/\I m (sp
 60 [(3,AV.ptr 0 0 [] 0),(6,AV.ptr 1 0 [] 0)] [Obj.box 48 (au x.r),Obj.box 219 (AV.agg [AV.ad 43 (iT.ds (dH a.1 (Prod.snd (kQ a)))),AV.mp 2,
 AV.bool (iT.more (dH a.1 (Prod.snd (kQ a))))]),Dn.Obj.map 9 3 (iT.es (dH a.1 (Prod.snd (kQ a))))])))) (K (Exit.exit 0) (sp 60 [(3,AV.ptr 0 0 [] 0),
 (6,AV.ptr 1 0 [] 0)] [Obj.box 48 (au x.r),Obj.box 219 (AV.agg [AV.ad 43 x.ds,AV.mp 2,AV.bool x.more]),Dn.Obj.map 9 3 x.es]))):=by kernel_rfl
abbrev dsR(x:pY):List Dc:=ct x.ds
def W1(x:pY):Nat:=lz getM (dc (aF x.r)) x.es
def Xs(x:pY):Int×List (Value×AV):=fD getM fZ (dsR x) (aF x.r) (W1 x+1) x.es
def gu(x:pY):Int×List (Value×AV):=bif x.more then Xs x else(0,x.es)
def Ir(x:pY):Prop:=aV (aF x.r)=true/\x.ds.length<=aL/\da x.r
def D5(x:pY):Out (Exit×S):= .aw (decide ((gu x).1=0)) (.one (.exit 0,MP ⟨x.ds,x.r,(gu x).2,false⟩)) (.one (.ret,sp 60 [(4, .nil),(5, .int (gu x).1)] []))
theorem Bn(ds:List Dc)(r:Rl)(es:List (Value×AV)):iU (eT getM fZ ds r es).1:=sK _ _ _ (so _ _ _)
theorem lTy(κ:Kp):bf (My κ) 12 106 4 (aR 0 MP Ir D5):=by
 refine aG (fun x=>bif x.more then W1 x+1 else 0) ?_
 rintro⟨ds,r,es,more⟩ K ⟨h1,h2,h3⟩ ho
 simp only at h1 h2 h3
 rw[show(My κ).P=Pr κ from rfl]
 refine Eq.mpr (Zl κ ⟨ds,r,es,more⟩ _ _ K) ?_
 simp only[D5,Out.run,ae] at ho
 cases more with
 |false=>exact ho.1 rfl
 | true=>
  have hp:kQ (⟨ds,es,false⟩,r)=eT getM fZ (ct ds) (aF r) es:=rfl
  have hV: ∀s,s∈ff (aF r)->s∈dc (aF r):=fun s hs=>(xx h1).2 hs
  have hr:=Bn (ct ds) (aF r) es
  have he:gu ⟨ds,r,es,true⟩=bif decide ((eT getM fZ (ct ds) (aF r) es).1=0) then gu ⟨ds,r,(eT getM fZ (ct ds) (aF r) es).2.1,(eT getM fZ (ct ds) (aF r) es).2.2⟩ else((eT getM fZ (ct ds) (aF r) es).1,(eT getM fZ (ct ds) (aF r) es).2.1):=by
   have e0:gu ⟨ds,r,es,true⟩=fD getM fZ (ct ds) (aF r) (W1 ⟨ds,r,es,true⟩+1) es:=rfl
   rw[e0,fD]
   cases h0:decide ((eT getM fZ (ct ds) (aF r) es).1=0) with
   |false=>rfl
   | true=>
    rw[aa7,aa7]
    unfold gu
    cases hm:(eT getM fZ (ct ds) (aF r) es).2.2 with
    |false=>rfl
    |true=>
     rw[aa7]
     have:=rz oe (ct ds) h1 _ hV es (by simpa using h0) hm
     exact oa oe (ct ds) h1 _ hV _ _ _ this (Nat.lt_succ_self _)
  refine⟨(⟨ds,es,false⟩,r),rfl,⟨h2,h3⟩,?_⟩
  rw[hp]
  refine ai.2 ⟨cM _ _,?_⟩
  rw[iR]
  cases h0:decide ((eT getM fZ (ct ds) (aF r) es).1=0) with
  |false=>
   rw[he,h0,aa5] at ho
   refine ai.2 ⟨z7 κ hr,?_⟩
   rw[JM κ hr]
   exact ho.2 h0
  | true=>
   rw[he,h0,aa7] at ho
   refine⟨_,?_,⟨ds,r,(eT getM fZ (ct ds) (aF r) es).2.1,(eT getM fZ (ct ds) (aF r) es).2.2⟩,rfl,⟨h1,h2,h3⟩,rfl,?_⟩
   ·simp only
    cases hm:(eT getM fZ (ct ds) (aF r) es).2.2 with
    |false=>exact Nat.succ_pos _
    |true=>
     have:=rz oe (ct ds) h1 _ hV es (by simpa using h0) hm
     exact Nat.succ_lt_succ this
   ·simp only[D5,Out.run,ae]
    exact ho
noncomputable def MS(κ:Kp):Env:=(My κ).ar 106 4 (aR 0 MP Ir D5)
theorem eYv(κ:Kp):aE (MS κ):=(eYs κ).ar (YV κ) (lTy κ)
theorem Ya(κ:Kp):aj (MS κ):=(YV κ).ar aW
def iA(l:List Int):List AV:=l.map fun k=> .lit (.int .i64 k)
theorem gq(l:List Int):(iA l).length=l.length:=by simp[iA]
theorem Cs(l m:List Int):iA (l++m)=iA l++iA m:=by simp[iA]
structure Pc where
 ds:List AV
 es:List (Value×AV)
 o:List Int
 vs:List ByteArray
 i:Int
abbrev L2(x:Pc):S:=sp 60 [(6, .ptr 0 0 [] 0),(8, .aB 2 0 (iA x.o).length),(36, .aB 3 0 x.vs.length),(37, .int x.vs.length),(38, .int x.i)] [.box 219 (.agg [.ad 43 x.ds, .mp 1, .bool false]), .map 9 3 x.es, .row 3 (iA x.o), .row 9 (strs x.vs)]
theorem xTz(κ:Kp)(ds:List AV)(es:List (Value×AV))(o vs:List AV)(i:Int)(I:Nat->S->Prop)(n:Nat)(K:Exit->S->Prop):(vc (MS κ) 12 106 none 0 (ag (Pr κ).toProgram 106 11) (sp 60 [(6, .ptr 0 0 [] 0),(8, .aB 2 0 o.length),(36, .aB 3 0 vs.length),(37, .int vs.length),(38, .int i)] [.box 219 (.agg [.ad 43 ds, .mp 1, .bool false]), .map 9 3 es, .row 3 o, .row 9 vs]) (bB (MS κ) 106 11 0 I n K))=(
 letI z1:=dO es (Value.string (toStr (nth vs (0+i.toNat)))) (AV.int 0)
 letI z2:=i<(↑(vs.length):Int)
 aw (decide z2) (aP (decide ((0:Int)<=i)&&decide z2) (aw (toInt z1==(0:Int)) (K Exit.ret (sp 60 [(4,AV.nil),(5,AV.int 53)] [])) (aP (decide
 ((o.length+1+1)*9<=70368744177664)) (∃(e0:Nat),e0<n/\I e0 (sp 60 [(6,AV.ptr 0 0 [] 0),(8,AV.aB 2 0 (o.length+1)),(36,AV.aB 3 0 vs.length),
 (37,AV.int (↑(vs.length):Int)),(38,AV.int (IntKind.wrap IntKind.i64 (i+(1:Int))))] [Obj.box 219 (AV.agg [AV.ad 43 ds,AV.mp 1,AV.bool false]),
 Dn.Obj.map 9 3 es,Obj.row 3 (List.take o.length o++[AV.int (toInt z1)]),Obj.row 9 vs]))))) (K (Exit.exit 2) (sp 60 [(8,AV.aB 0 0 o.length)] [Obj.row 3 o]))):=by kernel_rfl
def jw(x:Pc):List ByteArray:=x.vs.drop x.i.toNat
def si(x:Pc):Bool:=(jw x).all fun s=>!decide (getM x.es s=0)
def JH(x:Pc):Prop:=x.vs.length<=100000/\x.o.length<=x.i.toNat/\0<=x.i/\x.i<=x.vs.length
def Ea(x:Pc):Out (Exit×S):= .aw (si x) (.one (.exit 2,sp 60 [(8, .aB 0 0 (iA (x.o++(jw x).map (getM x.es))).length)] [.row 3 (iA (x.o++(jw x).map (getM x.es)))])) (.one (.ret,sp 60 [(4, .nil),(5, .int 53)] []))
theorem Zv(κ:Kp):bf (MS κ) 12 106 11 (aR 0 L2 JH Ea):=by
 refine aG (fun x=>x.vs.length - x.i.toNat) ?_
 rintro⟨ds,es,o,vs,i⟩ K ⟨h1,h2,h3,h4⟩ ho
 simp only at h1 h2 h3 h4
 rw[show(MS κ).P=Pr κ from rfl]
 have e0:(⟨ds,es,o,vs,i⟩:Pc).vs.length=(strs vs).length:=(aO vs).symm
 simp only[L2,e0]
 refine Eq.mpr (xTz κ ds es (iA o) (strs vs) i _ _ K) ?_
 simp only[Ea,Out.run,ae] at ho
 simp only[aO]
 rw[ae,aa0,aa2,ai,aa1,aa0,aa0]
 refine⟨fun hi=>⟨⟨h3,hi⟩,?_⟩,fun hi=>?_⟩
 ·have hk:i.toNat<vs.length:=by omega
  have hr:jw ⟨ds,es,o,vs,i⟩=vs[i.toNat]::jw ⟨ds,es,o++[getM es vs[i.toNat]],vs,i+1⟩:=by
   unfold jw
   simp only[show(i+1).toNat=i.toNat+1 by omega]
   exact ab1 hk
  have ha:si ⟨ds,es,o,vs,i⟩=(!decide (getM es vs[i.toNat]=0)&&si ⟨ds,es,o++[getM es vs[i.toNat]],vs,i+1⟩):=by
   unfold si
   rw[hr,List.all_cons]
  rw[Nat.zero_add,u6 vs _ hk,UB]
  have hg:toInt (dO es (Value.string (toStr (.lit (.string vs[i.toNat])))) (AV.int 0))=getM es vs[i.toNat]:=rfl
  rw[hg,ae]
  refine⟨fun e=>?_,fun e=>?_⟩
  ·rw[ha,e] at ho
   exact ho.2 rfl
  ·rw[ha,e,hr,Bool.not_false,ab9] at ho
   rw[ai,aa0,gq]
   rw[aC (n:=i+1) (by omega) (by omega)]
   refine⟨by omega,_,?_,⟨ds,es,o++[getM es vs[i.toNat]],vs,i+1⟩,?_,⟨h1,by simp only[ab8,List.length_singleton];omega,by simp only;omega,by simp only;omega⟩,rfl,?_⟩
   ·simp only;omega
   ·simp only[L2,Cs,gq,ab8,List.length_singleton,List.take_of_length_le (show(iA o).length<=o.length by rw[gq];omega)]
    rfl
   ·simp only[Ea,Out.run,ae]
    rw[show o++[getM es vs[i.toNat]]++(jw ⟨ds,es,o++[getM es vs[i.toNat]],vs,i+1⟩).map (getM es)=o++(vs[i.toNat]::jw ⟨ds,es,o++[getM es vs[i.toNat]],vs,i+1⟩).map (getM es) by simp]
    exact ho
 ·have hr:jw ⟨ds,es,o,vs,i⟩=[]:=by
   unfold jw
   exact aa8 (by simp only;omega)
  have ha:si ⟨ds,es,o,vs,i⟩=true:=by
   unfold si
   rw[hr];rfl
  rw[ha,hr] at ho
  have:=ho.1 rfl
  simp only[List.map_nil,List.append_nil] at this
  exact this
noncomputable def QX(κ:Kp):Env:=(MS κ).ar 106 11 (aR 0 L2 JH Ea)
theorem eYz(κ:Kp):aE (QX κ):=(eYv κ).ar (Ya κ) (Zv κ)
theorem YB(κ:Kp):aj (QX κ):=(Ya κ).ar aW
theorem yTz(κ:Kp)(ds:List AV)(r:cf)(K:AV->List Dn.Obj->Prop):(ba (QX κ) 12 106 [.ad 43 ds,au r] [] K)=(
 letI z1:=Pg.toProgram (Env.P (My κ))
 letI z2:=Pg.toProgram (Env.P (MS κ))
 aP (List.all [AV.agg [AV.agg [AV.str r.rel,AV.ad 38 r.hl],AV.ad 80 r.bl,AV.int r.line]] fX) (aw (!fB ds [AV.agg [AV.agg [AV.str r.rel,AV.ad 38 r.hl],AV.ad 80 r.bl,AV.int r.line]]) (K (AV.aX [AV.nil,AV.int 30]) []) (ag z1 106 4=ag z1 106 4/\∃(e2:pY),sp 60 [(3,AV.ptr 0 0 [] 0),(6,AV.ptr 1 0 [] 0)] [Obj.box 48 (AV.agg [AV.agg [AV.str r.rel,AV.ad 38 r.hl],AV.ad 80 r.bl,AV.int r.line]),Obj.box 219 (AV.agg [AV.ad 43 ds,AV.mp 2,AV.bool true]),Dn.Obj.map 9 3 []]=sp 60 [(3,AV.ptr 0 0 [] 0),(6,AV.ptr 1 0 [] 0)] [Obj.box 48 (AV.agg [AV.agg [AV.str e2.r.rel,AV.ad 38 e2.r.hl],AV.ad 80 e2.r.bl,AV.int e2.r.line]),Obj.box 219 (AV.agg [AV.ad 43 e2.ds,AV.mp 2,AV.bool e2.more]),Dn.Obj.map 9 3 e2.es]/\(aV (aF e2.r)=true/\e2.ds.length<=9223372036854775807/\aI (aa (bh 38 e2.r.hl e2.r.bl))<=100000/\List.length e2.r.bl<=100000)/\aw (decide (Prod.fst (gu e2)=(0:Int))) (∃(e1:cf),([AV.agg [AV.agg [AV.lit (Value.string (cf.rel (pY.r {ds:=e2.ds,r:=e2.r,es:=Prod.snd (gu e2),more:=false}))),AV.ad 38 (cf.hl (pY.r {ds:=e2.ds,r:=e2.r,es:=Prod.snd (gu e2),more:=false}))],AV.ad 80 (cf.bl (pY.r {ds:=e2.ds,r:=e2.r,es:=Prod.snd (gu e2),more:=false})),AV.lit (Value.int IntKind.i64 (cf.line (pY.r {ds:=e2.ds,r:=e2.r,es:=Prod.snd (gu e2),more:=false})))]],aJ)=([AV.agg [AV.agg [AV.str e1.rel,AV.ad 38 e1.hl],AV.ad 80 e1.bl,AV.int e1.line]],aJ)/\(aV (aF e1)=true/\aI (aa (bh 38 e1.hl e1.bl))<=100000/\e1.bl.length<=100000)/\ag z2 106 11=ag z2 106 11/\∃(e0:Pc),sp 60 [(6,AV.ptr 0 0 [] 0),(8,AV.aB 2 0 0),(36,AV.aB 3 0 (List.length (dc (aF e1)))),(37,AV.int (↑(List.length (dc (aF e1))):Int)),(38,AV.int 0)] [Obj.box 219 (AV.agg [AV.ad 43 (pY.ds {ds:=e2.ds,r:=e2.r,es:=Prod.snd (gu e2),more:=false}),AV.mp 1,AV.bool false]),Dn.Obj.map 9 3 (pY.es {ds:=e2.ds,r:=e2.r,es:=Prod.snd (gu e2),more:=false}),Obj.row 3 [],Obj.row 9 (strs (dc (aF e1)))]=sp 60 [(6,AV.ptr 0 0 [] 0),(8,AV.aB 2 0 (List.length (iA e0.o))),(36,AV.aB 3 0 e0.vs.length),(37,AV.int (↑(e0.vs.length):Int)),(38,AV.int e0.i)] [Obj.box 219 (AV.agg [AV.ad 43 e0.ds,AV.mp 1,AV.bool false]),Dn.Obj.map 9 3 e0.es,Obj.row 3 (iA e0.o),Obj.row 9 (strs e0.vs)]/\(e0.vs.length<=100000/\e0.o.length<=e0.i.toNat/\(0:Int)<=e0.i/\e0.i<=(↑(e0.vs.length):Int))/\aw (si e0) (K (AV.aX [AV.aB 0 0 (List.length (iA (e0.o++List.map (getM e0.es) (jw e0)))),AV.int 0]) [Obj.row 3 (iA (e0.o++List.map (getM e0.es) (jw e0)))]) (K (AV.aX [AV.nil,AV.int 53]) [])) (K (AV.aX [AV.nil,AV.int (Prod.fst (gu e2))]) [])))):=by kernel_rfl
abbrev RH:=List AV×cf
def sX(x:RH):Int×List Int:=Jy (ct x.1) (aF x.2)
def QZ(x:RH):List AV×List Dn.Obj:=([.ad 43 x.1,au x.2],[])
def KH(x:RH):Prop:=x.1.length<=aL/\da x.2
def Ll(x:RH):Out (AV×List Dn.Obj):= .aw (fB x.1 [au x.2]) (.aw (decide ((sX x).1=0)) (.one (.aX [.aB 0 0 (iA (sX x).2).length, .int 0],[.row 3 (iA (sX x).2)])) (.one (.aX [.nil, .int (sX x).1],[]))) (.one (.aX [.nil, .int 30],[]))
theorem Gn{ds:List AV}{r:cf}(h:fB ds [au r]=true):aV (aF r)=true:=by
 unfold fB at h
 rw[aa1] at h
 have:=h.2
 rw[List.all_cons,aa1] at this
 exact this.1
theorem cTs(κ:Kp):bG (QX κ) 12 106 (a0 QZ KH Ll):=by
 refine bc ?_
 rintro⟨ds,r⟩ K ⟨h1,h2⟩ ho
 simp only at h1 h2
 refine Eq.mpr (yTz κ ds r K) ?_
 simp only[Ll,Out.run,ae] at ho
 have hl1:=ee (aa r.hl)
 rw[du] at hl1
 have hc:=oG h2
 have hl:=h2.2
 refine ai.2 ⟨?_,?_⟩
 ·show(fX (au r)&&true)=true
  have:fX (au r)=(decide (r.hl.length<=aL)&&decide (r.bl.length<=aL)):=rfl
  rw[this,aa6 (by simp only[aL];omega),aa6 (by simp only[aL];omega)];rfl
 refine ae.2 ⟨fun e=>ho.2 (by simpa using e),fun e=>?_⟩
 have e':fB ds [au r]=true:=by simpa using e
 have hr:=Gn e'
 have ho1:=ho.1 e'
 have hf:gu ⟨ds,r,[],true⟩=fD getM fZ (ct ds) (aF r) ((dc (aF r)).length+1) []:=oa oe (ct ds) hr _ (fun s hs=>(xx hr).2 hs) _ _ _ (Nat.lt_succ_self _) (Nat.lt_succ_of_le (JZ _ _ _))
 have ht:sX (ds,r)=bif decide ((gu ⟨ds,r,[],true⟩).1=0) then(bif (dc (aF r)).all (fun s=>!decide (getM (gu ⟨ds,r,[],true⟩).2 s=0)) then(0,(dc (aF r)).map (getM (gu ⟨ds,r,[],true⟩).2)) else(53,[])) else((gu ⟨ds,r,[],true⟩).1,[]):=by
  rw[hf];rfl
 rw[ht] at ho1
 refine⟨rfl,⟨ds,r,[],true⟩,rfl,⟨hr,h1,h2⟩,?_⟩
 refine ae.2 ⟨fun e1=>⟨r,rfl,⟨hr,h2⟩,rfl,⟨ds,(gu ⟨ds,r,[],true⟩).2,[],dc (aF r),0⟩,rfl,⟨xO h2,Nat.zero_le _,by simp only;omega,by simp only;omega⟩,?_⟩,fun e1=>?_⟩
 ·rw[e1,aa7] at ho1
  have ha:si ⟨ds,(gu ⟨ds,r,[],true⟩).2,[],dc (aF r),0⟩=(dc (aF r)).all (fun s=>!decide (getM (gu ⟨ds,r,[],true⟩).2 s=0)):=rfl
  rw[ha]
  refine ae.2 ⟨fun e2=>?_,fun e2=>?_⟩
  ·rw[e2] at ho1
   exact ho1.1 rfl
  ·rw[e2] at ho1
   exact ho1.2 rfl
 ·rw[e1,aa5] at ho1
  exact ho1.2 e1
noncomputable def Lx(κ:Kp):Env:=(QX κ).az 106 (a0 QZ KH Ll)
theorem ZF(κ:Kp):aE (Lx κ):=(eYz κ).az (YB κ) (cTs κ)
theorem Yk(κ:Kp):aj (Lx κ):=(YB κ).az aZ
abbrev mO(ds rs:List AV):AV:= .agg [.ad 43 ds, .ad 48 rs]
def eW(x:AV):cf:=⟨[],[],toStr (af (af x 0) 0),ah (af (af x 0) 1),ah (af x 1),toInt (af x 2),0⟩
structure AI where
 ds:List AV
 rs:List AV
 i:Int
abbrev O4(x:AI):Dn.Obj:= .box 25 (mO x.ds x.rs)
def NT(ds:List AV):List AV->Int->Int×Int
 |[],_=>(0,0)
 |d::l,i=>bif decide (cv (toStr (af d 0)) ds=i) then NT ds l (i+1) else(toInt (af d 5),50)
def kz(ds:List AV)(x:AV):Int:=bif fB ds [au (eW x)] then(sX (ds,eW x)).1 else 30
def Fj(f:AV->Int):List AV->Int×Int
 |[]=>(0,0)
 |x::l=>bif decide (f x=0) then Fj f l else(toInt (af x 2),f x)
def vL(ds rs:List AV):Int×Int:=bif fB ds rs then(bif decide ((NT ds ds 0).2=0) then Fj (kz ds) rs else NT ds ds 0) else(0,30)
def jG(x:AV):Int:=yx (aF (eW x))
def mo(ds rs:List AV):Int×Int:=bif decide ((vL ds rs).2=0) then Fj jG rs else vL ds rs
def mK(ds rs:List AV):Prop:=ds.length<=aL/\rs.length<=aL/\∀x,x∈rs->da (eW x)
theorem Mw{ds rs:List AV}(h:mK ds rs):rs.all fX=true:=by
 refine List.all_eq_true.2 fun x hx=>?_
 have h2:=h.2.2 x hx
 have hl1:=ee (aa (eW x).hl)
 rw[du] at hl1
 have hc:=oG h2
 have hl:=h2.2
 have:fX x=(decide ((eW x).hl.length<=aL)&&decide ((eW x).bl.length<=aL)):=rfl
 rw[this,aa6 (by simp only[aL];omega),aa6 (by simp only[aL];omega)];rfl
abbrev Pe(x:AI):S:=sp 57 [(1, .ptr 0 0 [] 0),(16, .ad 43 x.ds),(17, .int x.ds.length),(18, .int x.i)] [O4 x]
theorem xC1(κ:Kp)(x:AI)(I:Nat->S->Prop)(n:Nat)(K:Exit->S->Prop):(vc (Lx κ) 12 61 none 0 (ag (Pr κ).toProgram 61 4) (Pe x) (bB (Lx κ) 61 4 0 I n K))=(
 letI z1:=AV.agg [AV.ad 43 x.ds,AV.ad 48 x.rs]
 letI z2:=x.i<(↑(x.ds.length):Int)
 aw (decide z2) (aP (decide ((0:Int)<=x.i)&&decide z2) (∃(e1:List AV×ByteArray),([AV.ad 43 x.ds,AV.str (toStr (af (nth x.ds x.i.toNat) 0))],aJ)=
 ([AV.ad 43 e1.1,AV.str e1.2],aJ)/\oC e1/\aw (cv e1.2 e1.1 != x.i) (K Exit.ret (sp 57 [(2,AV.int (toInt (af (nth x.ds x.i.toNat) 5))),(3,AV.int 50)] []))
 (∃(e0:Nat),e0<n/\I e0 (sp 57 [(1,AV.ptr 0 0 [] 0),(16,AV.ad 43 x.ds),(17,AV.int (↑(x.ds.length):Int)),(18,AV.int (IntKind.wrap IntKind.i64 (x.i
 +(1:Int))))] [Obj.box 25 z1])))) (K (Exit.exit 0) (sp 57 [(1,AV.ptr 0 0 [] 0)] [Obj.box 25 z1]))):=by kernel_rfl
def H2(x:AI):Int×Int:=NT x.ds (x.ds.drop x.i.toNat) x.i
def K8(x:AI):Prop:=x.ds.length<=aL/\0<=x.i/\x.i<=x.ds.length
def Eg(x:AI):Out (Exit×S):= .aw (decide ((H2 x).2=0)) (.one (.exit 0,sp 57 [(1, .ptr 0 0 [] 0)] [O4 x])) (.one (.ret,sp 57 [(2, .int (H2 x).1),(3, .int (H2 x).2)] []))
theorem lC1(κ:Kp):bf (Lx κ) 12 61 4 (aR 0 Pe K8 Eg):=by
 refine aG (fun x=>x.ds.length - x.i.toNat) ?_
 rintro⟨ds,rs,i⟩ K ⟨h1,h2,h3⟩ ho
 simp only at h1 h2 h3
 rw[show(Lx κ).P=Pr κ from rfl]
 refine Eq.mpr (xC1 κ ⟨ds,rs,i⟩ _ _ K) ?_
 simp only[aL] at h1
 simp only[Eg,Out.run,ae] at ho
 rw[ae,aa0,aa2,ai,aa1,aa0,aa0]
 refine⟨fun hi=>⟨⟨h2,hi⟩,(ds,toStr (af (nth ds i.toNat) 0)),rfl,h1,?_⟩,fun hi=>?_⟩
 ·simp only at hi
  have hk:i.toNat<ds.length:=by omega
  have hr:H2 ⟨ds,rs,i⟩=bif decide (cv (toStr (af (nth ds i.toNat) 0)) ds=i) then H2 ⟨ds,rs,i+1⟩ else(toInt (af (nth ds i.toNat) 5),50):=by
   unfold H2
   simp only[show(i+1).toNat=i.toNat+1 by omega]
   rw[ab1 hk,←a7 ds i.toNat hk,NT]
  rw[hr] at ho
  simp only[Kb]
  cases e:decide (cv (toStr (af (nth ds i.toNat) 0)) ds=i) with
  |false=>
   rw[e] at ho
   exact ho.2 rfl
  | true=>
   rw[e] at ho
   rw[aC (n:=i+1) (by omega) (by omega)]
   refine⟨_,?_,⟨ds,rs,i+1⟩,rfl,⟨by simpa[aL] using h1,by simp only;omega,by simp only;omega⟩,rfl,?_⟩
   ·simp only;omega
   ·simp only[Eg,Out.run,ae]
    exact ho
 ·simp only at hi
  have hr:H2 ⟨ds,rs,i⟩=(0,0):=by
   unfold H2
   simp only
   rw[aa8 (by omega)];rfl
  rw[hr] at ho
  exact ho.1 rfl
noncomputable def Mg(κ:Kp):Env:=(Lx κ).ar 61 4 (aR 0 Pe K8 Eg)
theorem eC1(κ:Kp):aE (Mg κ):=(ZF κ).ar (Yk κ) (lC1 κ)
theorem X6(κ:Kp):aj (Mg κ):=(Yk κ).ar aW
abbrev KA(x:AI):S:=sp 57 [(1, .ptr 0 0 [] 0),(38, .ad 48 x.rs),(39, .int x.rs.length),(40, .int x.i)] [O4 x]
theorem xC2(κ:Kp)(x:AI)(I:Nat->S->Prop)(n:Nat)(K:Exit->S->Prop):(vc (Mg κ) 12 61 none 0 (ag (Pr κ).toProgram 61 11) (KA x) (bB (Mg κ) 61 11 0 I n K))=(
 letI z1:=∃(e0:Nat),e0<n/\I e0 (sp 57 [(1,AV.ptr 0 0 [] 0),(38,AV.ad 48 x.rs),(39,AV.int (↑(x.rs.length):Int)),(40,AV.int (IntKind.wrap
  IntKind.i64 (x.i+(1:Int))))] [Obj.box 25 (AV.agg [AV.ad 43 x.ds,AV.ad 48 x.rs])])
 letI z2:=nth x.rs x.i.toNat
 letI z3:=x.i<(↑(x.rs.length):Int)
 letI z4:=toInt (af z2 2)
 aw (decide z3) (aP (decide ((0:Int)<=x.i)&&decide z3) (∃(e1:RH),([AV.ad 43 x.ds,AV.agg [AV.agg [AV.str (toStr (af (af z2 0) 0)),AV.ad 38 (ah (af (af
 z2 0) 1))],AV.ad 80 (ah (af z2 1)),AV.int z4]],aJ)=([AV.ad 43 e1.1,au e1.2],aJ)/\(e1.1.length<=9223372036854775807/\aI (aa (bh 38 e1.2.hl e1.2.bl))<=
 100000/\e1.2.bl.length<=100000)/\aw (fB e1.1 [au e1.2]) (aw (decide (Prod.fst (sX e1)=(0:Int))) z1 (aw (Prod.fst (sX e1) != (0:Int)) (K Exit.ret (sp 57
 [(2,AV.int z4),(3,AV.int (Prod.fst (sX e1)))] [])) z1)) (K Exit.ret (sp 57 [(2,AV.int z4),(3,AV.int 30)] [])))) (K (Exit.exit 2) (sp 57 [] []))):=by kernel_rfl
def yX(f:AV->Int)(x:AI):Int×Int:=Fj f (x.rs.drop x.i.toNat)
def rp(x:AI):Prop:=mK x.ds x.rs/\0<=x.i/\x.i<=x.rs.length
def AZ(x:AI):Out (Exit×S):= .aw (decide ((yX (kz x.ds) x).2=0)) (.one (.exit 2,sp 57 [] [])) (.one (.ret,sp 57 [(2, .int (yX (kz x.ds) x).1),(3, .int (yX (kz x.ds) x).2)] []))
theorem FD(f:AV->Int)(ds rs:List AV)(i:Int)(h0:0<=i)(hk:i.toNat<rs.length):yX f ⟨ds,rs,i⟩=bif decide (f (nth rs i.toNat)=0) then yX f ⟨ds,rs,i+1⟩ else(toInt (af (nth rs i.toNat) 2),f (nth rs i.toNat)):=by
 unfold yX
 simp only[show(i+1).toNat=i.toNat+1 by omega]
 rw[ab1 hk,←a7 rs i.toNat hk,Fj]
theorem Fi(f:AV->Int)(ds rs:List AV)(i:Int)(h:rs.length<=i.toNat):yX f ⟨ds,rs,i⟩=(0,0):=by
 unfold yX
 simp only
 rw[aa8 h];rfl
theorem lC2(κ:Kp):bf (Mg κ) 12 61 11 (aR 0 KA rp AZ):=by
 refine aG (fun x=>x.rs.length - x.i.toNat) ?_
 rintro⟨ds,rs,i⟩ K ⟨h1,h2,h3⟩ ho
 simp only at h1 h2 h3
 rw[show(Mg κ).P=Pr κ from rfl]
 refine Eq.mpr (xC2 κ ⟨ds,rs,i⟩ _ _ K) ?_
 have hml:=h1.2.1
 simp only[aL] at hml
 simp only[AZ,Out.run,ae] at ho
 rw[ae,aa0,aa2,ai,aa1,aa0,aa0]
 refine⟨fun hi=>⟨⟨h2,hi⟩,(ds,eW (nth rs i.toNat)),rfl,⟨h1.1,?_⟩,?_⟩,fun hi=>?_⟩
 ·simp only at hi
  exact h1.2.2 _ (by rw[a7 _ _ (show i.toNat<rs.length by omega)];exact List.getElem_mem _)
 ·simp only at hi
  have hk:i.toNat<rs.length:=by omega
  rw[FD _ _ _ _ h2 hk] at ho
  have next:kz ds (nth rs i.toNat)=0->∃m,m<rs.length - i.toNat/\ig KA rp AZ (fun x=>x.rs.length - x.i.toNat) K m (KA ⟨ds,rs,i+1⟩):=fun e=>by
   rw[e] at ho
   refine⟨_,?_,⟨ds,rs,i+1⟩,rfl,⟨h1,by simp only;omega,by simp only;omega⟩,rfl,?_⟩
   ·simp only;omega
   ·simp only[AZ,Out.run,ae]
    exact ho
  have stop: ∀e:Int,kz ds (nth rs i.toNat)=e->e≠0->K .ret (sp 57 [(2, .int (toInt (af (nth rs i.toNat) 2))),(3, .int e)] []):=fun e he h0=>by
   rw[he,aa4 h0] at ho
   exact ho.2 (aa4 h0)
  rw[aC (n:=i+1) (by omega) (by omega)]
  have ht:kz ds (nth rs i.toNat)=bif fB ds [au (eW (nth rs i.toNat))] then(sX (ds,eW (nth rs i.toNat))).1 else 30:=rfl
  refine ae.2 ⟨fun e1=>?_,fun e1=>?_⟩
  ·rw[e1,aa7] at ht
   refine ae.2 ⟨fun e2=>next (by rw[ht];simpa using e2),fun e2=>?_⟩
   rw[aa2] at e2
   have:=stop _ ht e2
   simp only[Kb]
   refine ae.2 ⟨fun _=>this,fun e3=>?_⟩
   rw[ab2,aa0] at e3
   exact absurd e3 e2
  ·rw[e1,aa5] at ht
   exact stop 30 ht (by decide)
 ·simp only at hi
  rw[Fi _ _ _ _ (by omega)] at ho
  exact ho.1 rfl
noncomputable def RC(κ:Kp):Env:=(Mg κ).ar 61 11 (aR 0 KA rp AZ)
theorem Z1(κ:Kp):aE (RC κ):=(eC1 κ).ar (X6 κ) (lC2 κ)
theorem Yp(κ:Kp):aj (RC κ):=(X6 κ).ar aW
theorem ZU(κ:Kp)(ds rs:List AV)(K:AV->List Dn.Obj->Prop):(ba (RC κ) 12 61 [mO ds rs] [] K)=(
 letI z1:=Pg.toProgram (Env.P (Lx κ))
 letI z2:=Pg.toProgram (Env.P (Mg κ))
 aP (List.all rs fX) (aw (!fB ds rs) (K (AV.aX [AV.int 0,AV.int 30]) []) (ag z1 61 4=ag z1 61 4/\∃(e2:AI),sp 57 [(1,AV.ptr 0 0 [] 0),(16,AV.ad 43 ds),
 (17,AV.int (↑(ds.length):Int)),(18,AV.int 0)] [Obj.box 25 (AV.agg [AV.ad 43 ds,AV.ad 48 rs])]=sp 57 [(1,AV.ptr 0 0 [] 0),(16,AV.ad 43 e2.ds),(17,
 AV.int (↑(e2.ds.length):Int)),(18,AV.int e2.i)] [Obj.box 25 (AV.agg [AV.ad 43 e2.ds,AV.ad 48 e2.rs])]/\(e2.ds.length<=9223372036854775807/\(0:Int)<=
 e2.i/\e2.i<=(↑(e2.ds.length):Int))/\aw (decide (Prod.snd (H2 e2)=(0:Int))) (ag z2 61 11=ag z2 61 11/\∃(e1:AI),sp 57 [(1,AV.ptr 0 0 [] 0),(38,
 AV.ad 48 e2.rs),(39,AV.int (↑(e2.rs.length):Int)),(40,AV.int 0)] [Obj.box 25 (AV.agg [AV.ad 43 e2.ds,AV.ad 48 e2.rs])]=sp 57 [(1,AV.ptr 0 0 [] 0),
 (38,AV.ad 48 e1.rs),(39,AV.int (↑(e1.rs.length):Int)),(40,AV.int e1.i)] [Obj.box 25 (AV.agg [AV.ad 43 e1.ds,AV.ad 48 e1.rs])]/\((e1.ds.length<=
 9223372036854775807/\e1.rs.length<=9223372036854775807/\∀(e0:AV),List.Mem e0 e1.rs->aI (aa (bh 38 (cf.hl (eW e0)) (cf.bl (eW e0))))<=100000/\
 List.length (cf.bl (eW e0))<=100000)/\(0:Int)<=e1.i/\e1.i<=(↑(e1.rs.length):Int))/\aw (decide (Prod.snd (yX (kz e1.ds) e1)=(0:Int))) (K (AV.aX
 [AV.int 0,AV.int 0]) []) (K (AV.aX [AV.int (Prod.fst (yX (kz e1.ds) e1)),AV.int (Prod.snd (yX (kz e1.ds) e1))]) [])) (K (AV.aX [AV.int (Prod.fst (H2 e2)),
 AV.int (Prod.snd (H2 e2))]) [])))):=by kernel_rfl
abbrev Qn:=List AV×List AV
def Jm(x:Qn):List AV×List Dn.Obj:=([mO x.1 x.2],[])
def uA(x:Qn):Prop:=mK x.1 x.2
def ID(x:Qn):Out (AV×List Dn.Obj):= .one (.aX [.int (vL x.1 x.2).1, .int (vL x.1 x.2).2],[])
theorem Df(f:AV->Int): ∀l,(Fj f l).2=0->Fj f l=(0,0)
 |[],_=>rfl
 | x::l,h=>by
  rw[Fj] at h⊢
  cases e:decide (f x=0) with
  |true=>rw[e,aa7] at h;exact Df f l h
  |false=>
   rw[e,aa5] at h
   rw[aa2] at e
   exact absurd h e
theorem cCd(κ:Kp):bG (RC κ) 12 61 (a0 Jm uA ID):=by
 refine bc ?_
 rintro⟨ds,rs⟩ K h1 ho
 have h1:mK ds rs:=h1
 refine Eq.mpr (ZU κ ds rs K) ?_
 simp only[ID,Out.run,vL] at ho
 refine ai.2 ⟨Mw h1,ae.2 ⟨fun e=>?_,fun e=>?_⟩⟩
 ·rw[show fB ds rs=false by simpa using e] at ho
  exact ho
 ·rw[show fB ds rs=true by simpa using e,aa7] at ho
  have e1:H2 ⟨ds,rs,0⟩=NT ds ds 0:=rfl
  have e2:yX (kz ds) ⟨ds,rs,0⟩=Fj (kz ds) rs:=rfl
  refine⟨rfl,⟨ds,rs,0⟩,rfl,⟨h1.1,by simp only;omega,by simp only;omega⟩,?_⟩
  rw[e1]
  refine ae.2 ⟨fun e3=>⟨rfl,⟨ds,rs,0⟩,rfl,⟨h1,by simp only;omega,by simp only;omega⟩,?_⟩,fun e3=>?_⟩
  ·rw[e3,aa7] at ho
   rw[e2]
   refine ae.2 ⟨fun e4=>?_,fun e4=>ho⟩
   rw[aa0] at e4
   rw[Df _ _ e4] at ho
   exact ho
  ·rw[e3,aa5] at ho
   exact ho
noncomputable def Ly(κ:Kp):Env:=(RC κ).az 61 (a0 Jm uA ID)
theorem eCd(κ:Kp):aE (Ly κ):=(Z1 κ).az (Yp κ) (cCd κ)
theorem Yx(κ:Kp):aj (Ly κ):=(Yp κ).az aZ
abbrev Jo(x:AI):S:=sp 37 [(20, .ad 48 x.rs),(21, .int x.rs.length),(22, .int x.i)] []
theorem xC3(κ:Kp)(x:AI)(I:Nat->S->Prop)(n:Nat)(K:Exit->S->Prop):(vc (Ly κ) 12 31 none 0 (ag (Pr κ).toProgram 31 5) (Jo x) (bB (Ly κ) 31 5 0 I n K))=(
 letI z1:=nth x.rs x.i.toNat
 letI z2:=x.i<(↑(x.rs.length):Int)
 letI z3:=toInt (af z1 2)
 aw (decide z2) (aP (decide ((0:Int)<=x.i)&&decide z2) (∃(e1:cf),([AV.agg [AV.agg [AV.str (toStr (af (af z1 0) 0)),AV.ad 38 (ah (af (af z1 0) 1))],
 AV.ad 80 (ah (af z1 1)),AV.int z3]],aJ)=([au e1],aJ)/\(aI (aa (bh 38 e1.hl e1.bl))<=100000/\e1.bl.length<=100000)/\aw (aV (aF e1)) (aw (jI (aF e1)) (∃
 (e0:Nat),e0<n/\I e0 (sp 37 [(20,AV.ad 48 x.rs),(21,AV.int (↑(x.rs.length):Int)),(22,AV.int (IntKind.wrap IntKind.i64 (x.i+(1:Int))))] [])) (K
 Exit.ret (sp 37 [(2,AV.int z3),(3,AV.int 60)] []))) (K Exit.ret (sp 37 [(2,AV.int z3),(3,AV.int 30)] [])))) (K (Exit.exit 0) (sp 37 [] []))):=by kernel_rfl
def Av(x:AI):Out (Exit×S):= .aw (decide ((yX jG x).2=0)) (.one (.exit 0,sp 37 [] [])) (.one (.ret,sp 37 [(2, .int (yX jG x).1),(3, .int (yX jG x).2)] []))
theorem ZA(κ:Kp):bf (Ly κ) 12 31 5 (aR 0 Jo rp Av):=by
 refine aG (fun x=>x.rs.length - x.i.toNat) ?_
 rintro⟨ds,rs,i⟩ K ⟨h1,h2,h3⟩ ho
 simp only at h1 h2 h3
 rw[show(Ly κ).P=Pr κ from rfl]
 refine Eq.mpr (xC3 κ ⟨ds,rs,i⟩ _ _ K) ?_
 have hml:=h1.2.1
 simp only[aL] at hml
 simp only[Av,Out.run,ae] at ho
 rw[ae,aa0,aa2,ai,aa1,aa0,aa0]
 refine⟨fun hi=>⟨⟨h2,hi⟩,eW (nth rs i.toNat),rfl,?_,?_⟩,fun hi=>?_⟩
 ·simp only at hi
  exact h1.2.2 _ (by rw[a7 _ _ (show i.toNat<rs.length by omega)];exact List.getElem_mem _)
 ·simp only at hi
  have hk:i.toNat<rs.length:=by omega
  rw[FD _ _ _ _ h2 hk] at ho
  have next:jG (nth rs i.toNat)=0->∃m,m<rs.length - i.toNat/\ig Jo rp Av (fun x=>x.rs.length - x.i.toNat) K m (Jo ⟨ds,rs,i+1⟩):=fun e=>by
   rw[e] at ho
   refine⟨_,?_,⟨ds,rs,i+1⟩,rfl,⟨h1,by simp only;omega,by simp only;omega⟩,rfl,?_⟩
   ·simp only;omega
   ·simp only[Av,Out.run,ae]
    exact ho
  have stop: ∀e:Int,jG (nth rs i.toNat)=e->e≠0->K .ret (sp 37 [(2, .int (toInt (af (nth rs i.toNat) 2))),(3, .int e)] []):=fun e he h0=>by
   rw[he,aa4 h0] at ho
   exact ho.2 (aa4 h0)
  rw[aC (n:=i+1) (by omega) (by omega)]
  have ht:jG (nth rs i.toNat)=bif aV (aF (eW (nth rs i.toNat))) then bif jI (aF (eW (nth rs i.toNat))) then 0 else 60 else 30:=rfl
  refine ae.2 ⟨fun e1=>?_,fun e1=>?_⟩
  ·rw[e1,aa7] at ht
   refine ae.2 ⟨fun e2=>next (by rw[ht,e2];rfl),fun e2=>stop 60 (by rw[ht,e2];rfl) (by decide)⟩
  ·rw[e1,aa5] at ht
   exact stop 30 ht (by decide)
 ·simp only at hi
  rw[Fi _ _ _ _ (by omega)] at ho
  exact ho.1 rfl
noncomputable def RX(κ:Kp):Env:=(Ly κ).ar 31 5 (aR 0 Jo rp Av)
theorem Zc(κ:Kp):aE (RX κ):=(eCd κ).ar (Yx κ) (ZA κ)
theorem Xn(κ:Kp):aj (RX κ):=(Yx κ).ar aW
theorem yCs(κ:Kp)(ds rs:List AV)(K:AV->List Dn.Obj->Prop):(ba (RX κ) 12 31 [mO ds rs] [] K)=(
 ∃(a:Qn),([AV.agg [AV.ad 43 ds,AV.ad 48 rs]],aJ)=([AV.agg [AV.ad 43 a.1,AV.ad 48 a.2]],aJ)/\(a.1.length<=9223372036854775807/\a.2.length<=
 9223372036854775807/\∀(x:AV),List.Mem x a.2->aI (aa (bh 38 (cf.hl (eW x)) (cf.bl (eW x))))<=100000/\List.length (cf.bl (eW x))<=100000)
 /\aw (Prod.snd (vL a.1 a.2) != (0:Int)) (K (AV.aX [AV.int (Prod.fst (vL a.1 a.2)),AV.int (Prod.snd (vL a.1 a.2))]) []) (ag (Pg.toProgram
 (Env.P (Ly κ))) 31 5=ag (Pg.toProgram (Env.P (Ly κ))) 31 5/\∃(a:AI),sp 37 [(20,AV.ad 48 rs),(21,AV.int (↑(rs.length):Int)),(22,AV.int
 0)] []=sp 37 [(20,AV.ad 48 a.rs),(21,AV.int (↑(a.rs.length):Int)),(22,AV.int a.i)] []/\((a.ds.length<=9223372036854775807/\a.rs.length<=
 9223372036854775807/\∀(x:AV),List.Mem x a.rs->aI (aa (bh 38 (cf.hl (eW x)) (cf.bl (eW x))))<=100000/\List.length (cf.bl (eW x))<=
 100000)/\(0:Int)<=a.i/\a.i<=(↑(a.rs.length):Int))/\aw (decide (Prod.snd (yX jG a)=(0:Int))) (K (AV.aX [AV.int 0,AV.int 0]) []) (K (AV.aX
 [AV.int (Prod.fst (yX jG a)),AV.int (Prod.snd (yX jG a))]) []))):=by kernel_rfl
def J7(x:Qn):Out (AV×List Dn.Obj):= .one (.aX [.int (mo x.1 x.2).1, .int (mo x.1 x.2).2],[])
theorem Y2(κ:Kp):bG (RX κ) 12 31 (a0 Jm uA J7):=by
 refine bc ?_
 rintro⟨ds,rs⟩ K h1 ho
 have h1:mK ds rs:=h1
 refine Eq.mpr (yCs κ ds rs K) ?_
 simp only[J7,Out.run,mo] at ho
 refine⟨(ds,rs),rfl,h1,?_⟩
 simp only[Kb]
 have e2:yX jG ⟨ds,rs,0⟩=Fj jG rs:=rfl
 refine ae.2 ⟨fun e=>?_,fun e=>?_⟩
 ·rw[show decide ((vL ds rs).2=0)=false by simpa using e] at ho
  exact ho
 ·rw[show decide ((vL ds rs).2=0)=true by simpa using e] at ho
  refine⟨trivial,⟨ds,rs,0⟩,rfl,⟨h1,by simp only;omega,by simp only;omega⟩,?_⟩
  rw[e2]
  refine ae.2 ⟨fun e4=>?_,fun e4=>ho⟩
  rw[aa0] at e4
  rw[aa7,Df _ _ e4] at ho
  exact ho
noncomputable def V7(κ:Kp):Env:=(RX κ).az 31 (a0 Jm uA J7)
theorem eCs(κ:Kp):aE (V7 κ):=(Zc κ).az (Xn κ) (Y2 κ)
theorem mCs(κ:Kp):aj (V7 κ):=(Xn κ).az aZ
end Go.Proofs.YtioeffnadipbaaaGreatDoor
