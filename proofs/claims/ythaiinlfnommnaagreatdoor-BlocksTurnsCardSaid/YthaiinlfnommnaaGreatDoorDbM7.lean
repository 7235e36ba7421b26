import Derived.Test.YthaiinlfnommnaaGreatDoorDbM5
import Derived.Test.YthaiinlfnommnaaGreatDoorDbM6
namespace Go.Proofs.YthaiinlfnommnaaGreatDoor
open Go Go.Dn Go.Rl Go.Proofs Go.RowKit Go.Extern.Stop Go.Stop Go.Extern
def Pc(κ:Kp)(e:Int):Addr:=bif decide (e=51) then κ.fE else bif decide (e=52) then κ.arity else κ.type
def a8(κ:Kp)(e:Int):Value:=bif decide (e=0) then .nilIface else .iface 306 (.pointer (some (Pc κ e)))
def wI(e:Int):Prop:=e=51\/e=52\/e=53
def ju(e:Int):Prop:=e=0\/wI e
theorem cK(κ:Kp)(e:Int):aC (a8 κ e)=true:=by unfold a8;cases decide (e=0)<;>rfl
theorem jn(κ:Kp)(e:Int):bM (a8 κ e)=decide (e=0):=by unfold a8;cases decide (e=0)<;>rfl
theorem KC(κ:Kp){e k:Int}(he:wI e)(hk:wI k)(h:e≠k):Pc κ e≠Pc κ k:=by
 rcases he with rfl|rfl|rfl<;>rcases hk with rfl|rfl|rfl<;>first|exact absurd rfl h|exact κ.d1|exact κ.d2|exact κ.d3|exact κ.d1.symm|exact κ.d2.symm|exact κ.d3.symm
theorem OM(κ:Kp){e k:Int}(he:ju e)(hk:ju k):a8 κ e=a8 κ k↔e=k:=by
 refine⟨fun h=>?_,fun h=>by rw[h]⟩
 rcases he with rfl|he
 ·rcases hk with rfl|hk
  ·rfl
  ·have:decide (k=0)=false:=by rcases hk with rfl|rfl|rfl<;>rfl
   unfold a8 at h
   rw[this] at h;cases h
 ·have e0:decide (e=0)=false:=by rcases he with rfl|rfl|rfl<;>rfl
  rcases hk with rfl|hk
  ·unfold a8 at h
   rw[e0] at h;cases h
  ·have k0:decide (k=0)=false:=by rcases hk with rfl|rfl|rfl<;>rfl
   unfold a8 at h
   rw[e0,k0,aa6,aa6] at h
   simp only[Value.iface.injEq,Value.pointer.injEq,aa4,true_and] at h
   by_cases hh:e=k
   ·exact hh
   ·exact absurd h (KC κ he hk hh)
theorem Hl(κ:Kp){e:Int}(he:wI e): ∃c t,yf κ (Pc κ e).block=some (.cells c t (0,0)):=by
 have go: ∀b,(∀g,g∈[1,0,3,4,2]->b≠g)->b=κ.fE.block\/b=κ.arity.block\/b=κ.type.block->∃c t,yf κ b=some (.cells c t (0,0)):=by
  intro b hb h
  unfold yf
  rw[rQ (hb _ (by simp)),rQ (hb 0 (by simp)),rQ (hb 3 (by simp)),rQ (hb 4 (by simp)),rQ (hb 2 (by simp))]
  simp only[aa6]
  cases h1:Nat.beq b κ.fE.block with
  |true=>exact⟨_,_,rfl⟩
  | false=>
   rw[aa6]
   cases h2:Nat.beq b κ.arity.block with
   |true=>exact⟨_,_,rfl⟩
   | false=>
    rw[aa6]
    cases h3:Nat.beq b κ.type.block with
    |true=>exact⟨_,_,rfl⟩
    |false=>
     rcases h with h|h|h
     ·rw[h,Nat.beq_refl] at h1;cases h1
     ·rw[h,Nat.beq_refl] at h2;cases h2
     ·rw[h,Nat.beq_refl] at h3;cases h3
 rcases he with rfl|rfl|rfl
 ·exact go _ κ.n3 (.inl rfl)
 ·exact go _ κ.n4 (.inr (.inl rfl))
 ·exact go _ κ.n5 (.inr (.inr rfl))
theorem TI(v:Value)(xT:TypeId)(w:World):(Instr.typeAssert (.iface 306 v) xT 284 true).run Tryz.prog w= .ok (.tuple #[.nilIface, .bool false]) w:=run_typeAssert_lacksB Tryz.underlying284 (by kernel_rfl) (by kernel_rfl) v xT w
theorem Ix(v:Value)(xT:TypeId)(w:World):(Instr.typeAssert (.iface 306 v) xT 286 true).run Tryz.prog w= .ok (.tuple #[.nilIface, .bool false]) w:=run_typeAssert_lacksB Tryz.underlying286 (by kernel_rfl) (by kernel_rfl) v xT w
theorem EA(v:Value)(xT:TypeId)(w:World):(Instr.typeAssert (.iface 306 v) xT 288 true).run Tryz.prog w= .ok (.tuple #[.nilIface, .bool false]) w:=run_typeAssert_lacksB Tryz.underlying288 (by kernel_rfl) (by kernel_rfl) v xT w
set_option maxRecDepth 8000 in
theorem JP(a b:Addr)(w:World)(hab:a≠b){ca cb:Array Value}{ta tb:TypeId}(ha:w.heap[a.block]? =some (.cells ca ta (0,0)))(hb:w.heap[b.block]? =some (.cells cb tb (0,0))):
  Calls Tryz.prog 113 #[.iface 306 (.pointer (some a)), .iface 306 (.pointer (some b))] w fun e w'=>e= .returned (.bool false)/\w'=w:=by
 obtain⟨i,hi,hcmp⟩:=Option.map_eq_some_iff.1 DY
 obtain⟨j,hj,hjs⟩:=Option.map_eq_some_iff.1 E3
 have h8:= @run_callFunc_extern Tryz.prog 184 _ Extern.ReflectliteType.typeOf Tryz.func184 (by kernel_rfl) (by kernel_rfl) (by kernel_rfl) (by kernel_rfl)
 have h32:= @run_callFunc_extern Tryz.prog 290 _ (Extern.ReflectliteType.method fun t=>do Go.Extern.Rtype.noPackHeld "Comparable" t;pure (.bool (←typeInfo t).comparable)) Tryz.func290 (by kernel_rfl) (by kernel_rfl) (by kernel_rfl) (by kernel_rfl)
 have tT:=wc
 have cT:=my
 have mR:=iy
 have hne:=run_eql_iface_ptr_other (P:=Tryz.prog) w Tryz.underlying170 Tryz.underlying306 hi hcmp hj (by omega) hab ha hb
 have n1:=TI
 have n2:=Ix
 have n3:=EA
 go_enter Tryz.func113,Tryz.ntmps113
 go_wp2
 refine wp_loop_rounds 1 ?_
 rw[rounds_succ]
 go_wp2
 all_goals (go_ret;exact⟨rfl,rfl⟩)
open Classical in
noncomputable def kC(κ:Kp)(v:Value):Bool:=decide (∃e,ju e/\v=a8 κ e)
open Classical in
noncomputable def lE(κ:Kp)(v:Value):Bool:=decide (∃e,wI e/\v=a8 κ e)
open Classical in
noncomputable def gB(v t:Value):Bool:=decide (v=t)
theorem wa(κ:Kp)(v:Value):kC κ v=true↔ ∃e,ju e/\v=a8 κ e:=by unfold kC;exact @decide_eq_true_iff _ (Classical.propDecidable _)
theorem Bb(κ:Kp)(v:Value):lE κ v=true↔ ∃e,wI e/\v=a8 κ e:=by unfold lE;exact @decide_eq_true_iff _ (Classical.propDecidable _)
theorem Ie(v t:Value):gB v t=true↔v=t:=by unfold gB;exact @decide_eq_true_iff _ (Classical.propDecidable _)
theorem y5(κ:Kp){e:Int}(h:ju e):kC κ (a8 κ e)=true:=(wa _ _).2 ⟨e,h,rfl⟩
theorem yC(κ:Kp){e:Int}(h:wI e):lE κ (a8 κ e)=true:=(Bb _ _).2 ⟨e,h,rfl⟩
theorem ir(κ:Kp){e k:Int}(he:ju e)(hk:ju k):gB (a8 κ e) (a8 κ k)=decide (e=k):=by
 rw[Bool.eq_iff_iff,Ie,aa1]
 exact OM κ he hk
noncomputable def Q1(κ:Kp):List AV->Option (Bool×AV)
 |[.lit v, .lit t]=>some (kC κ v&&lE κ t, .bool (gB v t))
 |_=>none
theorem Wi(κ:Kp):iu (Pr κ) 113 (Q1 κ):=by
 intro args x hn hg
 unfold Q1 at hg
 split at hg
 ·simp only[aa4,ab0,aa2] at hg
  obtain⟨⟨h1,h2⟩,rfl⟩:=hg
  obtain⟨e,he,rfl⟩:=(wa _ _).1 h1
  obtain⟨k,hk,rfl⟩:=(Bb _ _).1 h2
  have k0:decide (k=0)=false:=by rcases hk with rfl|rfl|rfl<;>rfl
  have hk':a8 κ k= .iface 306 (.pointer (some (Pc κ k))):=by unfold a8;rw[k0];rfl
  refine⟨_,_,Tryz.func113,rfl,rfl,rfl,fun C vs hC hI hm=>?_⟩
  rw[wA hm,ir κ he (.inr hk)]
  rcases he with rfl|he
  ·have e0:a8 κ 0= .nilIface:=rfl
   rw[e0,hk']
   refine(callsIn_wide.2 (Lh _ C.w)).mono ?_
   rintro e w' ⟨rfl,rfl⟩
   refine⟨?_,gP.refl _⟩
   rw[aa5 (by rcases hk with rfl|rfl|rfl<;>decide)]
  ·have e0:decide (e=0)=false:=by rcases he with rfl|rfl|rfl<;>rfl
   have he':a8 κ e= .iface 306 (.pointer (some (Pc κ e))):=by unfold a8;rw[e0];rfl
   rw[he',hk']
   by_cases h:e=k
   ·subst h
    refine(callsIn_wide.2 (Gi _ C.w)).mono ?_
    rintro e w' ⟨rfl,rfl⟩
    refine⟨?_,gP.refl _⟩
    rw[aa7 rfl]
   ·obtain⟨c1,t1,q1⟩:=Hl κ he
    obtain⟨c2,t2,q2⟩:=Hl κ hk
    have w1:=(hI.kept _ _ (by rw[hC];exact q1)).2
    have w2:=(hI.kept _ _ (by rw[hC];exact q2)).2
    refine(callsIn_wide.2 (JP _ _ C.w (KC κ he hk h) w1 w2)).mono ?_
    rintro e w' ⟨rfl,rfl⟩
    refine⟨?_,gP.refl _⟩
    rw[aa5 h]
 ·cases hg
noncomputable def No(κ:Kp):Env:=(Wm κ).aH 113 (Q1 κ)
theorem eIe(κ:Kp):aB (No κ):=(e15 κ).fj (Wi κ)
theorem YH(κ:Kp):aj (No κ):=(m15 κ).aH
end Go.Proofs.YthaiinlfnommnaaGreatDoor
namespace Go.Proofs.YthaiinlfnommnaaGreatDoor
open Go Go.Dn Go.Rl Go.Proofs
attribute [local irreducible] ba vc
set_option maxRecDepth 20000
structure QR where
 rel:ByteArray
 names:List AV
 types:List AV
 i:Bool
 o:Bool
 line:Int
abbrev X4(d:QR):AV:= .agg [.lit (.string d.rel), .ad 9 d.names, .ad 3 d.types, .bool d.i, .bool d.o, .int d.line]
def Dm(t:AV):Bool:=decide (toInt t=1)||decide (toInt t=2)
def Aj:List AV->List AV->Bool
 |n::ns,t::ts=>isName (toStr n)&&Dm t&&Aj ns ts
 |_,_=>true
def BR(rel:ByteArray)(ns ts:List AV):Bool:=isName rel&& !decide (ns.length=0)&&decide (ns.length<=8)&&decide (ts.length=ns.length)&&Aj ns ts
def uS(a:AV):Bool:=BR (toStr (ae a 0)) (ai (ae a 1)) (ai (ae a 2))
theorem Hy{ns ts:List AV}{i:Nat}(h1:i<ns.length)(h2:i<ts.length):Aj (ns.drop i) (ts.drop i)=(isName (toStr (nth ns i))&&Dm (nth ts i)&&Aj (ns.drop (i+1)) (ts.drop (i+1))):=by
 rw[ab2 h1,ab2 h2,Aj,bf _ _ h1,bf _ _ h2]
theorem xDc(κ:Kp)(d:QR)(i:Int)(I:Nat->S->Prop)(n:Nat)(K:Exit->S->Prop):(vc (No κ) 12 176 none 0 (af (Pr κ).toProgram 176 4) (sp 58 [(1, .ptr 0 0 [] 0),(31, .ad 9 d.names),(32, .int d.names.length),(33, .int i)] [.box 61 (X4 d)]) (bJ (No κ) 176 4 0 I n K))=(
 letI z1:=∃(e0:Nat),e0<n/\I e0 (sp 58 [(1,AV.ptr 0 0 [] 0),(31,AV.ad 9 d.names),(32,AV.int (↑(d.names.length):Int)),(33,AV.int (IntKind.wrap
  IntKind.i64 (i+(1:Int))))] [Obj.box 61 (AV.agg [AV.str d.rel,AV.ad 9 d.names,AV.ad 3 d.types,AV.bool d.i,AV.bool d.o,AV.int d.line])])
 letI z2:=decide ((0:Int)<=i)&&decide (i<(↑(d.types.length):Int))
 letI z3:=K Exit.ret (sp 58 [(2,AV.bool false)] [])
 letI z4:=i<(↑(d.names.length):Int)
 aD (decide z4) (a7 (decide ((0:Int)<=i)&&decide z4) (aD (!isName (toStr (nth d.names i.toNat))) z3 (a7 z2 (aD (toInt (nth d.types i.toNat) != (1:Int))
 (a7 z2 (aD (toInt (nth d.types i.toNat) != (2:Int)) z3 z1)) z1)))) (K (Exit.exit 0) (sp 58 [] []))):=by kernel_rfl
abbrev Nc(a:QR×Int):S:=sp 58 [(1, .ptr 0 0 [] 0),(31, .ad 9 a.1.names),(32, .int a.1.names.length),(33, .int a.2)] [.box 61 (X4 a.1)]
def D5(a:QR×Int):Prop:=a.1.types.length=a.1.names.length/\a.1.names.length<=8/\0<=a.2/\a.2<=a.1.names.length
def CL(a:QR×Int):Out (Exit×S):= .aD (Aj (a.1.names.drop a.2.toNat) (a.1.types.drop a.2.toNat)) (.one (.exit 0,sp 58 [] [])) (.one (.ret,sp 58 [(2, .bool false)] []))
theorem lDc(κ:Kp):bj (No κ) 12 176 4 (aO 0 Nc D5 CL):=by
 refine aK (fun a=>a.1.names.length - a.2.toNat) ?_
 rintro⟨d,i⟩ K ⟨h1,h2,h3,h4⟩ ho
 simp only at h1 h2 h3 h4
 rw[show(No κ).P=Pr κ from rfl]
 refine Eq.mpr (xDc κ d i _ _ K) ?_
 simp only[CL,Out.run,ah] at ho
 simp only[ah,an,aa1,aa3,aa2,Bool.not_eq_true',ab3,bne_iff_ne,bne_eq_false_iff_eq]
 refine⟨fun hi=>?_,fun hi=>?_⟩
 ·have hk:i.toNat<d.names.length:=by omega
  rw[Hy hk (by omega)] at ho
  rw[aV (n:=i+1) (by omega) (by omega)]
  have go:Dm (nth d.types i.toNat)=true->isName (toStr (nth d.names i.toNat))=true->∃m,m<d.names.length - i.toNat/\fm Nc D5 CL (fun a=>a.1.names.length - a.2.toNat) K m (Nc (d,i+1)):=fun e1 e2=>by
   rw[e1,e2,ac0,ac0] at ho
   refine⟨_,?_,(d,i+1),rfl,⟨h1,h2,by simp only;omega,by simp only;omega⟩,rfl,?_⟩
   ·simp only;omega
   ·simp only[CL,Out.run,ah,show(i+1).toNat=i.toNat+1 by omega]
    exact ho
  refine⟨⟨h3,hi⟩,fun e=>ho.2 (by rw[e];rfl),fun e=>⟨⟨h3,by omega⟩,fun e1=>⟨⟨h3,by omega⟩,fun e2=>ho.2 ?_,fun e2=>go ?_ e⟩,fun e1=>go ?_ e⟩⟩
  ·have:Dm (nth d.types i.toNat)=false:=by unfold Dm;rw[aa5 e1,aa5 e2];rfl
   rw[this,e];rfl
  ·unfold Dm;rw[aa7 e2,Bool.or_true]
  ·unfold Dm;rw[aa7 e1,Bool.true_or]
 ·rw[aa9 (by omega)] at ho
  exact ho.1 rfl
noncomputable def SG(κ:Kp):Env:=(No κ).ak 176 4 (aO 0 Nc D5 CL)
theorem eDl(κ:Kp):aB (SG κ):=(eIe κ).ak (YH κ) (lDc κ)
theorem Zb(κ:Kp):aj (SG κ):=(YH κ).ak aG
theorem yDc(κ:Kp)(d:QR)(K:AV->List Dn.Obj->Prop):(ba (SG κ) 12 176 [X4 d] [] K)=(
 letI z1:=K (AV.bool false) []
 letI z2:=d.names.length
 letI z3:=Pg.toProgram (Env.P (No κ))
 aD (!isName d.rel) z1 (aD ((↑z2:Int)==(0:Int)) z1 (aD (decide ((↑z2:Int)>(8:Int))) z1 (aD ((↑(d.types.length):Int) != (↑z2:Int)) z1 (af z3 176 4
 =af z3 176 4/\∃(e0:QR×Int),sp 58 [(1,AV.ptr 0 0 [] 0),(31,AV.ad 9 d.names),(32,AV.int (↑z2:Int)),(33,AV.int 0)] [Obj.box 61 (AV.agg [AV.str
 d.rel,AV.ad 9 d.names,AV.ad 3 d.types,AV.bool d.i,AV.bool d.o,AV.int d.line])]=sp 58 [(1,AV.ptr 0 0 [] 0),(31,AV.ad 9 e0.1.names),(32,AV.int
 (↑(e0.1.names.length):Int)),(33,AV.int e0.2)] [Obj.box 61 (AV.agg [AV.str e0.1.rel,AV.ad 9 e0.1.names,AV.ad 3 e0.1.types,AV.bool e0.1.i,AV.bool e0.1.o,
 AV.int e0.1.line])]/\(e0.1.types.length=e0.1.names.length/\e0.1.names.length<=8/\(0:Int)<=e0.2/\e0.2<=(↑(e0.1.names.length):Int))/\aD (Aj
 (List.drop e0.2.toNat e0.1.names) (List.drop e0.2.toNat e0.1.types)) (K (AV.bool true) []) z1))))):=by kernel_rfl
def Yn:List AV->Option (Bool×AV)
 |[.agg [.lit (.string rel), .ad 9 ns, .ad 3 ts, .lit (.bool _), .lit (.bool _), .lit (.int .i64 _)]]=>some (true, .bool (BR rel ns ts))
 |_=>none
theorem pDc(κ:Kp):cQ (SG κ) 12 176 Yn:=by
 intro args x hh
 unfold Yn at hh
 split at hh
 ·rename_i rel ns ts bi bo line
  simp only[aa4,ab0,true_and] at hh
  subst hh
  refine⟨_,rfl,rfl,?_⟩
  refine Eq.mpr (yDc κ ⟨rel,ns,ts,bi,bo,line⟩ _) ?_
  unfold BR
  simp only[ah,aa1,aa3,Bool.not_eq_true',ab3,beq_iff_eq,beq_eq_false_iff_ne,bne_iff_ne,bne_eq_false_iff_eq]
  refine⟨fun e=>og (by rw[e];rfl),fun e=>⟨fun e2=>og ?_,fun e2=>⟨fun e3=>og ?_,fun e3=>⟨fun e4=>og ?_,fun e4=>⟨trivial,(⟨rel,ns,ts,bi,bo,line⟩,0),rfl,⟨by simp only;omega,by simp only;omega,by simp only;omega,by simp only;omega⟩,?_⟩⟩⟩⟩⟩
  ·rw[aa7 (show ns.length=0 by omega)];simp
  ·rw[aa5 (show ¬ ns.length<=8 by omega)];simp
  ·rw[aa5 (show ¬ ts.length=ns.length by omega)];simp
  ·rw[e,aa5 (show ¬ ns.length=0 by omega),aa7 (show ns.length<=8 by omega),aa7 (show ts.length=ns.length by omega)]
   simp only[ab8,ab1,Bool.not_false,ac0]
   exact⟨fun e5=>og e5.symm,fun e5=>og e5.symm⟩
 ·cases hh
noncomputable def MM(κ:Kp):Env:=(SG κ).aH 176 Yn
theorem eDc(κ:Kp):aB (MM κ):=(eDl κ).aH (Zb κ) (pDc κ)
theorem YO(κ:Kp):aj (MM κ):=(Zb κ).aH
theorem XJ(κ:Kp)(ds rs:List AV)(i:Int)(I:Nat->S->Prop)(n:Nat)(K:Exit->S->Prop):(vc (MM κ) 12 95 none 1 (af (Pr κ).toProgram 95 2) (sp 19 [(0, .ad 61 ds),(1, .bL 175 []),(7, .int ds.length),(8, .int i)] [.box 25 (.agg [.ad 61 ds, .ad 66 rs])]) (bJ (MM κ) 95 2 1 I n K))=(
 letI z1:=AV.agg [AV.ad 61 ds,AV.ad 66 rs]
 letI z2:=nth ds i.toNat
 letI z3:=i<(↑(ds.length):Int)
 aD (decide z3) (a7 (decide ((0:Int)<=i)&&decide z3) (aD (!BR (toStr (ae z2 0)) (ai (ae z2 1)) (ai (ae z2 2))) (K Exit.ret (sp 19 [(4,AV.int i)] [Obj.box
 25 z1])) (∃(e0:Nat),e0<n/\I e0 (sp 19 [(0,AV.ad 61 ds),(1,AV.bL 175 []),(7,AV.int (↑(ds.length):Int)),(8,AV.int (IntKind.wrap IntKind.i64 (i+
 (1:Int))))] [Obj.box 25 z1])))) (K (Exit.exit 0) (sp 19 [] [Obj.box 25 z1]))):=by kernel_rfl
abbrev Jb:Nat:=95
abbrev RY:Nat:=194
abbrev Ib(ds rs:List AV):Dn.Obj:= .box 25 (.agg [.ad 61 ds, .ad 66 rs])
abbrev Ng:=List AV×List AV×Int
abbrev Pb(a:Ng):S:=sp 19 [(0, .ad 61 a.1),(1, .bL 175 []),(7, .int a.1.length),(8, .int a.2.2)] [Ib a.1 a.2.1]
def GG(a:Ng):Prop:=a.1.length<=aR/\0<=a.2.2/\a.2.2<=a.1.length
def yY(a:Ng):Out (Exit×S):= .aD ((a.1.drop a.2.2.toNat).all uS) (.one (.exit 0,sp 19 [] [Ib a.1 a.2.1])) (.all (fun j:Int=>0<=j) fun j=> .one (.ret,sp 19 [(4, .int j)] [Ib a.1 a.2.1]))
theorem Yb(κ:Kp):bj (MM κ) 12 Jb 2 (aO 1 Pb GG yY):=by
 refine aK (fun a=>a.1.length - a.2.2.toNat) ?_
 rintro⟨ds,rs,i⟩ K ⟨h1,h2,h3⟩ ho
 simp only at h1 h2 h3
 rw[show(MM κ).P=Pr κ from rfl]
 refine Eq.mpr (XJ κ ds rs i _ _ K) ?_
 simp only[aR] at h1
 simp only[yY,Out.run,ah] at ho
 simp only[ah,an,aa1,aa3,aa2,Bool.not_eq_true',ab3]
 refine⟨fun hi=>⟨⟨h2,hi⟩,?_⟩,fun hi=>?_⟩
 ·have hk:i.toNat<ds.length:=by omega
  rw[ab2 hk,←bf ds i.toNat hk,List.all_cons] at ho
  refine⟨fun e=>ho.2 (by rw[show uS (nth ds i.toNat)=false from e];rfl) i h2,fun e=>?_⟩
  rw[show uS (nth ds i.toNat)=true from e,ac0] at ho
  rw[aV (n:=i+1) (by omega) (by omega)]
  refine⟨_,?_,(ds,rs,i+1),rfl,⟨by simpa[aR] using h1,by simp only;omega,by simp only;omega⟩,rfl,?_⟩
  ·simp only;omega
  ·simp only[yY,Out.run,ah,show(i+1).toNat=i.toNat+1 by omega]
   exact ho
 ·rw[aa9 (by omega)] at ho
  exact ho.1 rfl
noncomputable def ua(κ:Kp):Env:=(MM κ).ak Jb 2 (aO 1 Pb GG yY)
theorem WZ(κ:Kp):aB (ua κ):=(eDc κ).ak (YO κ) (Yb κ)
theorem TS(κ:Kp):aj (ua κ):=(YO κ).ak aG
theorem Wt(κ:Kp)(ds rs:List AV)(i:Int)(I:Nat->S->Prop)(n:Nat)(K:Exit->S->Prop):(vc (ua κ) 12 194 none 1 (af (Pr κ).toProgram 194 2) (sp 19 [(0, .ad 66 rs),(1, .bL 177 []),(7, .int rs.length),(8, .int i)] [.box 25 (.agg [.ad 61 ds, .ad 66 rs])]) (bJ (ua κ) 194 2 1 I n K))=(
 letI z1:=AV.agg [AV.ad 61 ds,AV.ad 66 rs]
 letI z2:=nth rs i.toNat
 letI z3:=i<(↑(rs.length):Int)
 aD (decide z3) (a7 (decide ((0:Int)<=i)&&decide z3) (a7 (decide (List.length (ai (ae (ae z2 0) 1))<=9223372036854775807)&&decide (List.length (ai (ae z2 1))<=9223372036854775807)) (aD (!aM {head:={rel:=toStr (ae (ae z2 0) 0),l:=aa (ai (ae (ae z2 0) 1))},body:=dg (ai (ae z2 1))}) (K Exit.ret (sp 19 [(4,AV.int i)] [Obj.box 25 z1])) (∃(e0:Nat),e0<n/\I e0 (sp 19 [(0,AV.ad 66 rs),(1,AV.bL 177 []),(7,AV.int (↑(rs.length):Int)),(8,AV.int (IntKind.wrap IntKind.i64 (i+(1:Int))))] [Obj.box 25 z1]))))) (K (Exit.exit 0) (sp 19 [] [Obj.box 25 z1]))):=by kernel_rfl
def im(a:AV):Bool:=decide ((ai (ae (ae a 0) 1)).length<=aR)&&decide ((ai (ae a 1)).length<=aR)
def lH(a:AV):Bool:=aM (s6 a)
abbrev Pk(a:Ng):S:=sp 19 [(0, .ad 66 a.2.1),(1, .bL 177 []),(7, .int a.2.1.length),(8, .int a.2.2)] [Ib a.1 a.2.1]
def FV(a:Ng):Prop:=a.2.1.length<=aR/\0<=a.2.2/\a.2.2<=a.2.1.length/\a.2.1.all im=true
def yB(a:Ng):Out (Exit×S):= .aD ((a.2.1.drop a.2.2.toNat).all lH) (.one (.exit 0,sp 19 [] [Ib a.1 a.2.1])) (.all (fun j:Int=>0<=j) fun j=> .one (.ret,sp 19 [(4, .int j)] [Ib a.1 a.2.1]))
theorem MY{rs:List AV}(h:rs.all im=true){k:Nat}(hk:k<rs.length):(ai (ae (ae (nth rs k) 0) 1)).length<=aR/\(ai (ae (nth rs k) 1)).length<=aR:=by
 have:=List.all_eq_true.1 h (nth rs k) (by rw[bf _ _ hk];exact List.getElem_mem hk)
 simpa[im] using this
theorem W6(κ:Kp):bj (ua κ) 12 RY 2 (aO 1 Pk FV yB):=by
 refine aK (fun a=>a.2.1.length - a.2.2.toNat) ?_
 rintro⟨ds,rs,i⟩ K ⟨h1,h2,h3,h4⟩ ho
 simp only at h1 h2 h3 h4
 rw[show(ua κ).P=Pr κ from rfl]
 refine Eq.mpr (Wt κ ds rs i _ _ K) ?_
 simp only[aR] at h1
 simp only[yB,Out.run,ah] at ho
 simp only[ah,an,aa1,aa3,aa2,Bool.not_eq_true',ab3]
 refine⟨fun hi=>⟨⟨h2,hi⟩,MY h4 (by omega),?_⟩,fun hi=>?_⟩
 ·have hk:i.toNat<rs.length:=by omega
  rw[ab2 hk,←bf rs i.toNat hk,List.all_cons] at ho
  refine⟨fun e=>ho.2 (by rw[show lH (nth rs i.toNat)=false from e];rfl) i h2,fun e=>?_⟩
  rw[show lH (nth rs i.toNat)=true from e,ac0] at ho
  rw[aV (n:=i+1) (by omega) (by omega)]
  refine⟨_,?_,(ds,rs,i+1),rfl,⟨by simpa[aR] using h1,by simp only;omega,by simp only;omega,h4⟩,rfl,?_⟩
  ·simp only;omega
  ·simp only[yB,Out.run,ah,show(i+1).toNat=i.toNat+1 by omega]
   exact ho
 ·rw[aa9 (by omega)] at ho
  exact ho.1 rfl
noncomputable def Kw(κ:Kp):Env:=(ua κ).ak RY 2 (aO 1 Pk FV yB)
theorem Xh(κ:Kp):aB (Kw κ):=(WZ κ).ak (TS κ) (W6 κ)
theorem Tq(κ:Kp):aj (Kw κ):=(TS κ).ak aG
theorem yRt(κ:Kp)(ds rs:List AV)(K:AV->List Dn.Obj->Prop):(ba (Kw κ) 12 109 [.agg [.ad 61 ds, .ad 66 rs]] [] K)=(
 letI z1:=∀(e0:Int),(0:Int)<=e0->K (AV.lit (Value.bool !decide (e0>=(0:Int)))) []
 letI z2:=Pg.toProgram (Env.P (ua κ))
 letI z3:=K (AV.bool false) []
 letI z4:=Pg.toProgram (Env.P (MM κ))
 aD (decide ((↑(ds.length):Int)>(60:Int))) z3 (aD (decide ((↑(rs.length):Int)>(200:Int))) z3 (af z4 Jb 2=af z4 Jb 2/\∃(e3:Ng),sp 19 [(0,AV.ad
 61 ds),(1,AV.bL 175 []),(7,AV.int (↑(ds.length):Int)),(8,AV.int 0)] [Obj.box 25 (AV.agg [AV.ad 61 ds,AV.ad 66 rs])]=sp 19 [(0,AV.ad 61 e3.1),(1,
 AV.bL 175 []),(7,AV.int (↑(e3.1.length):Int)),(8,AV.int e3.2.2)] [Obj.box 25 (AV.agg [AV.ad 61 e3.1,AV.ad 66 e3.2.1])]/\(e3.1.length<=
 9223372036854775807/\(0:Int)<=e3.2.2/\e3.2.2<=(↑(e3.1.length):Int))/\aD (List.all (List.drop (Int.toNat e3.2.2) e3.1) uS) (af z2 RY 2=af z2 RY 2/\∃
 (e1:Ng),sp 19 [(0,AV.ad 66 e3.2.1),(1,AV.bL 177 []),(7,AV.int (↑(e3.2.1.length):Int)),(8,AV.int 0)] [Obj.box 25 (AV.agg [AV.ad 61 e3.1,AV.ad 66
 e3.2.1])]=sp 19 [(0,AV.ad 66 e1.2.1),(1,AV.bL 177 []),(7,AV.int (↑(e1.2.1.length):Int)),(8,AV.int e1.2.2)] [Obj.box 25 (AV.agg [AV.ad 61 e1.1,AV.ad
 66 e1.2.1])]/\(e1.2.1.length<=9223372036854775807/\(0:Int)<=e1.2.2/\e1.2.2<=(↑(e1.2.1.length):Int)/\List.all e1.2.1 im=true)/\aD (List.all
 (List.drop (Int.toNat e1.2.2) e1.2.1) lH) (K (AV.bool true) []) z1) (∀(e2:Int),(0:Int)<=e2->aD (!decide (e2>=(0:Int))) (af z2 RY 2=af z2 RY 2/\∃
 (e1:Ng),sp 19 [(0,AV.ad 66 e3.2.1),(1,AV.bL 177 []),(7,AV.int (↑(e3.2.1.length):Int)),(8,AV.int 0)] [Obj.box 25 (AV.agg [AV.ad 61 e3.1,AV.ad 66
 e3.2.1])]=sp 19 [(0,AV.ad 66 e1.2.1),(1,AV.bL 177 []),(7,AV.int (↑(e1.2.1.length):Int)),(8,AV.int e1.2.2)] [Obj.box 25 (AV.agg [AV.ad 61 e1.1,AV.ad
 66 e1.2.1])]/\(e1.2.1.length<=9223372036854775807/\(0:Int)<=e1.2.2/\e1.2.2<=(↑(e1.2.1.length):Int)/\List.all e1.2.1 im=true)/\aD (List.all
 (List.drop (Int.toNat e1.2.2) e1.2.1) lH) (K (AV.bool true) []) z1) z3)))):=by kernel_rfl
def eU(ds rs:List AV):Bool:=decide (ds.length<=60)&&decide (rs.length<=200)&&ds.all uS&&rs.all lH
def Xx:List AV->Option (Bool×AV)
 |[.agg [.ad 61 ds, .ad 66 rs]]=>some (rs.all im, .bool (eU ds rs))
 |_=>none
theorem pRt(κ:Kp):cQ (Kw κ) 12 109 Xx:=by
 intro args x hh
 unfold Xx at hh
 split at hh
 ·rename_i ds rs
  simp only[aa4,ab0] at hh
  obtain⟨h1,rfl⟩:=hh
  refine⟨_,rfl,rfl,?_⟩
  refine Eq.mpr (yRt κ ds rs _) ?_
  unfold eU
  rw[ah,aa1,aa3]
  refine⟨fun e=>og (by rw[aa5 (show ¬ ds.length<=60 by omega)];rfl),fun e=>?_⟩
  rw[ah,aa1,aa3]
  refine⟨fun e2=>og (by rw[aa5 (show ¬ rs.length<=200 by omega)];simp),fun e2=>?_⟩
  rw[aa7 (show ds.length<=60 by omega),aa7 (show rs.length<=200 by omega)]
  refine⟨rfl,(ds,rs,0),rfl,⟨by simp only[aR];omega,by simp only;omega,by simp only;omega⟩,?_⟩
  simp only[ab8,ab1,ac0]
  rw[ah]
  refine⟨fun e3=>⟨trivial,(ds,rs,0),rfl,⟨by simp only[aR];omega,by simp only;omega,by simp only;omega,h1⟩,?_⟩,fun e3 y hy=>?_⟩
  ·simp only[ab8,ab1]
   rw[ah,e3]
   refine⟨fun e4=>og (by rw[e4];rfl),fun e4 y hy=>og ?_⟩
   rw[e4,aa7 (show y>=0 from hy)];rfl
  ·rw[aa7 (show y>=0 from hy)]
   exact og (by rw[e3];rfl)
 ·cases hh
noncomputable def ND(κ:Kp):Env:=(Kw κ).aH 109 Xx
theorem eRt(κ:Kp):aB (ND κ):=(Xh κ).aH (Tq κ) (pRt κ)
theorem Z4(κ:Kp):aj (ND κ):=(Tq κ).aH
theorem xFi(κ:Kp)(ds:List AV)(s:ByteArray)(i:Int)(I:Nat->S->Prop)(n:Nat)(K:Exit->S->Prop):(vc (ND κ) 12 Jb none 1 (af (Pr κ).toProgram Jb 2) (sp 19 [(0, .ad 61 ds),(1, .bL 96 [.ptr 0 0 [] 0]),(7, .int ds.length),(8, .int i)] [.box 9 (.lit (.string s))]) (bJ (ND κ) Jb 2 1 I n K))=(
 letI z1:=i<(↑(ds.length):Int)
 aD (decide z1) (a7 (decide ((0:Int)<=i)&&decide z1) (aD (ByteArray.toList (toStr (ae (nth ds i.toNat) 0))==ByteArray.toList s) (K Exit.ret (sp 19 [(4,
 AV.int i)] [Obj.box 9 (AV.str s)])) (∃(e0:Nat),e0<n/\I e0 (sp 19 [(0,AV.ad 61 ds),(1,AV.bL 96 [AV.ptr 0 0 [] 0]),(7,AV.int (↑(ds.length):Int)),
 (8,AV.int (IntKind.wrap IntKind.i64 (i+(1:Int))))] [Obj.box 9 (AV.str s)])))) (K (Exit.exit 0) (sp 19 [] [Obj.box 9 (AV.str s)]))):=by kernel_rfl
def la(s:ByteArray):List AV->Int->Int
 |[],_=> -1
 |d::l,i=>bif l6 (toStr (ae d 0)) s then i else la s l (i+1)
abbrev U9(a:List AV×ByteArray×Int):S:=sp 19 [(0, .ad 61 a.1),(1, .bL 96 [.ptr 0 0 [] 0]),(7, .int a.1.length),(8, .int a.2.2)] [.box 9 (.lit (.string a.2.1))]
def J8(a:List AV×ByteArray×Int):Prop:=a.1.length<=aR/\0<=a.2.2/\a.2.2<=a.1.length
def Gx(a:List AV×ByteArray×Int):Out (Exit×S):= .aD (decide (0<=la a.2.1 (a.1.drop a.2.2.toNat) a.2.2)) (.one (.ret,sp 19 [(4, .int (la a.2.1 (a.1.drop a.2.2.toNat) a.2.2))] [.box 9 (.lit (.string a.2.1))])) (.one (.exit 0,sp 19 [] [.box 9 (.lit (.string a.2.1))]))
theorem lFi(κ:Kp):bj (ND κ) 12 Jb 2 (aO 1 U9 J8 Gx):=by
 refine aK (fun a=>a.1.length - a.2.2.toNat) ?_
 rintro⟨ds,s,i⟩ K ⟨h1,h2,h3⟩ ho
 simp only at h1 h2 h3
 rw[show(ND κ).P=Pr κ from rfl]
 refine Eq.mpr (xFi κ ds s i _ _ K) ?_
 simp only[aR] at h1
 simp only[Gx,Out.run,ah] at ho
 simp only[ah,an,aa1,aa3,aa2]
 refine⟨fun hi=>⟨⟨h2,hi⟩,?_⟩,fun hi=>?_⟩
 ·have hk:i.toNat<ds.length:=by omega
  rw[ab2 hk,←bf ds i.toNat hk,la] at ho
  refine⟨fun e=>?_,fun e=>?_⟩
  ·rw[show l6 (toStr (ae (nth ds i.toNat) 0)) s=true from e,aa8] at ho
   exact ho.1 (aa7 h2)
  ·rw[show l6 (toStr (ae (nth ds i.toNat) 0)) s=false from e,aa6] at ho
   rw[aV (n:=i+1) (by omega) (by omega)]
   refine⟨_,?_,(ds,s,i+1),rfl,⟨by simpa[aR] using h1,by simp only;omega,by simp only;omega⟩,rfl,?_⟩
   ·simp only;omega
   ·simp only[Gx,Out.run,ah,show(i+1).toNat=i.toNat+1 by omega]
    exact ho
 ·rw[aa9 (by omega)] at ho
  exact ho.2 rfl
noncomputable def Sl(κ:Kp):Env:=(ND κ).ak Jb 2 (aO 1 U9 J8 Gx)
theorem eFl(κ:Kp):aB (Sl κ):=(eRt κ).ak (Z4 κ) (lFi κ)
theorem YW(κ:Kp):aj (Sl κ):=(Z4 κ).ak aG
theorem yFi(κ:Kp)(ds:List AV)(s:ByteArray)(K:AV->List Dn.Obj->Prop):(ba (Sl κ) 12 56 [.ad 61 ds, .lit (.string s)] [] K)=(
 af (Pg.toProgram (Env.P (ND κ))) Jb 2=af (Pg.toProgram (Env.P (ND κ))) Jb 2/\∃(a:List AV×ByteArray×Int),sp 19 [(0,AV.ad 61 ds),(1,
 AV.bL 96 [AV.ptr 0 0 [] 0]),(7,AV.int (↑(ds.length):Int)),(8,AV.int 0)] [Obj.box 9 (AV.str s)]=sp 19 [(0,AV.ad 61 a.1),(1,AV.bL 96 [AV.ptr 0 0 []
 0]),(7,AV.int (↑(a.1.length):Int)),(8,AV.int a.2.2)] [Obj.box 9 (AV.str a.2.1)]/\(a.1.length<=9223372036854775807/\(0:Int)<=a.2.2/\a.2.2<=
 (↑(a.1.length):Int))/\aD (decide ((0:Int)<=la a.2.1 (List.drop (Int.toNat a.2.2) a.1) a.2.2)) (K (AV.bh [AV.int (if(0:Int)>la a.2.1
 (List.drop (Int.toNat a.2.2) a.1) a.2.2 then(0:Int) else la a.2.1 (List.drop (Int.toNat a.2.2) a.1) a.2.2),AV.bool (decide (la a.2.1 (List.drop
 (Int.toNat a.2.2) a.1) a.2.2>=(0:Int)))]) []) (K (AV.bh [AV.int 0,AV.bool false]) [])):=by kernel_rfl
def bw(s:ByteArray)(ds:List AV):Int:=bif decide (0<=la s ds 0) then la s ds 0 else 0
def fA(s:ByteArray)(ds:List AV):Bool:=decide (0<=la s ds 0)
def Bg(a:List AV×ByteArray):List AV×List Dn.Obj:=([.ad 61 a.1, .lit (.string a.2)],[])
def gL(a:List AV×ByteArray):Prop:=a.1.length<=aR
def E5(a:List AV×ByteArray):Out (AV×List Dn.Obj):= .one (.bh [.int (bw a.2 a.1), .bool (fA a.2 a.1)],[])
theorem cFi(κ:Kp):bu (Sl κ) 12 56 (aL Bg gL E5):=by
 refine aX ?_
 rintro⟨ds,s⟩ K h1 ho
 refine Eq.mpr (yFi κ ds s K) ?_
 simp only[E5,Out.run,bw,fA] at ho
 refine⟨rfl,(ds,s,0),rfl,⟨h1,by simp only;omega,by simp only;omega⟩,?_⟩
 simp only[ab8,ab1]
 rw[ah]
 refine⟨fun e=>?_,fun e=>?_⟩
 ·rw[e,aa8] at ho
  rw[aa1] at e
  rw[if_neg (by omega),aa7 (show la s ds 0>=0 from e)]
  exact ho
 ·rw[e,aa6] at ho
  exact ho
noncomputable def Tj(κ:Kp):Env:=(Sl κ).aw 56 (aL Bg gL E5)
theorem eFi(κ:Kp):aB (Tj κ):=(eFl κ).aw (YW κ) (cFi κ)
theorem YY(κ:Kp):aj (Tj κ):=(YW κ).aw aJ
structure jm where
 ds:List AV
 es:List (Value×AV)
 more:Bool
abbrev bO(a:jm):List Dn.Obj:=[.box 225 (.agg [.ad 61 a.ds, .mp 1, .bool a.more]), .map 9 3 a.es]
abbrev C8:AV:= .ptr 0 0 [] 0
theorem yOf(κ:Kp)(a:jm)(t:AT)(K:AV->List Dn.Obj->Prop):(ba (Tj κ) 12 259 [C8,cz t] (bO a) K)=(
 aD (t.op==(1:Int)) (K (AV.int (toInt (dp a.es (Value.string t.s) (AV.int 0)))) (bO a)) (aD (t.op==(3:Int)) (K (AV.int 2) (bO a)) (aD (t.op==(4:Int))
 (K (AV.int 0) (bO a)) (K (AV.int 1) (bO a))))):=by kernel_rfl
def St(x:jm×AT):List AV×List Dn.Obj:=([C8,cz x.2],bO x.1)
def J7(_:jm×AT):Prop:=True
def LI(x:jm×AT):Out (AV×List Dn.Obj):= .one (.int (bH getM x.2.tm x.1.es),bO x.1)
theorem cOf(κ:Kp):bu (Tj κ) 12 259 (aL St J7 LI):=by
 refine aX ?_
 rintro⟨a,t⟩ K _ ho
 refine Eq.mpr (yOf κ a t K) ?_
 simp only[LI,Out.run] at ho
 have e:bH getM t.tm a.es=bif decide (t.op=1) then getM a.es t.s else bif decide (t.op=3) then 2 else bif decide (t.op=4) then 0 else 1:=rfl
 rw[e] at ho
 simp only[Pf]
 cases h1:decide (t.op=1) with
 |true=>rw[h1] at ho;exact ho
 | false=>
  rw[h1] at ho
  cases h3:decide (t.op=3) with
  |true=>rw[h3] at ho;exact ho
  |false=>
   rw[h3] at ho
   cases h4:decide (t.op=4) with
   |true=>rw[h4] at ho;exact ho
   |false=>rw[h4] at ho;exact ho
noncomputable def VL(κ:Kp):Env:=(Tj κ).aw 259 (aL St J7 LI)
theorem Z7(κ:Kp):aB (VL κ):=(eFi κ).aw (YY κ) (cOf κ)
theorem Zt(κ:Kp):aj (VL κ):=(YY κ).aw aJ
structure oZ where
 a:jm
 t:AT
 k:Int
def aP(a:jm)(t:AT)(k:Int):Bool×(List (Value×AV)×Bool):=t.tm.want getM gk k (a.es,a.more)
def dO(a:jm)(r:List (Value×AV)×Bool):jm:=⟨a.ds,r.1,r.2⟩
def gV(b:Bool):Int:=bif b then 53 else 0
def Rx(x:oZ):List AV×List Dn.Obj:=([C8,cz x.t, .int x.k],bO x.a)
def Rt(n:Nat)(x:oZ):Prop:=x.t.tm.iZ=n/\n<=100000
noncomputable def FE(κ:Kp)(x:oZ):Out (AV×List Dn.Obj):= .one (.lit (a8 κ (gV (aP x.a x.t x.k).1)),bO (dO x.a (aP x.a x.t x.k).2))
noncomputable def Ma(κ:Kp)(n:Nat):dr:=aL Rx (Rt n) (FE κ)
noncomputable def Np(κ:Kp)(r:Nat):Env:=(VL κ).aw 258 fun args st K=>∃m,m<r/\Ma κ m args st K
theorem xWt(κ:Kp)(r:Nat)(a:jm)(t:AT)(k:Int)(i:Int)(I:Nat->S->Prop)(n:Nat)(K:Exit->S->Prop):(vc (Np κ r) 12 258 none 2 (af (Pr κ).toProgram 258 2) (sp 56 [(0,C8),(2, .int k),(4, .ptr 2 0 [] 0),(12, .ad 56 t.l),(13, .int t.l.length),(14, .int i)] (bO a++[.box 56 (cz t)])) (bJ (Np κ r) 258 2 2 I n K))=(
 letI z1:=nth t.l i.toNat
 letI z2:=i<(↑(t.l.length):Int)
 aD (decide z2) (a7 (decide ((0:Int)<=i)&&decide z2) (∃(e2:Nat),e2<r/\∃(e1:oZ),([AV.ptr 0 0 [] 0,AV.agg [AV.int (toInt (ae z1 0)),AV.str (toStr
 (ae z1 1)),AV.int (toInt (ae z1 2)),AV.ad 56 (ai (ae z1 3))],AV.int 1],(bO a))=([AV.ptr 0 0 [] 0,cz e1.t,AV.int e1.k],(bO e1.a))/\(Tm.iZ (AT.tm e1.t)
 =e2/\e2<=100000)/\a7 (aC (a8 κ (gV (Prod.fst (aP e1.a e1.t e1.k))))) (aD (!bM (a8 κ (gV (Prod.fst (aP e1.a e1.t e1.k))))) (K Exit.ret (sp 56 [(6,AV.lit (a8
 κ (gV (Prod.fst (aP e1.a e1.t e1.k)))))] (bO (dO e1.a (Prod.snd (aP e1.a e1.t e1.k)))))) (∃(e0:Nat),e0<n/\I e0 (sp 56 [(0,AV.ptr 0 0 [] 0),(2,AV.int
 k),(4,AV.ptr 2 0 [] 0),(12,AV.ad 56 t.l),(13,AV.int (↑(t.l.length):Int)),(14,AV.int (IntKind.wrap IntKind.i64 (i+(1:Int))))] [Obj.box 225 (AV.agg
 [AV.ad 61 (jm.ds (dO e1.a (Prod.snd (aP e1.a e1.t e1.k)))),AV.mp 1,AV.bool (jm.more (dO e1.a (Prod.snd (aP e1.a e1.t e1.k))))]),Dn.Obj.map 9 3 (jm.es (dO
 e1.a (Prod.snd (aP e1.a e1.t e1.k)))),Obj.box 56 (cz t)]))))) (K (Exit.exit 0) (sp 56 [(0,AV.ptr 0 0 [] 0),(2,AV.int k),(4,AV.ptr 2 0 [] 0)] [Obj.box 225
 (AV.agg [AV.ad 61 a.ds,AV.mp 1,AV.bool a.more]),Dn.Obj.map 9 3 a.es,Obj.box 56 (cz t)]))):=by kernel_rfl
abbrev SQ:=oZ×Int
abbrev Vr(x:SQ):S:=sp 56 [(0,C8),(2, .int x.1.k),(4, .ptr 2 0 [] 0),(12, .ad 56 x.1.t.l),(13, .int x.1.t.l.length),(14, .int x.2)] (bO x.1.a++[.box 56 (cz x.1.t)])
def Mm(r:Nat)(x:SQ):Prop:=x.1.t.l.length<=aR/\0<=x.2/\x.2<=x.1.t.l.length/\aZ (aa (x.1.t.l.drop x.2.toNat))<r/\aZ (aa (x.1.t.l.drop x.2.toNat))<=100000
def fT(x:SQ):Bool×(List (Value×AV)×Bool):=jd getM gk (aa (x.1.t.l.drop x.2.toNat)) (x.1.a.es,x.1.a.more)
noncomputable def Gw(κ:Kp)(x:SQ):Out (Exit×S):= .aD (fT x).1 (.one (.ret,sp 56 [(6, .lit (a8 κ 53))] (bO (dO x.1.a (fT x).2))))
 (.one (.exit 0,sp 56 [(0,C8),(2, .int x.1.k),(4, .ptr 2 0 [] 0)] (bO (dO x.1.a (fT x).2)++[.box 56 (cz x.1.t)])))
theorem zc(b:Bool):decide (gV b=0)= !b:=by cases b<;>rfl
theorem lWt(κ:Kp)(r:Nat):bj (Np κ r) 12 258 2 (aO 2 Vr (Mm r) (Gw κ)):=by
 refine aK (fun x=>x.1.t.l.length - x.2.toNat) ?_
 rintro⟨⟨a,t,k⟩,i⟩ K ⟨h1,h2,h3,h4,h5⟩ ho
 simp only at h1 h2 h3 h4 h5
 rw[show(Np κ r).P=Pr κ from rfl]
 refine Eq.mpr (xWt κ r a t k i _ _ K) ?_
 simp only[aR] at h1
 simp only[Gw,Out.run,ah] at ho
 rw[ah,aa1,aa3]
 refine⟨fun hi=>?_,fun hi=>?_⟩
 ·have hk:i.toNat<t.l.length:=by omega
  have e:=eH t.l i.toNat hk
  have hw:fT (⟨a,t,k⟩,i)=bif (aP a (xd (nth t.l i.toNat)) 1).1 then aP a (xd (nth t.l i.toNat)) 1 else fT (⟨dO a (aP a (xd (nth t.l i.toNat)) 1).2,t,k⟩,i+1):=by
   unfold fT aP
   simp only[show(i+1).toNat=i.toNat+1 by omega]
   rw[e,jd,nI];rfl
  rw[e,aZ] at h4 h5
  rw[hw] at ho
  rw[an,aa2,aa1,aa1]
  refine⟨⟨h2,hi⟩,(cR (nth t.l i.toNat)).iZ,by omega,⟨a,xd (nth t.l i.toNat),1⟩,rfl,⟨by rw[nI],by omega⟩,?_⟩
  rw[an]
  refine⟨cK _ _,?_⟩
  rw[jn,zc,Bool.not_not,ah]
  refine⟨fun e1=>?_,fun e1=>?_⟩
  ·simp only[e1,aa8] at ho⊢
   exact ho.1 trivial
  ·simp only[e1,aa6] at ho
   rw[aV (n:=i+1) (by omega) (by omega)]
   refine⟨_,?_,(⟨dO a (aP a (xd (nth t.l i.toNat)) 1).2,t,k⟩,i+1),rfl,⟨by simpa[aR] using h1,by simp only;omega,by simp only;omega,?_,?_⟩,rfl,?_⟩
   ·simp only;omega
   ·simp only[show(i+1).toNat=i.toNat+1 by omega];omega
   ·simp only[show(i+1).toNat=i.toNat+1 by omega];omega
   ·simp only[Gw,Out.run,ah]
    exact ho
 ·have hw:fT (⟨a,t,k⟩,i)=(false,(a.es,a.more)):=by
   unfold fT
   simp only
   rw[aa9 (by omega)];rfl
  rw[hw] at ho
  exact ho.2 rfl
noncomputable def R6(κ:Kp)(r:Nat):Env:=(Np κ r).ak 258 2 (aO 2 Vr (Mm r) (Gw κ))
theorem yWt(κ:Kp)(r:Nat)(a:jm)(t:AT)(k:Int)(K:AV->List Dn.Obj->Prop):(ba (R6 κ r) 12 258 [C8,cz t, .int k] (bO a) K)=(
 letI z1:=AV.lit Value.nilIface
 letI z2:=Pg.toProgram (Env.P (Np κ r))
 af z2 258 2=af z2 258 2/\∃(e1:SQ),sp 56 [(0,AV.ptr 0 0 [] 0),(2,AV.int k),(4,AV.ptr 2 0 [] 0),(12,AV.ad 56 t.l),(13,AV.int (↑(t.l.length):
 Int)),(14,AV.int 0)] [Obj.box 225 (AV.agg [AV.ad 61 a.ds,AV.mp 1,AV.bool a.more]),Dn.Obj.map 9 3 a.es,Obj.box 56 (cz t)]=sp 56 [(0,AV.ptr 0 0 [] 0),
 (2,AV.int e1.1.k),(4,AV.ptr 2 0 [] 0),(12,AV.ad 56 e1.1.t.l),(13,AV.int (↑(List.length e1.1.t.l):Int)),(14,AV.int e1.2)] [Obj.box 225 (AV.agg [AV.ad
 61 e1.1.a.ds,AV.mp 1,AV.bool e1.1.a.more]),Dn.Obj.map 9 3 e1.1.a.es,Obj.box 56 (cz e1.1.t)]/\(List.length e1.1.t.l<=9223372036854775807/\(0:Int)<=e1.2
 /\e1.2<=(↑(List.length e1.1.t.l):Int)/\aZ (aa (List.drop e1.2.toNat e1.1.t.l))<r/\aZ (aa (List.drop e1.2.toNat e1.1.t.l))<=100000)/\aD (Prod.fst (fT
 e1)) (K (AV.lit (Value.iface 306 (Value.pointer (some (Pc κ (53:Int)))))) (bO (dO e1.1.a (Prod.snd (fT e1))))) (∃(e0:jm×AT),([AV.ptr 0 0 [] 0,cz
 e1.1.t],(bO (dO e1.1.a (Prod.snd (fT e1)))))=([AV.ptr 0 0 [] 0,cz e0.2],(bO e0.1))/\True/\aD (e1.1.k==(0:Int)) (K z1 (bO e0.1)) (aD (e1.1.t.op==(4
 :Int)) (K z1 (bO e0.1)) (aD (bH getM (AT.tm e0.2) e0.1.es==(0:Int)) (K z1 [Obj.box 225 (AV.agg [AV.ad 61 e0.1.ds,AV.mp 1,AV.bool true]),Dn.Obj.map 9 3
 (eR (eR e0.1.es (Value.string e1.1.t.s) (AV.int (toInt (dp e0.1.es (Value.string e1.1.t.s) (AV.int 0))))) (Value.string e1.1.t.s) (AV.int e1.1.k))]) (aD (bH
 getM (AT.tm e0.2) e0.1.es != e1.1.k) (K (AV.lit (Value.iface 306 (Value.pointer (some (Kp.type κ))))) (bO e0.1)) (K z1 (bO e0.1))))))):=by kernel_rfl
theorem Gc(s:ByteArray)(v w:AV): ∀es:List (Value×AV),eR (eR es (.string s) v) (.string s) w=eR es (.string s) w
 |[]=>by simp[eR,di]
 |(k',a')::es=>by
  rw[eR,eR]
  cases h:di (.string s) k' with
  |true=>simp[eR,di]
  |false=>simp only[aa6,eR,h,Gc s v w es]
theorem Is(κ:Kp)(n:Nat):(Ma κ n).jf:=aJ
theorem eYr(κ:Kp)(r:Nat)(hp: ∀args st K,(∃m,m<r/\Ma κ m args st K)->cM (Pr κ) 258 args st K):aB (R6 κ r)/\aj (R6 κ r)/\(R6 κ r).P=Pr κ:=
 have h:aB (Np κ r):=(Z7 κ).gU hp
 have hm:aj (Np κ r):=(Zt κ).aw (fun _ _ _ _ hK ⟨m,h1,h2⟩=>⟨m,h1,Is κ m _ _ _ _ hK h2⟩)
 ⟨h.ak hm (lWt κ r),hm.ak aG,rfl⟩
theorem cWt(κ:Kp)(r:Nat):bu (R6 κ r) 12 258 (Ma κ r):=by
 refine aX ?_
 rintro⟨a,t,k⟩ K ⟨h1,h2⟩ ho
 refine Eq.mpr (yWt κ r a t k K) ?_
 simp only[FE,Out.run] at ho
 have e1:t.tm.iZ=1+aZ (aa t.l):=rfl
 have hl:=fy (aa t.l)
 rw[eM] at hl
 simp only at h1
 refine⟨rfl,(⟨a,t,k⟩,0),rfl,⟨by simp only[aR];omega,by simp only;omega,by simp only;omega,by simp only[ab8,ab1];omega,by simp only[ab8,ab1];omega⟩,?_⟩
 have hw:aP a t k=bif (fT (⟨a,t,k⟩,0)).1 then fT (⟨a,t,k⟩,0) else bif decide (k=0)||decide (t.op=4) then(false,(fT (⟨a,t,k⟩,0)).2)
   else bif decide (bH getM t.tm (fT (⟨a,t,k⟩,0)).2.1=0) then(false,(gk (fT (⟨a,t,k⟩,0)).2.1 t.s k,true)) else(!decide (bH getM t.tm (fT (⟨a,t,k⟩,0)).2.1=k),(fT (⟨a,t,k⟩,0)).2):=by
  unfold aP fT
  rw[AT.tm,Tm.want];rfl
 rw[hw] at ho
 simp only[Pf,Lf]
 cases hd:(fT (⟨a,t,k⟩,0)).1 with
 |true=>
  rw[hd,aa8,hd] at ho
  exact ho
 | false=>
  rw[hd,aa6] at ho
  refine⟨(dO a (fT (⟨a,t,k⟩,0)).2,t),rfl,trivial,?_⟩
  cases hk:decide (k=0) with
  |true=>rw[hk] at ho;exact ho
  | false=>
   rw[hk] at ho
   cases h4:decide (t.op=4) with
   |true=>rw[h4] at ho;exact ho
   | false=>
    rw[h4] at ho
    rw[show(false||false)=false from rfl,aa6] at ho
    have ht:bH getM t.tm (dO a (fT (⟨a,t,k⟩,0)).2).es=bH getM t.tm (fT (⟨a,t,k⟩,0)).2.1:=rfl
    simp only[ht]
    cases h0:decide (bH getM t.tm (fT (⟨a,t,k⟩,0)).2.1=0) with
    |true=>
     rw[h0,aa8] at ho
     simp only[aD,Gc]
     exact ho
    |false=>
     rw[h0,aa6] at ho
     cases hq:decide (bH getM t.tm (fT (⟨a,t,k⟩,0)).2.1=k) with
     |true=>rw[hq] at ho;exact ho
     |false=>rw[hq] at ho;exact ho
def dw(x:oZ):Prop:=x.t.tm.iZ<=100000
theorem qWt(κ:Kp): ∀args st K,aL Rx dw (FE κ) args st K->cM (Pr κ) 258 args st K:=by
 rintro args st K ⟨a,h1,h2,h3⟩
 exact aB.tu (Ma κ) (R6 κ) (eYr κ) (cWt κ) a.t.tm.iZ args st K ⟨a,h1,⟨rfl,h2⟩,h3⟩
noncomputable def OL(κ:Kp):Env:=(VL κ).aw 258 (aL Rx dw (FE κ))
theorem eYw(κ:Kp):aB (OL κ):=(Z7 κ).gU (qWt κ)
theorem Yw(κ:Kp):aj (OL κ):=(Zt κ).aw aJ
def Ql(x:AV):Dc:=⟨toStr (ae x 0),(ai (ae x 2)).map toInt⟩
def cI(l:List AV):List Dc:=l.map Ql
theorem wj(s:ByteArray): ∀(ds:List AV) (i:Int),la s ds i=match j5 s (cI ds) with|some k=>i+k|none=> -1
 |[],i=>rfl
 | d::ds,i=>by
  have ih:=wj s ds (i+1)
  rw[la,ih,show cI (d::ds)=Ql d::cI ds from rfl,j5,show(Ql d).rel=toStr (ae d 0) from rfl]
  cases l6 (toStr (ae d 0)) s with
  |true=>simp
  | false=>
   rw[aa6,aa6]
   cases j5 s (cI ds) with
   |none=>rfl
    |some k=>show i+1+(k:Int)=i+((k+1:Nat):Int);omega
theorem Bl(s:ByteArray): ∀(ds:List Dc) (k:Nat),j5 s ds=some k->k<ds.length
 |[],_,h=>by cases h
 | d::ds,k,h=>by
  rw[j5] at h
  cases e:l6 d.rel s with
  |true=>rw[e,aa8] at h;cases h;simp
  | false=>
   rw[e,aa6] at h
   cases h2:j5 s ds with
   |none=>rw[h2] at h;cases h
   |some j=>
    rw[h2] at h;cases h
    have:=Bl s ds j h2
    simp only[List.length_cons];omega
theorem uL{s:ByteArray}{ds:List AV}(h:j5 s (cI ds)=none):fA s ds=false/\bw s ds=0:=by
 have e:=wj s ds 0
 rw[h] at e
 unfold fA bw
 rw[e];exact⟨rfl,rfl⟩
theorem ql{s:ByteArray}{ds:List AV}{k:Nat}(h:j5 s (cI ds)=some k):fA s ds=true/\bw s ds=k/\k<ds.length:=by
 have e:=wj s ds 0
 rw[h] at e
 simp only[Int.zero_add] at e
 have h1:=Bl s _ k h
 unfold fA bw
 rw[e,aa7 (show(0:Int)<=k by omega)]
 exact⟨rfl,rfl,by simpa[cI] using h1⟩
def lU(ds:List AV)(i:Int):List Int:=(ai (ae (nth ds i.toNat) 2)).map toInt
theorem BJ{s:ByteArray}{ds:List AV}{k:Nat}(h:j5 s (cI ds)=some k):cG (cI ds) s=lU ds k:=by
 obtain⟨_,_,h2⟩:=ql h
 unfold cG lU
 rw[h,Int.toNat_natCast,bf _ _ h2]
 simp only[cI]
 rw[List.getD_eq_getElem?_getD,List.getElem?_map,ab7 h2]
 rfl
theorem H3(ds:List AV)(rel:ByteArray)(l:List AV):known (cI ds) ⟨rel,aa l⟩=bif fA rel ds then(bif decide ((lU ds (bw rel ds)).length=l.length) then 0 else 52) else 51:=by
 unfold known
 simp only
 cases h:j5 rel (cI ds) with
 |none=>rw[(uL h).1];rfl
 |some k=>
  obtain⟨h1,h2,_⟩:=ql h
  rw[h1,h2,BJ h,eM];rfl
theorem NX{ds:List AV}{i:Int}{k:Nat}(h:k<(lU ds i).length):(lU ds i).drop k=toInt (nth (ai (ae (nth ds i.toNat) 2)) k)::(lU ds i).drop (k+1):=by
 rw[ab2 h]
 have h':k<(ai (ae (nth ds i.toNat) 2)).length:=by simpa[lU] using h
 rw[bf _ _ h']
 simp[lU]
structure R9 where
 a:jm
 fi:Int
 l:List AV
 k:Int
abbrev Rm(x:R9):S:=sp 65 [(0,C8),(5, .int x.fi),(40, .ad 56 x.l),(41, .int x.l.length),(42, .int x.k)] (bO x.a)
theorem xAt(κ:Kp)(x:R9)(I:Nat->S->Prop)(n:Nat)(K:Exit->S->Prop):(vc (OL κ) 12 227 none 2 (af (Pr κ).toProgram 227 7) (Rm x) (bJ (OL κ) 227 7 2 I n K))=(
 letI z1:=nth x.l x.k.toNat
 letI z2:=ai (ae (nth x.a.ds x.fi.toNat) 2)
 letI z3:=x.k<(↑(x.l.length):Int)
 aD (decide z3) (a7 (decide ((0:Int)<=x.k)&&decide z3) (a7 (decide ((0:Int)<=x.fi)&&decide (x.fi<(↑(List.length x.a.ds):Int))) (a7 (decide ((0:
 Int)<=x.k)&&decide (x.k<(↑(List.length z2):Int))) (∃(e1:oZ),([AV.ptr 0 0 [] 0,AV.agg [AV.int (toInt (ae z1 0)),AV.str (toStr (ae z1 1)),AV.int
 (toInt (ae z1 2)),AV.ad 56 (ai (ae z1 3))],AV.int (toInt (nth z2 x.k.toNat))],(bO x.a))=([AV.ptr 0 0 [] 0,cz e1.t,AV.int e1.k],(bO e1.a))/\dw e1/\a7
 (aC (a8 κ (gV (Prod.fst (aP e1.a e1.t e1.k))))) (aD (!bM (a8 κ (gV (Prod.fst (aP e1.a e1.t e1.k))))) (K Exit.ret (sp 65 [(4,AV.lit (a8 κ (gV (Prod.fst (aP e1.a
 e1.t e1.k)))))] (bO (dO e1.a (Prod.snd (aP e1.a e1.t e1.k)))))) (∃(e0:Nat),e0<n/\I e0 (sp 65 [(0,AV.ptr 0 0 [] 0),(5,AV.int x.fi),(40,AV.ad 56 x.l),
 (41,AV.int (↑(x.l.length):Int)),(42,AV.int (IntKind.wrap IntKind.i64 (x.k+(1:Int))))] (bO (dO e1.a (Prod.snd (aP e1.a e1.t e1.k))))))))))) (K
 (Exit.exit 1) (sp 65 [] (bO x.a)))):=by kernel_rfl
def jq(x:R9):Bool×(List (Value×AV)×Bool):=iD getM gk ((lU x.a.ds x.fi).drop x.k.toNat) (aa (x.l.drop x.k.toNat)) (x.a.es,x.a.more)
def Lg(x:R9):Prop:=0<=x.fi/\x.fi<x.a.ds.length/\(lU x.a.ds x.fi).length=x.l.length/\x.l.length<=aR/\0<=x.k/\x.k<=x.l.length/\aZ (aa (x.l.drop x.k.toNat))<=100000
noncomputable def FU(κ:Kp)(x:R9):Out (Exit×S):= .aD (jq x).1 (.one (.ret,sp 65 [(4, .lit (a8 κ 53))] (bO (dO x.a (jq x).2)))) (.one (.exit 1,sp 65 [] (bO (dO x.a (jq x).2))))
theorem lAt(κ:Kp):bj (OL κ) 12 227 7 (aO 2 Rm Lg (FU κ)):=by
 refine aK (fun x=>x.l.length - x.k.toNat) ?_
 rintro⟨a,fi,l,k⟩ K ⟨h1,h2,h3,h4,h5,h6,h7⟩ ho
 simp only at h1 h2 h3 h4 h5 h6 h7
 rw[show(OL κ).P=Pr κ from rfl]
 refine Eq.mpr (xAt κ ⟨a,fi,l,k⟩ _ _ K) ?_
 simp only[aR] at h4
 simp only[FU,Out.run,ah] at ho
 have hwl:(ai (ae (nth a.ds fi.toNat) 2)).length=(lU a.ds fi).length:=by simp[lU]
 rw[ah,aa1,aa3]
 refine⟨fun hi=>?_,fun hi=>?_⟩
 ·simp only at hi
  have hk:k.toNat<l.length:=by omega
  have e:=eH l k.toNat hk
  have ew:=NX (ds:=a.ds) (i:=fi) (k:=k.toNat) (by omega)
  have hw:jq ⟨a,fi,l,k⟩=bif (aP a (xd (nth l k.toNat)) (toInt (nth (ai (ae (nth a.ds fi.toNat) 2)) k.toNat))).1 then aP a (xd (nth l k.toNat)) (toInt (nth (ai (ae (nth a.ds fi.toNat) 2)) k.toNat)) else jq ⟨dO a (aP a (xd (nth l k.toNat)) (toInt (nth (ai (ae (nth a.ds fi.toNat) 2)) k.toNat))).2,fi,l,k+1⟩:=by
   unfold jq aP
   simp only[show(k+1).toNat=k.toNat+1 by omega]
   rw[e,ew,iD,nI];rfl
  rw[e,aZ] at h7
  rw[hw] at ho
  simp only[an,aa2,aa1,hwl]
  refine⟨⟨h5,hi⟩,⟨h1,h2⟩,⟨h5,by omega⟩,⟨a,xd (nth l k.toNat),toInt (nth (ai (ae (nth a.ds fi.toNat) 2)) k.toNat)⟩,rfl,by show(xd (nth l k.toNat)).tm.iZ<=100000;rw[nI];omega,cK _ _,?_⟩
  rw[jn,zc,Bool.not_not,ah]
  refine⟨fun e1=>?_,fun e1=>?_⟩
  ·simp only[e1,aa8] at ho⊢
   exact ho.1 trivial
  ·simp only[e1,aa6] at ho
   rw[aV (n:=k+1) (by omega) (by omega)]
   refine⟨_,?_,⟨dO a (aP a (xd (nth l k.toNat)) (toInt (nth (ai (ae (nth a.ds fi.toNat) 2)) k.toNat))).2,fi,l,k+1⟩,rfl,⟨h1,h2,h3,by simpa[aR] using h4,by simp only;omega,by simp only;omega,?_⟩,rfl,?_⟩
   ·simp only;omega
   ·simp only[show(k+1).toNat=k.toNat+1 by omega];omega
   ·simp only[FU,Out.run,ah]
    exact ho
 ·simp only at hi
  have hw:jq ⟨a,fi,l,k⟩=(false,(a.es,a.more)):=by
   unfold jq
   simp only
   rw[aa9 (show l.length<=k.toNat by omega),aa9 (show(lU a.ds fi).length<=k.toNat by omega)];rfl
  rw[hw] at ho
  exact ho.2 rfl
noncomputable def SN(κ:Kp):Env:=(OL κ).ak 227 7 (aO 2 Rm Lg (FU κ))
theorem eYl(κ:Kp):aB (SN κ):=(eYw κ).ak (Yw κ) (lAt κ)
theorem Zf(κ:Kp):aj (SN κ):=(Yw κ).ak aG
theorem yAt(κ:Kp)(a:jm)(rel:ByteArray)(l:List AV)(K:AV->List Dn.Obj->Prop):(ba (SN κ) 12 227 [C8, .agg [.lit (.string rel), .ad 56 l]] (bO a) K)=(
 letI z1:=Pg.toProgram (Env.P (OL κ))
 ∃(e1:List AV×ByteArray),([AV.ad 61 a.ds,AV.str rel],aI)=([AV.ad 61 e1.1,AV.str e1.2],aI)/\gL e1/\aD (!fA e1.2 e1.1) (K (AV.lit (Value.iface 306
 (Value.pointer (some (Kp.fE κ))))) (bO a)) (a7 (decide ((0:Int)<=bw e1.2 e1.1)&&decide (bw e1.2 e1.1<(↑(a.ds.length):Int))) (aD ((↑(List.length (ai (ae
 (nth a.ds (Int.toNat (bw e1.2 e1.1))) 2))):Int) != (↑(l.length):Int)) (K (AV.lit (Value.iface 306 (Value.pointer (some (Kp.arity κ))))) (bO a)) (af z1 227 7
 =af z1 227 7/\∃(e0:R9),sp 65 [(0,AV.ptr 0 0 [] 0),(5,AV.int (bw e1.2 e1.1)),(40,AV.ad 56 l),(41,AV.int (↑(l.length):Int)),(42,AV.int 0)] (bO a)
 =sp 65 [(0,AV.ptr 0 0 [] 0),(5,AV.int e0.fi),(40,AV.ad 56 e0.l),(41,AV.int (↑(e0.l.length):Int)),(42,AV.int e0.k)] (bO e0.a)/\((0:Int)<=e0.fi/\
 e0.fi<(↑(List.length e0.a.ds):Int)/\List.length (lU e0.a.ds e0.fi)=e0.l.length/\e0.l.length<=9223372036854775807/\(0:Int)<=e0.k/\e0.k<=
 (↑(e0.l.length):Int)/\aZ (aa (List.drop e0.k.toNat e0.l))<=100000)/\aD (Prod.fst (jq e0)) (K (AV.lit (Value.iface 306 (Value.pointer (some (Pc κ (53:
 Int)))))) (bO (dO e0.a (Prod.snd (jq e0))))) (K (AV.lit Value.nilIface) (bO (dO e0.a (Prod.snd (jq e0))))))))):=by kernel_rfl
def dF(a:jm)(rel:ByteArray)(l:List AV):Int×(List (Value×AV)×Bool):=dZ getM gk (cI a.ds) ⟨rel,aa l⟩ (a.es,a.more)
abbrev QS:=jm×ByteArray×List AV
def S8(x:QS):List AV×List Dn.Obj:=([C8, .agg [.lit (.string x.2.1), .ad 56 x.2.2]],bO x.1)
def Kh(x:QS):Prop:=x.1.ds.length<=aR/\aZ (aa x.2.2)<=100000
noncomputable def K6(κ:Kp)(x:QS):Out (AV×List Dn.Obj):= .one (.lit (a8 κ (dF x.1 x.2.1 x.2.2).1),bO (dO x.1 (dF x.1 x.2.1 x.2.2).2))
theorem cAc(κ:Kp):bu (SN κ) 12 227 (aL S8 Kh (K6 κ)):=by
 refine aX ?_
 rintro⟨a,rel,l⟩ K ⟨h1,h2⟩ ho
 simp only at h1 h2
 refine Eq.mpr (yAt κ a rel l K) ?_
 simp only[K6,Out.run,dF,dZ,H3] at ho
 have hl:=fy (aa l)
 rw[eM] at hl
 refine⟨(a.ds,rel),rfl,h1,?_⟩
 cases hf:j5 rel (cI a.ds) with
 |none=>
  rw[(uL hf).1] at ho
  simp only[(uL hf).1]
  exact ho
 | some k=>
  obtain⟨e1,e2,e3⟩:=ql hf
  rw[e1,e2,BJ hf] at ho
  have hwl:(ai (ae (nth a.ds (Int.toNat (k:Int))) 2)).length=(lU a.ds k).length:=by simp[lU]
  simp only[e1,e2,hwl,Lf]
  refine an.2 ⟨by simp;omega,?_⟩
  cases hq:decide ((lU a.ds k).length=l.length) with
  |false=>
   rw[hq] at ho
   rw[aa3] at hq
   rw[aa5 (show ¬ (((lU a.ds k).length:Int)=(l.length:Int)) by omega)]
   exact ho
  | true=>
   rw[hq] at ho
   rw[aa1] at hq
   rw[aa7 (show(((lU a.ds k).length:Int)=(l.length:Int)) by omega)]
   refine⟨trivial,⟨a,k,l,0⟩,rfl,⟨by simp only;omega,by simp only;omega,hq,by simp only[aR];omega,by simp only;omega,by simp only;omega,by simp only[ab8,ab1];exact h2⟩,?_⟩
   have hd:jq ⟨a,k,l,0⟩=iD getM gk (lU a.ds k) (aa l) (a.es,a.more):=by
    unfold jq;simp only[ab8,ab1]
   rw[hd]
   simp only[aa8,decide_true] at ho
   rw[ah]
   refine⟨fun e=>by rw[e] at ho;exact ho,fun e=>by rw[e] at ho;exact ho⟩
noncomputable def Tl(κ:Kp):Env:=(SN κ).aw 227 (aL S8 Kh (K6 κ))
theorem eYa(κ:Kp):aB (Tl κ):=(eYl κ).aw (Zf κ) (cAc κ)
theorem ZS(κ:Kp):aj (Tl κ):=(Zf κ).aw aJ
theorem yLi(κ:Kp)(a:jm)(op:Int)(rel:ByteArray)(l:List AV)(u v:AT)(K:AV->List Dn.Obj->Prop):(ba (Tl κ) 12 228 [C8, .agg [.int op, .agg [.lit (.string rel), .ad 56 l],cz u,cz v]] (bO a) K)=(
 letI z1:=∃(e3:jm×AT),([AV.ptr 0 0 [] 0,cz u],(bO a))=([AV.ptr 0 0 [] 0,cz e3.2],(bO e3.1))/\True/\∃(e2:jm×AT),([AV.ptr 0 0 [] 0,cz v],
  (bO e3.1))=([AV.ptr 0 0 [] 0,cz e2.2],(bO e2.1))/\True/\∃(e1:oZ),([AV.ptr 0 0 [] 0,cz u,AV.int (if bH getM (AT.tm e2.2) e2.1.es>bH getM (AT.tm
  e3.2) e3.1.es then bH getM (AT.tm e2.2) e2.1.es else bH getM (AT.tm e3.2) e3.1.es)],(bO e2.1))=([AV.ptr 0 0 [] 0,cz e1.t,AV.int e1.k],(bO e1.a))/\dw e1/\
  a7 (aC (a8 κ (gV (Prod.fst (aP e1.a e1.t e1.k))))) (aD (!bM (a8 κ (gV (Prod.fst (aP e1.a e1.t e1.k))))) (K (AV.lit (a8 κ (gV (Prod.fst (aP e1.a e1.t e1.k)))))
  (bO (dO e1.a (Prod.snd (aP e1.a e1.t e1.k))))) (∃(e0:oZ),([AV.ptr 0 0 [] 0,cz v,AV.int (if bH getM (AT.tm e2.2) e2.1.es>bH getM (AT.tm e3.2) e3.1.es
  then bH getM (AT.tm e2.2) e2.1.es else bH getM (AT.tm e3.2) e3.1.es)],(bO (dO e1.a (Prod.snd (aP e1.a e1.t e1.k)))))=([AV.ptr 0 0 [] 0,cz e0.t,AV.int
  e0.k],(bO e0.a))/\dw e0/\K (AV.lit (a8 κ (gV (Prod.fst (aP e0.a e0.t e0.k))))) (bO (dO e0.a (Prod.snd (aP e0.a e0.t e0.k))))))
 letI z2:=∃(e0:QS),([AV.ptr 0 0 [] 0,AV.agg [AV.str rel,AV.ad 56 l]],(bO a))=([AV.ptr 0 0 [] 0,AV.agg [AV.str e0.2.1,AV.ad 56 e0.2.2]],(bO e0.1))/\
  (e0.1.ds.length<=9223372036854775807/\aZ (aa e0.2.2)<=100000)/\K (AV.lit (a8 κ (Prod.fst (dF e0.1 e0.2.1 e0.2.2)))) (bO (dO e0.1 (Prod.snd (dF e0.1 e0.2.1
  e0.2.2))))
 letI z3:=z1/\z1/\z1
 aD (op==(3:Int)) z3 (aD (op==(4:Int)) z3 (aD (op==(5:Int)) z3 (aD (op==(6:Int)) z3 (aD (op==(1:Int)) z2 (aD (op==(2:Int)) z2 (∃(e2:
 QS),([AV.ptr 0 0 [] 0,AV.agg [AV.str rel,AV.ad 56 l]],(bO a))=([AV.ptr 0 0 [] 0,AV.agg [AV.str e2.2.1,AV.ad 56 e2.2.2]],(bO e2.1))/\(e2.1.ds.length<=
 9223372036854775807/\aZ (aa e2.2.2)<=100000)/\a7 (aC (a8 κ (Prod.fst (dF e2.1 e2.2.1 e2.2.2)))) (aD (!bM (a8 κ (Prod.fst (dF e2.1 e2.2.1 e2.2.2)))) (K
 (AV.lit (a8 κ (Prod.fst (dF e2.1 e2.2.1 e2.2.2)))) (bO (dO e2.1 (Prod.snd (dF e2.1 e2.2.1 e2.2.2))))) (∃(e1:oZ),([AV.ptr 0 0 [] 0,cz u,AV.int 1],(bO (dO
 e2.1 (Prod.snd (dF e2.1 e2.2.1 e2.2.2)))))=([AV.ptr 0 0 [] 0,cz e1.t,AV.int e1.k],(bO e1.a))/\dw e1/\a7 (aC (a8 κ (gV (Prod.fst (aP e1.a e1.t e1.k)))))
 (aD (!bM (a8 κ (gV (Prod.fst (aP e1.a e1.t e1.k))))) (K (AV.lit (a8 κ (gV (Prod.fst (aP e1.a e1.t e1.k))))) (bO (dO e1.a (Prod.snd (aP e1.a e1.t e1.k))))) (aD
 (op==(7:Int)) (K (AV.lit (a8 κ (gV (Prod.fst (aP e1.a e1.t e1.k))))) (bO (dO e1.a (Prod.snd (aP e1.a e1.t e1.k))))) (∃(e0:oZ),([AV.ptr 0 0 [] 0,cz v,
 AV.int 1],(bO (dO e1.a (Prod.snd (aP e1.a e1.t e1.k)))))=([AV.ptr 0 0 [] 0,cz e0.t,AV.int e0.k],(bO e0.a))/\dw e0/\K (AV.lit (a8 κ (gV (Prod.fst (aP
 e0.a e0.t e0.k))))) (bO (dO e0.a (Prod.snd (aP e0.a e0.t e0.k)))))))))))))))):=by kernel_rfl
structure G1 where
 a:jm
 op:Int
 rel:ByteArray
 l:List AV
 u:AT
 v:AT
def G1.lt(x:G1):Lt:=⟨x.op,⟨x.rel,aa x.l⟩,x.u.tm,x.v.tm⟩
def b7(x:G1):Int×(List (Value×AV)×Bool):=kf getM gk (cI x.a.ds) x.lt (x.a.es,x.a.more)
def Vw(x:G1):List AV×List Dn.Obj:=([C8, .agg [.int x.op, .agg [.lit (.string x.rel), .ad 56 x.l],cz x.u,cz x.v]],bO x.a)
def L6(x:G1):Prop:=x.a.ds.length<=aR/\iX x.lt<=100000
noncomputable def Ps(κ:Kp)(x:G1):Out (AV×List Dn.Obj):= .one (.lit (a8 κ (b7 x).1),bO (dO x.a (b7 x).2))
def kd(a:jm)(u v:AT):Int:=if bH getM v.tm a.es>bH getM u.tm a.es then bH getM v.tm a.es else bH getM u.tm a.es
theorem To(x:G1):kQ getM x.lt x.a.es=kd x.a x.u x.v:=by
 unfold kQ kd
 show(bif decide (bH getM x.v.tm x.a.es>bH getM x.u.tm x.a.es) then _ else _)=_
 by_cases h:bH getM x.v.tm x.a.es>bH getM x.u.tm x.a.es
 ·rw[aa7 h,if_pos h];rfl
 ·rw[aa5 h,if_neg h];rfl
theorem zb(κ:Kp)(b:Bool):(!bM (a8 κ (gV b)))=b:=by rw[jn,zc,Bool.not_not]
theorem cLi(κ:Kp):bu (Tl κ) 12 228 (aL Vw L6 (Ps κ)):=by
 refine aX ?_
 rintro⟨a,op,rel,l,u,v⟩ K ⟨h1,h2⟩ ho
 simp only at h1
 refine Eq.mpr (yLi κ a op rel l u v K) ?_
 have ho:K (.lit (a8 κ (b7 ⟨a,op,rel,l,u,v⟩).1)) (bO (dO a (b7 ⟨a,op,rel,l,u,v⟩).2)):=ho
 have h2:aZ [u.tm,v.tm]+aZ (aa l)<=100000:=h2
 simp only[aZ] at h2
 have hu:dw ⟨a,u,kd a u v⟩:=by show u.tm.iZ<=100000;omega
 have hv:dw ⟨dO a (aP a u (kd a u v)).2,v,kd a u v⟩:=by show v.tm.iZ<=100000;omega
 have both:fR op=true->b7 ⟨a,op,rel,l,u,v⟩=kW (aP a u (kd a u v)) (v.tm.want getM gk (kd a u v)):=fun hc=>by
  unfold b7 kf
  rw[To ⟨a,op,rel,l,u,v⟩,show(G1.lt ⟨a,op,rel,l,u,v⟩).op=op from rfl,hc];rfl
 have c1:fR op=true->(!bM (a8 κ (gV (aP a u (kd a u v)).1)))=true->K (.lit (a8 κ (gV (aP a u (kd a u v)).1))) (bO (dO a (aP a u (kd a u v)).2)):=fun hc q=>by
  rw[zb] at q
  rw[both hc] at ho
  unfold kW at ho
  rw[q] at ho⊢
  exact ho
 have c2:fR op=true->(!bM (a8 κ (gV (aP a u (kd a u v)).1)))=false->K (.lit (a8 κ (gV (aP (dO a (aP a u (kd a u v)).2) v (kd a u v)).1))) (bO (dO (dO a (aP a u (kd a u v)).2) (aP (dO a (aP a u (kd a u v)).2) v (kd a u v)).2)):=fun hc q=>by
  rw[zb] at q
  rw[both hc] at ho
  unfold kW at ho
  rw[q] at ho
  exact ho
 have hat: ∀b:jm,b=a->(b.ds.length<=9223372036854775807/\aZ (aa l)<=100000):=fun b hb=>by subst hb;exact⟨h1,by omega⟩
 have nc:fR op=false->(decide (op=1)||decide (op=2))=true->b7 ⟨a,op,rel,l,u,v⟩=dF a rel l:=fun hc h12=>by
  unfold b7 kf
  rw[show(G1.lt ⟨a,op,rel,l,u,v⟩).op=op from rfl,hc,h12];rfl
 refine ah.2 ⟨fun e=>by
   have hc:fR op=true:=(by rw[show op=3 from eq_of_beq e];rfl)
   exact⟨⟨(a,u),rfl,trivial,(a,v),rfl,trivial,⟨a,u,_⟩,rfl,hu,an.2 ⟨cK _ _,ah.2 ⟨fun q=>c1 hc q,fun q=>⟨⟨_,v,_⟩,rfl,hv,c2 hc q⟩⟩⟩⟩,
    ⟨(a,u),rfl,trivial,(a,v),rfl,trivial,⟨a,u,_⟩,rfl,hu,an.2 ⟨cK _ _,ah.2 ⟨fun q=>c1 hc q,fun q=>⟨⟨_,v,_⟩,rfl,hv,c2 hc q⟩⟩⟩⟩,
    ⟨(a,u),rfl,trivial,(a,v),rfl,trivial,⟨a,u,_⟩,rfl,hu,an.2 ⟨cK _ _,ah.2 ⟨fun q=>c1 hc q,fun q=>⟨⟨_,v,_⟩,rfl,hv,c2 hc q⟩⟩⟩⟩⟩,fun e3=>ah.2 ⟨fun e=>by
   have hc:fR op=true:=(by rw[show op=4 from eq_of_beq e];rfl)
   exact⟨⟨(a,u),rfl,trivial,(a,v),rfl,trivial,⟨a,u,_⟩,rfl,hu,an.2 ⟨cK _ _,ah.2 ⟨fun q=>c1 hc q,fun q=>⟨⟨_,v,_⟩,rfl,hv,c2 hc q⟩⟩⟩⟩,
    ⟨(a,u),rfl,trivial,(a,v),rfl,trivial,⟨a,u,_⟩,rfl,hu,an.2 ⟨cK _ _,ah.2 ⟨fun q=>c1 hc q,fun q=>⟨⟨_,v,_⟩,rfl,hv,c2 hc q⟩⟩⟩⟩,
    ⟨(a,u),rfl,trivial,(a,v),rfl,trivial,⟨a,u,_⟩,rfl,hu,an.2 ⟨cK _ _,ah.2 ⟨fun q=>c1 hc q,fun q=>⟨⟨_,v,_⟩,rfl,hv,c2 hc q⟩⟩⟩⟩⟩,fun e4=>ah.2 ⟨fun e=>by
   have hc:fR op=true:=(by rw[show op=5 from eq_of_beq e];rfl)
   exact⟨⟨(a,u),rfl,trivial,(a,v),rfl,trivial,⟨a,u,_⟩,rfl,hu,an.2 ⟨cK _ _,ah.2 ⟨fun q=>c1 hc q,fun q=>⟨⟨_,v,_⟩,rfl,hv,c2 hc q⟩⟩⟩⟩,
    ⟨(a,u),rfl,trivial,(a,v),rfl,trivial,⟨a,u,_⟩,rfl,hu,an.2 ⟨cK _ _,ah.2 ⟨fun q=>c1 hc q,fun q=>⟨⟨_,v,_⟩,rfl,hv,c2 hc q⟩⟩⟩⟩,
    ⟨(a,u),rfl,trivial,(a,v),rfl,trivial,⟨a,u,_⟩,rfl,hu,an.2 ⟨cK _ _,ah.2 ⟨fun q=>c1 hc q,fun q=>⟨⟨_,v,_⟩,rfl,hv,c2 hc q⟩⟩⟩⟩⟩,fun e5=>ah.2 ⟨fun e=>by
   have hc:fR op=true:=(by rw[show op=6 from eq_of_beq e];rfl)
   exact⟨⟨(a,u),rfl,trivial,(a,v),rfl,trivial,⟨a,u,_⟩,rfl,hu,an.2 ⟨cK _ _,ah.2 ⟨fun q=>c1 hc q,fun q=>⟨⟨_,v,_⟩,rfl,hv,c2 hc q⟩⟩⟩⟩,
    ⟨(a,u),rfl,trivial,(a,v),rfl,trivial,⟨a,u,_⟩,rfl,hu,an.2 ⟨cK _ _,ah.2 ⟨fun q=>c1 hc q,fun q=>⟨⟨_,v,_⟩,rfl,hv,c2 hc q⟩⟩⟩⟩,
    ⟨(a,u),rfl,trivial,(a,v),rfl,trivial,⟨a,u,_⟩,rfl,hu,an.2 ⟨cK _ _,ah.2 ⟨fun q=>c1 hc q,fun q=>⟨⟨_,v,_⟩,rfl,hv,c2 hc q⟩⟩⟩⟩⟩,fun e6=>?_⟩⟩⟩⟩
 simp only[beq_eq_false_iff_ne] at e3 e4 e5 e6
 have hc:fR op=false:=by
  unfold fR
  rw[Bool.and_eq_false_iff,aa3,aa3];omega
 refine ah.2 ⟨fun e=>⟨(a,rel,l),rfl,hat a rfl,?_⟩,fun e1=>ah.2 ⟨fun e=>⟨(a,rel,l),rfl,hat a rfl,?_⟩,fun e2=>?_⟩⟩
 ·rw[nc hc (by rw[show op=1 by simpa using e];rfl)] at ho;exact ho
 ·rw[nc hc (by rw[show op=2 by simpa using e];rfl)] at ho;exact ho
 simp only[beq_eq_false_iff_ne] at e1 e2
 have hL:b7 ⟨a,op,rel,l,u,v⟩=bif !decide ((dF a rel l).1=0) then dF a rel l
   else bif decide (op=7) then(gV (aP (dO a (dF a rel l).2) u 1).1,(aP (dO a (dF a rel l).2) u 1).2)
   else kW (aP (dO a (dF a rel l).2) u 1) (v.tm.want getM gk 1):=by
  unfold b7 kf
  rw[show(G1.lt ⟨a,op,rel,l,u,v⟩).op=op from rfl,hc,aa5 e1,aa5 e2];rfl
 rw[hL] at ho
 refine⟨(a,rel,l),rfl,hat a rfl,an.2 ⟨cK _ _,?_⟩⟩
 rw[jn]
 refine ah.2 ⟨fun q=>?_,fun q=>?_⟩
 ·rw[q] at ho;exact ho
 ·rw[q,aa6] at ho
  refine⟨⟨dO a (dF a rel l).2,u,1⟩,rfl,by show u.tm.iZ<=100000;omega,an.2 ⟨cK _ _,?_⟩⟩
  rw[zb]
  refine ah.2 ⟨fun q1=>?_,fun q1=>ah.2 ⟨fun q7=>?_,fun q7=>⟨⟨dO (dO a (dF a rel l).2) (aP (dO a (dF a rel l).2) u 1).2,v,1⟩,rfl,by show v.tm.iZ<=100000;omega,?_⟩⟩⟩
  ·have q1:(aP (dO a (dF a rel l).2) u 1).1=true:=q1
   unfold kW at ho
   rw[q1] at ho
   simp only[q1]
   cases h7:decide (op=7)<;>rw[h7] at ho<;>exact ho
  ·rw[show decide (op=7)=true by simpa using q7] at ho
   exact ho
  ·have q1:(aP (dO a (dF a rel l).2) u 1).1=false:=q1
   rw[show decide (op=7)=false by simpa using q7,aa6] at ho
   unfold kW at ho
   rw[q1] at ho
   exact ho
noncomputable def Ur(κ:Kp):Env:=(Tl κ).aw 228 (aL Vw L6 (Ps κ))
theorem eYt(κ:Kp):aB (Ur κ):=(eYa κ).aw (ZS κ) (cLi κ)
theorem Ys(κ:Kp):aj (Ur κ):=(ZS κ).aw aJ
theorem yCo(κ:Kp)(v:Value)(K:AV->List Dn.Obj->Prop):(ba (Ur κ) 12 179 [.lit v] [] K)=(
 letI z1:=Value.iface 306 (Value.pointer (some (Kp.arity κ)))
 letI z2:=Value.iface 306 (Value.pointer (some (Kp.type κ)))
 letI z3:=Value.iface 306 (Value.pointer (some (Kp.fE κ)))
 a7 (kC κ v&&lE κ z3) (aD (gB v z3) (K (AV.int 51) []) (a7 (kC κ v&&lE κ z1) (aD (gB v z1) (K (AV.int 52) []) (a7 (kC κ v&&lE κ z2) (aD (gB v z2) (K
 (AV.int 53) []) (K (AV.int 0) []))))))):=by kernel_rfl
noncomputable def Nh(κ:Kp)(v:Value):Int:=bif gB v (a8 κ 51) then 51 else bif gB v (a8 κ 52) then 52 else bif gB v (a8 κ 53) then 53 else 0
theorem J5(κ:Kp){e:Int}(h:ju e):Nh κ (a8 κ e)=e:=by
 unfold Nh
 rw[ir κ h (.inr (.inl rfl)),ir κ h (.inr (.inr (.inl rfl))),ir κ h (.inr (.inr (.inr rfl)))]
 rcases h with rfl|rfl|rfl|rfl<;>rfl
noncomputable def Ym(κ:Kp):List AV->Option (Bool×AV)
 |[.lit v]=>some (kC κ v, .int (Nh κ v))
 |_=>none
theorem pCo(κ:Kp):cQ (Ur κ) 12 179 (Ym κ):=by
 intro args x hh
 unfold Ym at hh
 split at hh
 ·simp only[aa4,ab0] at hh
  obtain⟨h1,rfl⟩:=hh
  refine⟨_,rfl,rfl,?_⟩
  obtain⟨e,he,rfl⟩:=(wa _ _).1 h1
  refine Eq.mpr (yCo κ _ _) ?_
  rw[J5 κ he]
  have k1: ∀k,wI k->(kC κ (a8 κ e)&&lE κ (a8 κ k))=true:=fun k hk=>by rw[y5 κ he,yC κ hk];rfl
  have n51:Value.iface 306 (.pointer (some κ.fE))=a8 κ 51:=rfl
  have n52:Value.iface 306 (.pointer (some κ.arity))=a8 κ 52:=rfl
  have n53:Value.iface 306 (.pointer (some κ.type))=a8 κ 53:=rfl
  rw[n51,n52,n53,k1 _ (.inl rfl),k1 _ (.inr (.inl rfl)),k1 _ (.inr (.inr rfl)),ir κ he (.inr (.inl rfl)),ir κ he (.inr (.inr (.inl rfl))),ir κ he (.inr (.inr (.inr rfl)))]
  rcases he with rfl|rfl|rfl|rfl<;>rfl
 ·cases hh
noncomputable def OD(κ:Kp):Env:=(Ur κ).aH 179 (Ym κ)
theorem eYc(κ:Kp):aB (OD κ):=(eYt κ).aH (Ys κ) (pCo κ)
theorem Z0(κ:Kp):aj (OD κ):=(Ys κ).aH
structure Sh where
 a:jm
 w:Int
 bl:List AV
 i:Int
noncomputable abbrev Nk(κ:Kp)(x:Sh):S:=sp 52 [(0,C8),(5, .lit (a8 κ x.w)),(14, .ad 72 x.bl),(15, .int x.bl.length),(16, .int x.i)] (bO x.a)
theorem xPa(κ:Kp)(x:Sh)(I:Nat->S->Prop)(n:Nat)(K:Exit->S->Prop):(vc (OD κ) 12 178 none 2 (af (Pr κ).toProgram 178 3) (Nk κ x) (bJ (OD κ) 178 3 2 I n K))=(
 letI z1:=Value.iface 306 (Value.pointer (some (Kp.arity κ)))
 letI z2:=Value.iface 306 (Value.pointer (some (Kp.fE κ)))
 letI z3:=nth x.bl x.i.toNat
 letI z4:=IntKind.wrap IntKind.i64 (x.i+(1:Int))
 letI z5:=x.bl.length
 letI z6:=Value.iface 306 (Value.pointer (some (Kp.type κ)))
 letI z7:=kC κ (a8 κ x.w)&&lE κ z2
 letI z8:=kC κ (a8 κ x.w)&&lE κ z1
 aD (decide (x.i<(↑z5:Int))) (a7 (decide ((0:Int)<=x.i)&&decide (x.i<(↑z5:Int))) (∃(e1:G1),([AV.ptr 0 0 [] 0,AV.agg [AV.int (toInt (ae z3 0)),
 AV.agg [AV.str (toStr (ae (ae z3 1) 0)),AV.ad 56 (ai (ae (ae z3 1) 1))],AV.agg [AV.int (toInt (ae (ae z3 2) 0)),AV.str (toStr (ae (ae z3 2) 1)),AV.int
 (toInt (ae (ae z3 2) 2)),AV.ad 56 (ai (ae (ae z3 2) 3))],AV.agg [AV.int (toInt (ae (ae z3 3) 0)),AV.str (toStr (ae (ae z3 3) 1)),AV.int (toInt (ae (ae z3 3)
 2)),AV.ad 56 (ai (ae (ae z3 3) 3))]]],(bO x.a))=([AV.ptr 0 0 [] 0,AV.agg [AV.int e1.op,AV.agg [AV.str e1.rel,AV.ad 56 e1.l],AV.agg [AV.int e1.u.op,
 AV.str e1.u.s,AV.int e1.u.n,AV.ad 56 e1.u.l],AV.agg [AV.int e1.v.op,AV.str e1.v.s,AV.int e1.v.n,AV.ad 56 e1.v.l]]],(bO e1.a))/\(List.length e1.a.ds<=
 9223372036854775807/\iX (G1.lt e1)<=100000)/\a7 (aC (a8 κ x.w)) (aD (bM (a8 κ x.w)) (a7 (kC κ (a8 κ (Prod.fst (b7 e1)))&&lE κ z2) (aD (gB (a8 κ (Prod.fst
 (b7 e1))) z2) (K Exit.ret (sp 52 [(4,AV.lit (a8 κ (Prod.fst (b7 e1))))] (bO (dO e1.a (Prod.snd (b7 e1)))))) (a7 (kC κ (a8 κ (Prod.fst (b7 e1)))&&lE κ z1) (aD
 (gB (a8 κ (Prod.fst (b7 e1))) z1) (K Exit.ret (sp 52 [(4,AV.lit (a8 κ (Prod.fst (b7 e1))))] (bO (dO e1.a (Prod.snd (b7 e1)))))) (∃(e0:Nat),e0<n/\I e0
 (sp 52 [(0,AV.ptr 0 0 [] 0),(5,AV.lit (a8 κ (Prod.fst (b7 e1)))),(14,AV.ad 72 x.bl),(15,AV.int (↑z5:Int)),(16,AV.int z4)] (bO (dO e1.a (Prod.snd (b7
 e1)))))))))) (a7 (kC κ (a8 κ x.w)&&lE κ z6) (aD (gB (a8 κ x.w) z6) (a7 (kC κ (a8 κ (Prod.fst (b7 e1)))&&lE κ z2) (aD (gB (a8 κ (Prod.fst (b7 e1))) z2) (a7
 (kC κ (a8 κ (Prod.fst (b7 e1)))&&lE κ z2) (aD (gB (a8 κ (Prod.fst (b7 e1))) z2) (K Exit.ret (sp 52 [(4,AV.lit (a8 κ (Prod.fst (b7 e1))))] (bO (dO e1.a
 (Prod.snd (b7 e1)))))) (a7 (kC κ (a8 κ (Prod.fst (b7 e1)))&&lE κ z1) (aD (gB (a8 κ (Prod.fst (b7 e1))) z1) (K Exit.ret (sp 52 [(4,AV.lit (a8 κ (Prod.fst (b7
 e1))))] (bO (dO e1.a (Prod.snd (b7 e1)))))) (∃(e0:Nat),e0<n/\I e0 (sp 52 [(0,AV.ptr 0 0 [] 0),(5,AV.lit (a8 κ (Prod.fst (b7 e1)))),(14,AV.ad 72
 x.bl),(15,AV.int (↑z5:Int)),(16,AV.int z4)] (bO (dO e1.a (Prod.snd (b7 e1)))))))))) (a7 (kC κ (a8 κ (Prod.fst (b7 e1)))&&lE κ z1) (aD (gB (a8 κ
 (Prod.fst (b7 e1))) z1) (a7 (kC κ (a8 κ (Prod.fst (b7 e1)))&&lE κ z2) (aD (gB (a8 κ (Prod.fst (b7 e1))) z2) (K Exit.ret (sp 52 [(4,AV.lit (a8 κ (Prod.fst (b7
 e1))))] (bO (dO e1.a (Prod.snd (b7 e1)))))) (a7 (kC κ (a8 κ (Prod.fst (b7 e1)))&&lE κ z1) (aD (gB (a8 κ (Prod.fst (b7 e1))) z1) (K Exit.ret (sp 52 [(4,AV.lit
 (a8 κ (Prod.fst (b7 e1))))] (bO (dO e1.a (Prod.snd (b7 e1)))))) (∃(e0:Nat),e0<n/\I e0 (sp 52 [(0,AV.ptr 0 0 [] 0),(5,AV.lit (a8 κ (Prod.fst (b7
 e1)))),(14,AV.ad 72 x.bl),(15,AV.int (↑z5:Int)),(16,AV.int z4)] (bO (dO e1.a (Prod.snd (b7 e1)))))))))) (a7 z7 (aD (gB (a8 κ x.w) z2) (K Exit.ret (sp 52
 [(4,AV.lit (a8 κ x.w))] (bO (dO e1.a (Prod.snd (b7 e1)))))) (a7 z8 (aD (gB (a8 κ x.w) z1) (K Exit.ret (sp 52 [(4,AV.lit (a8 κ x.w))] (bO (dO e1.a (Prod.snd
 (b7 e1)))))) (∃(e0:Nat),e0<n/\I e0 (sp 52 [(0,AV.ptr 0 0 [] 0),(5,AV.lit (a8 κ x.w)),(14,AV.ad 72 x.bl),(15,AV.int (↑z5:Int)),(16,AV.int z4)]
 (bO (dO e1.a (Prod.snd (b7 e1)))))))))))))) (a7 z7 (aD (gB (a8 κ x.w) z2) (K Exit.ret (sp 52 [(4,AV.lit (a8 κ x.w))] (bO (dO e1.a (Prod.snd (b7 e1)))))) (a7 z8
 (aD (gB (a8 κ x.w) z1) (K Exit.ret (sp 52 [(4,AV.lit (a8 κ x.w))] (bO (dO e1.a (Prod.snd (b7 e1)))))) (∃(e0:Nat),e0<n/\I e0 (sp 52 [(0,AV.ptr 0 0 []
 0),(5,AV.lit (a8 κ x.w)),(14,AV.ad 72 x.bl),(15,AV.int (↑z5:Int)),(16,AV.int z4)] (bO (dO e1.a (Prod.snd (b7 e1))))))))))))))) (K (Exit.exit 0) (sp 52
 [(5,AV.lit (a8 κ x.w))] (bO x.a)))):=by kernel_rfl
def iK(a:jm)(x:AV):G1:=⟨a,toInt (ae x 0),toStr (ae (ae x 1) 0),ai (ae (ae x 1) 1),xd (ae x 2),xd (ae x 3)⟩
theorem Cx(a:jm)(x:AV):(iK a x).lt=cE x:=by
 unfold G1.lt iK
 simp only[nI]
 rfl
theorem pP{σ:Type}{get:σ->ByteArray->Int}{set:σ->ByteArray->Int->σ}(ds:List Dc)(l:Lt)(x:σ×Bool):ju (kf get set ds l x).1:=by
 have hk: ∀e,(e=0\/e=51\/e=52)->ju e:=fun e h=>by
  rcases h with rfl|rfl|rfl
  ·exact .inl rfl
  ·exact .inr (.inl rfl)
  ·exact .inr (.inr (.inl rfl))
 have h53:ju 53:= .inr (.inr (.inr rfl))
 have hb: ∀{y:Bool×(σ×Bool)} {f:σ×Bool->Bool×(σ×Bool)},ju (kW y f).1:=fun{y f}=>by
  rcases rV (y:=y) (f:=f) with e|e<;>rw[e]
  ·exact .inl rfl
  ·exact h53
 have ha:ju (dZ get set ds l.a x).1:=by
  unfold dZ
  cases decide (known ds l.a=0) with
  |false=>exact hk _ (l3 ds l.a)
  |true=>
   rw[aa8]
   cases(iD get set (cG ds l.a.rel) l.a.l x).1
   ·exact .inl rfl
   ·exact h53
 unfold kf
 cases fR l.op with
 |true=>exact hb
 | false=>
  rw[aa6]
  cases decide (l.op=1)||decide (l.op=2) with
  |true=>exact ha
  | false=>
   rw[aa6]
   cases decide ((dZ get set ds l.a x).1=0) with
   |false=>exact ha
   | true=>
    rw[Bool.not_true,aa6]
    cases decide (l.op=7) with
    |true=>
     rw[aa8]
     cases(l.x.want get set 1 (dZ get set ds l.a x).2).1
     ·exact .inl rfl
     ·exact h53
    |false=>exact hb
theorem sr{σ:Type}{get:σ->ByteArray->Int}{set:σ->ByteArray->Int->σ}(ds:List Dc)(a:At)(x:σ×Bool):ju (dZ get set ds a x).1:=by
 have h:=pP (get:=get) (set:=set) ds ⟨1,a, .mk 0 ByteArray.empty 0 [], .mk 0 ByteArray.empty 0 []⟩ x
 exact h
theorem sz{w e:Int}(hw:ju w)(he:ju e):ju (gZ w e):=by
 unfold gZ
 cases(decide (w=0)||decide (w=53)&&tk e)
 ·exact hw
 ·exact he
theorem sC{σ:Type}{get:σ->ByteArray->Int}{set:σ->ByteArray->Int->σ}(ds:List Dc): ∀(b:List Lt) (y:Int×(σ×Bool)),ju y.1->ju (j4 get set ds b y).1
 |[],_,h=>h
 |l::b,y,h=>by
  rw[j4]
  have:=sz h (pP (get:=get) (set:=set) ds l y.2)
  cases tk (gZ y.1 (kf get set ds l y.2).1) with
  |true=>exact this
  |false=>exact sC ds b _ this
def kE(x:Sh):Int×(List (Value×AV)×Bool):=j4 getM gk (cI x.a.ds) (dg (x.bl.drop x.i.toNat)) (x.w,(x.a.es,x.a.more))
def ED(x:Sh):Prop:=x.a.ds.length<=aR/\ju x.w/\x.bl.length<=100000/\(∀l,l∈x.bl->iX (cE l)<=100000)/\0<=x.i/\x.i<=x.bl.length
noncomputable def Lp(κ:Kp)(x:Sh):Out (Exit×S):= .all (fun _:Bool=>True) fun b=> .aD b (.one (.ret,sp 52 [(4, .lit (a8 κ (kE x).1))] (bO (dO x.a (kE x).2)))) (.one (.exit 0,sp 52 [(5, .lit (a8 κ (kE x).1))] (bO (dO x.a (kE x).2))))
theorem lPa(κ:Kp):bj (OD κ) 12 178 3 (aO 2 (Nk κ) ED (Lp κ)):=by
 refine aK (fun x=>x.bl.length - x.i.toNat) ?_
 rintro⟨a,w,bl,i⟩ K ⟨h1,h2,h3,h4,h5,h6⟩ ho
 simp only at h1 h2 h3 h4 h5 h6
 rw[show(OD κ).P=Pr κ from rfl]
 refine Eq.mpr (xPa κ ⟨a,w,bl,i⟩ _ _ K) ?_
 have ho1:=ho true trivial
 have ho2:=ho false trivial
 simp only[Out.run,aD] at ho1 ho2
 rw[ah,aa1,aa3]
 refine⟨fun hi=>?_,fun hi=>?_⟩
 ·simp only at hi
  have hk:i.toNat<bl.length:=by omega
  have hb:kE ⟨a,w,bl,i⟩=bif tk (gZ w (b7 (iK a (nth bl i.toNat))).1) then(gZ w (b7 (iK a (nth bl i.toNat))).1,(b7 (iK a (nth bl i.toNat))).2) else kE ⟨dO a (b7 (iK a (nth bl i.toNat))).2,gZ w (b7 (iK a (nth bl i.toNat))).1,bl,i+1⟩:=by
   unfold kE b7
   simp only[show(i+1).toNat=i.toNat+1 by omega]
   rw[nT bl i.toNat hk,j4,Cx];rfl
  have he:ju (b7 (iK a (nth bl i.toNat))).1:=pP _ _ _
  have hlc:iX (cE (nth bl i.toNat))<=100000:=h4 _ (by rw[bf _ _ hk];exact List.getElem_mem hk)
  have R:tk (gZ w (b7 (iK a (nth bl i.toNat))).1)=true->K .ret (sp 52 [(4, .lit (a8 κ (gZ w (b7 (iK a (nth bl i.toNat))).1)))] (bO (dO a (b7 (iK a (nth bl i.toNat))).2))):=fun e=>by
   rw[hb,e,aa8] at ho1
   exact ho1
  have N:tk (gZ w (b7 (iK a (nth bl i.toNat))).1)=false->∃m,m<bl.length - i.toNat/\fm (Nk κ) ED (Lp κ) (fun x=>x.bl.length - x.i.toNat) K m (sp 52 [(0,C8),(5, .lit (a8 κ (gZ w (b7 (iK a (nth bl i.toNat))).1))),(14, .ad 72 bl),(15, .int bl.length),(16, .int (IntKind.wrap .i64 (i+1)))] (bO (dO a (b7 (iK a (nth bl i.toNat))).2))):=fun e=>by
   rw[hb,e,aa6] at ho1 ho2
   rw[aV (n:=i+1) (by omega) (by omega)]
   refine⟨_,?_,⟨dO a (b7 (iK a (nth bl i.toNat))).2,gZ w (b7 (iK a (nth bl i.toNat))).1,bl,i+1⟩,rfl,⟨h1,sz h2 he,h3,h4,by simp only;omega,by simp only;omega⟩,rfl,?_⟩
   ·simp only;omega
   ·intro b _
    cases b
    ·exact ho2
    ·exact ho1
  refine an.2 ⟨by simp;omega,iK a (nth bl i.toNat),rfl,⟨h1,by rw[Cx];exact hlc⟩,?_⟩
  have n51:Value.iface 306 (.pointer (some κ.fE))=a8 κ 51:=rfl
  have n52:Value.iface 306 (.pointer (some κ.arity))=a8 κ 52:=rfl
  have n53:Value.iface 306 (.pointer (some κ.type))=a8 κ 53:=rfl
  have ta:(iK a (nth bl i.toNat)).a=a:=rfl
  simp only[n51,n52,n53,ta,cK,jn]
  revert R N he
  generalize b7 (iK a (nth bl i.toNat))=y
  intro he R N
  simp only[y5 κ he,y5 κ h2,yC κ (show wI 51 from .inl rfl),yC κ (show wI 52 from .inr (.inl rfl)),yC κ (show wI 53 from .inr (.inr rfl)),ir κ he (show ju 51 from .inr (.inl rfl)),ir κ he (show ju 52 from .inr (.inr (.inl rfl))),ir κ h2 (show ju 51 from .inr (.inl rfl)),ir κ h2 (show ju 52 from .inr (.inr (.inl rfl))),ir κ h2 (show ju 53 from .inr (.inr (.inr rfl)))]
  obtain⟨e,y2⟩:=y
  simp only at he R N⊢
  rcases h2 with rfl|rfl|rfl|rfl<;>rcases he with rfl|rfl|rfl|rfl<;>first|exact R rfl|exact N rfl
 ·simp only at hi
  have hb:kE ⟨a,w,bl,i⟩=(w,(a.es,a.more)):=by
   unfold kE
   simp only
   rw[aa9 (by omega)];rfl
  rw[hb] at ho2
  exact ho2
noncomputable def SZ(κ:Kp):Env:=(OD κ).ak 178 3 (aO 2 (Nk κ) ED (Lp κ))
theorem eYq(κ:Kp):aB (SZ κ):=(eYc κ).ak (Z0 κ) (lPa κ)
theorem Y3(κ:Kp):aj (SZ κ):=(Z0 κ).ak aG
theorem yPa(κ:Kp)(a:jm)(r:cm)(K:AV->List Dn.Obj->Prop):(ba (SZ κ) 12 178 [C8,ar r] (bO a) K)=(
 letI z1:=Pg.toProgram (Env.P (OD κ))
 ∃(e2:QS),([AV.ptr 0 0 [] 0,AV.agg [AV.str r.rel,AV.ad 56 r.hl]],(bO a))=([AV.ptr 0 0 [] 0,AV.agg [AV.str e2.2.1,AV.ad 56 e2.2.2]],(bO e2.1))/\
 (e2.1.ds.length<=9223372036854775807/\aZ (aa e2.2.2)<=100000)/\af z1 178 3=af z1 178 3/\∃(e1:Sh),sp 52 [(0,AV.ptr 0 0 [] 0),(5,AV.lit (a8 κ
 (Prod.fst (dF e2.1 e2.2.1 e2.2.2)))),(14,AV.ad 72 r.bl),(15,AV.int (↑(r.bl.length):Int)),(16,AV.int 0)] (bO (dO e2.1 (Prod.snd (dF e2.1 e2.2.1
 e2.2.2))))=sp 52 [(0,AV.ptr 0 0 [] 0),(5,AV.lit (a8 κ e1.w)),(14,AV.ad 72 e1.bl),(15,AV.int (↑(e1.bl.length):Int)),(16,AV.int e1.i)] (bO e1.a)/\
 (List.length e1.a.ds<=9223372036854775807/\(e1.w=(0:Int)\/e1.w=(51:Int)\/e1.w=(52:Int)\/e1.w=(53:Int))/\e1.bl.length<=100000/\(∀(e0:
 AV),List.Mem e0 e1.bl->iX (cE e0)<=100000)/\(0:Int)<=e1.i/\e1.i<=(↑(e1.bl.length):Int))/\∀(e0:Bool),True->aD e0 (K (AV.lit (a8 κ (Prod.fst (kE
 e1)))) (bO (dO e1.a (Prod.snd (kE e1))))) (K (AV.lit (a8 κ (Prod.fst (kE e1)))) (bO (dO e1.a (Prod.snd (kE e1)))))):=by kernel_rfl
abbrev Tk:=jm×cm
def lq(x:Tk):Int×(List (Value×AV)×Bool):=j4 getM gk (cI x.1.ds) (dg x.2.bl) (dZ getM gk (cI x.1.ds) ⟨x.2.rel,aa x.2.hl⟩ (x.1.es,x.1.more))
def U5(x:Tk):List AV×List Dn.Obj:=([C8,ar x.2],bO x.1)
def KO(x:Tk):Prop:=x.1.ds.length<=aR/\de x.2
noncomputable def PV(κ:Kp)(x:Tk):Out (AV×List Dn.Obj):= .one (.lit (a8 κ (lq x).1),bO (dO x.1 (lq x).2))
theorem cPs(κ:Kp):bu (SZ κ) 12 178 (aL U5 KO (PV κ)):=by
 refine aX ?_
 rintro⟨a,r⟩ K ⟨h1,h2⟩ ho
 simp only at h1 h2
 refine Eq.mpr (yPa κ a r K) ?_
 have hlit: ∀l,l∈r.bl->iX (cE l)<=100000:=fun l hl=>by
  obtain⟨k,hk,e⟩:=List.getElem_of_mem hl
  have:=kD h2 hk
  rwa [bf _ _ hk,e] at this
 have hs:lq (a,r)=kE ⟨dO a (dF a r.rel r.hl).2,(dF a r.rel r.hl).1,r.bl,0⟩:=by
  unfold lq kE dF
  simp only[ab8,ab1];rfl
 have ho:K (.lit (a8 κ (lq (a,r)).1)) (bO (dO a (lq (a,r)).2)):=ho
 rw[hs] at ho
 refine⟨(a,r.rel,r.hl),rfl,⟨h1,oP h2⟩,rfl,⟨dO a (dF a r.rel r.hl).2,(dF a r.rel r.hl).1,r.bl,0⟩,rfl,⟨h1,sr _ _ _,h2.2,hlit,by simp only;omega,by simp only;omega⟩,fun b _=>?_⟩
 cases b<;>exact ho
noncomputable def Nq(κ:Kp):Env:=(SZ κ).aw 178 (aL U5 KO (PV κ))
theorem eYs(κ:Kp):aB (Nq κ):=(eYq κ).aw (Y3 κ) (cPs κ)
theorem Yv(κ:Kp):aj (Nq κ):=(Y3 κ).aw aJ
end Go.Proofs.YthaiinlfnommnaaGreatDoor
namespace Go.Rl
open Go Go.Dn
section
variable {σ:Type} {get:σ->ByteArray->Int} {set:σ->ByteArray->Int->σ}
variable (hgs: ∀st s k t,get (set st s k) t=bif t==s then k else get st t)
include hgs
theorem ry(ds:List Dc){r:Rl}(hr:aM r=true)(V:List ByteArray)(hV: ∀s,s∈fo r->s∈V)(st:σ)(h0:(eY get set ds r st).1=0)(hm:(eY get set ds r st).2.2=true):l5 get V (eY get set ds r st).2.1<l5 get V st:=by
 have hk:jJ ds r=0:=by
  cases e:decide (jJ ds r=0) with
  |true=>simpa using e
  |false=>
   rw[aa3] at e
   rw[CH ds r st e] at h0;exact h0
 simp only[aM,aa2,List.all_eq_true] at hr
 have e1:=LC (get:=get) (set:=set) ds (r:=r) (tt hr.1.1.1) (fun l hl=>Qh (hr.2 l hl)) hk st h0
 rw[e1] at hm⊢
 exact xR (Fa hgs ds r st) V ((Ez hgs ds r st hm).left (Ext.refl _ _) hV)
theorem nR(ds:List Dc){r:Rl}(hr:aM r=true)(V:List ByteArray)(hV: ∀s,s∈fo r->s∈V): ∀(n m:Nat) (st:σ),l5 get V st<n->l5 get V st<m->fH get set ds r n st=fH get set ds r m st
 |0,_,_,h,_=>by omega
 |_+1,0,_,_,h=>by omega
 | n+1,m+1,st,h1,h2=>by
  rw[fH,fH]
  cases h0:decide ((eY get set ds r st).1=0) with
  |false=>rfl
  | true=>
   rw[aa8,aa8]
   cases hm:(eY get set ds r st).2.2 with
   |false=>rfl
   |true=>
    rw[aa8,aa8]
    have:=ry hgs ds hr V hV st (by simpa using h0) hm
    exact nR ds hr V hV n m _ (by omega) (by omega)
end
end Go.Rl
namespace Go.Proofs.YthaiinlfnommnaaGreatDoor
open Go Go.Dn Go.Rl Go.Proofs
attribute [local irreducible] ba vc
set_option maxRecDepth 20000
structure pU where
 ds:List AV
 r:cm
 es:List (Value×AV)
 more:Bool
abbrev OB(x:pU):S:=sp 60 [(3, .ptr 0 0 [] 0),(6, .ptr 1 0 [] 0)] [.box 66 (ar x.r), .box 225 (.agg [.ad 61 x.ds, .mp 2, .bool x.more]), .map 9 3 x.es]
theorem xTy(κ:Kp)(x:pU)(I:Nat->S->Prop)(n:Nat)(K:Exit->S->Prop):(vc (Nq κ) 12 110 none 0 (af (Pr κ).toProgram 110 4) (OB x) (bJ (Nq κ) 110 4 0 I n K))=(
 aD x.more (∃(a:Tk),([AV.ptr 0 0 [] 0,ar x.r],[Obj.box 225 (AV.agg [AV.ad 61 x.ds,AV.mp 1,AV.bool false]),Dn.Obj.map 9 3 x.es])=([AV.ptr 0 0 [] 0,
 ar a.2],[Obj.box 225 (AV.agg [AV.ad 61 a.1.ds,AV.mp 1,AV.bool a.1.more]),Dn.Obj.map 9 3 a.1.es])/\(a.1.ds.length<=9223372036854775807/\aZ (aa
 (bk 56 a.2.hl a.2.bl))<=100000/\a.2.bl.length<=100000)/\a7 (aC (a8 κ (Prod.fst (lq a)))) (aD (!bM (a8 κ (Prod.fst (lq a)))) (a7
 (kC κ (a8 κ (Prod.fst (lq a)))) (K Exit.ret (sp 60 [(4,AV.nil),(5,AV.int (Nh κ (a8 κ (Prod.fst (lq a)))))] []))) (∃(m:Nat),m<n/\I m (sp
 60 [(3,AV.ptr 0 0 [] 0),(6,AV.ptr 1 0 [] 0)] [Obj.box 66 (ar x.r),Obj.box 225 (AV.agg [AV.ad 61 (jm.ds (dO a.1 (Prod.snd (lq a)))),AV.mp 2,
 AV.bool (jm.more (dO a.1 (Prod.snd (lq a))))]),Dn.Obj.map 9 3 (jm.es (dO a.1 (Prod.snd (lq a))))])))) (K (Exit.exit 0) (sp 60 [(3,AV.ptr 0 0 [] 0),
 (6,AV.ptr 1 0 [] 0)] [Obj.box 66 (ar x.r),Obj.box 225 (AV.agg [AV.ad 61 x.ds,AV.mp 2,AV.bool x.more]),Dn.Obj.map 9 3 x.es]))):=by kernel_rfl
abbrev dsR(x:pU):List Dc:=cI x.ds
def Xo(x:pU):Nat:=l5 getM (cW (aF x.r)) x.es
def W9(x:pU):Int×List (Value×AV):=fH getM gk (dsR x) (aF x.r) (Xo x+1) x.es
def gw(x:pU):Int×List (Value×AV):=bif x.more then W9 x else(0,x.es)
def Jl(x:pU):Prop:=aM (aF x.r)=true/\x.ds.length<=aR/\de x.r
def GA(x:pU):Out (Exit×S):= .aD (decide ((gw x).1=0)) (.one (.exit 0,OB ⟨x.ds,x.r,(gw x).2,false⟩)) (.one (.ret,sp 60 [(4, .nil),(5, .int (gw x).1)] []))
theorem BW(ds:List Dc)(r:Rl)(es:List (Value×AV)):ju (eY getM gk ds r es).1:=sC _ _ _ (sr _ _ _)
theorem lTy(κ:Kp):bj (Nq κ) 12 110 4 (aO 0 OB Jl GA):=by
 refine aK (fun x=>bif x.more then Xo x+1 else 0) ?_
 rintro⟨ds,r,es,more⟩ K ⟨h1,h2,h3⟩ ho
 simp only at h1 h2 h3
 rw[show(Nq κ).P=Pr κ from rfl]
 refine Eq.mpr (xTy κ ⟨ds,r,es,more⟩ _ _ K) ?_
 simp only[GA,Out.run,ah] at ho
 cases more with
 |false=>exact ho.1 rfl
 | true=>
  have hp:lq (⟨ds,es,false⟩,r)=eY getM gk (cI ds) (aF r) es:=rfl
  have hV: ∀s,s∈fo (aF r)->s∈cW (aF r):=fun s hs=>(ym h1).2 hs
  have hr:=BW (cI ds) (aF r) es
  have he:gw ⟨ds,r,es,true⟩=bif decide ((eY getM gk (cI ds) (aF r) es).1=0) then gw ⟨ds,r,(eY getM gk (cI ds) (aF r) es).2.1,(eY getM gk (cI ds) (aF r) es).2.2⟩ else((eY getM gk (cI ds) (aF r) es).1,(eY getM gk (cI ds) (aF r) es).2.1):=by
   have e0:gw ⟨ds,r,es,true⟩=fH getM gk (cI ds) (aF r) (Xo ⟨ds,r,es,true⟩+1) es:=rfl
   rw[e0,fH]
   cases h0:decide ((eY getM gk (cI ds) (aF r) es).1=0) with
   |false=>rfl
   | true=>
    rw[aa8,aa8]
    unfold gw
    cases hm:(eY getM gk (cI ds) (aF r) es).2.2 with
    |false=>rfl
    |true=>
     rw[aa8]
     have:=ry nD (cI ds) h1 _ hV es (by simpa using h0) hm
     exact nR nD (cI ds) h1 _ hV _ _ _ this (Nat.lt_succ_self _)
  refine⟨(⟨ds,es,false⟩,r),rfl,⟨h2,h3⟩,?_⟩
  rw[hp]
  refine an.2 ⟨cK _ _,?_⟩
  rw[jn]
  cases h0:decide ((eY getM gk (cI ds) (aF r) es).1=0) with
  |false=>
   rw[he,h0,aa6] at ho
   refine an.2 ⟨y5 κ hr,?_⟩
   rw[J5 κ hr]
   exact ho.2 h0
  | true=>
   rw[he,h0,aa8] at ho
   refine⟨_,?_,⟨ds,r,(eY getM gk (cI ds) (aF r) es).2.1,(eY getM gk (cI ds) (aF r) es).2.2⟩,rfl,⟨h1,h2,h3⟩,rfl,?_⟩
   ·simp only
    cases hm:(eY getM gk (cI ds) (aF r) es).2.2 with
    |false=>exact Nat.succ_pos _
    |true=>
     have:=ry nD (cI ds) h1 _ hV es (by simpa using h0) hm
     exact Nat.succ_lt_succ this
   ·simp only[GA,Out.run,ah]
    exact ho
noncomputable def Nb(κ:Kp):Env:=(Nq κ).ak 110 4 (aO 0 OB Jl GA)
theorem eYv(κ:Kp):aB (Nb κ):=(eYs κ).ak (Yv κ) (lTy κ)
theorem Z2(κ:Kp):aj (Nb κ):=(Yv κ).ak aG
def iA(l:List Int):List AV:=l.map fun k=> .lit (.int .i64 k)
theorem gf(l:List Int):(iA l).length=l.length:=by simp[iA]
theorem wC(l m:List Int):iA (l++m)=iA l++iA m:=by simp[iA]
structure QM where
 ds:List AV
 es:List (Value×AV)
 o:List Int
 vs:List ByteArray
 i:Int
abbrev Ni(x:QM):S:=sp 60 [(6, .ptr 0 0 [] 0),(8, .aq 2 0 (iA x.o).length),(36, .aq 3 0 x.vs.length),(37, .int x.vs.length),(38, .int x.i)] [.box 225 (.agg [.ad 61 x.ds, .mp 1, .bool false]), .map 9 3 x.es, .row 3 (iA x.o), .row 9 (strs x.vs)]
theorem xTz(κ:Kp)(ds:List AV)(es:List (Value×AV))(o vs:List AV)(i:Int)(I:Nat->S->Prop)(n:Nat)(K:Exit->S->Prop):(vc (Nb κ) 12 110 none 0 (af (Pr κ).toProgram 110 11) (sp 60 [(6, .ptr 0 0 [] 0),(8, .aq 2 0 o.length),(36, .aq 3 0 vs.length),(37, .int vs.length),(38, .int i)] [.box 225 (.agg [.ad 61 ds, .mp 1, .bool false]), .map 9 3 es, .row 3 o, .row 9 vs]) (bJ (Nb κ) 110 11 0 I n K))=(
 letI z1:=dp es (Value.string (toStr (nth vs (0+i.toNat)))) (AV.int 0)
 letI z2:=i<(↑(vs.length):Int)
 aD (decide z2) (a7 (decide ((0:Int)<=i)&&decide z2) (aD (toInt z1==(0:Int)) (K Exit.ret (sp 60 [(4,AV.nil),(5,AV.int 53)] [])) (a7 (decide
 ((o.length+1+1)*9<=70368744177664)) (∃(e0:Nat),e0<n/\I e0 (sp 60 [(6,AV.ptr 0 0 [] 0),(8,AV.aq 2 0 (o.length+1)),(36,AV.aq 3 0 vs.length),
 (37,AV.int (↑(vs.length):Int)),(38,AV.int (IntKind.wrap IntKind.i64 (i+(1:Int))))] [Obj.box 225 (AV.agg [AV.ad 61 ds,AV.mp 1,AV.bool false]),
 Dn.Obj.map 9 3 es,Obj.row 3 (List.take o.length o++[AV.int (toInt z1)]),Obj.row 9 vs]))))) (K (Exit.exit 2) (sp 60 [(8,AV.aq 0 0 o.length)] [Obj.row 3 o]))):=by kernel_rfl
def jT(x:QM):List ByteArray:=x.vs.drop x.i.toNat
def su(x:QM):Bool:=(jT x).all fun s=>!decide (getM x.es s=0)
def Jv(x:QM):Prop:=x.vs.length<=100000/\x.o.length<=x.i.toNat/\0<=x.i/\x.i<=x.vs.length
def Gp(x:QM):Out (Exit×S):= .aD (su x) (.one (.exit 2,sp 60 [(8, .aq 0 0 (iA (x.o++(jT x).map (getM x.es))).length)] [.row 3 (iA (x.o++(jT x).map (getM x.es)))])) (.one (.ret,sp 60 [(4, .nil),(5, .int 53)] []))
theorem lTz(κ:Kp):bj (Nb κ) 12 110 11 (aO 0 Ni Jv Gp):=by
 refine aK (fun x=>x.vs.length - x.i.toNat) ?_
 rintro⟨ds,es,o,vs,i⟩ K ⟨h1,h2,h3,h4⟩ ho
 simp only at h1 h2 h3 h4
 rw[show(Nb κ).P=Pr κ from rfl]
 have e0:(⟨ds,es,o,vs,i⟩:QM).vs.length=(strs vs).length:=(aW vs).symm
 simp only[Ni,e0]
 refine Eq.mpr (xTz κ ds es (iA o) (strs vs) i _ _ K) ?_
 simp only[Gp,Out.run,ah] at ho
 simp only[aW]
 rw[ah,aa1,aa3,an,aa2,aa1,aa1]
 refine⟨fun hi=>⟨⟨h3,hi⟩,?_⟩,fun hi=>?_⟩
 ·have hk:i.toNat<vs.length:=by omega
  have hr:jT ⟨ds,es,o,vs,i⟩=vs[i.toNat]::jT ⟨ds,es,o++[getM es vs[i.toNat]],vs,i+1⟩:=by
   unfold jT
   simp only[show(i+1).toNat=i.toNat+1 by omega]
   exact ab2 hk
  have ha:su ⟨ds,es,o,vs,i⟩=(!decide (getM es vs[i.toNat]=0)&&su ⟨ds,es,o++[getM es vs[i.toNat]],vs,i+1⟩):=by
   unfold su
   rw[hr,List.all_cons]
  rw[Nat.zero_add,vG vs _ hk,Pf]
  have hg:toInt (dp es (Value.string (toStr (.lit (.string vs[i.toNat])))) (AV.int 0))=getM es vs[i.toNat]:=rfl
  rw[hg,ah]
  refine⟨fun e=>?_,fun e=>?_⟩
  ·rw[ha,e] at ho
   exact ho.2 rfl
  ·rw[ha,e,hr,Bool.not_false,ac0] at ho
   rw[an,aa1,gf]
   rw[aV (n:=i+1) (by omega) (by omega)]
   refine⟨by omega,_,?_,⟨ds,es,o++[getM es vs[i.toNat]],vs,i+1⟩,?_,⟨h1,by simp only[ab9,List.length_singleton];omega,by simp only;omega,by simp only;omega⟩,rfl,?_⟩
   ·simp only;omega
   ·simp only[Ni,wC,gf,ab9,List.length_singleton,List.take_of_length_le (show(iA o).length<=o.length by rw[gf];omega)]
    rfl
   ·simp only[Gp,Out.run,ah]
    rw[show o++[getM es vs[i.toNat]]++(jT ⟨ds,es,o++[getM es vs[i.toNat]],vs,i+1⟩).map (getM es)=o++(vs[i.toNat]::jT ⟨ds,es,o++[getM es vs[i.toNat]],vs,i+1⟩).map (getM es) by simp]
    exact ho
 ·have hr:jT ⟨ds,es,o,vs,i⟩=[]:=by
   unfold jT
   exact aa9 (by simp only;omega)
  have ha:su ⟨ds,es,o,vs,i⟩=true:=by
   unfold su
   rw[hr];rfl
  rw[ha,hr] at ho
  have:=ho.1 rfl
  simp only[ac2,List.append_nil] at this
  exact this
noncomputable def TM(κ:Kp):Env:=(Nb κ).ak 110 11 (aO 0 Ni Jv Gp)
theorem eYz(κ:Kp):aB (TM κ):=(eYv κ).ak (Z2 κ) (lTz κ)
theorem Zh(κ:Kp):aj (TM κ):=(Z2 κ).ak aG
theorem yTz(κ:Kp)(ds:List AV)(r:cm)(K:AV->List Dn.Obj->Prop):(ba (TM κ) 12 110 [.ad 61 ds,ar r] [] K)=(
 letI z1:=Pg.toProgram (Env.P (Nq κ))
 letI z2:=Pg.toProgram (Env.P (Nb κ))
 a7 (List.all [AV.agg [AV.agg [AV.str r.rel,AV.ad 56 r.hl],AV.ad 72 r.bl,AV.int r.line]] im) (aD (!eU ds [AV.agg [AV.agg [AV.str r.rel,AV.ad 56 r.hl],AV.ad 72 r.bl,AV.int r.line]]) (K (AV.bh [AV.nil,AV.int 30]) []) (af z1 110 4=af z1 110 4/\∃(e2:pU),sp 60 [(3,AV.ptr 0 0 [] 0),(6,AV.ptr 1 0 [] 0)] [Obj.box 66 (AV.agg [AV.agg [AV.str r.rel,AV.ad 56 r.hl],AV.ad 72 r.bl,AV.int r.line]),Obj.box 225 (AV.agg [AV.ad 61 ds,AV.mp 2,AV.bool true]),Dn.Obj.map 9 3 []]=sp 60 [(3,AV.ptr 0 0 [] 0),(6,AV.ptr 1 0 [] 0)] [Obj.box 66 (AV.agg [AV.agg [AV.str e2.r.rel,AV.ad 56 e2.r.hl],AV.ad 72 e2.r.bl,AV.int e2.r.line]),Obj.box 225 (AV.agg [AV.ad 61 e2.ds,AV.mp 2,AV.bool e2.more]),Dn.Obj.map 9 3 e2.es]/\(aM (aF e2.r)=true/\e2.ds.length<=9223372036854775807/\aZ (aa (bk 56 e2.r.hl e2.r.bl))<=100000/\List.length e2.r.bl<=100000)/\aD (decide (Prod.fst (gw e2)=(0:Int))) (∃(e1:cm),([AV.agg [AV.agg [AV.lit (Value.string (cm.rel (pU.r {ds:=e2.ds,r:=e2.r,es:=Prod.snd (gw e2),more:=false}))),AV.ad 56 (cm.hl (pU.r {ds:=e2.ds,r:=e2.r,es:=Prod.snd (gw e2),more:=false}))],AV.ad 72 (cm.bl (pU.r {ds:=e2.ds,r:=e2.r,es:=Prod.snd (gw e2),more:=false})),AV.lit (Value.int IntKind.i64 (cm.line (pU.r {ds:=e2.ds,r:=e2.r,es:=Prod.snd (gw e2),more:=false})))]],aI)=([AV.agg [AV.agg [AV.str e1.rel,AV.ad 56 e1.hl],AV.ad 72 e1.bl,AV.int e1.line]],aI)/\(aM (aF e1)=true/\aZ (aa (bk 56 e1.hl e1.bl))<=100000/\e1.bl.length<=100000)/\af z2 110 11=af z2 110 11/\∃(e0:QM),sp 60 [(6,AV.ptr 0 0 [] 0),(8,AV.aq 2 0 0),(36,AV.aq 3 0 (List.length (cW (aF e1)))),(37,AV.int (↑(List.length (cW (aF e1))):Int)),(38,AV.int 0)] [Obj.box 225 (AV.agg [AV.ad 61 (pU.ds {ds:=e2.ds,r:=e2.r,es:=Prod.snd (gw e2),more:=false}),AV.mp 1,AV.bool false]),Dn.Obj.map 9 3 (pU.es {ds:=e2.ds,r:=e2.r,es:=Prod.snd (gw e2),more:=false}),Obj.row 3 [],Obj.row 9 (strs (cW (aF e1)))]=sp 60 [(6,AV.ptr 0 0 [] 0),(8,AV.aq 2 0 (List.length (iA e0.o))),(36,AV.aq 3 0 e0.vs.length),(37,AV.int (↑(e0.vs.length):Int)),(38,AV.int e0.i)] [Obj.box 225 (AV.agg [AV.ad 61 e0.ds,AV.mp 1,AV.bool false]),Dn.Obj.map 9 3 e0.es,Obj.row 3 (iA e0.o),Obj.row 9 (strs e0.vs)]/\(e0.vs.length<=100000/\e0.o.length<=e0.i.toNat/\(0:Int)<=e0.i/\e0.i<=(↑(e0.vs.length):Int))/\aD (su e0) (K (AV.bh [AV.aq 0 0 (List.length (iA (e0.o++List.map (getM e0.es) (jT e0)))),AV.int 0]) [Obj.row 3 (iA (e0.o++List.map (getM e0.es) (jT e0)))]) (K (AV.bh [AV.nil,AV.int 53]) [])) (K (AV.bh [AV.nil,AV.int (Prod.fst (gw e2))]) [])))):=by kernel_rfl
abbrev Vp:=List AV×cm
def rT(x:Vp):Int×List Int:=pO (cI x.1) (aF x.2)
def Um(x:Vp):List AV×List Dn.Obj:=([.ad 61 x.1,ar x.2],[])
def L2(x:Vp):Prop:=x.1.length<=aR/\de x.2
def LZ(x:Vp):Out (AV×List Dn.Obj):= .aD (eU x.1 [ar x.2]) (.aD (decide ((rT x).1=0)) (.one (.bh [.aq 0 0 (iA (rT x).2).length, .int 0],[.row 3 (iA (rT x).2)])) (.one (.bh [.nil, .int (rT x).1],[]))) (.one (.bh [.nil, .int 30],[]))
theorem H4{ds:List AV}{r:cm}(h:eU ds [ar r]=true):aM (aF r)=true:=by
 unfold eU at h
 rw[aa2] at h
 have:=h.2
 rw[List.all_cons,aa2] at this
 exact this.1
theorem cTs(κ:Kp):bu (TM κ) 12 110 (aL Um L2 LZ):=by
 refine aX ?_
 rintro⟨ds,r⟩ K ⟨h1,h2⟩ ho
 simp only at h1 h2
 refine Eq.mpr (yTz κ ds r K) ?_
 simp only[LZ,Out.run,ah] at ho
 have hl1:=fy (aa r.hl)
 rw[eM] at hl1
 have hc:=oP h2
 have hl:=h2.2
 refine an.2 ⟨?_,?_⟩
 ·show(im (ar r)&&true)=true
  have:im (ar r)=(decide (r.hl.length<=aR)&&decide (r.bl.length<=aR)):=rfl
  rw[this,aa7 (by simp only[aR];omega),aa7 (by simp only[aR];omega)];rfl
 refine ah.2 ⟨fun e=>ho.2 (by simpa using e),fun e=>?_⟩
 have e':eU ds [ar r]=true:=by simpa using e
 have hr:=H4 e'
 have ho1:=ho.1 e'
 have hf:gw ⟨ds,r,[],true⟩=fH getM gk (cI ds) (aF r) ((cW (aF r)).length+1) []:=nR nD (cI ds) hr _ (fun s hs=>(ym hr).2 hs) _ _ _ (Nat.lt_succ_self _) (Nat.lt_succ_of_le (Lw _ _ _))
 have ht:rT (ds,r)=bif decide ((gw ⟨ds,r,[],true⟩).1=0) then(bif (cW (aF r)).all (fun s=>!decide (getM (gw ⟨ds,r,[],true⟩).2 s=0)) then(0,(cW (aF r)).map (getM (gw ⟨ds,r,[],true⟩).2)) else(53,[])) else((gw ⟨ds,r,[],true⟩).1,[]):=by
  rw[hf];rfl
 rw[ht] at ho1
 refine⟨rfl,⟨ds,r,[],true⟩,rfl,⟨hr,h1,h2⟩,?_⟩
 refine ah.2 ⟨fun e1=>⟨r,rfl,⟨hr,h2⟩,rfl,⟨ds,(gw ⟨ds,r,[],true⟩).2,[],cW (aF r),0⟩,rfl,⟨xh h2,Nat.zero_le _,by simp only;omega,by simp only;omega⟩,?_⟩,fun e1=>?_⟩
 ·rw[e1,aa8] at ho1
  have ha:su ⟨ds,(gw ⟨ds,r,[],true⟩).2,[],cW (aF r),0⟩=(cW (aF r)).all (fun s=>!decide (getM (gw ⟨ds,r,[],true⟩).2 s=0)):=rfl
  rw[ha]
  refine ah.2 ⟨fun e2=>?_,fun e2=>?_⟩
  ·rw[e2] at ho1
   exact ho1.1 rfl
  ·rw[e2] at ho1
   exact ho1.2 rfl
 ·rw[e1,aa6] at ho1
  exact ho1.2 e1
noncomputable def NG(κ:Kp):Env:=(TM κ).aw 110 (aL Um L2 LZ)
theorem eTy(κ:Kp):aB (NG κ):=(eYz κ).aw (Zh κ) (cTs κ)
theorem YQ(κ:Kp):aj (NG κ):=(Zh κ).aw aJ
abbrev gN(ds rs:List AV):AV:= .agg [.ad 61 ds, .ad 66 rs]
def eo(x:AV):cm:=⟨[],[],toStr (ae (ae x 0) 0),ai (ae (ae x 0) 1),ai (ae x 1),toInt (ae x 2),0⟩
structure BN where
 ds:List AV
 rs:List AV
 i:Int
abbrev QN(x:BN):Dn.Obj:= .box 25 (gN x.ds x.rs)
def PX(ds:List AV):List AV->Int->Int×Int
 |[],_=>(0,0)
 |d::l,i=>bif decide (bw (toStr (ae d 0)) ds=i) then PX ds l (i+1) else(toInt (ae d 5),50)
def jD(ds:List AV)(x:AV):Int:=bif eU ds [ar (eo x)] then(rT (ds,eo x)).1 else 30
def GQ(f:AV->Int):List AV->Int×Int
 |[]=>(0,0)
 |x::l=>bif decide (f x=0) then GQ f l else(toInt (ae x 2),f x)
def wL(ds rs:List AV):Int×Int:=bif eU ds rs then(bif decide ((PX ds ds 0).2=0) then GQ (jD ds) rs else PX ds ds 0) else(0,30)
def jg(x:AV):Int:=wx (aF (eo x))
def fD(ds rs:List AV):Int×Int:=bif decide ((wL ds rs).2=0) then GQ jg rs else wL ds rs
def fw(ds rs:List AV):Prop:=ds.length<=aR/\rs.length<=aR/\∀x,x∈rs->de (eo x)
theorem Nr{ds rs:List AV}(h:fw ds rs):rs.all im=true:=by
 refine List.all_eq_true.2 fun x hx=>?_
 have h2:=h.2.2 x hx
 have hl1:=fy (aa (eo x).hl)
 rw[eM] at hl1
 have hc:=oP h2
 have hl:=h2.2
 have:im x=(decide ((eo x).hl.length<=aR)&&decide ((eo x).bl.length<=aR)):=rfl
 rw[this,aa7 (by simp only[aR];omega),aa7 (by simp only[aR];omega)];rfl
abbrev RC(x:BN):S:=sp 57 [(1, .ptr 0 0 [] 0),(16, .ad 61 x.ds),(17, .int x.ds.length),(18, .int x.i)] [QN x]
theorem xC1(κ:Kp)(x:BN)(I:Nat->S->Prop)(n:Nat)(K:Exit->S->Prop):(vc (NG κ) 12 69 none 0 (af (Pr κ).toProgram 69 4) (RC x) (bJ (NG κ) 69 4 0 I n K))=(
 letI z1:=AV.agg [AV.ad 61 x.ds,AV.ad 66 x.rs]
 letI z2:=x.i<(↑(x.ds.length):Int)
 aD (decide z2) (a7 (decide ((0:Int)<=x.i)&&decide z2) (∃(e1:List AV×ByteArray),([AV.ad 61 x.ds,AV.str (toStr (ae (nth x.ds x.i.toNat) 0))],aI)=
 ([AV.ad 61 e1.1,AV.str e1.2],aI)/\gL e1/\aD (bw e1.2 e1.1 != x.i) (K Exit.ret (sp 57 [(2,AV.int (toInt (ae (nth x.ds x.i.toNat) 5))),(3,AV.int 50)] []))
 (∃(e0:Nat),e0<n/\I e0 (sp 57 [(1,AV.ptr 0 0 [] 0),(16,AV.ad 61 x.ds),(17,AV.int (↑(x.ds.length):Int)),(18,AV.int (IntKind.wrap IntKind.i64 (x.i
 +(1:Int))))] [Obj.box 25 z1])))) (K (Exit.exit 0) (sp 57 [(1,AV.ptr 0 0 [] 0)] [Obj.box 25 z1]))):=by kernel_rfl
def I0(x:BN):Int×Int:=PX x.ds (x.ds.drop x.i.toNat) x.i
def Jo(x:BN):Prop:=x.ds.length<=aR/\0<=x.i/\x.i<=x.ds.length
def Fx(x:BN):Out (Exit×S):= .aD (decide ((I0 x).2=0)) (.one (.exit 0,sp 57 [(1, .ptr 0 0 [] 0)] [QN x])) (.one (.ret,sp 57 [(2, .int (I0 x).1),(3, .int (I0 x).2)] []))
theorem lC1(κ:Kp):bj (NG κ) 12 69 4 (aO 0 RC Jo Fx):=by
 refine aK (fun x=>x.ds.length - x.i.toNat) ?_
 rintro⟨ds,rs,i⟩ K ⟨h1,h2,h3⟩ ho
 simp only at h1 h2 h3
 rw[show(NG κ).P=Pr κ from rfl]
 refine Eq.mpr (xC1 κ ⟨ds,rs,i⟩ _ _ K) ?_
 simp only[aR] at h1
 simp only[Fx,Out.run,ah] at ho
 rw[ah,aa1,aa3,an,aa2,aa1,aa1]
 refine⟨fun hi=>⟨⟨h2,hi⟩,(ds,toStr (ae (nth ds i.toNat) 0)),rfl,h1,?_⟩,fun hi=>?_⟩
 ·simp only at hi
  have hk:i.toNat<ds.length:=by omega
  have hr:I0 ⟨ds,rs,i⟩=bif decide (bw (toStr (ae (nth ds i.toNat) 0)) ds=i) then I0 ⟨ds,rs,i+1⟩ else(toInt (ae (nth ds i.toNat) 5),50):=by
   unfold I0
   simp only[show(i+1).toNat=i.toNat+1 by omega]
   rw[ab2 hk,←bf ds i.toNat hk,PX]
  rw[hr] at ho
  simp only[Lf]
  cases e:decide (bw (toStr (ae (nth ds i.toNat) 0)) ds=i) with
  |false=>
   rw[e] at ho
   exact ho.2 rfl
  | true=>
   rw[e] at ho
   rw[aV (n:=i+1) (by omega) (by omega)]
   refine⟨_,?_,⟨ds,rs,i+1⟩,rfl,⟨by simpa[aR] using h1,by simp only;omega,by simp only;omega⟩,rfl,?_⟩
   ·simp only;omega
   ·simp only[Fx,Out.run,ah]
    exact ho
 ·simp only at hi
  have hr:I0 ⟨ds,rs,i⟩=(0,0):=by
   unfold I0
   simp only
   rw[aa9 (by omega)];rfl
  rw[hr] at ho
  exact ho.1 rfl
noncomputable def Ow(κ:Kp):Env:=(NG κ).ak 69 4 (aO 0 RC Jo Fx)
theorem eC1(κ:Kp):aB (Ow κ):=(eTy κ).ak (YQ κ) (lC1 κ)
theorem ZR(κ:Kp):aj (Ow κ):=(YQ κ).ak aG
abbrev KY(x:BN):S:=sp 57 [(1, .ptr 0 0 [] 0),(38, .ad 66 x.rs),(39, .int x.rs.length),(40, .int x.i)] [QN x]
theorem xC2(κ:Kp)(x:BN)(I:Nat->S->Prop)(n:Nat)(K:Exit->S->Prop):(vc (Ow κ) 12 69 none 0 (af (Pr κ).toProgram 69 11) (KY x) (bJ (Ow κ) 69 11 0 I n K))=(
 letI z1:=∃(e0:Nat),e0<n/\I e0 (sp 57 [(1,AV.ptr 0 0 [] 0),(38,AV.ad 66 x.rs),(39,AV.int (↑(x.rs.length):Int)),(40,AV.int (IntKind.wrap
  IntKind.i64 (x.i+(1:Int))))] [Obj.box 25 (AV.agg [AV.ad 61 x.ds,AV.ad 66 x.rs])])
 letI z2:=nth x.rs x.i.toNat
 letI z3:=x.i<(↑(x.rs.length):Int)
 letI z4:=toInt (ae z2 2)
 aD (decide z3) (a7 (decide ((0:Int)<=x.i)&&decide z3) (∃(e1:Vp),([AV.ad 61 x.ds,AV.agg [AV.agg [AV.str (toStr (ae (ae z2 0) 0)),AV.ad 56 (ai (ae (ae
 z2 0) 1))],AV.ad 72 (ai (ae z2 1)),AV.int z4]],aI)=([AV.ad 61 e1.1,ar e1.2],aI)/\(e1.1.length<=9223372036854775807/\aZ (aa (bk 56 e1.2.hl e1.2.bl))<=
 100000/\e1.2.bl.length<=100000)/\aD (eU e1.1 [ar e1.2]) (aD (decide (Prod.fst (rT e1)=(0:Int))) z1 (aD (Prod.fst (rT e1) != (0:Int)) (K Exit.ret (sp 57
 [(2,AV.int z4),(3,AV.int (Prod.fst (rT e1)))] [])) z1)) (K Exit.ret (sp 57 [(2,AV.int z4),(3,AV.int 30)] [])))) (K (Exit.exit 2) (sp 57 [] []))):=by kernel_rfl
def Ab(f:AV->Int)(x:BN):Int×Int:=GQ f (x.rs.drop x.i.toNat)
def rJ(x:BN):Prop:=fw x.ds x.rs/\0<=x.i/\x.i<=x.rs.length
def Bx(x:BN):Out (Exit×S):= .aD (decide ((Ab (jD x.ds) x).2=0)) (.one (.exit 2,sp 57 [] [])) (.one (.ret,sp 57 [(2, .int (Ab (jD x.ds) x).1),(3, .int (Ab (jD x.ds) x).2)] []))
theorem F8(f:AV->Int)(ds rs:List AV)(i:Int)(h0:0<=i)(hk:i.toNat<rs.length):Ab f ⟨ds,rs,i⟩=bif decide (f (nth rs i.toNat)=0) then Ab f ⟨ds,rs,i+1⟩ else(toInt (ae (nth rs i.toNat) 2),f (nth rs i.toNat)):=by
 unfold Ab
 simp only[show(i+1).toNat=i.toNat+1 by omega]
 rw[ab2 hk,←bf rs i.toNat hk,GQ]
theorem FF(f:AV->Int)(ds rs:List AV)(i:Int)(h:rs.length<=i.toNat):Ab f ⟨ds,rs,i⟩=(0,0):=by
 unfold Ab
 simp only
 rw[aa9 h];rfl
theorem lC2(κ:Kp):bj (Ow κ) 12 69 11 (aO 0 KY rJ Bx):=by
 refine aK (fun x=>x.rs.length - x.i.toNat) ?_
 rintro⟨ds,rs,i⟩ K ⟨h1,h2,h3⟩ ho
 simp only at h1 h2 h3
 rw[show(Ow κ).P=Pr κ from rfl]
 refine Eq.mpr (xC2 κ ⟨ds,rs,i⟩ _ _ K) ?_
 have hml:=h1.2.1
 simp only[aR] at hml
 simp only[Bx,Out.run,ah] at ho
 rw[ah,aa1,aa3,an,aa2,aa1,aa1]
 refine⟨fun hi=>⟨⟨h2,hi⟩,(ds,eo (nth rs i.toNat)),rfl,⟨h1.1,?_⟩,?_⟩,fun hi=>?_⟩
 ·simp only at hi
  exact h1.2.2 _ (by rw[bf _ _ (show i.toNat<rs.length by omega)];exact List.getElem_mem _)
 ·simp only at hi
  have hk:i.toNat<rs.length:=by omega
  rw[F8 _ _ _ _ h2 hk] at ho
  have next:jD ds (nth rs i.toNat)=0->∃m,m<rs.length - i.toNat/\fm KY rJ Bx (fun x=>x.rs.length - x.i.toNat) K m (KY ⟨ds,rs,i+1⟩):=fun e=>by
   rw[e] at ho
   refine⟨_,?_,⟨ds,rs,i+1⟩,rfl,⟨h1,by simp only;omega,by simp only;omega⟩,rfl,?_⟩
   ·simp only;omega
   ·simp only[Bx,Out.run,ah]
    exact ho
  have stop: ∀e:Int,jD ds (nth rs i.toNat)=e->e≠0->K .ret (sp 57 [(2, .int (toInt (ae (nth rs i.toNat) 2))),(3, .int e)] []):=fun e he h0=>by
   rw[he,aa5 h0] at ho
   exact ho.2 (aa5 h0)
  rw[aV (n:=i+1) (by omega) (by omega)]
  have ht:jD ds (nth rs i.toNat)=bif eU ds [ar (eo (nth rs i.toNat))] then(rT (ds,eo (nth rs i.toNat))).1 else 30:=rfl
  refine ah.2 ⟨fun e1=>?_,fun e1=>?_⟩
  ·rw[e1,aa8] at ht
   refine ah.2 ⟨fun e2=>next (by rw[ht];simpa using e2),fun e2=>?_⟩
   rw[aa3] at e2
   have:=stop _ ht e2
   simp only[Lf]
   refine ah.2 ⟨fun _=>this,fun e3=>?_⟩
   rw[ab3,aa1] at e3
   exact absurd e3 e2
  ·rw[e1,aa6] at ht
   exact stop 30 ht (by decide)
 ·simp only at hi
  rw[FF _ _ _ _ (by omega)] at ho
  exact ho.1 rfl
noncomputable def SO(κ:Kp):Env:=(Ow κ).ak 69 11 (aO 0 KY rJ Bx)
theorem eC2(κ:Kp):aB (SO κ):=(eC1 κ).ak (ZR κ) (lC2 κ)
theorem Zq(κ:Kp):aj (SO κ):=(ZR κ).ak aG
theorem yCd(κ:Kp)(ds rs:List AV)(K:AV->List Dn.Obj->Prop):(ba (SO κ) 12 69 [gN ds rs] [] K)=(
 letI z1:=Pg.toProgram (Env.P (NG κ))
 letI z2:=Pg.toProgram (Env.P (Ow κ))
 a7 (List.all rs im) (aD (!eU ds rs) (K (AV.bh [AV.int 0,AV.int 30]) []) (af z1 69 4=af z1 69 4/\∃(e2:BN),sp 57 [(1,AV.ptr 0 0 [] 0),(16,AV.ad 61 ds),
 (17,AV.int (↑(ds.length):Int)),(18,AV.int 0)] [Obj.box 25 (AV.agg [AV.ad 61 ds,AV.ad 66 rs])]=sp 57 [(1,AV.ptr 0 0 [] 0),(16,AV.ad 61 e2.ds),(17,
 AV.int (↑(e2.ds.length):Int)),(18,AV.int e2.i)] [Obj.box 25 (AV.agg [AV.ad 61 e2.ds,AV.ad 66 e2.rs])]/\(e2.ds.length<=9223372036854775807/\(0:Int)<=
 e2.i/\e2.i<=(↑(e2.ds.length):Int))/\aD (decide (Prod.snd (I0 e2)=(0:Int))) (af z2 69 11=af z2 69 11/\∃(e1:BN),sp 57 [(1,AV.ptr 0 0 [] 0),(38,
 AV.ad 66 e2.rs),(39,AV.int (↑(e2.rs.length):Int)),(40,AV.int 0)] [Obj.box 25 (AV.agg [AV.ad 61 e2.ds,AV.ad 66 e2.rs])]=sp 57 [(1,AV.ptr 0 0 [] 0),
 (38,AV.ad 66 e1.rs),(39,AV.int (↑(e1.rs.length):Int)),(40,AV.int e1.i)] [Obj.box 25 (AV.agg [AV.ad 61 e1.ds,AV.ad 66 e1.rs])]/\((e1.ds.length<=
 9223372036854775807/\e1.rs.length<=9223372036854775807/\∀(e0:AV),List.Mem e0 e1.rs->aZ (aa (bk 56 (cm.hl (eo e0)) (cm.bl (eo e0))))<=100000/\
 List.length (cm.bl (eo e0))<=100000)/\(0:Int)<=e1.i/\e1.i<=(↑(e1.rs.length):Int))/\aD (decide (Prod.snd (Ab (jD e1.ds) e1)=(0:Int))) (K (AV.bh
 [AV.int 0,AV.int 0]) []) (K (AV.bh [AV.int (Prod.fst (Ab (jD e1.ds) e1)),AV.int (Prod.snd (Ab (jD e1.ds) e1))]) [])) (K (AV.bh [AV.int (Prod.fst (I0 e2)),
 AV.int (Prod.snd (I0 e2))]) [])))):=by kernel_rfl
abbrev rr:=List AV×List AV
def K4(x:rr):List AV×List Dn.Obj:=([gN x.1 x.2],[])
def vV(x:rr):Prop:=fw x.1 x.2
def LD(x:rr):Out (AV×List Dn.Obj):= .one (.bh [.int (wL x.1 x.2).1, .int (wL x.1 x.2).2],[])
theorem DR(f:AV->Int): ∀l,(GQ f l).2=0->GQ f l=(0,0)
 |[],_=>rfl
 | x::l,h=>by
  rw[GQ] at h⊢
  cases e:decide (f x=0) with
  |true=>rw[e,aa8] at h;exact DR f l h
  |false=>
   rw[e,aa6] at h
   rw[aa3] at e
   exact absurd h e
theorem cCd(κ:Kp):bu (SO κ) 12 69 (aL K4 vV LD):=by
 refine aX ?_
 rintro⟨ds,rs⟩ K h1 ho
 have h1:fw ds rs:=h1
 refine Eq.mpr (yCd κ ds rs K) ?_
 simp only[LD,Out.run,wL] at ho
 refine an.2 ⟨Nr h1,ah.2 ⟨fun e=>?_,fun e=>?_⟩⟩
 ·rw[show eU ds rs=false by simpa using e] at ho
  exact ho
 ·rw[show eU ds rs=true by simpa using e,aa8] at ho
  have e1:I0 ⟨ds,rs,0⟩=PX ds ds 0:=rfl
  have e2:Ab (jD ds) ⟨ds,rs,0⟩=GQ (jD ds) rs:=rfl
  refine⟨rfl,⟨ds,rs,0⟩,rfl,⟨h1.1,by simp only;omega,by simp only;omega⟩,?_⟩
  rw[e1]
  refine ah.2 ⟨fun e3=>⟨rfl,⟨ds,rs,0⟩,rfl,⟨h1,by simp only;omega,by simp only;omega⟩,?_⟩,fun e3=>?_⟩
  ·rw[e3,aa8] at ho
   rw[e2]
   refine ah.2 ⟨fun e4=>?_,fun e4=>ho⟩
   rw[aa1] at e4
   rw[DR _ _ e4] at ho
   exact ho
  ·rw[e3,aa6] at ho
   exact ho
noncomputable def ON(κ:Kp):Env:=(SO κ).aw 69 (aL K4 vV LD)
theorem eCd(κ:Kp):aB (ON κ):=(eC2 κ).aw (Zq κ) (cCd κ)
theorem ZC(κ:Kp):aj (ON κ):=(Zq κ).aw aJ
abbrev Kg(x:BN):S:=sp 37 [(20, .ad 66 x.rs),(21, .int x.rs.length),(22, .int x.i)] []
theorem xC3(κ:Kp)(x:BN)(I:Nat->S->Prop)(n:Nat)(K:Exit->S->Prop):(vc (ON κ) 12 36 none 0 (af (Pr κ).toProgram 36 5) (Kg x) (bJ (ON κ) 36 5 0 I n K))=(
 letI z1:=nth x.rs x.i.toNat
 letI z2:=x.i<(↑(x.rs.length):Int)
 letI z3:=toInt (ae z1 2)
 aD (decide z2) (a7 (decide ((0:Int)<=x.i)&&decide z2) (∃(e1:cm),([AV.agg [AV.agg [AV.str (toStr (ae (ae z1 0) 0)),AV.ad 56 (ai (ae (ae z1 0) 1))],
 AV.ad 72 (ai (ae z1 1)),AV.int z3]],aI)=([ar e1],aI)/\(aZ (aa (bk 56 e1.hl e1.bl))<=100000/\e1.bl.length<=100000)/\aD (aM (aF e1)) (aD (jb (aF e1)) (∃
 (e0:Nat),e0<n/\I e0 (sp 37 [(20,AV.ad 66 x.rs),(21,AV.int (↑(x.rs.length):Int)),(22,AV.int (IntKind.wrap IntKind.i64 (x.i+(1:Int))))] [])) (K
 Exit.ret (sp 37 [(2,AV.int z3),(3,AV.int 60)] []))) (K Exit.ret (sp 37 [(2,AV.int z3),(3,AV.int 30)] [])))) (K (Exit.exit 0) (sp 37 [] []))):=by kernel_rfl
def AX(x:BN):Out (Exit×S):= .aD (decide ((Ab jg x).2=0)) (.one (.exit 0,sp 37 [] [])) (.one (.ret,sp 37 [(2, .int (Ab jg x).1),(3, .int (Ab jg x).2)] []))
theorem lC3(κ:Kp):bj (ON κ) 12 36 5 (aO 0 Kg rJ AX):=by
 refine aK (fun x=>x.rs.length - x.i.toNat) ?_
 rintro⟨ds,rs,i⟩ K ⟨h1,h2,h3⟩ ho
 simp only at h1 h2 h3
 rw[show(ON κ).P=Pr κ from rfl]
 refine Eq.mpr (xC3 κ ⟨ds,rs,i⟩ _ _ K) ?_
 have hml:=h1.2.1
 simp only[aR] at hml
 simp only[AX,Out.run,ah] at ho
 rw[ah,aa1,aa3,an,aa2,aa1,aa1]
 refine⟨fun hi=>⟨⟨h2,hi⟩,eo (nth rs i.toNat),rfl,?_,?_⟩,fun hi=>?_⟩
 ·simp only at hi
  exact h1.2.2 _ (by rw[bf _ _ (show i.toNat<rs.length by omega)];exact List.getElem_mem _)
 ·simp only at hi
  have hk:i.toNat<rs.length:=by omega
  rw[F8 _ _ _ _ h2 hk] at ho
  have next:jg (nth rs i.toNat)=0->∃m,m<rs.length - i.toNat/\fm Kg rJ AX (fun x=>x.rs.length - x.i.toNat) K m (Kg ⟨ds,rs,i+1⟩):=fun e=>by
   rw[e] at ho
   refine⟨_,?_,⟨ds,rs,i+1⟩,rfl,⟨h1,by simp only;omega,by simp only;omega⟩,rfl,?_⟩
   ·simp only;omega
   ·simp only[AX,Out.run,ah]
    exact ho
  have stop: ∀e:Int,jg (nth rs i.toNat)=e->e≠0->K .ret (sp 37 [(2, .int (toInt (ae (nth rs i.toNat) 2))),(3, .int e)] []):=fun e he h0=>by
   rw[he,aa5 h0] at ho
   exact ho.2 (aa5 h0)
  rw[aV (n:=i+1) (by omega) (by omega)]
  have ht:jg (nth rs i.toNat)=bif aM (aF (eo (nth rs i.toNat))) then bif jb (aF (eo (nth rs i.toNat))) then 0 else 60 else 30:=rfl
  refine ah.2 ⟨fun e1=>?_,fun e1=>?_⟩
  ·rw[e1,aa8] at ht
   refine ah.2 ⟨fun e2=>next (by rw[ht,e2];rfl),fun e2=>stop 60 (by rw[ht,e2];rfl) (by decide)⟩
  ·rw[e1,aa6] at ht
   exact stop 30 ht (by decide)
 ·simp only at hi
  rw[FF _ _ _ _ (by omega)] at ho
  exact ho.1 rfl
noncomputable def S3(κ:Kp):Env:=(ON κ).ak 36 5 (aO 0 Kg rJ AX)
theorem eC3(κ:Kp):aB (S3 κ):=(eCd κ).ak (ZC κ) (lC3 κ)
theorem ZU(κ:Kp):aj (S3 κ):=(ZC κ).ak aG
theorem yCs(κ:Kp)(ds rs:List AV)(K:AV->List Dn.Obj->Prop):(ba (S3 κ) 12 36 [gN ds rs] [] K)=(
 ∃(a:rr),([AV.agg [AV.ad 61 ds,AV.ad 66 rs]],aI)=([AV.agg [AV.ad 61 a.1,AV.ad 66 a.2]],aI)/\(a.1.length<=9223372036854775807/\a.2.length<=
 9223372036854775807/\∀(x:AV),List.Mem x a.2->aZ (aa (bk 56 (cm.hl (eo x)) (cm.bl (eo x))))<=100000/\List.length (cm.bl (eo x))<=100000)
 /\aD (Prod.snd (wL a.1 a.2) != (0:Int)) (K (AV.bh [AV.int (Prod.fst (wL a.1 a.2)),AV.int (Prod.snd (wL a.1 a.2))]) []) (af (Pg.toProgram
 (Env.P (ON κ))) 36 5=af (Pg.toProgram (Env.P (ON κ))) 36 5/\∃(a:BN),sp 37 [(20,AV.ad 66 rs),(21,AV.int (↑(rs.length):Int)),(22,AV.int
 0)] []=sp 37 [(20,AV.ad 66 a.rs),(21,AV.int (↑(a.rs.length):Int)),(22,AV.int a.i)] []/\((a.ds.length<=9223372036854775807/\a.rs.length<=
 9223372036854775807/\∀(x:AV),List.Mem x a.rs->aZ (aa (bk 56 (cm.hl (eo x)) (cm.bl (eo x))))<=100000/\List.length (cm.bl (eo x))<=
 100000)/\(0:Int)<=a.i/\a.i<=(↑(a.rs.length):Int))/\aD (decide (Prod.snd (Ab jg a)=(0:Int))) (K (AV.bh [AV.int 0,AV.int 0]) []) (K (AV.bh
 [AV.int (Prod.fst (Ab jg a)),AV.int (Prod.snd (Ab jg a))]) []))):=by kernel_rfl
def LM(x:rr):Out (AV×List Dn.Obj):= .one (.bh [.int (fD x.1 x.2).1, .int (fD x.1 x.2).2],[])
theorem cCs(κ:Kp):bu (S3 κ) 12 36 (aL K4 vV LM):=by
 refine aX ?_
 rintro⟨ds,rs⟩ K h1 ho
 have h1:fw ds rs:=h1
 refine Eq.mpr (yCs κ ds rs K) ?_
 simp only[LM,Out.run,fD] at ho
 refine⟨(ds,rs),rfl,h1,?_⟩
 simp only[Lf]
 have e2:Ab jg ⟨ds,rs,0⟩=GQ jg rs:=rfl
 refine ah.2 ⟨fun e=>?_,fun e=>?_⟩
 ·rw[show decide ((wL ds rs).2=0)=false by simpa using e] at ho
  exact ho
 ·rw[show decide ((wL ds rs).2=0)=true by simpa using e] at ho
  refine⟨trivial,⟨ds,rs,0⟩,rfl,⟨h1,by simp only;omega,by simp only;omega⟩,?_⟩
  rw[e2]
  refine ah.2 ⟨fun e4=>?_,fun e4=>ho⟩
  rw[aa1] at e4
  rw[aa8,DR _ _ e4] at ho
  exact ho
noncomputable def SJ(κ:Kp):Env:=(S3 κ).aw 36 (aL K4 vV LM)
theorem eCs(κ:Kp):aB (SJ κ):=(eC3 κ).aw (ZU κ) (cCs κ)
theorem YT(κ:Kp):aj (SJ κ):=(ZU κ).aw aJ
end Go.Proofs.YthaiinlfnommnaaGreatDoor
