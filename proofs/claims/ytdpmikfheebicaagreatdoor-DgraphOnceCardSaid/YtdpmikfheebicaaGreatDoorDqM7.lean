import Derived.Test.YtdpmikfheebicaaGreatDoorDqM5
import Derived.Test.YtdpmikfheebicaaGreatDoorDqM6
namespace Go.Proofs.YtdpmikfheebicaaGreatDoor
open Go Go.Dn Go.Rl Go.Proofs Go.RowKit Go.Extern.Stop Go.Stop Go.Extern
def L1(κ:Kp)(e:Int):Addr:=bif decide (e=51) then κ.eU else bif decide (e=52) then κ.arity else κ.type
def aX(κ:Kp)(e:Int):Value:=bif decide (e=0) then .nilIface else .iface 189 (.pointer (some (L1 κ e)))
def tF(e:Int):Prop:=e=51\/e=52\/e=53
def iF(e:Int):Prop:=e=0\/tF e
theorem ck(κ:Kp)(e:Int):aD (aX κ e)=true:=by unfold aX;cases decide (e=0)<;>rfl
theorem iz(κ:Kp)(e:Int):bD (aX κ e)=decide (e=0):=by unfold aX;cases decide (e=0)<;>rfl
theorem Iv(κ:Kp){e k:Int}(he:tF e)(hk:tF k)(h:e≠k):L1 κ e≠L1 κ k:=by
 rcases he with rfl|rfl|rfl<;>rcases hk with rfl|rfl|rfl<;>first|exact absurd rfl h|exact κ.d1|exact κ.d2|exact κ.d3|exact κ.d1.symm|exact κ.d2.symm|exact κ.d3.symm
theorem KE(κ:Kp){e k:Int}(he:iF e)(hk:iF k):aX κ e=aX κ k↔e=k:=by
 refine⟨fun h=>?_,fun h=>by rw[h]⟩
 rcases he with rfl|he
 ·rcases hk with rfl|hk
  ·rfl
  ·have:decide (k=0)=false:=by rcases hk with rfl|rfl|rfl<;>rfl
   unfold aX at h
   rw[this] at h;cases h
 ·have e0:decide (e=0)=false:=by rcases he with rfl|rfl|rfl<;>rfl
  rcases hk with rfl|hk
  ·unfold aX at h
   rw[e0] at h;cases h
  ·have k0:decide (k=0)=false:=by rcases hk with rfl|rfl|rfl<;>rfl
   unfold aX at h
   rw[e0,k0,aa5,aa5] at h
   simp only[Value.iface.injEq,Value.pointer.injEq,aa3,true_and] at h
   by_cases hh:e=k
   ·exact hh
   ·exact absurd h (Iv κ he hk hh)
theorem EZ(κ:Kp){e:Int}(he:tF e): ∃c t,vK κ (L1 κ e).block=some (.cells c t (0,0)):=by
 have go: ∀b,(∀g,g∈[1,0,3,4,2]->b≠g)->b=κ.eU.block\/b=κ.arity.block\/b=κ.type.block->∃c t,vK κ b=some (.cells c t (0,0)):=by
  intro b hb h
  unfold vK
  rw[rn (hb _ (by simp)),rn (hb 0 (by simp)),rn (hb 3 (by simp)),rn (hb 4 (by simp)),rn (hb 2 (by simp))]
  simp only[aa5]
  cases h1:Nat.beq b κ.eU.block with
  |true=>exact⟨_,_,rfl⟩
  | false=>
   rw[aa5]
   cases h2:Nat.beq b κ.arity.block with
   |true=>exact⟨_,_,rfl⟩
   | false=>
    rw[aa5]
    cases h3:Nat.beq b κ.type.block with
    |true=>exact⟨_,_,rfl⟩
    |false=>
     rcases h with h|h|h
     ·rw[h,Nat.beq_refl] at h1;cases h1
     ·rw[h,Nat.beq_refl] at h2;cases h2
     ·rw[h,Nat.beq_refl] at h3;cases h3
 rcases he with rfl|rfl|rfl
 ·exact go _ κ.n3 (.inl rfl)
 ·exact go _ κ.n4 (.inr (.inl rfl))
 ·exact go _ κ.n5 (.inr (.inr rfl))
theorem P3(v:Value)(xT:TypeId)(w:World):(Instr.typeAssert (.iface 189 v) xT 165 true).run Tryz.prog w= .ok (.tuple #[.nilIface, .bool false]) w:=run_typeAssert_lacksB Tryz.underlying165 (by kernel_rfl) (by kernel_rfl) v xT w
theorem Fg(v:Value)(xT:TypeId)(w:World):(Instr.typeAssert (.iface 189 v) xT 167 true).run Tryz.prog w= .ok (.tuple #[.nilIface, .bool false]) w:=run_typeAssert_lacksB Tryz.underlying167 (by kernel_rfl) (by kernel_rfl) v xT w
theorem BW(v:Value)(xT:TypeId)(w:World):(Instr.typeAssert (.iface 189 v) xT 169 true).run Tryz.prog w= .ok (.tuple #[.nilIface, .bool false]) w:=run_typeAssert_lacksB Tryz.underlying169 (by kernel_rfl) (by kernel_rfl) v xT w
set_option maxRecDepth 8000 in
theorem Hx(a b:Addr)(w:World)(hab:a≠b){ca cb:Array Value}{ta tb:TypeId}(ha:w.heap[a.block]? =some (.cells ca ta (0,0)))(hb:w.heap[b.block]? =some (.cells cb tb (0,0))):
  Calls Tryz.prog 56 #[.iface 189 (.pointer (some a)), .iface 189 (.pointer (some b))] w fun e w'=>e= .returned (.bool false)/\w'=w:=by
 obtain⟨i,hi,hcmp⟩:=Option.map_eq_some_iff.1 CI
 obtain⟨j,hj,hjs⟩:=Option.map_eq_some_iff.1 Cq
 have h8:= @run_callFunc_extern Tryz.prog 86 _ Extern.ReflectliteType.typeOf Tryz.func86 (by kernel_rfl) (by kernel_rfl) (by kernel_rfl) (by kernel_rfl)
 have h32:= @run_callFunc_extern Tryz.prog 192 _ (Extern.ReflectliteType.method fun t=>do Go.Extern.Rtype.noPackHeld "Comparable" t;pure (.bool (←typeInfo t).comparable)) Tryz.func192 (by kernel_rfl) (by kernel_rfl) (by kernel_rfl) (by kernel_rfl)
 have tT:=tf
 have cT:=lU
 have mR:=gC
 have hne:=run_eql_iface_ptr_other (P:=Tryz.prog) w Tryz.underlying88 Tryz.underlying189 hi hcmp hj (by omega) hab ha hb
 have n1:=P3
 have n2:=Fg
 have n3:=BW
 go_enter Tryz.func56,Tryz.ntmps56
 go_wp2
 refine wp_loop_rounds 1 ?_
 rw[rounds_succ]
 go_wp2
 all_goals (go_ret;exact⟨rfl,rfl⟩)
open Classical in
noncomputable def jT(κ:Kp)(v:Value):Bool:=decide (∃e,iF e/\v=aX κ e)
open Classical in
noncomputable def kE(κ:Kp)(v:Value):Bool:=decide (∃e,tF e/\v=aX κ e)
open Classical in
noncomputable def fv(v t:Value):Bool:=decide (v=t)
theorem tx(κ:Kp)(v:Value):jT κ v=true↔ ∃e,iF e/\v=aX κ e:=by unfold jT;exact @decide_eq_true_iff _ (Classical.propDecidable _)
theorem Ah(κ:Kp)(v:Value):kE κ v=true↔ ∃e,tF e/\v=aX κ e:=by unfold kE;exact @decide_eq_true_iff _ (Classical.propDecidable _)
theorem Gt(v t:Value):fv v t=true↔v=t:=by unfold fv;exact @decide_eq_true_iff _ (Classical.propDecidable _)
theorem yY(κ:Kp){e:Int}(h:iF e):jT κ (aX κ e)=true:=(tx _ _).2 ⟨e,h,rfl⟩
theorem yy(κ:Kp){e:Int}(h:tF e):kE κ (aX κ e)=true:=(Ah _ _).2 ⟨e,h,rfl⟩
theorem gx(κ:Kp){e k:Int}(he:iF e)(hk:iF k):fv (aX κ e) (aX κ k)=decide (e=k):=by
 rw[Bool.eq_iff_iff,Gt,aa0]
 exact KE κ he hk
noncomputable def MZ(κ:Kp):List AV->Option (Bool×AV)
 |[.lit v, .lit t]=>some (jT κ v&&kE κ t, .bool (fv v t))
 |_=>none
theorem SG(κ:Kp):gr (Pr κ) 56 (MZ κ):=by
 intro args x hn hg
 unfold MZ at hg
 split at hg
 ·simp only[aa3,aa9,aa1] at hg
  obtain⟨⟨h1,h2⟩,rfl⟩:=hg
  obtain⟨e,he,rfl⟩:=(tx _ _).1 h1
  obtain⟨k,hk,rfl⟩:=(Ah _ _).1 h2
  have k0:decide (k=0)=false:=by rcases hk with rfl|rfl|rfl<;>rfl
  have hk':aX κ k= .iface 189 (.pointer (some (L1 κ k))):=by unfold aX;rw[k0];rfl
  refine⟨_,_,Tryz.func56,rfl,rfl,rfl,fun C vs hC hI hm=>?_⟩
  rw[uj hm,gx κ he (.inr hk)]
  rcases he with rfl|he
  ·have e0:aX κ 0= .nilIface:=rfl
   rw[e0,hk']
   refine(callsIn_wide.2 (HU _ C.w)).mono ?_
   rintro e w' ⟨rfl,rfl⟩
   refine⟨?_,gm.refl _⟩
   rw[aa4 (by rcases hk with rfl|rfl|rfl<;>decide)]
  ·have e0:decide (e=0)=false:=by rcases he with rfl|rfl|rfl<;>rfl
   have he':aX κ e= .iface 189 (.pointer (some (L1 κ e))):=by unfold aX;rw[e0];rfl
   rw[he',hk']
   by_cases h:e=k
   ·subst h
    refine(callsIn_wide.2 (DG _ C.w)).mono ?_
    rintro e w' ⟨rfl,rfl⟩
    refine⟨?_,gm.refl _⟩
    rw[aa6 rfl]
   ·obtain⟨c1,t1,q1⟩:=EZ κ he
    obtain⟨c2,t2,q2⟩:=EZ κ hk
    have w1:=(hI.kept _ _ (by rw[hC];exact q1)).2
    have w2:=(hI.kept _ _ (by rw[hC];exact q2)).2
    refine(callsIn_wide.2 (Hx _ _ C.w (Iv κ he hk h) w1 w2)).mono ?_
    rintro e w' ⟨rfl,rfl⟩
    refine⟨?_,gm.refl _⟩
    rw[aa4 h]
 ·cases hg
noncomputable def LN(κ:Kp):Env:=(Rw κ).aF 56 (MZ κ)
theorem Yi(κ:Kp):aC (LN κ):=(e15 κ).eK (SG κ)
theorem Tg(κ:Kp):ai (LN κ):=(Z4 κ).aF
end Go.Proofs.YtdpmikfheebicaaGreatDoor
namespace Go.Proofs.YtdpmikfheebicaaGreatDoor
open Go Go.Dn Go.Rl Go.Proofs
attribute [local irreducible] bg vc
set_option maxRecDepth 20000
structure Nm where
 rel:ByteArray
 names:List AV
 types:List AV
 i:Bool
 o:Bool
 line:Int
abbrev RT(d:Nm):AV:= .agg [.lit (.string d.rel), .ae 9 d.names, .ae 3 d.types, .bool d.i, .bool d.o, .int d.line]
def BL(t:AV):Bool:=decide (toInt t=1)||decide (toInt t=2)
def yU:List AV->List AV->Bool
 |n::ns,t::ts=>isName (toStr n)&&BL t&&yU ns ts
 |_,_=>true
def zN(rel:ByteArray)(ns ts:List AV):Bool:=isName rel&& !decide (ns.length=0)&&decide (ns.length<=8)&&decide (ts.length=ns.length)&&yU ns ts
def yI(a:AV):Bool:=zN (toStr (ad a 0)) (ah (ad a 1)) (ah (ad a 2))
theorem FI{ns ts:List AV}{i:Nat}(h1:i<ns.length)(h2:i<ts.length):yU (ns.drop i) (ts.drop i)=(isName (toStr (nth ns i))&&BL (nth ts i)&&yU (ns.drop (i+1)) (ts.drop (i+1))):=by
 rw[ab1 h1,ab1 h2,yU,a8 _ _ h1,a8 _ _ h2]
theorem V4(κ:Kp)(d:Nm)(i:Int)(I:Nat->S->Prop)(n:Nat)(K:Exit->S->Prop):(vc (LN κ) 12 90 none 0 (ag (Pr κ).toProgram 90 4) (sp 58 [(1, .ptr 0 0 [] 0),(31, .ae 9 d.names),(32, .int d.names.length),(33, .int i)] [.box 62 (RT d)]) (bI (LN κ) 90 4 0 I n K))=(
 letI z1:=∃(e0:Nat),e0<n/\I e0 (sp 58 [(1,AV.ptr 0 0 [] 0),(31,AV.ae 9 d.names),(32,AV.int (↑(d.names.length):Int)),(33,AV.int (IntKind.wrap
  IntKind.i64 (i+(1:Int))))] [Obj.box 62 (AV.agg [AV.str d.rel,AV.ae 9 d.names,AV.ae 3 d.types,AV.bool d.i,AV.bool d.o,AV.int d.line])])
 letI z2:=decide ((0:Int)<=i)&&decide (i<(↑(d.types.length):Int))
 letI z3:=K Exit.ret (sp 58 [(2,AV.bool false)] [])
 letI z4:=i<(↑(d.names.length):Int)
 ax (decide z4) (aO (decide ((0:Int)<=i)&&decide z4) (ax (!isName (toStr (nth d.names i.toNat))) z3 (aO z2 (ax (toInt (nth d.types i.toNat) != (1:Int))
 (aO z2 (ax (toInt (nth d.types i.toNat) != (2:Int)) z3 z1)) z1)))) (K (Exit.exit 0) (sp 58 [] []))):=by kernel_rfl
abbrev Lr(a:Nm×Int):S:=sp 58 [(1, .ptr 0 0 [] 0),(31, .ae 9 a.1.names),(32, .int a.1.names.length),(33, .int a.2)] [.box 62 (RT a.1)]
def CV(a:Nm×Int):Prop:=a.1.types.length=a.1.names.length/\a.1.names.length<=8/\0<=a.2/\a.2<=a.1.names.length
def Be(a:Nm×Int):Out (Exit×S):= .ax (yU (a.1.names.drop a.2.toNat) (a.1.types.drop a.2.toNat)) (.one (.exit 0,sp 58 [] [])) (.one (.ret,sp 58 [(2, .bool false)] []))
theorem Vn(κ:Kp):bn (LN κ) 12 90 4 (aQ 0 Lr CV Be):=by
 refine aR (fun a=>a.1.names.length - a.2.toNat) ?_
 rintro⟨d,i⟩ K ⟨h1,h2,h3,h4⟩ ho
 simp only at h1 h2 h3 h4
 rw[show(LN κ).P=Pr κ from rfl]
 refine Eq.mpr (V4 κ d i _ _ K) ?_
 simp only[Be,Out.run,af] at ho
 simp only[af,au,aa0,aa2,aa1,Bool.not_eq_true',ab2,bne_iff_ne,bne_eq_false_iff_eq]
 refine⟨fun hi=>?_,fun hi=>?_⟩
 ·have hk:i.toNat<d.names.length:=by omega
  rw[FI hk (by omega)] at ho
  rw[a5 (n:=i+1) (by omega) (by omega)]
  have go:BL (nth d.types i.toNat)=true->isName (toStr (nth d.names i.toNat))=true->∃m,m<d.names.length - i.toNat/\fw Lr CV Be (fun a=>a.1.names.length - a.2.toNat) K m (Lr (d,i+1)):=fun e1 e2=>by
   rw[e1,e2,ab9,ab9] at ho
   refine⟨_,?_,(d,i+1),rfl,⟨h1,h2,by simp only;omega,by simp only;omega⟩,rfl,?_⟩
   ·simp only;omega
   ·simp only[Be,Out.run,af,show(i+1).toNat=i.toNat+1 by omega]
    exact ho
  refine⟨⟨h3,hi⟩,fun e=>ho.2 (by rw[e];rfl),fun e=>⟨⟨h3,by omega⟩,fun e1=>⟨⟨h3,by omega⟩,fun e2=>ho.2 ?_,fun e2=>go ?_ e⟩,fun e1=>go ?_ e⟩⟩
  ·have:BL (nth d.types i.toNat)=false:=by unfold BL;rw[aa4 e1,aa4 e2];rfl
   rw[this,e];rfl
  ·unfold BL;rw[aa6 e2,Bool.or_true]
  ·unfold BL;rw[aa6 e1,Bool.true_or]
 ·rw[aa8 (by omega)] at ho
  exact ho.1 rfl
noncomputable def Ow(κ:Kp):Env:=(LN κ).aj 90 4 (aQ 0 Lr CV Be)
theorem eDl(κ:Kp):aC (Ow κ):=(Yi κ).aj (Tg κ) (Vn κ)
theorem TM(κ:Kp):ai (Ow κ):=(Tg κ).aj aG
theorem yDc(κ:Kp)(d:Nm)(K:AV->List Dn.Obj->Prop):(bg (Ow κ) 12 90 [RT d] [] K)=(
 letI z1:=K (AV.bool false) []
 letI z2:=d.names.length
 letI z3:=Pg.toProgram (Env.P (LN κ))
 ax (!isName d.rel) z1 (ax ((↑z2:Int)==(0:Int)) z1 (ax (decide ((↑z2:Int)>(8:Int))) z1 (ax ((↑(d.types.length):Int) != (↑z2:Int)) z1 (ag z3 90 4
 =ag z3 90 4/\∃(e0:Nm×Int),sp 58 [(1,AV.ptr 0 0 [] 0),(31,AV.ae 9 d.names),(32,AV.int (↑z2:Int)),(33,AV.int 0)] [Obj.box 62 (AV.agg [AV.str
 d.rel,AV.ae 9 d.names,AV.ae 3 d.types,AV.bool d.i,AV.bool d.o,AV.int d.line])]=sp 58 [(1,AV.ptr 0 0 [] 0),(31,AV.ae 9 e0.1.names),(32,AV.int
 (↑(e0.1.names.length):Int)),(33,AV.int e0.2)] [Obj.box 62 (AV.agg [AV.str e0.1.rel,AV.ae 9 e0.1.names,AV.ae 3 e0.1.types,AV.bool e0.1.i,AV.bool e0.1.o,
 AV.int e0.1.line])]/\(e0.1.types.length=e0.1.names.length/\e0.1.names.length<=8/\(0:Int)<=e0.2/\e0.2<=(↑(e0.1.names.length):Int))/\ax (yU
 (List.drop e0.2.toNat e0.1.names) (List.drop e0.2.toNat e0.1.types)) (K (AV.bool true) []) z1))))):=by kernel_rfl
def SW:List AV->Option (Bool×AV)
 |[.agg [.lit (.string rel), .ae 9 ns, .ae 3 ts, .lit (.bool _), .lit (.bool _), .lit (.int .i64 _)]]=>some (true, .bool (zN rel ns ts))
 |_=>none
theorem pDc(κ:Kp):cy (Ow κ) 12 90 SW:=by
 intro args x hh
 unfold SW at hh
 split at hh
 ·rename_i rel ns ts bi bo line
  simp only[aa3,aa9,true_and] at hh
  subst hh
  refine⟨_,rfl,rfl,?_⟩
  refine Eq.mpr (yDc κ ⟨rel,ns,ts,bi,bo,line⟩ _) ?_
  unfold zN
  simp only[af,aa0,aa2,Bool.not_eq_true',ab2,beq_iff_eq,beq_eq_false_iff_ne,bne_iff_ne,bne_eq_false_iff_eq]
  refine⟨fun e=>mP (by rw[e];rfl),fun e=>⟨fun e2=>mP ?_,fun e2=>⟨fun e3=>mP ?_,fun e3=>⟨fun e4=>mP ?_,fun e4=>⟨trivial,(⟨rel,ns,ts,bi,bo,line⟩,0),rfl,⟨by simp only;omega,by simp only;omega,by simp only;omega,by simp only;omega⟩,?_⟩⟩⟩⟩⟩
  ·rw[aa6 (show ns.length=0 by omega)];simp
  ·rw[aa4 (show ¬ ns.length<=8 by omega)];simp
  ·rw[aa4 (show ¬ ts.length=ns.length by omega)];simp
  ·rw[e,aa4 (show ¬ ns.length=0 by omega),aa6 (show ns.length<=8 by omega),aa6 (show ts.length=ns.length by omega)]
   simp only[ab7,ab0,Bool.not_false,ab9]
   exact⟨fun e5=>mP e5.symm,fun e5=>mP e5.symm⟩
 ·cases hh
noncomputable def Lu(κ:Kp):Env:=(Ow κ).aF 90 SW
theorem Wd(κ:Kp):aC (Lu κ):=(eDl κ).aF (TM κ) (pDc κ)
theorem S9(κ:Kp):ai (Lu κ):=(TM κ).aF
theorem SU(κ:Kp)(ds rs:List AV)(i:Int)(I:Nat->S->Prop)(n:Nat)(K:Exit->S->Prop):(vc (Lu κ) 12 93 none 1 (ag (Pr κ).toProgram 93 2) (sp 19 [(0, .ae 62 ds),(1, .bP 89 []),(7, .int ds.length),(8, .int i)] [.box 25 (.agg [.ae 62 ds, .ae 41 rs])]) (bI (Lu κ) 93 2 1 I n K))=(
 letI z1:=AV.agg [AV.ae 62 ds,AV.ae 41 rs]
 letI z2:=nth ds i.toNat
 letI z3:=i<(↑(ds.length):Int)
 ax (decide z3) (aO (decide ((0:Int)<=i)&&decide z3) (ax (!zN (toStr (ad z2 0)) (ah (ad z2 1)) (ah (ad z2 2))) (K Exit.ret (sp 19 [(4,AV.int i)] [Obj.box
 25 z1])) (∃(e0:Nat),e0<n/\I e0 (sp 19 [(0,AV.ae 62 ds),(1,AV.bP 89 []),(7,AV.int (↑(ds.length):Int)),(8,AV.int (IntKind.wrap IntKind.i64 (i+(1
 :Int))))] [Obj.box 25 z1])))) (K (Exit.exit 0) (sp 19 [] [Obj.box 25 z1]))):=by kernel_rfl
abbrev I0:Nat:=93
abbrev Oe:Nat:=132
abbrev Gx(ds rs:List AV):Dn.Obj:= .box 25 (.agg [.ae 62 ds, .ae 41 rs])
abbrev KK:=List AV×List AV×Int
abbrev MQ(a:KK):S:=sp 19 [(0, .ae 62 a.1),(1, .bP 89 []),(7, .int a.1.length),(8, .int a.2.2)] [Gx a.1 a.2.1]
def Ev(a:KK):Prop:=a.1.length<=aP/\0<=a.2.2/\a.2.2<=a.1.length
def yn(a:KK):Out (Exit×S):= .ax ((a.1.drop a.2.2.toNat).all yI) (.one (.exit 0,sp 19 [] [Gx a.1 a.2.1])) (.all (fun j:Int=>0<=j) fun j=> .one (.ret,sp 19 [(4, .int j)] [Gx a.1 a.2.1]))
theorem SZ(κ:Kp):bn (Lu κ) 12 I0 2 (aQ 1 MQ Ev yn):=by
 refine aR (fun a=>a.1.length - a.2.2.toNat) ?_
 rintro⟨ds,rs,i⟩ K ⟨h1,h2,h3⟩ ho
 simp only at h1 h2 h3
 rw[show(Lu κ).P=Pr κ from rfl]
 refine Eq.mpr (SU κ ds rs i _ _ K) ?_
 simp only[aP] at h1
 simp only[yn,Out.run,af] at ho
 simp only[af,au,aa0,aa2,aa1,Bool.not_eq_true',ab2]
 refine⟨fun hi=>⟨⟨h2,hi⟩,?_⟩,fun hi=>?_⟩
 ·have hk:i.toNat<ds.length:=by omega
  rw[ab1 hk,←a8 ds i.toNat hk,List.all_cons] at ho
  refine⟨fun e=>ho.2 (by rw[show yI (nth ds i.toNat)=false from e];rfl) i h2,fun e=>?_⟩
  rw[show yI (nth ds i.toNat)=true from e,ab9] at ho
  rw[a5 (n:=i+1) (by omega) (by omega)]
  refine⟨_,?_,(ds,rs,i+1),rfl,⟨by simpa[aP] using h1,by simp only;omega,by simp only;omega⟩,rfl,?_⟩
  ·simp only;omega
  ·simp only[yn,Out.run,af,show(i+1).toNat=i.toNat+1 by omega]
   exact ho
 ·rw[aa8 (by omega)] at ho
  exact ho.1 rfl
noncomputable def ub(κ:Kp):Env:=(Lu κ).aj I0 2 (aQ 1 MQ Ev yn)
theorem Ru(κ:Kp):aC (ub κ):=(Wd κ).aj (S9 κ) (SZ κ)
theorem QJ(κ:Kp):ai (ub κ):=(S9 κ).aj aG
theorem SJ(κ:Kp)(ds rs:List AV)(i:Int)(I:Nat->S->Prop)(n:Nat)(K:Exit->S->Prop):(vc (ub κ) 12 132 none 1 (ag (Pr κ).toProgram 132 2) (sp 19 [(0, .ae 41 rs),(1, .bP 92 []),(7, .int rs.length),(8, .int i)] [.box 25 (.agg [.ae 62 ds, .ae 41 rs])]) (bI (ub κ) 132 2 1 I n K))=(
 letI z1:=AV.agg [AV.ae 62 ds,AV.ae 41 rs]
 letI z2:=nth rs i.toNat
 letI z3:=i<(↑(rs.length):Int)
 ax (decide z3) (aO (decide ((0:Int)<=i)&&decide z3) (aO (decide (List.length (ah (ad (ad z2 0) 1))<=9223372036854775807)&&decide (List.length (ah (ad z2 1))<=9223372036854775807)) (ax (!aU {head:={rel:=toStr (ad (ad z2 0) 0),l:=aa (ah (ad (ad z2 0) 1))},body:=cC (ah (ad z2 1))}) (K Exit.ret (sp 19 [(4,AV.int i)] [Obj.box 25 z1])) (∃(e0:Nat),e0<n/\I e0 (sp 19 [(0,AV.ae 41 rs),(1,AV.bP 92 []),(7,AV.int (↑(rs.length):Int)),(8,AV.int (IntKind.wrap IntKind.i64 (i+(1:Int))))] [Obj.box 25 z1]))))) (K (Exit.exit 0) (sp 19 [] [Obj.box 25 z1]))):=by kernel_rfl
def gy(a:AV):Bool:=decide ((ah (ad (ad a 0) 1)).length<=aP)&&decide ((ah (ad a 1)).length<=aP)
def nF(a:AV):Bool:=aU (sf a)
abbrev MA(a:KK):S:=sp 19 [(0, .ae 41 a.2.1),(1, .bP 92 []),(7, .int a.2.1.length),(8, .int a.2.2)] [Gx a.1 a.2.1]
def EW(a:KK):Prop:=a.2.1.length<=aP/\0<=a.2.2/\a.2.2<=a.2.1.length/\a.2.1.all gy=true
def x6(a:KK):Out (Exit×S):= .ax ((a.2.1.drop a.2.2.toNat).all nF) (.one (.exit 0,sp 19 [] [Gx a.1 a.2.1])) (.all (fun j:Int=>0<=j) fun j=> .one (.ret,sp 19 [(4, .int j)] [Gx a.1 a.2.1]))
theorem LI{rs:List AV}(h:rs.all gy=true){k:Nat}(hk:k<rs.length):(ah (ad (ad (nth rs k) 0) 1)).length<=aP/\(ah (ad (nth rs k) 1)).length<=aP:=by
 have:=List.all_eq_true.1 h (nth rs k) (by rw[a8 _ _ hk];exact List.getElem_mem hk)
 simpa[gy] using this
theorem RC(κ:Kp):bn (ub κ) 12 Oe 2 (aQ 1 MA EW x6):=by
 refine aR (fun a=>a.2.1.length - a.2.2.toNat) ?_
 rintro⟨ds,rs,i⟩ K ⟨h1,h2,h3,h4⟩ ho
 simp only at h1 h2 h3 h4
 rw[show(ub κ).P=Pr κ from rfl]
 refine Eq.mpr (SJ κ ds rs i _ _ K) ?_
 simp only[aP] at h1
 simp only[x6,Out.run,af] at ho
 simp only[af,au,aa0,aa2,aa1,Bool.not_eq_true',ab2]
 refine⟨fun hi=>⟨⟨h2,hi⟩,LI h4 (by omega),?_⟩,fun hi=>?_⟩
 ·have hk:i.toNat<rs.length:=by omega
  rw[ab1 hk,←a8 rs i.toNat hk,List.all_cons] at ho
  refine⟨fun e=>ho.2 (by rw[show nF (nth rs i.toNat)=false from e];rfl) i h2,fun e=>?_⟩
  rw[show nF (nth rs i.toNat)=true from e,ab9] at ho
  rw[a5 (n:=i+1) (by omega) (by omega)]
  refine⟨_,?_,(ds,rs,i+1),rfl,⟨by simpa[aP] using h1,by simp only;omega,by simp only;omega,h4⟩,rfl,?_⟩
  ·simp only;omega
  ·simp only[x6,Out.run,af,show(i+1).toNat=i.toNat+1 by omega]
   exact ho
 ·rw[aa8 (by omega)] at ho
  exact ho.1 rfl
noncomputable def Ha(κ:Kp):Env:=(ub κ).aj Oe 2 (aQ 1 MA EW x6)
theorem Ri(κ:Kp):aC (Ha κ):=(Ru κ).aj (QJ κ) (RC κ)
theorem P1(κ:Kp):ai (Ha κ):=(QJ κ).aj aG
theorem yRt(κ:Kp)(ds rs:List AV)(K:AV->List Dn.Obj->Prop):(bg (Ha κ) 12 59 [.agg [.ae 62 ds, .ae 41 rs]] [] K)=(
 letI z1:=∀(e0:Int),(0:Int)<=e0->K (AV.lit (Value.bool !decide (e0>=(0:Int)))) []
 letI z2:=Pg.toProgram (Env.P (ub κ))
 letI z3:=K (AV.bool false) []
 letI z4:=Pg.toProgram (Env.P (Lu κ))
 ax (decide ((↑(ds.length):Int)>(60:Int))) z3 (ax (decide ((↑(rs.length):Int)>(200:Int))) z3 (ag z4 I0 2=ag z4 I0 2/\∃(e3:KK),sp 19 [(0,AV.ae
 62 ds),(1,AV.bP 89 []),(7,AV.int (↑(ds.length):Int)),(8,AV.int 0)] [Obj.box 25 (AV.agg [AV.ae 62 ds,AV.ae 41 rs])]=sp 19 [(0,AV.ae 62 e3.1),(1,
 AV.bP 89 []),(7,AV.int (↑(e3.1.length):Int)),(8,AV.int e3.2.2)] [Obj.box 25 (AV.agg [AV.ae 62 e3.1,AV.ae 41 e3.2.1])]/\(e3.1.length<=
 9223372036854775807/\(0:Int)<=e3.2.2/\e3.2.2<=(↑(e3.1.length):Int))/\ax (List.all (List.drop (Int.toNat e3.2.2) e3.1) yI) (ag z2 Oe 2=ag z2 Oe 2/\∃
 (e1:KK),sp 19 [(0,AV.ae 41 e3.2.1),(1,AV.bP 92 []),(7,AV.int (↑(e3.2.1.length):Int)),(8,AV.int 0)] [Obj.box 25 (AV.agg [AV.ae 62 e3.1,AV.ae 41
 e3.2.1])]=sp 19 [(0,AV.ae 41 e1.2.1),(1,AV.bP 92 []),(7,AV.int (↑(e1.2.1.length):Int)),(8,AV.int e1.2.2)] [Obj.box 25 (AV.agg [AV.ae 62 e1.1,AV.ae
 41 e1.2.1])]/\(e1.2.1.length<=9223372036854775807/\(0:Int)<=e1.2.2/\e1.2.2<=(↑(e1.2.1.length):Int)/\List.all e1.2.1 gy=true)/\ax (List.all
 (List.drop (Int.toNat e1.2.2) e1.2.1) nF) (K (AV.bool true) []) z1) (∀(e2:Int),(0:Int)<=e2->ax (!decide (e2>=(0:Int))) (ag z2 Oe 2=ag z2 Oe 2/\∃
 (e1:KK),sp 19 [(0,AV.ae 41 e3.2.1),(1,AV.bP 92 []),(7,AV.int (↑(e3.2.1.length):Int)),(8,AV.int 0)] [Obj.box 25 (AV.agg [AV.ae 62 e3.1,AV.ae 41
 e3.2.1])]=sp 19 [(0,AV.ae 41 e1.2.1),(1,AV.bP 92 []),(7,AV.int (↑(e1.2.1.length):Int)),(8,AV.int e1.2.2)] [Obj.box 25 (AV.agg [AV.ae 62 e1.1,AV.ae
 41 e1.2.1])]/\(e1.2.1.length<=9223372036854775807/\(0:Int)<=e1.2.2/\e1.2.2<=(↑(e1.2.1.length):Int)/\List.all e1.2.1 gy=true)/\ax (List.all
 (List.drop (Int.toNat e1.2.2) e1.2.1) nF) (K (AV.bool true) []) z1) z3)))):=by kernel_rfl
def eH(ds rs:List AV):Bool:=decide (ds.length<=60)&&decide (rs.length<=200)&&ds.all yI&&rs.all nF
def RB:List AV->Option (Bool×AV)
 |[.agg [.ae 62 ds, .ae 41 rs]]=>some (rs.all gy, .bool (eH ds rs))
 |_=>none
theorem Yp(κ:Kp):cy (Ha κ) 12 59 RB:=by
 intro args x hh
 unfold RB at hh
 split at hh
 ·rename_i ds rs
  simp only[aa3,aa9] at hh
  obtain⟨h1,rfl⟩:=hh
  refine⟨_,rfl,rfl,?_⟩
  refine Eq.mpr (yRt κ ds rs _) ?_
  unfold eH
  rw[af,aa0,aa2]
  refine⟨fun e=>mP (by rw[aa4 (show ¬ ds.length<=60 by omega)];rfl),fun e=>?_⟩
  rw[af,aa0,aa2]
  refine⟨fun e2=>mP (by rw[aa4 (show ¬ rs.length<=200 by omega)];simp),fun e2=>?_⟩
  rw[aa6 (show ds.length<=60 by omega),aa6 (show rs.length<=200 by omega)]
  refine⟨rfl,(ds,rs,0),rfl,⟨by simp only[aP];omega,by simp only;omega,by simp only;omega⟩,?_⟩
  simp only[ab7,ab0,ab9]
  rw[af]
  refine⟨fun e3=>⟨trivial,(ds,rs,0),rfl,⟨by simp only[aP];omega,by simp only;omega,by simp only;omega,h1⟩,?_⟩,fun e3 y hy=>?_⟩
  ·simp only[ab7,ab0]
   rw[af,e3]
   refine⟨fun e4=>mP (by rw[e4];rfl),fun e4 y hy=>mP ?_⟩
   rw[e4,aa6 (show y>=0 from hy)];rfl
  ·rw[aa6 (show y>=0 from hy)]
   exact mP (by rw[e3];rfl)
 ·cases hh
noncomputable def LV(κ:Kp):Env:=(Ha κ).aF 59 RB
theorem Wt(κ:Kp):aC (LV κ):=(Ri κ).aF (P1 κ) (Yp κ)
theorem S8(κ:Kp):ai (LV κ):=(P1 κ).aF
theorem WR(κ:Kp)(ds:List AV)(s:ByteArray)(i:Int)(I:Nat->S->Prop)(n:Nat)(K:Exit->S->Prop):(vc (LV κ) 12 I0 none 1 (ag (Pr κ).toProgram I0 2) (sp 19 [(0, .ae 62 ds),(1, .bP 94 [.ptr 0 0 [] 0]),(7, .int ds.length),(8, .int i)] [.box 9 (.lit (.string s))]) (bI (LV κ) I0 2 1 I n K))=(
 letI z1:=i<(↑(ds.length):Int)
 ax (decide z1) (aO (decide ((0:Int)<=i)&&decide z1) (ax (ByteArray.toList (toStr (ad (nth ds i.toNat) 0))==ByteArray.toList s) (K Exit.ret (sp 19 [(4,
 AV.int i)] [Obj.box 9 (AV.str s)])) (∃(e0:Nat),e0<n/\I e0 (sp 19 [(0,AV.ae 62 ds),(1,AV.bP 94 [AV.ptr 0 0 [] 0]),(7,AV.int (↑(ds.length):Int)),
 (8,AV.int (IntKind.wrap IntKind.i64 (i+(1:Int))))] [Obj.box 9 (AV.str s)])))) (K (Exit.exit 0) (sp 19 [] [Obj.box 9 (AV.str s)]))):=by kernel_rfl
def km(s:ByteArray):List AV->Int->Int
 |[],_=> -1
 |d::l,i=>bif lB (toStr (ad d 0)) s then i else km s l (i+1)
abbrev Qz(a:List AV×ByteArray×Int):S:=sp 19 [(0, .ae 62 a.1),(1, .bP 94 [.ptr 0 0 [] 0]),(7, .int a.1.length),(8, .int a.2.2)] [.box 9 (.lit (.string a.2.1))]
def JE(a:List AV×ByteArray×Int):Prop:=a.1.length<=aP/\0<=a.2.2/\a.2.2<=a.1.length
def En(a:List AV×ByteArray×Int):Out (Exit×S):= .ax (decide (0<=km a.2.1 (a.1.drop a.2.2.toNat) a.2.2)) (.one (.ret,sp 19 [(4, .int (km a.2.1 (a.1.drop a.2.2.toNat) a.2.2))] [.box 9 (.lit (.string a.2.1))])) (.one (.exit 0,sp 19 [] [.box 9 (.lit (.string a.2.1))]))
theorem Wa(κ:Kp):bn (LV κ) 12 I0 2 (aQ 1 Qz JE En):=by
 refine aR (fun a=>a.1.length - a.2.2.toNat) ?_
 rintro⟨ds,s,i⟩ K ⟨h1,h2,h3⟩ ho
 simp only at h1 h2 h3
 rw[show(LV κ).P=Pr κ from rfl]
 refine Eq.mpr (WR κ ds s i _ _ K) ?_
 simp only[aP] at h1
 simp only[En,Out.run,af] at ho
 simp only[af,au,aa0,aa2,aa1]
 refine⟨fun hi=>⟨⟨h2,hi⟩,?_⟩,fun hi=>?_⟩
 ·have hk:i.toNat<ds.length:=by omega
  rw[ab1 hk,←a8 ds i.toNat hk,km] at ho
  refine⟨fun e=>?_,fun e=>?_⟩
  ·rw[show lB (toStr (ad (nth ds i.toNat) 0)) s=true from e,aa7] at ho
   exact ho.1 (aa6 h2)
  ·rw[show lB (toStr (ad (nth ds i.toNat) 0)) s=false from e,aa5] at ho
   rw[a5 (n:=i+1) (by omega) (by omega)]
   refine⟨_,?_,(ds,s,i+1),rfl,⟨by simpa[aP] using h1,by simp only;omega,by simp only;omega⟩,rfl,?_⟩
   ·simp only;omega
   ·simp only[En,Out.run,af,show(i+1).toNat=i.toNat+1 by omega]
    exact ho
 ·rw[aa8 (by omega)] at ho
  exact ho.2 rfl
noncomputable def Pb(κ:Kp):Env:=(LV κ).aj I0 2 (aQ 1 Qz JE En)
theorem ZM(κ:Kp):aC (Pb κ):=(Wt κ).aj (S8 κ) (Wa κ)
theorem Un(κ:Kp):ai (Pb κ):=(S8 κ).aj aG
theorem ZS(κ:Kp)(ds:List AV)(s:ByteArray)(K:AV->List Dn.Obj->Prop):(bg (Pb κ) 12 60 [.ae 62 ds, .lit (.string s)] [] K)=(
 ag (Pg.toProgram (Env.P (LV κ))) I0 2=ag (Pg.toProgram (Env.P (LV κ))) I0 2/\∃(a:List AV×ByteArray×Int),sp 19 [(0,AV.ae 62 ds),(1,
 AV.bP 94 [AV.ptr 0 0 [] 0]),(7,AV.int (↑(ds.length):Int)),(8,AV.int 0)] [Obj.box 9 (AV.str s)]=sp 19 [(0,AV.ae 62 a.1),(1,AV.bP 94 [AV.ptr 0 0 []
 0]),(7,AV.int (↑(a.1.length):Int)),(8,AV.int a.2.2)] [Obj.box 9 (AV.str a.2.1)]/\(a.1.length<=9223372036854775807/\(0:Int)<=a.2.2/\a.2.2<=
 (↑(a.1.length):Int))/\ax (decide ((0:Int)<=km a.2.1 (List.drop (Int.toNat a.2.2) a.1) a.2.2)) (K (AV.bp [AV.int (if(0:Int)>km a.2.1
 (List.drop (Int.toNat a.2.2) a.1) a.2.2 then(0:Int) else km a.2.1 (List.drop (Int.toNat a.2.2) a.1) a.2.2),AV.bool (decide (km a.2.1 (List.drop
 (Int.toNat a.2.2) a.1) a.2.2>=(0:Int)))]) []) (K (AV.bp [AV.int 0,AV.bool false]) [])):=by kernel_rfl
def de(s:ByteArray)(ds:List AV):Int:=bif decide (0<=km s ds 0) then km s ds 0 else 0
def zL(s:ByteArray)(ds:List AV):Bool:=decide (0<=km s ds 0)
def Mh(a:List AV×ByteArray):List AV×List Dn.Obj:=([.ae 62 a.1, .lit (.string a.2)],[])
def iJ(a:List AV×ByteArray):Prop:=a.1.length<=aP
def Ci(a:List AV×ByteArray):Out (AV×List Dn.Obj):= .one (.bp [.int (de a.2 a.1), .bool (zL a.2 a.1)],[])
theorem XV(κ:Kp):bz (Pb κ) 12 60 (aZ Mh iJ Ci):=by
 refine bh ?_
 rintro⟨ds,s⟩ K h1 ho
 refine Eq.mpr (ZS κ ds s K) ?_
 simp only[Ci,Out.run,de,zL] at ho
 refine⟨rfl,(ds,s,0),rfl,⟨h1,by simp only;omega,by simp only;omega⟩,?_⟩
 simp only[ab7,ab0]
 rw[af]
 refine⟨fun e=>?_,fun e=>?_⟩
 ·rw[e,aa7] at ho
  rw[aa0] at e
  rw[if_neg (by omega),aa6 (show km s ds 0>=0 from e)]
  exact ho
 ·rw[e,aa5] at ho
  exact ho
noncomputable def Oo(κ:Kp):Env:=(Pb κ).aw 60 (aZ Mh iJ Ci)
theorem ZI(κ:Kp):aC (Oo κ):=(ZM κ).aw (Un κ) (XV κ)
theorem Uk(κ:Kp):ai (Oo κ):=(Un κ).aw aI
structure iy where
 ds:List AV
 es:List (Value×AV)
 more:Bool
abbrev bE(a:iy):List Dn.Obj:=[.box 133 (.agg [.ae 62 a.ds, .mp 1, .bool a.more]), .map 9 3 a.es]
abbrev Bi:AV:= .ptr 0 0 [] 0
theorem yOf(κ:Kp)(a:iy)(t:AT)(K:AV->List Dn.Obj->Prop):(bg (Oo κ) 12 157 [Bi,dh t] (bE a) K)=(
 ax (t.op==(1:Int)) (K (AV.int (toInt (cM a.es (Value.string t.s) (AV.int 0)))) (bE a)) (ax (t.op==(3:Int)) (K (AV.int 2) (bE a)) (ax (t.op==(4:Int))
 (K (AV.int 0) (bE a)) (K (AV.int 1) (bE a))))):=by kernel_rfl
def Pk(x:iy×AT):List AV×List Dn.Obj:=([Bi,dh x.2],bE x.1)
def Hb(_:iy×AT):Prop:=True
def JF(x:iy×AT):Out (AV×List Dn.Obj):= .one (.int (bw getM x.2.tm x.1.es),bE x.1)
theorem XX(κ:Kp):bz (Oo κ) 12 157 (aZ Pk Hb JF):=by
 refine bh ?_
 rintro⟨a,t⟩ K _ ho
 refine Eq.mpr (yOf κ a t K) ?_
 simp only[JF,Out.run] at ho
 have e:bw getM t.tm a.es=bif decide (t.op=1) then getM a.es t.s else bif decide (t.op=3) then 2 else bif decide (t.op=4) then 0 else 1:=rfl
 rw[e] at ho
 simp only[MO]
 cases h1:decide (t.op=1) with
 |true=>rw[h1] at ho;exact ho
 | false=>
  rw[h1] at ho
  cases h3:decide (t.op=3) with
  |true=>rw[h3] at ho;exact ho
  |false=>
   rw[h3] at ho
   cases h4:decide (t.op=4) with
   |true=>rw[h4] at ho;exact ho
   |false=>rw[h4] at ho;exact ho
noncomputable def QY(κ:Kp):Env:=(Oo κ).aw 157 (aZ Pk Hb JF)
theorem TX(κ:Kp):aC (QY κ):=(ZI κ).aw (Uk κ) (XX κ)
theorem U6(κ:Kp):ai (QY κ):=(Uk κ).aw aI
structure od where
 a:iy
 t:AT
 k:Int
def aK(a:iy)(t:AT)(k:Int):Bool×(List (Value×AV)×Bool):=t.tm.want getM ft k (a.es,a.more)
def dp(a:iy)(r:List (Value×AV)×Bool):iy:=⟨a.ds,r.1,r.2⟩
def fX(b:Bool):Int:=bif b then 53 else 0
def Ns(x:od):List AV×List Dn.Obj:=([Bi,dh x.t, .int x.k],bE x.a)
def Nk(n:Nat)(x:od):Prop:=x.t.tm.oT=n/\n<=100000
noncomputable def Da(κ:Kp)(x:od):Out (AV×List Dn.Obj):= .one (.lit (aX κ (fX (aK x.a x.t x.k).1)),bE (dp x.a (aK x.a x.t x.k).2))
noncomputable def Hd(κ:Kp)(n:Nat):cX:=aZ Ns (Nk n) (Da κ)
noncomputable def Ly(κ:Kp)(r:Nat):Env:=(QY κ).aw 156 fun args st K=>∃m,m<r/\Hd κ m args st K
theorem xWt(κ:Kp)(r:Nat)(a:iy)(t:AT)(k:Int)(i:Int)(I:Nat->S->Prop)(n:Nat)(K:Exit->S->Prop):(vc (Ly κ r) 12 156 none 2 (ag (Pr κ).toProgram 156 2) (sp 56 [(0,Bi),(2, .int k),(4, .ptr 2 0 [] 0),(12, .ae 52 t.l),(13, .int t.l.length),(14, .int i)] (bE a++[.box 52 (dh t)])) (bI (Ly κ r) 156 2 2 I n K))=(
 letI z1:=nth t.l i.toNat
 letI z2:=i<(↑(t.l.length):Int)
 ax (decide z2) (aO (decide ((0:Int)<=i)&&decide z2) (∃(e2:Nat),e2<r/\∃(e1:od),([AV.ptr 0 0 [] 0,AV.agg [AV.int (toInt (ad z1 0)),AV.str (toStr
 (ad z1 1)),AV.int (toInt (ad z1 2)),AV.ae 52 (ah (ad z1 3))],AV.int 1],(bE a))=([AV.ptr 0 0 [] 0,dh e1.t,AV.int e1.k],(bE e1.a))/\(Tm.oT (AT.tm e1.t)
 =e2/\e2<=100000)/\aO (aD (aX κ (fX (Prod.fst (aK e1.a e1.t e1.k))))) (ax (!bD (aX κ (fX (Prod.fst (aK e1.a e1.t e1.k))))) (K Exit.ret (sp 56 [(6,AV.lit (aX
 κ (fX (Prod.fst (aK e1.a e1.t e1.k)))))] (bE (dp e1.a (Prod.snd (aK e1.a e1.t e1.k)))))) (∃(e0:Nat),e0<n/\I e0 (sp 56 [(0,AV.ptr 0 0 [] 0),(2,AV.int
 k),(4,AV.ptr 2 0 [] 0),(12,AV.ae 52 t.l),(13,AV.int (↑(t.l.length):Int)),(14,AV.int (IntKind.wrap IntKind.i64 (i+(1:Int))))] [Obj.box 133 (AV.agg
 [AV.ae 62 (iy.ds (dp e1.a (Prod.snd (aK e1.a e1.t e1.k)))),AV.mp 1,AV.bool (iy.more (dp e1.a (Prod.snd (aK e1.a e1.t e1.k))))]),Dn.Obj.map 9 3 (iy.es (dp
 e1.a (Prod.snd (aK e1.a e1.t e1.k)))),Obj.box 52 (dh t)]))))) (K (Exit.exit 0) (sp 56 [(0,AV.ptr 0 0 [] 0),(2,AV.int k),(4,AV.ptr 2 0 [] 0)] [Obj.box 133
 (AV.agg [AV.ae 62 a.ds,AV.mp 1,AV.bool a.more]),Dn.Obj.map 9 3 a.es,Obj.box 52 (dh t)]))):=by kernel_rfl
abbrev OE:=od×Int
abbrev OM(x:OE):S:=sp 56 [(0,Bi),(2, .int x.1.k),(4, .ptr 2 0 [] 0),(12, .ae 52 x.1.t.l),(13, .int x.1.t.l.length),(14, .int x.2)] (bE x.1.a++[.box 52 (dh x.1.t)])
def Jh(r:Nat)(x:OE):Prop:=x.1.t.l.length<=aP/\0<=x.2/\x.2<=x.1.t.l.length/\aM (aa (x.1.t.l.drop x.2.toNat))<r/\aM (aa (x.1.t.l.drop x.2.toNat))<=100000
def fl(x:OE):Bool×(List (Value×AV)×Bool):=gR getM ft (aa (x.1.t.l.drop x.2.toNat)) (x.1.a.es,x.1.a.more)
noncomputable def EN(κ:Kp)(x:OE):Out (Exit×S):= .ax (fl x).1 (.one (.ret,sp 56 [(6, .lit (aX κ 53))] (bE (dp x.1.a (fl x).2))))
 (.one (.exit 0,sp 56 [(0,Bi),(2, .int x.1.k),(4, .ptr 2 0 [] 0)] (bE (dp x.1.a (fl x).2)++[.box 52 (dh x.1.t)])))
theorem yk(b:Bool):decide (fX b=0)= !b:=by cases b<;>rfl
theorem lWt(κ:Kp)(r:Nat):bn (Ly κ r) 12 156 2 (aQ 2 OM (Jh r) (EN κ)):=by
 refine aR (fun x=>x.1.t.l.length - x.2.toNat) ?_
 rintro⟨⟨a,t,k⟩,i⟩ K ⟨h1,h2,h3,h4,h5⟩ ho
 simp only at h1 h2 h3 h4 h5
 rw[show(Ly κ r).P=Pr κ from rfl]
 refine Eq.mpr (xWt κ r a t k i _ _ K) ?_
 simp only[aP] at h1
 simp only[EN,Out.run,af] at ho
 rw[af,aa0,aa2]
 refine⟨fun hi=>?_,fun hi=>?_⟩
 ·have hk:i.toNat<t.l.length:=by omega
  have e:=dS t.l i.toNat hk
  have hw:fl (⟨a,t,k⟩,i)=bif (aK a (Eu (nth t.l i.toNat)) 1).1 then aK a (Eu (nth t.l i.toNat)) 1 else fl (⟨dp a (aK a (Eu (nth t.l i.toNat)) 1).2,t,k⟩,i+1):=by
   unfold fl aK
   simp only[show(i+1).toNat=i.toNat+1 by omega]
   rw[e,gR,vl];rfl
  rw[e,aM] at h4 h5
  rw[hw] at ho
  rw[au,aa1,aa0,aa0]
  refine⟨⟨h2,hi⟩,(cG (nth t.l i.toNat)).oT,by omega,⟨a,Eu (nth t.l i.toNat),1⟩,rfl,⟨by rw[vl],by omega⟩,?_⟩
  rw[au]
  refine⟨ck _ _,?_⟩
  rw[iz,yk,Bool.not_not,af]
  refine⟨fun e1=>?_,fun e1=>?_⟩
  ·simp only[e1,aa7] at ho⊢
   exact ho.1 trivial
  ·simp only[e1,aa5] at ho
   rw[a5 (n:=i+1) (by omega) (by omega)]
   refine⟨_,?_,(⟨dp a (aK a (Eu (nth t.l i.toNat)) 1).2,t,k⟩,i+1),rfl,⟨by simpa[aP] using h1,by simp only;omega,by simp only;omega,?_,?_⟩,rfl,?_⟩
   ·simp only;omega
   ·simp only[show(i+1).toNat=i.toNat+1 by omega];omega
   ·simp only[show(i+1).toNat=i.toNat+1 by omega];omega
   ·simp only[EN,Out.run,af]
    exact ho
 ·have hw:fl (⟨a,t,k⟩,i)=(false,(a.es,a.more)):=by
   unfold fl
   simp only
   rw[aa8 (by omega)];rfl
  rw[hw] at ho
  exact ho.2 rfl
noncomputable def Og(κ:Kp)(r:Nat):Env:=(Ly κ r).aj 156 2 (aQ 2 OM (Jh r) (EN κ))
theorem YU(κ:Kp)(r:Nat)(a:iy)(t:AT)(k:Int)(K:AV->List Dn.Obj->Prop):(bg (Og κ r) 12 156 [Bi,dh t, .int k] (bE a) K)=(
 letI z1:=AV.lit Value.nilIface
 letI z2:=Pg.toProgram (Env.P (Ly κ r))
 ag z2 156 2=ag z2 156 2/\∃(e1:OE),sp 56 [(0,AV.ptr 0 0 [] 0),(2,AV.int k),(4,AV.ptr 2 0 [] 0),(12,AV.ae 52 t.l),(13,AV.int (↑(t.l.length):
 Int)),(14,AV.int 0)] [Obj.box 133 (AV.agg [AV.ae 62 a.ds,AV.mp 1,AV.bool a.more]),Dn.Obj.map 9 3 a.es,Obj.box 52 (dh t)]=sp 56 [(0,AV.ptr 0 0 [] 0),
 (2,AV.int e1.1.k),(4,AV.ptr 2 0 [] 0),(12,AV.ae 52 e1.1.t.l),(13,AV.int (↑(List.length e1.1.t.l):Int)),(14,AV.int e1.2)] [Obj.box 133 (AV.agg [AV.ae
 62 e1.1.a.ds,AV.mp 1,AV.bool e1.1.a.more]),Dn.Obj.map 9 3 e1.1.a.es,Obj.box 52 (dh e1.1.t)]/\(List.length e1.1.t.l<=9223372036854775807/\(0:Int)<=e1.2
 /\e1.2<=(↑(List.length e1.1.t.l):Int)/\aM (aa (List.drop e1.2.toNat e1.1.t.l))<r/\aM (aa (List.drop e1.2.toNat e1.1.t.l))<=100000)/\ax (Prod.fst (fl
 e1)) (K (AV.lit (Value.iface 189 (Value.pointer (some (L1 κ (53:Int)))))) (bE (dp e1.1.a (Prod.snd (fl e1))))) (∃(e0:iy×AT),([AV.ptr 0 0 [] 0,dh
 e1.1.t],(bE (dp e1.1.a (Prod.snd (fl e1)))))=([AV.ptr 0 0 [] 0,dh e0.2],(bE e0.1))/\True/\ax (e1.1.k==(0:Int)) (K z1 (bE e0.1)) (ax (e1.1.t.op==(4
 :Int)) (K z1 (bE e0.1)) (ax (bw getM (AT.tm e0.2) e0.1.es==(0:Int)) (K z1 [Obj.box 133 (AV.agg [AV.ae 62 e0.1.ds,AV.mp 1,AV.bool true]),Dn.Obj.map 9 3
 (eh (eh e0.1.es (Value.string e1.1.t.s) (AV.int (toInt (cM e0.1.es (Value.string e1.1.t.s) (AV.int 0))))) (Value.string e1.1.t.s) (AV.int e1.1.k))]) (ax (bw
 getM (AT.tm e0.2) e0.1.es != e1.1.k) (K (AV.lit (Value.iface 189 (Value.pointer (some (Kp.type κ))))) (bE e0.1)) (K z1 (bE e0.1))))))):=by kernel_rfl
theorem E4(s:ByteArray)(v w:AV): ∀es:List (Value×AV),eh (eh es (.string s) v) (.string s) w=eh es (.string s) w
 |[]=>by simp[eh,cD]
 |(k',a')::es=>by
  rw[eh,eh]
  cases h:cD (.string s) k' with
  |true=>simp[eh,cD]
  |false=>simp only[aa5,eh,h,E4 s v w es]
theorem Gh(κ:Kp)(n:Nat):(Hd κ n).jI:=aI
theorem eYr(κ:Kp)(r:Nat)(hp: ∀args st K,(∃m,m<r/\Hd κ m args st K)->dj (Pr κ) 156 args st K):aC (Og κ r)/\ai (Og κ r)/\(Og κ r).P=Pr κ:=
 have h:aC (Ly κ r):=(TX κ).me hp
 have hm:ai (Ly κ r):=(U6 κ).aw (fun _ _ _ _ hK ⟨m,h1,h2⟩=>⟨m,h1,Gh κ m _ _ _ _ hK h2⟩)
 ⟨h.aj hm (lWt κ r),hm.aj aG,rfl⟩
theorem Xp(κ:Kp)(r:Nat):bz (Og κ r) 12 156 (Hd κ r):=by
 refine bh ?_
 rintro⟨a,t,k⟩ K ⟨h1,h2⟩ ho
 refine Eq.mpr (YU κ r a t k K) ?_
 simp only[Da,Out.run] at ho
 have e1:t.tm.oT=1+aM (aa t.l):=rfl
 have hl:=fJ (aa t.l)
 rw[eY] at hl
 simp only at h1
 refine⟨rfl,(⟨a,t,k⟩,0),rfl,⟨by simp only[aP];omega,by simp only;omega,by simp only;omega,by simp only[ab7,ab0];omega,by simp only[ab7,ab0];omega⟩,?_⟩
 have hw:aK a t k=bif (fl (⟨a,t,k⟩,0)).1 then fl (⟨a,t,k⟩,0) else bif decide (k=0)||decide (t.op=4) then(false,(fl (⟨a,t,k⟩,0)).2)
   else bif decide (bw getM t.tm (fl (⟨a,t,k⟩,0)).2.1=0) then(false,(ft (fl (⟨a,t,k⟩,0)).2.1 t.s k,true)) else(!decide (bw getM t.tm (fl (⟨a,t,k⟩,0)).2.1=k),(fl (⟨a,t,k⟩,0)).2):=by
  unfold aK fl
  rw[AT.tm,Tm.want];rfl
 rw[hw] at ho
 simp only[MO,GJ]
 cases hd:(fl (⟨a,t,k⟩,0)).1 with
 |true=>
  rw[hd,aa7,hd] at ho
  exact ho
 | false=>
  rw[hd,aa5] at ho
  refine⟨(dp a (fl (⟨a,t,k⟩,0)).2,t),rfl,trivial,?_⟩
  cases hk:decide (k=0) with
  |true=>rw[hk] at ho;exact ho
  | false=>
   rw[hk] at ho
   cases h4:decide (t.op=4) with
   |true=>rw[h4] at ho;exact ho
   | false=>
    rw[h4] at ho
    rw[show(false||false)=false from rfl,aa5] at ho
    have ht:bw getM t.tm (dp a (fl (⟨a,t,k⟩,0)).2).es=bw getM t.tm (fl (⟨a,t,k⟩,0)).2.1:=rfl
    simp only[ht]
    cases h0:decide (bw getM t.tm (fl (⟨a,t,k⟩,0)).2.1=0) with
    |true=>
     rw[h0,aa7] at ho
     simp only[ax,E4]
     exact ho
    |false=>
     rw[h0,aa5] at ho
     cases hq:decide (bw getM t.tm (fl (⟨a,t,k⟩,0)).2.1=k) with
     |true=>rw[hq] at ho;exact ho
     |false=>rw[hq] at ho;exact ho
def cO(x:od):Prop:=x.t.tm.oT<=100000
theorem Wz(κ:Kp): ∀args st K,aZ Ns cO (Da κ) args st K->dj (Pr κ) 156 args st K:=by
 rintro args st K ⟨a,h1,h2,h3⟩
 exact aC.x0 (Hd κ) (Og κ) (eYr κ) (Xp κ) a.t.tm.oT args st K ⟨a,h1,⟨rfl,h2⟩,h3⟩
noncomputable def KI(κ:Kp):Env:=(QY κ).aw 156 (aZ Ns cO (Da κ))
theorem eYw(κ:Kp):aC (KI κ):=(TX κ).me (Wz κ)
theorem Tt(κ:Kp):ai (KI κ):=(U6 κ).aw aI
def NY(x:AV):Dc:=⟨toStr (ad x 0),(ah (ad x 2)).map toInt⟩
def cg(l:List AV):List Dc:=l.map NY
theorem tQ(s:ByteArray): ∀(ds:List AV) (i:Int),km s ds i=match ju s (cg ds) with|some k=>i+k|none=> -1
 |[],i=>rfl
 | d::ds,i=>by
  have ih:=tQ s ds (i+1)
  rw[km,ih,show cg (d::ds)=NY d::cg ds from rfl,ju,show(NY d).rel=toStr (ad d 0) from rfl]
  cases lB (toStr (ad d 0)) s with
  |true=>simp
  | false=>
   rw[aa5,aa5]
   cases ju s (cg ds) with
   |none=>rfl
    |some k=>show i+1+(k:Int)=i+((k+1:Nat):Int);omega
theorem zE(s:ByteArray): ∀(ds:List Dc) (k:Nat),ju s ds=some k->k<ds.length
 |[],_,h=>by cases h
 | d::ds,k,h=>by
  rw[ju] at h
  cases e:lB d.rel s with
  |true=>rw[e,aa7] at h;cases h;simp
  | false=>
   rw[e,aa5] at h
   cases h2:ju s ds with
   |none=>rw[h2] at h;cases h
   |some j=>
    rw[h2] at h;cases h
    have:=zE s ds j h2
    simp only[List.length_cons];omega
theorem uR{s:ByteArray}{ds:List AV}(h:ju s (cg ds)=none):zL s ds=false/\de s ds=0:=by
 have e:=tQ s ds 0
 rw[h] at e
 unfold zL de
 rw[e];exact⟨rfl,rfl⟩
theorem qc{s:ByteArray}{ds:List AV}{k:Nat}(h:ju s (cg ds)=some k):zL s ds=true/\de s ds=k/\k<ds.length:=by
 have e:=tQ s ds 0
 rw[h] at e
 simp only[Int.zero_add] at e
 have h1:=zE s _ k h
 unfold zL de
 rw[e,aa6 (show(0:Int)<=k by omega)]
 exact⟨rfl,rfl,by simpa[cg] using h1⟩
def kZ(ds:List AV)(i:Int):List Int:=(ah (ad (nth ds i.toNat) 2)).map toInt
theorem zx{s:ByteArray}{ds:List AV}{k:Nat}(h:ju s (cg ds)=some k):b9 (cg ds) s=kZ ds k:=by
 obtain⟨_,_,h2⟩:=qc h
 unfold b9 kZ
 rw[h,Int.toNat_natCast,a8 _ _ h2]
 simp only[cg]
 rw[List.getD_eq_getElem?_getD,List.getElem?_map,ab6 h2]
 rfl
theorem F0(ds:List AV)(rel:ByteArray)(l:List AV):known (cg ds) ⟨rel,aa l⟩=bif zL rel ds then(bif decide ((kZ ds (de rel ds)).length=l.length) then 0 else 52) else 51:=by
 unfold known
 simp only
 cases h:ju rel (cg ds) with
 |none=>rw[(uR h).1];rfl
 |some k=>
  obtain⟨h1,h2,_⟩:=qc h
  rw[h1,h2,zx h,eY];rfl
theorem Lx{ds:List AV}{i:Int}{k:Nat}(h:k<(kZ ds i).length):(kZ ds i).drop k=toInt (nth (ah (ad (nth ds i.toNat) 2)) k)::(kZ ds i).drop (k+1):=by
 rw[ab1 h]
 have h':k<(ah (ad (nth ds i.toNat) 2)).length:=by simpa[kZ] using h
 rw[a8 _ _ h']
 simp[kZ]
structure Od where
 a:iy
 fi:Int
 l:List AV
 k:Int
abbrev NP(x:Od):S:=sp 65 [(0,Bi),(5, .int x.fi),(40, .ae 52 x.l),(41, .int x.l.length),(42, .int x.k)] (bE x.a)
theorem Zi(κ:Kp)(x:Od)(I:Nat->S->Prop)(n:Nat)(K:Exit->S->Prop):(vc (KI κ) 12 133 none 2 (ag (Pr κ).toProgram 133 7) (NP x) (bI (KI κ) 133 7 2 I n K))=(
 letI z1:=nth x.l x.k.toNat
 letI z2:=ah (ad (nth x.a.ds x.fi.toNat) 2)
 letI z3:=x.k<(↑(x.l.length):Int)
 ax (decide z3) (aO (decide ((0:Int)<=x.k)&&decide z3) (aO (decide ((0:Int)<=x.fi)&&decide (x.fi<(↑(List.length x.a.ds):Int))) (aO (decide ((0:
 Int)<=x.k)&&decide (x.k<(↑(List.length z2):Int))) (∃(e1:od),([AV.ptr 0 0 [] 0,AV.agg [AV.int (toInt (ad z1 0)),AV.str (toStr (ad z1 1)),AV.int
 (toInt (ad z1 2)),AV.ae 52 (ah (ad z1 3))],AV.int (toInt (nth z2 x.k.toNat))],(bE x.a))=([AV.ptr 0 0 [] 0,dh e1.t,AV.int e1.k],(bE e1.a))/\cO e1/\aO
 (aD (aX κ (fX (Prod.fst (aK e1.a e1.t e1.k))))) (ax (!bD (aX κ (fX (Prod.fst (aK e1.a e1.t e1.k))))) (K Exit.ret (sp 65 [(4,AV.lit (aX κ (fX (Prod.fst (aK e1.a
 e1.t e1.k)))))] (bE (dp e1.a (Prod.snd (aK e1.a e1.t e1.k)))))) (∃(e0:Nat),e0<n/\I e0 (sp 65 [(0,AV.ptr 0 0 [] 0),(5,AV.int x.fi),(40,AV.ae 52 x.l),
 (41,AV.int (↑(x.l.length):Int)),(42,AV.int (IntKind.wrap IntKind.i64 (x.k+(1:Int))))] (bE (dp e1.a (Prod.snd (aK e1.a e1.t e1.k))))))))))) (K
 (Exit.exit 1) (sp 65 [] (bE x.a)))):=by kernel_rfl
def iw(x:Od):Bool×(List (Value×AV)×Bool):=gM getM ft ((kZ x.a.ds x.fi).drop x.k.toNat) (aa (x.l.drop x.k.toNat)) (x.a.es,x.a.more)
def Js(x:Od):Prop:=0<=x.fi/\x.fi<x.a.ds.length/\(kZ x.a.ds x.fi).length=x.l.length/\x.l.length<=aP/\0<=x.k/\x.k<=x.l.length/\aM (aa (x.l.drop x.k.toNat))<=100000
noncomputable def EP(κ:Kp)(x:Od):Out (Exit×S):= .ax (iw x).1 (.one (.ret,sp 65 [(4, .lit (aX κ 53))] (bE (dp x.a (iw x).2)))) (.one (.exit 1,sp 65 [] (bE (dp x.a (iw x).2))))
theorem lAt(κ:Kp):bn (KI κ) 12 133 7 (aQ 2 NP Js (EP κ)):=by
 refine aR (fun x=>x.l.length - x.k.toNat) ?_
 rintro⟨a,fi,l,k⟩ K ⟨h1,h2,h3,h4,h5,h6,h7⟩ ho
 simp only at h1 h2 h3 h4 h5 h6 h7
 rw[show(KI κ).P=Pr κ from rfl]
 refine Eq.mpr (Zi κ ⟨a,fi,l,k⟩ _ _ K) ?_
 simp only[aP] at h4
 simp only[EP,Out.run,af] at ho
 have hwl:(ah (ad (nth a.ds fi.toNat) 2)).length=(kZ a.ds fi).length:=by simp[kZ]
 rw[af,aa0,aa2]
 refine⟨fun hi=>?_,fun hi=>?_⟩
 ·simp only at hi
  have hk:k.toNat<l.length:=by omega
  have e:=dS l k.toNat hk
  have ew:=Lx (ds:=a.ds) (i:=fi) (k:=k.toNat) (by omega)
  have hw:iw ⟨a,fi,l,k⟩=bif (aK a (Eu (nth l k.toNat)) (toInt (nth (ah (ad (nth a.ds fi.toNat) 2)) k.toNat))).1 then aK a (Eu (nth l k.toNat)) (toInt (nth (ah (ad (nth a.ds fi.toNat) 2)) k.toNat)) else iw ⟨dp a (aK a (Eu (nth l k.toNat)) (toInt (nth (ah (ad (nth a.ds fi.toNat) 2)) k.toNat))).2,fi,l,k+1⟩:=by
   unfold iw aK
   simp only[show(k+1).toNat=k.toNat+1 by omega]
   rw[e,ew,gM,vl];rfl
  rw[e,aM] at h7
  rw[hw] at ho
  simp only[au,aa1,aa0,hwl]
  refine⟨⟨h5,hi⟩,⟨h1,h2⟩,⟨h5,by omega⟩,⟨a,Eu (nth l k.toNat),toInt (nth (ah (ad (nth a.ds fi.toNat) 2)) k.toNat)⟩,rfl,by show(Eu (nth l k.toNat)).tm.oT<=100000;rw[vl];omega,ck _ _,?_⟩
  rw[iz,yk,Bool.not_not,af]
  refine⟨fun e1=>?_,fun e1=>?_⟩
  ·simp only[e1,aa7] at ho⊢
   exact ho.1 trivial
  ·simp only[e1,aa5] at ho
   rw[a5 (n:=k+1) (by omega) (by omega)]
   refine⟨_,?_,⟨dp a (aK a (Eu (nth l k.toNat)) (toInt (nth (ah (ad (nth a.ds fi.toNat) 2)) k.toNat))).2,fi,l,k+1⟩,rfl,⟨h1,h2,h3,by simpa[aP] using h4,by simp only;omega,by simp only;omega,?_⟩,rfl,?_⟩
   ·simp only;omega
   ·simp only[show(k+1).toNat=k.toNat+1 by omega];omega
   ·simp only[EP,Out.run,af]
    exact ho
 ·simp only at hi
  have hw:iw ⟨a,fi,l,k⟩=(false,(a.es,a.more)):=by
   unfold iw
   simp only
   rw[aa8 (show l.length<=k.toNat by omega),aa8 (show(kZ a.ds fi).length<=k.toNat by omega)];rfl
  rw[hw] at ho
  exact ho.2 rfl
noncomputable def O8(κ:Kp):Env:=(KI κ).aj 133 7 (aQ 2 NP Js (EP κ))
theorem eYl(κ:Kp):aC (O8 κ):=(eYw κ).aj (Tt κ) (lAt κ)
theorem UO(κ:Kp):ai (O8 κ):=(Tt κ).aj aG
theorem YW(κ:Kp)(a:iy)(rel:ByteArray)(l:List AV)(K:AV->List Dn.Obj->Prop):(bg (O8 κ) 12 133 [Bi, .agg [.lit (.string rel), .ae 52 l]] (bE a) K)=(
 letI z1:=Pg.toProgram (Env.P (KI κ))
 ∃(e1:List AV×ByteArray),([AV.ae 62 a.ds,AV.str rel],aB)=([AV.ae 62 e1.1,AV.str e1.2],aB)/\iJ e1/\ax (!zL e1.2 e1.1) (K (AV.lit (Value.iface 189
 (Value.pointer (some (Kp.eU κ))))) (bE a)) (aO (decide ((0:Int)<=de e1.2 e1.1)&&decide (de e1.2 e1.1<(↑(a.ds.length):Int))) (ax ((↑(List.length (ah (ad
 (nth a.ds (Int.toNat (de e1.2 e1.1))) 2))):Int) != (↑(l.length):Int)) (K (AV.lit (Value.iface 189 (Value.pointer (some (Kp.arity κ))))) (bE a)) (ag z1 133 7
 =ag z1 133 7/\∃(e0:Od),sp 65 [(0,AV.ptr 0 0 [] 0),(5,AV.int (de e1.2 e1.1)),(40,AV.ae 52 l),(41,AV.int (↑(l.length):Int)),(42,AV.int 0)] (bE a)
 =sp 65 [(0,AV.ptr 0 0 [] 0),(5,AV.int e0.fi),(40,AV.ae 52 e0.l),(41,AV.int (↑(e0.l.length):Int)),(42,AV.int e0.k)] (bE e0.a)/\((0:Int)<=e0.fi/\
 e0.fi<(↑(List.length e0.a.ds):Int)/\List.length (kZ e0.a.ds e0.fi)=e0.l.length/\e0.l.length<=9223372036854775807/\(0:Int)<=e0.k/\e0.k<=
 (↑(e0.l.length):Int)/\aM (aa (List.drop e0.k.toNat e0.l))<=100000)/\ax (Prod.fst (iw e0)) (K (AV.lit (Value.iface 189 (Value.pointer (some (L1 κ (53:
 Int)))))) (bE (dp e0.a (Prod.snd (iw e0))))) (K (AV.lit Value.nilIface) (bE (dp e0.a (Prod.snd (iw e0))))))))):=by kernel_rfl
def db(a:iy)(rel:ByteArray)(l:List AV):Int×(List (Value×AV)×Bool):=dD getM ft (cg a.ds) ⟨rel,aa l⟩ (a.es,a.more)
abbrev ND:=iy×ByteArray×List AV
def PF(x:ND):List AV×List Dn.Obj:=([Bi, .agg [.lit (.string x.2.1), .ae 52 x.2.2]],bE x.1)
def Hn(x:ND):Prop:=x.1.ds.length<=aP/\aM (aa x.2.2)<=100000
noncomputable def II(κ:Kp)(x:ND):Out (AV×List Dn.Obj):= .one (.lit (aX κ (db x.1 x.2.1 x.2.2).1),bE (dp x.1 (db x.1 x.2.1 x.2.2).2))
theorem W9(κ:Kp):bz (O8 κ) 12 133 (aZ PF Hn (II κ)):=by
 refine bh ?_
 rintro⟨a,rel,l⟩ K ⟨h1,h2⟩ ho
 simp only at h1 h2
 refine Eq.mpr (YW κ a rel l K) ?_
 simp only[II,Out.run,db,dD,F0] at ho
 have hl:=fJ (aa l)
 rw[eY] at hl
 refine⟨(a.ds,rel),rfl,h1,?_⟩
 cases hf:ju rel (cg a.ds) with
 |none=>
  rw[(uR hf).1] at ho
  simp only[(uR hf).1]
  exact ho
 | some k=>
  obtain⟨e1,e2,e3⟩:=qc hf
  rw[e1,e2,zx hf] at ho
  have hwl:(ah (ad (nth a.ds (Int.toNat (k:Int))) 2)).length=(kZ a.ds k).length:=by simp[kZ]
  simp only[e1,e2,hwl,GJ]
  refine au.2 ⟨by simp;omega,?_⟩
  cases hq:decide ((kZ a.ds k).length=l.length) with
  |false=>
   rw[hq] at ho
   rw[aa2] at hq
   rw[aa4 (show ¬ (((kZ a.ds k).length:Int)=(l.length:Int)) by omega)]
   exact ho
  | true=>
   rw[hq] at ho
   rw[aa0] at hq
   rw[aa6 (show(((kZ a.ds k).length:Int)=(l.length:Int)) by omega)]
   refine⟨trivial,⟨a,k,l,0⟩,rfl,⟨by simp only;omega,by simp only;omega,hq,by simp only[aP];omega,by simp only;omega,by simp only;omega,by simp only[ab7,ab0];exact h2⟩,?_⟩
   have hd:iw ⟨a,k,l,0⟩=gM getM ft (kZ a.ds k) (aa l) (a.es,a.more):=by
    unfold iw;simp only[ab7,ab0]
   rw[hd]
   simp only[aa7,decide_true] at ho
   rw[af]
   refine⟨fun e=>by rw[e] at ho;exact ho,fun e=>by rw[e] at ho;exact ho⟩
noncomputable def PY(κ:Kp):Env:=(O8 κ).aw 133 (aZ PF Hn (II κ))
theorem VN(κ:Kp):aC (PY κ):=(eYl κ).aw (UO κ) (W9 κ)
theorem UN(κ:Kp):ai (PY κ):=(UO κ).aw aI
theorem Zs(κ:Kp)(a:iy)(op:Int)(rel:ByteArray)(l:List AV)(u v:AT)(K:AV->List Dn.Obj->Prop):(bg (PY κ) 12 134 [Bi, .agg [.int op, .agg [.lit (.string rel), .ae 52 l],dh u,dh v]] (bE a) K)=(
 letI z1:=∃(e3:iy×AT),([AV.ptr 0 0 [] 0,dh u],(bE a))=([AV.ptr 0 0 [] 0,dh e3.2],(bE e3.1))/\True/\∃(e2:iy×AT),([AV.ptr 0 0 [] 0,dh v],
  (bE e3.1))=([AV.ptr 0 0 [] 0,dh e2.2],(bE e2.1))/\True/\∃(e1:od),([AV.ptr 0 0 [] 0,dh u,AV.int (if bw getM (AT.tm e2.2) e2.1.es>bw getM (AT.tm
  e3.2) e3.1.es then bw getM (AT.tm e2.2) e2.1.es else bw getM (AT.tm e3.2) e3.1.es)],(bE e2.1))=([AV.ptr 0 0 [] 0,dh e1.t,AV.int e1.k],(bE e1.a))/\cO e1/\
  aO (aD (aX κ (fX (Prod.fst (aK e1.a e1.t e1.k))))) (ax (!bD (aX κ (fX (Prod.fst (aK e1.a e1.t e1.k))))) (K (AV.lit (aX κ (fX (Prod.fst (aK e1.a e1.t e1.k)))))
  (bE (dp e1.a (Prod.snd (aK e1.a e1.t e1.k))))) (∃(e0:od),([AV.ptr 0 0 [] 0,dh v,AV.int (if bw getM (AT.tm e2.2) e2.1.es>bw getM (AT.tm e3.2) e3.1.es
  then bw getM (AT.tm e2.2) e2.1.es else bw getM (AT.tm e3.2) e3.1.es)],(bE (dp e1.a (Prod.snd (aK e1.a e1.t e1.k)))))=([AV.ptr 0 0 [] 0,dh e0.t,AV.int
  e0.k],(bE e0.a))/\cO e0/\K (AV.lit (aX κ (fX (Prod.fst (aK e0.a e0.t e0.k))))) (bE (dp e0.a (Prod.snd (aK e0.a e0.t e0.k))))))
 letI z2:=∃(e0:ND),([AV.ptr 0 0 [] 0,AV.agg [AV.str rel,AV.ae 52 l]],(bE a))=([AV.ptr 0 0 [] 0,AV.agg [AV.str e0.2.1,AV.ae 52 e0.2.2]],(bE e0.1))/\
  (e0.1.ds.length<=9223372036854775807/\aM (aa e0.2.2)<=100000)/\K (AV.lit (aX κ (Prod.fst (db e0.1 e0.2.1 e0.2.2)))) (bE (dp e0.1 (Prod.snd (db e0.1 e0.2.1
  e0.2.2))))
 letI z3:=z1/\z1/\z1
 ax (op==(3:Int)) z3 (ax (op==(4:Int)) z3 (ax (op==(5:Int)) z3 (ax (op==(6:Int)) z3 (ax (op==(1:Int)) z2 (ax (op==(2:Int)) z2 (∃(e2:
 ND),([AV.ptr 0 0 [] 0,AV.agg [AV.str rel,AV.ae 52 l]],(bE a))=([AV.ptr 0 0 [] 0,AV.agg [AV.str e2.2.1,AV.ae 52 e2.2.2]],(bE e2.1))/\(e2.1.ds.length<=
 9223372036854775807/\aM (aa e2.2.2)<=100000)/\aO (aD (aX κ (Prod.fst (db e2.1 e2.2.1 e2.2.2)))) (ax (!bD (aX κ (Prod.fst (db e2.1 e2.2.1 e2.2.2)))) (K
 (AV.lit (aX κ (Prod.fst (db e2.1 e2.2.1 e2.2.2)))) (bE (dp e2.1 (Prod.snd (db e2.1 e2.2.1 e2.2.2))))) (∃(e1:od),([AV.ptr 0 0 [] 0,dh u,AV.int 1],(bE (dp
 e2.1 (Prod.snd (db e2.1 e2.2.1 e2.2.2)))))=([AV.ptr 0 0 [] 0,dh e1.t,AV.int e1.k],(bE e1.a))/\cO e1/\aO (aD (aX κ (fX (Prod.fst (aK e1.a e1.t e1.k)))))
 (ax (!bD (aX κ (fX (Prod.fst (aK e1.a e1.t e1.k))))) (K (AV.lit (aX κ (fX (Prod.fst (aK e1.a e1.t e1.k))))) (bE (dp e1.a (Prod.snd (aK e1.a e1.t e1.k))))) (ax
 (op==(7:Int)) (K (AV.lit (aX κ (fX (Prod.fst (aK e1.a e1.t e1.k))))) (bE (dp e1.a (Prod.snd (aK e1.a e1.t e1.k))))) (∃(e0:od),([AV.ptr 0 0 [] 0,dh v,
 AV.int 1],(bE (dp e1.a (Prod.snd (aK e1.a e1.t e1.k)))))=([AV.ptr 0 0 [] 0,dh e0.t,AV.int e0.k],(bE e0.a))/\cO e0/\K (AV.lit (aX κ (fX (Prod.fst (aK
 e0.a e0.t e0.k))))) (bE (dp e0.a (Prod.snd (aK e0.a e0.t e0.k)))))))))))))))):=by kernel_rfl
structure DF where
 a:iy
 op:Int
 rel:ByteArray
 l:List AV
 u:AT
 v:AT
def DF.lt(x:DF):Lt:=⟨x.op,⟨x.rel,aa x.l⟩,x.u.tm,x.v.tm⟩
def bJ(x:DF):Int×(List (Value×AV)×Bool):=jB getM ft (cg x.a.ds) x.lt (x.a.es,x.a.more)
def QF(x:DF):List AV×List Dn.Obj:=([Bi, .agg [.int x.op, .agg [.lit (.string x.rel), .ae 52 x.l],dh x.u,dh x.v]],bE x.a)
def IN(x:DF):Prop:=x.a.ds.length<=aP/\iR x.lt<=100000
noncomputable def MU(κ:Kp)(x:DF):Out (AV×List Dn.Obj):= .one (.lit (aX κ (bJ x).1),bE (dp x.a (bJ x).2))
def kd(a:iy)(u v:AT):Int:=if bw getM v.tm a.es>bw getM u.tm a.es then bw getM v.tm a.es else bw getM u.tm a.es
theorem O1(x:DF):jW getM x.lt x.a.es=kd x.a x.u x.v:=by
 unfold jW kd
 show(bif decide (bw getM x.v.tm x.a.es>bw getM x.u.tm x.a.es) then _ else _)=_
 by_cases h:bw getM x.v.tm x.a.es>bw getM x.u.tm x.a.es
 ·rw[aa6 h,if_pos h];rfl
 ·rw[aa4 h,if_neg h];rfl
theorem yd(κ:Kp)(b:Bool):(!bD (aX κ (fX b)))=b:=by rw[iz,yk,Bool.not_not]
theorem cLi(κ:Kp):bz (PY κ) 12 134 (aZ QF IN (MU κ)):=by
 refine bh ?_
 rintro⟨a,op,rel,l,u,v⟩ K ⟨h1,h2⟩ ho
 simp only at h1
 refine Eq.mpr (Zs κ a op rel l u v K) ?_
 have ho:K (.lit (aX κ (bJ ⟨a,op,rel,l,u,v⟩).1)) (bE (dp a (bJ ⟨a,op,rel,l,u,v⟩).2)):=ho
 have h2:aM [u.tm,v.tm]+aM (aa l)<=100000:=h2
 simp only[aM] at h2
 have hu:cO ⟨a,u,kd a u v⟩:=by show u.tm.oT<=100000;omega
 have hv:cO ⟨dp a (aK a u (kd a u v)).2,v,kd a u v⟩:=by show v.tm.oT<=100000;omega
 have both:ff op=true->bJ ⟨a,op,rel,l,u,v⟩=j6 (aK a u (kd a u v)) (v.tm.want getM ft (kd a u v)):=fun hc=>by
  unfold bJ jB
  rw[O1 ⟨a,op,rel,l,u,v⟩,show(DF.lt ⟨a,op,rel,l,u,v⟩).op=op from rfl,hc];rfl
 have c1:ff op=true->(!bD (aX κ (fX (aK a u (kd a u v)).1)))=true->K (.lit (aX κ (fX (aK a u (kd a u v)).1))) (bE (dp a (aK a u (kd a u v)).2)):=fun hc q=>by
  rw[yd] at q
  rw[both hc] at ho
  unfold j6 at ho
  rw[q] at ho⊢
  exact ho
 have c2:ff op=true->(!bD (aX κ (fX (aK a u (kd a u v)).1)))=false->K (.lit (aX κ (fX (aK (dp a (aK a u (kd a u v)).2) v (kd a u v)).1))) (bE (dp (dp a (aK a u (kd a u v)).2) (aK (dp a (aK a u (kd a u v)).2) v (kd a u v)).2)):=fun hc q=>by
  rw[yd] at q
  rw[both hc] at ho
  unfold j6 at ho
  rw[q] at ho
  exact ho
 have hat: ∀b:iy,b=a->(b.ds.length<=9223372036854775807/\aM (aa l)<=100000):=fun b hb=>by subst hb;exact⟨h1,by omega⟩
 have nc:ff op=false->(decide (op=1)||decide (op=2))=true->bJ ⟨a,op,rel,l,u,v⟩=db a rel l:=fun hc h12=>by
  unfold bJ jB
  rw[show(DF.lt ⟨a,op,rel,l,u,v⟩).op=op from rfl,hc,h12];rfl
 refine af.2 ⟨fun e=>by
   have hc:ff op=true:=(by rw[show op=3 from eq_of_beq e];rfl)
   exact⟨⟨(a,u),rfl,trivial,(a,v),rfl,trivial,⟨a,u,_⟩,rfl,hu,au.2 ⟨ck _ _,af.2 ⟨fun q=>c1 hc q,fun q=>⟨⟨_,v,_⟩,rfl,hv,c2 hc q⟩⟩⟩⟩,
    ⟨(a,u),rfl,trivial,(a,v),rfl,trivial,⟨a,u,_⟩,rfl,hu,au.2 ⟨ck _ _,af.2 ⟨fun q=>c1 hc q,fun q=>⟨⟨_,v,_⟩,rfl,hv,c2 hc q⟩⟩⟩⟩,
    ⟨(a,u),rfl,trivial,(a,v),rfl,trivial,⟨a,u,_⟩,rfl,hu,au.2 ⟨ck _ _,af.2 ⟨fun q=>c1 hc q,fun q=>⟨⟨_,v,_⟩,rfl,hv,c2 hc q⟩⟩⟩⟩⟩,fun e3=>af.2 ⟨fun e=>by
   have hc:ff op=true:=(by rw[show op=4 from eq_of_beq e];rfl)
   exact⟨⟨(a,u),rfl,trivial,(a,v),rfl,trivial,⟨a,u,_⟩,rfl,hu,au.2 ⟨ck _ _,af.2 ⟨fun q=>c1 hc q,fun q=>⟨⟨_,v,_⟩,rfl,hv,c2 hc q⟩⟩⟩⟩,
    ⟨(a,u),rfl,trivial,(a,v),rfl,trivial,⟨a,u,_⟩,rfl,hu,au.2 ⟨ck _ _,af.2 ⟨fun q=>c1 hc q,fun q=>⟨⟨_,v,_⟩,rfl,hv,c2 hc q⟩⟩⟩⟩,
    ⟨(a,u),rfl,trivial,(a,v),rfl,trivial,⟨a,u,_⟩,rfl,hu,au.2 ⟨ck _ _,af.2 ⟨fun q=>c1 hc q,fun q=>⟨⟨_,v,_⟩,rfl,hv,c2 hc q⟩⟩⟩⟩⟩,fun e4=>af.2 ⟨fun e=>by
   have hc:ff op=true:=(by rw[show op=5 from eq_of_beq e];rfl)
   exact⟨⟨(a,u),rfl,trivial,(a,v),rfl,trivial,⟨a,u,_⟩,rfl,hu,au.2 ⟨ck _ _,af.2 ⟨fun q=>c1 hc q,fun q=>⟨⟨_,v,_⟩,rfl,hv,c2 hc q⟩⟩⟩⟩,
    ⟨(a,u),rfl,trivial,(a,v),rfl,trivial,⟨a,u,_⟩,rfl,hu,au.2 ⟨ck _ _,af.2 ⟨fun q=>c1 hc q,fun q=>⟨⟨_,v,_⟩,rfl,hv,c2 hc q⟩⟩⟩⟩,
    ⟨(a,u),rfl,trivial,(a,v),rfl,trivial,⟨a,u,_⟩,rfl,hu,au.2 ⟨ck _ _,af.2 ⟨fun q=>c1 hc q,fun q=>⟨⟨_,v,_⟩,rfl,hv,c2 hc q⟩⟩⟩⟩⟩,fun e5=>af.2 ⟨fun e=>by
   have hc:ff op=true:=(by rw[show op=6 from eq_of_beq e];rfl)
   exact⟨⟨(a,u),rfl,trivial,(a,v),rfl,trivial,⟨a,u,_⟩,rfl,hu,au.2 ⟨ck _ _,af.2 ⟨fun q=>c1 hc q,fun q=>⟨⟨_,v,_⟩,rfl,hv,c2 hc q⟩⟩⟩⟩,
    ⟨(a,u),rfl,trivial,(a,v),rfl,trivial,⟨a,u,_⟩,rfl,hu,au.2 ⟨ck _ _,af.2 ⟨fun q=>c1 hc q,fun q=>⟨⟨_,v,_⟩,rfl,hv,c2 hc q⟩⟩⟩⟩,
    ⟨(a,u),rfl,trivial,(a,v),rfl,trivial,⟨a,u,_⟩,rfl,hu,au.2 ⟨ck _ _,af.2 ⟨fun q=>c1 hc q,fun q=>⟨⟨_,v,_⟩,rfl,hv,c2 hc q⟩⟩⟩⟩⟩,fun e6=>?_⟩⟩⟩⟩
 simp only[beq_eq_false_iff_ne] at e3 e4 e5 e6
 have hc:ff op=false:=by
  unfold ff
  rw[Bool.and_eq_false_iff,aa2,aa2];omega
 refine af.2 ⟨fun e=>⟨(a,rel,l),rfl,hat a rfl,?_⟩,fun e1=>af.2 ⟨fun e=>⟨(a,rel,l),rfl,hat a rfl,?_⟩,fun e2=>?_⟩⟩
 ·rw[nc hc (by rw[show op=1 by simpa using e];rfl)] at ho;exact ho
 ·rw[nc hc (by rw[show op=2 by simpa using e];rfl)] at ho;exact ho
 simp only[beq_eq_false_iff_ne] at e1 e2
 have hL:bJ ⟨a,op,rel,l,u,v⟩=bif !decide ((db a rel l).1=0) then db a rel l
   else bif decide (op=7) then(fX (aK (dp a (db a rel l).2) u 1).1,(aK (dp a (db a rel l).2) u 1).2)
   else j6 (aK (dp a (db a rel l).2) u 1) (v.tm.want getM ft 1):=by
  unfold bJ jB
  rw[show(DF.lt ⟨a,op,rel,l,u,v⟩).op=op from rfl,hc,aa4 e1,aa4 e2];rfl
 rw[hL] at ho
 refine⟨(a,rel,l),rfl,hat a rfl,au.2 ⟨ck _ _,?_⟩⟩
 rw[iz]
 refine af.2 ⟨fun q=>?_,fun q=>?_⟩
 ·rw[q] at ho;exact ho
 ·rw[q,aa5] at ho
  refine⟨⟨dp a (db a rel l).2,u,1⟩,rfl,by show u.tm.oT<=100000;omega,au.2 ⟨ck _ _,?_⟩⟩
  rw[yd]
  refine af.2 ⟨fun q1=>?_,fun q1=>af.2 ⟨fun q7=>?_,fun q7=>⟨⟨dp (dp a (db a rel l).2) (aK (dp a (db a rel l).2) u 1).2,v,1⟩,rfl,by show v.tm.oT<=100000;omega,?_⟩⟩⟩
  ·have q1:(aK (dp a (db a rel l).2) u 1).1=true:=q1
   unfold j6 at ho
   rw[q1] at ho
   simp only[q1]
   cases h7:decide (op=7)<;>rw[h7] at ho<;>exact ho
  ·rw[show decide (op=7)=true by simpa using q7] at ho
   exact ho
  ·have q1:(aK (dp a (db a rel l).2) u 1).1=false:=q1
   rw[show decide (op=7)=false by simpa using q7,aa5] at ho
   unfold j6 at ho
   rw[q1] at ho
   exact ho
noncomputable def Qh(κ:Kp):Env:=(PY κ).aw 134 (aZ QF IN (MU κ))
theorem eYt(κ:Kp):aC (Qh κ):=(VN κ).aw (UN κ) (cLi κ)
theorem T9(κ:Kp):ai (Qh κ):=(UN κ).aw aI
end Go.Proofs.YtdpmikfheebicaaGreatDoor
