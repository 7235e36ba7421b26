import Derived.Test.YtioeffnadipbaaaGreatDoorDeP5
namespace Go.Proofs.YtioeffnadipbaaaGreatDoor
open Go Go.Dn Go.Rl Go.Proofs Go.RowKit Go.Extern.Stop Go.Stop Go.Extern
def RJ(κ:Kp)(e:Int):=bif decide (e=51) then κ.fX else bif decide (e=52) then κ.arity else κ.type
def bf(κ:Kp)(e:Int):Value:=bif decide (e=0) then .nilIface else .iface 273 (.pointer (some (RJ κ e)))
def wJ(e:Int):=e=51\/e=52\/e=53
def jX(e:Int):Prop:=e=0\/wJ e
theorem cL κ e:aC (bf κ e)=true:=by unfold bf;cases decide (e=0)<;>rfl
theorem jG κ e:bM (bf κ e)=decide (e=0):=by unfold bf;cases decide (e=0)<;>rfl
theorem Lm κ{e k}(b:wJ e)(a:wJ k)(h:e≠k):RJ κ e≠RJ κ k:=by
 rcases b with rfl|rfl|rfl<;>rcases a with rfl|rfl|rfl<;>first|grind|exact κ.d1|exact κ.d2|exact κ.d3|exact κ.d1.symm|exact κ.d2.symm|exact κ.d3.symm
theorem PZ κ{e k}(a:jX e)(b:jX k):bf κ e=bf κ k↔e=k:=by
 rcases a with rfl|a
 ·grind [bf]
 ·have e0:decide (e=0)=false:=by rcases a with rfl|rfl|rfl<;>rfl
  rcases b with rfl|b
  ·grind [bf]
  grind [bf,Lm]
theorem G8 κ{e}(f:wJ e): ∃c t,za κ (RJ κ e).block=some (.cells c t (0,0)):=by
 have d: ∀b,(∀g,g∈[1,0,3,4,2]->b≠g)->b=κ.fX.block\/b=κ.arity.block\/b=κ.type.block->∃c t,za κ b=some (.cells c t (0,0)):=by
  intro b a h;unfold za;rw[td (a _ (by simp)),td (a 0 (by simp)),td (a 3 (by simp)),td (a 4 (by simp)),td (a 2 (by simp))];simp only[an7];cases k:Nat.beq b κ.fX.block with
  |true=>exact⟨_,_,rfl⟩
  | false=>
   rw[an7];cases i:Nat.beq b κ.arity.block with
   |true=>exact⟨_,_,rfl⟩
   |false=>
    rw[an7];cases j:Nat.beq b κ.type.block<;>grind [Nat.beq_refl]
 rcases f with rfl|rfl|rfl
 ·exact d _ κ.n3 (.inl rfl)
 ·exact d _ κ.n4 (.inr (.inl rfl))
 ·exact d _ κ.n5 (.inr (.inr rfl))
theorem Xx v a w:(Instr.typeAssert (.iface 273 v) a 259 true).run Tryz.prog w= .ok (.tuple #[.nilIface, .bool false]) w:=run_typeAssert_lacksB Tryz.underlying259 (by kernel_rfl) (by kernel_rfl) v _ w
theorem JE v a w:(Instr.typeAssert (.iface 273 v) a 261 true).run Tryz.prog w= .ok (.tuple #[.nilIface, .bool false]) w:=run_typeAssert_lacksB Tryz.underlying261 (by kernel_rfl) (by kernel_rfl) v _ w
theorem Fl v a w:(Instr.typeAssert (.iface 273 v) a 263 true).run Tryz.prog w= .ok (.tuple #[.nilIface, .bool false]) w:=run_typeAssert_lacksB Tryz.underlying263 (by kernel_rfl) (by kernel_rfl) v _ w
set_option maxRecDepth 8000 in
theorem L8(a b:Addr)(w:World)(hab:a≠b){ca cb:Array Value}{ta tb:TypeId}(ha:w.heap[a.block]? =some (.cells ca ta (0,0)))(hb:w.heap[b.block]? =some (.cells cb tb (0,0))):
  Calls Tryz.prog 108 #[.iface 273 (.pointer (some a)), .iface 273 (.pointer (some b))] w fun e w'=>e= .returned (.bool false)/\w'=w:=by
 obtain⟨i,hi,hcmp⟩:=Option.map_eq_some_iff.1 E3;obtain⟨j,hj,hjs⟩:=Option.map_eq_some_iff.1 E5;have h8:= @run_callFunc_extern Tryz.prog 157 _ Extern.ReflectliteType.typeOf Tryz.func157 (by kernel_rfl) (by kernel_rfl) (by kernel_rfl) (by kernel_rfl);have h32:= @run_callFunc_extern Tryz.prog 222 _ (Extern.ReflectliteType.method fun t=>do Go.Extern.Rtype.noPackHeld "Comparable" t;pure (.bool (←typeInfo t).comparable)) Tryz.func222 (by kernel_rfl) (by kernel_rfl) (by kernel_rfl) (by kernel_rfl);have tT:=wL;have cT:=nz;have mR:=iK;have hne:=run_eql_iface_ptr_other (P:=Tryz.prog) w Tryz.underlying171 Tryz.underlying273 hi hcmp hj (by omega) hab ha hb;have n1:=Xx;have n2:=JE;have n3:=Fl
 go_enter Tryz.func108,Tryz.ntmps108
 go_wp2
 refine wp_loop_rounds 1 ?_;rw[rounds_succ]
 go_wp2
 all_goals (go_ret;exact⟨rfl,rfl⟩)
open Classical in
noncomputable def lg(κ:Kp)(v:Value):Bool:=decide (∃e,jX e/\v=bf κ e)
open Classical in
noncomputable def mn(κ:Kp)(v:Value):Bool:=decide (∃e,wJ e/\v=bf κ e)
open Classical in
noncomputable def gV(v t:Value):Bool:=decide (v=t)
theorem xi κ v:lg κ v=true↔ ∃e,jX e/\v=bf κ e:=by grind [lg]
theorem CW κ v:mn κ v=true↔ ∃e,wJ e/\v=bf κ e:=by grind [mn]
theorem J3 v t:gV v t=true↔v=t:=by grind [gV]
theorem Be κ{e}(h:jX e):lg κ (bf κ e)=true:=(xi _ _).2 ⟨e,h,rfl⟩
theorem Bf κ{e}(h:wJ e):mn κ (bf κ e)=true:=(CW _ _).2 ⟨e,h,rfl⟩
theorem iH κ{e k}(b:jX e)(a:jX k):gV (bf κ e) (bf κ k)=decide (e=k):=by
 rw[Bool.eq_iff_iff,J3]
 grind [PZ]
noncomputable def TT(κ:Kp):List AV->Option (Bool×AV)
 |[.lit v, .lit t]=>some (lg κ v&&mn κ t, .bool (gV v t))
 |_=>none
theorem ai5 κ:fG (Pr κ) 108 (TT κ):=by
 intro i x v b;unfold TT at b;split at b
 ·simp only[an5,ao1,an3] at b
  obtain⟨⟨m,l⟩,rfl⟩:=b;obtain⟨e,a,rfl⟩:=(xi _ _).1 m;obtain⟨k,d,rfl⟩:=(CW _ _).1 l;have q:decide (k=0)=false:=by rcases d with rfl|rfl|rfl<;>rfl
  have c:bf κ k= .iface 273 (.pointer (some (RJ κ k))):=by unfold bf;rw[q];rfl
  refine⟨_,_,Tryz.func108,rfl,rfl,rfl,fun C u j g o=>?_⟩;rw[ye o,iH κ a (.inr d)];rcases a with rfl|a
  ·have e0:bf κ 0= .nilIface:=rfl
   rw[e0,c];refine(callsIn_wide.2 (L7 _ C.w)).mono ?_
   grind [ik.refl,decide_eq_false]
  ·have e0:decide (e=0)=false:=by rcases a with rfl|rfl|rfl<;>rfl
   have f:bf κ e= .iface 273 (.pointer (some (RJ κ e))):=by unfold bf;rw[e0];rfl
   rw[f,c];by_cases h:e=k
   ·subst h
    refine(callsIn_wide.2 (G6 _ C.w)).mono ?_;rintro e r ⟨rfl,rfl⟩;refine⟨?_,ik.refl _⟩;rw[an8 rfl]
   ·obtain⟨A,B,p⟩:=G8 κ a
    obtain⟨y,z,s⟩:=G8 κ d;have t:=(g.kept _ _ (by rw[j];exact p)).2;have n:=(g.kept _ _ (by rw[j];exact s)).2;refine(callsIn_wide.2 (L8 _ _ C.w (Lm κ a d h) t n)).mono ?_;rintro e r ⟨rfl,rfl⟩;refine⟨?_,ik.refl _⟩;rw[an6 h]
 ·cases b
noncomputable def Pu κ:=(E15 κ).aV 108 (TT κ)
theorem eIe κ:aF (Pu κ):=(e15 _).ej (ai5 _)
theorem mIe κ:aj (Pu κ):=(m15 _).aV
end Go.Proofs.YtioeffnadipbaaaGreatDoor
namespace Go.Proofs.YtioeffnadipbaaaGreatDoor
open Go Go.Dn Go.Rl Go.Proofs
attribute [local irreducible] a8 vc
set_option maxRecDepth 20000
structure SE where
 rel:ByteArray
 names:List AV
 types:List AV
 i:Bool
 o:Bool
 line:Int
abbrev RO(d:SE):AV:= .agg [.lit (.string d.rel), .ad 9 d.names, .ad 3 d.types, .bool d.i, .bool d.o, .int d.line]
def Ro t:=decide (toInt t=1)||decide (toInt t=2)
def Fo:List AV->List AV->Bool
 |n::b,t::a=>isName (toStr n)&&Ro t&&Fo b a
 |_,_=>true
def GG b a c:=isName b&& !decide (a.length=0)&&decide (a.length<=8)&&decide (c.length=a.length)&&Fo a c
def EK a:=GG (toStr (af a 0)) (aa (af a 1)) (aa (af a 2))
theorem JH{b a i}(d:i<b.length)(c:i<a.length):Fo (b.drop i) (a.drop i)=(isName (toStr (nth b i))&&Ro (nth a i)&&Fo (b.drop (i+1)) (a.drop (i+1))):=by
 grind [List.drop_eq_getElem_cons,Fo,aJ]
theorem xDc κ d i I n K:(vc (Pu κ) 12 94 none 0 (ah (Pr κ).toProgram 94 4) (sp 58 [(1, .ptr 0 0 [] 0),(31, .ad 9 d.names),(32, .int d.names.length),(33, .int i)] [.box 43 (RO d)]) (bh (Pu κ) 94 4 0 I n K))=(
 letI a:=∃(e0:Nat),e0<n/\I e0 (sp 58 [(1,AV.ptr 0 0 [] 0),(31,AV.ad 9 d.names),(32,AV.int (↑(d.names.length):Int)),(33,AV.int (IntKind.wrap
  IntKind.i64 (i+(1:Int))))] [Obj.box 43 (AV.agg [AV.str d.rel,AV.ad 9 d.names,AV.ad 3 d.types,AV.bool d.i,AV.bool d.o,AV.int d.line])])
 letI b:=decide ((0:Int)<=i)&&decide (i<(↑(d.types.length):Int))
 letI c:=K Exit.ret (sp 58 [(2,AV.bool false)] [])
 letI e:=i<(↑(d.names.length):Int)
 an (decide e) (aG (decide ((0:Int)<=i)&&decide e) (an (!isName (toStr (nth d.names i.toNat))) c (aG b (an (toInt (nth d.types i.toNat) != (1:Int))
 (aG b (an (toInt (nth d.types i.toNat) != (2:Int)) c a)) a)))) (K (Exit.exit 0) (sp 58 [] []))):=by kernel_rfl
abbrev Q6(a:SE×Int):=sp 58 [(1, .ptr 0 0 [] 0),(31, .ad 9 a.1.names),(32, .int a.1.names.length),(33, .int a.2)] [.box 43 (RO a.1)]
def FX(a:SE×Int):=a.1.types.length=a.1.names.length/\a.1.names.length<=8/\0<=a.2/\a.2<=a.1.names.length
def C7(a:SE×Int):Out (Exit×S):= .an (Fo (a.1.names.drop a.2.toNat) (a.1.types.drop a.2.toNat)) (.one (.exit 0,sp 58 [] [])) (.one (.ret,sp 58 [(2, .bool false)] []))
theorem lDc κ:aP (Pu κ) 12 94 4 (aI 0 Q6 FX C7):=by
 refine aD (fun a=>a.1.names.length - a.2.toNat) ?_;rintro⟨d,i⟩ K ⟨c,e,h,g⟩ b;simp only at c e h g;rw[show(Pu κ).P=Pr κ from rfl];refine Eq.mpr (xDc κ d i _ _ K) ?_;simp only[C7,Out.run,ag] at b;simp only[ag,ai,an2,an4,an3,Bool.not_eq_true',ao4,bne_iff_ne,bne_eq_false_iff_eq];refine⟨fun j=>?_,fun j=>?_⟩
 ·have k:i.toNat<d.names.length:=by omega
  rw[JH k (by omega)] at b;rw[ay (n:=i+1) (by omega) (by omega)];have o:Ro (nth d.types i.toNat)=true->isName (toStr (nth d.names i.toNat))=true->∃m,m<d.names.length - i.toNat/\gq Q6 FX C7 (fun a=>a.1.names.length - a.2.toNat) K m (Q6 (d,i+1)):=fun l f=>by
   rw[l,f,ao7,ao7] at b;refine⟨_,?_,(d,i+1),rfl,⟨c,e,by simp only;omega,by simp only;omega⟩,rfl,?_⟩
   ·simp only;omega
   ·simp only[C7,Out.run,ag,show(i+1).toNat=i.toNat+1 by omega]
    exact b
  simp_all[Ro,nth,an6,an8,Bool.or_true,Bool.true_or]
 ·rw[ao0 (by omega)] at b
  exact b.1 rfl
noncomputable def V9 κ:=(Pu κ).aq 94 4 (aI 0 Q6 FX C7)
theorem eDl κ:aF (V9 κ):=(eIe _).aq (mIe _) (lDc _)
theorem mDl κ:aj (V9 κ):=(mIe _).aq a0
theorem yDc κ d K:(a8 (V9 κ) 12 94 [RO d] [] K)=(
 letI a:=AV.int
 letI b:=AV.bool
 letI c:=AV.ad
 letI e:=K (b false) []
 letI f:=d.names.length
 letI g:=Pg.toProgram (Env.P (Pu κ))
 an (!isName d.rel) e (an ((↑f:Int)==(0:Int)) e (an (decide ((↑f:Int)>(8:Int))) e (an ((↑(d.types.length):Int) != (↑f:Int)) e (ah g 94 4
 =ah g 94 4/\∃(e0:SE×Int),sp 58 [(1,AV.ptr 0 0 [] 0),(31,c 9 d.names),(32,a (↑f:Int)),(33,a 0)] [Obj.box 43 (AV.agg [AV.str
 d.rel,c 9 d.names,c 3 d.types,b d.i,b d.o,a d.line])]=sp 58 [(1,AV.ptr 0 0 [] 0),(31,c 9 e0.1.names),(32,a
 (↑(e0.1.names.length):Int)),(33,a e0.2)] [Obj.box 43 (AV.agg [AV.str e0.1.rel,c 9 e0.1.names,c 3 e0.1.types,b e0.1.i,b e0.1.o,
 a e0.1.line])]/\(e0.1.types.length=e0.1.names.length/\e0.1.names.length<=8/\(0:Int)<=e0.2/\e0.2<=(↑(e0.1.names.length):Int))/\an (Fo
 (List.drop e0.2.toNat e0.1.names) (List.drop e0.2.toNat e0.1.types)) (K (b true) []) e))))):=by kernel_rfl
def gDc:List AV->Option (Bool×AV)
 |[.agg [.lit (.string a), .ad 9 b, .ad 3 c, .lit (.bool _), .lit (.bool _), .lit (.int .i64 _)]]=>some (true, .bool (GG a b c))
 |_=>none
theorem pDc κ:cg (V9 κ) 12 94 gDc:=by
 intro h x d;unfold gDc at d;split at d
 ·rename_i c b f j i a
  simp only[an5,ao1,true_and] at d;subst d;refine⟨_,rfl,rfl,?_⟩;refine Eq.mpr (yDc κ ⟨c,b,f,j,i,a⟩ _) ?_;unfold GG;simp only[ag,an2,an4,Bool.not_eq_true',ao4,beq_iff_eq,beq_eq_false_iff_ne,bne_iff_ne,bne_eq_false_iff_eq];refine⟨fun e=>oz (by rw[e];rfl),fun e=>⟨fun k=>oz ?_,fun k=>⟨fun l=>oz ?_,fun l=>⟨fun m=>oz ?_,fun m=>⟨trivial,(⟨c,b,f,j,i,a⟩,0),rfl,⟨by simp only;omega,by simp only;omega,by simp only;omega,by simp only;omega⟩,?_⟩⟩⟩⟩⟩
  ·rw[an8 (show b.length=0 by omega)];simp
  ·rw[an6 (show ¬ b.length<=8 by omega)];simp
  ·rw[an6 (show ¬ f.length=b.length by omega)];simp
  ·rw[e,an6 (show ¬ b.length=0 by omega),an8 (show b.length<=8 by omega),an8 (show f.length=b.length by omega)]
   simp only[Int.toNat_zero,ao2,Bool.not_false,ao7];exact⟨fun g=>oz g.symm,fun g=>oz g.symm⟩
 ·cases d
noncomputable def Pq κ:=(V9 κ).aV 94 gDc
theorem eDc κ:aF (Pq κ):=(eDl _).aV (mDl _) (pDc _)
theorem mDc κ:aj (Pq κ):=(mDl _).aV
theorem ak4 κ ds rs i I n K:(vc (Pq κ) 12 109 none 1 (ah (Pr κ).toProgram 109 2) (sp 19 [(0, .ad 43 ds),(1, .bp 93 []),(7, .int ds.length),(8, .int i)] [.box 25 (.agg [.ad 43 ds, .ad 48 rs])]) (bh (Pq κ) 109 2 1 I n K))=(
 letI a:=AV.agg [AV.ad 43 ds,AV.ad 48 rs]
 letI b:=nth ds i.toNat
 letI c:=i<(↑(ds.length):Int)
 an (decide c) (aG (decide ((0:Int)<=i)&&decide c) (an (!GG (toStr (af b 0)) (aa (af b 1)) (aa (af b 2))) (K Exit.ret (sp 19 [(4,AV.int i)] [Obj.box
 25 a])) (∃(e0:Nat),e0<n/\I e0 (sp 19 [(0,AV.ad 43 ds),(1,AV.bp 93 []),(7,AV.int (↑(ds.length):Int)),(8,AV.int (IntKind.wrap IntKind.i64 (i+(1
 :Int))))] [Obj.box 25 a])))) (K (Exit.exit 0) (sp 19 [] [Obj.box 25 a]))):=by kernel_rfl
abbrev L9:Nat:=109
abbrev VA:Nat:=119
abbrev IS(ds a:List AV):Dn.Obj:= .box 25 (.agg [.ad 43 ds, .ad 48 a])
abbrev O1:=List AV×List AV×Int
abbrev Ss(a:O1):=sp 19 [(0, .ad 43 a.1),(1, .bp 93 []),(7, .int a.1.length),(8, .int a.2.2)] [IS a.1 a.2.1]
def HR(a:O1):=a.1.length<=aU/\0<=a.2.2/\a.2.2<=a.1.length
def Br(a:O1):Out (Exit×S):= .an ((a.1.drop a.2.2.toNat).all EK) (.one (.exit 0,sp 19 [] [IS a.1 a.2.1])) (.all (fun j=>0<=j) fun j=> .one (.ret,sp 19 [(4, .int j)] [IS a.1 a.2.1]))
theorem ag5 κ:aP (Pq κ) 12 L9 2 (aI 1 Ss HR Br):=by
 refine aD (fun a=>a.1.length - a.2.2.toNat) ?_;rintro⟨ds,f,i⟩ K ⟨d,c,j⟩ b;simp only at d c j;rw[show(Pq κ).P=Pr κ from rfl];refine Eq.mpr (ak4 κ ds f i _ _ K) ?_;simp only[aU] at d;simp only[Br,Out.run,ag] at b;simp only[ag,ai,an2,an4,an3,Bool.not_eq_true',ao4];refine⟨fun g=>⟨⟨c,g⟩,?_⟩,fun g=>?_⟩
 ·have h:i.toNat<ds.length:=by omega
  rw[ao3 h,←aJ ds i.toNat h,ao8] at b;refine⟨fun e=>b.2 (by rw[show EK (nth ds i.toNat)=false from e];rfl) i c,fun e=>?_⟩;rw[show EK (nth ds i.toNat)=true from e,ao7] at b;rw[ay (n:=i+1) (by omega) (by omega)];refine⟨_,?_,(ds,f,i+1),rfl,⟨by simpa[aU] using d,by simp only;omega,by simp only;omega⟩,rfl,?_⟩
  ·simp only;omega
  grind [Br,Out.run,ag]
 ·rw[ao0 (by omega)] at b
  exact b.1 rfl
noncomputable def vK κ:=(Pq κ).aq L9 2 (aI 1 Ss HR Br)
theorem ae5 κ:aF (vK κ):=(eDc _).aq (mDc _) (ag5 _)
theorem Xp κ:aj (vK κ):=(mDc _).aq a0
theorem ak5 κ ds rs i I n K:(vc (vK κ) 12 119 none 1 (ah (Pr κ).toProgram 119 2) (sp 19 [(0, .ad 48 rs),(1, .bp 95 []),(7, .int rs.length),(8, .int i)] [.box 25 (.agg [.ad 43 ds, .ad 48 rs])]) (bh (vK κ) 119 2 1 I n K))=(
 letI b:=AV.agg [AV.ad 43 ds,AV.ad 48 rs]
 letI a:=nth rs i.toNat
 letI c:=i<(↑(rs.length):Int)
 an (decide c) (aG (decide ((0:Int)<=i)&&decide c) (aG (decide (List.length (aa (af (af a 0) 1))<=9223372036854775807)&&decide (List.length (aa (af a 1))<=9223372036854775807)) (an (!ba {head:={rel:=toStr (af (af a 0) 0),l:=ae (aa (af (af a 0) 1))},body:=dB (aa (af a 1))}) (K Exit.ret (sp 19 [(4,AV.int i)] [Obj.box 25 b])) (∃(e0:Nat),e0<n/\I e0 (sp 19 [(0,AV.ad 48 rs),(1,AV.bp 95 []),(7,AV.int (↑(rs.length):Int)),(8,AV.int (IntKind.wrap IntKind.i64 (i+(1:Int))))] [Obj.box 25 b]))))) (K (Exit.exit 0) (sp 19 [] [Obj.box 25 b]))):=by kernel_rfl
def fk a:=decide ((aa (af (af a 0) 1)).length<=aU)&&decide ((aa (af a 1)).length<=aU)
def tE(a:AV):Bool:=ba (yD a)
abbrev St(a:O1):=sp 19 [(0, .ad 48 a.2.1),(1, .bp 95 []),(7, .int a.2.1.length),(8, .int a.2.2)] [IS a.1 a.2.1]
def HS(a:O1):=a.2.1.length<=aU/\0<=a.2.2/\a.2.2<=a.2.1.length/\a.2.1.all fk=true
def Bs(a:O1):Out (Exit×S):= .an ((a.2.1.drop a.2.2.toNat).all tE) (.one (.exit 0,sp 19 [] [IS a.1 a.2.1])) (.all (fun j=>0<=j) fun j=> .one (.ret,sp 19 [(4, .int j)] [IS a.1 a.2.1]))
theorem P1{a}(h:a.all fk=true){k}(b:k<a.length):(aa (af (af (nth a k) 0) 1)).length<=aU/\(aa (af (nth a k) 1)).length<=aU:=by
 grind [aJ,List.getElem_mem,fk]
theorem ag6 κ:aP (vK κ) 12 VA 2 (aI 1 St HS Bs):=by
 refine aD (fun a=>a.2.1.length - a.2.2.toNat) ?_;rintro⟨ds,c,i⟩ K ⟨f,d,k,g⟩ b;simp only at f d k g;rw[show(vK κ).P=Pr κ from rfl];refine Eq.mpr (ak5 κ ds c i _ _ K) ?_;simp only[aU] at f;simp only[Bs,Out.run,ag] at b;simp only[ag,ai,an2,an4,an3,Bool.not_eq_true',ao4];refine⟨fun j=>⟨⟨d,j⟩,P1 g (by omega),?_⟩,fun j=>?_⟩
 ·have h:i.toNat<c.length:=by omega
  rw[ao3 h,←aJ c i.toNat h,ao8] at b;refine⟨fun e=>b.2 (by rw[show tE (nth c i.toNat)=false from e];rfl) i d,fun e=>?_⟩;rw[show tE (nth c i.toNat)=true from e,ao7] at b;rw[ay (n:=i+1) (by omega) (by omega)];refine⟨_,?_,(ds,c,i+1),rfl,⟨by simpa[aU] using f,by simp only;omega,by simp only;omega,g⟩,rfl,?_⟩
  ·simp only;omega
  grind [Bs,Out.run,ag]
 ·rw[ao0 (by omega)] at b
  exact b.1 rfl
noncomputable def Lb κ:=(vK κ).aq VA 2 (aI 1 St HS Bs)
theorem ae6 κ:aF (Lb κ):=(ae5 _).aq (Xp _) (ag6 _)
theorem Xq κ:aj (Lb κ):=(Xp _).aq a0
theorem yRt κ ds rs K:(a8 (Lb κ) 12 48 [.agg [.ad 43 ds, .ad 48 rs]] [] K)=(
 letI a:=AV.int
 letI b:=AV.ad
 letI h:=∀(e0:Int),(0:Int)<=e0->K (AV.lit (Value.bool !decide (e0>=(0:Int)))) []
 letI d:=Pg.toProgram (Env.P (vK κ))
 letI c:=K (AV.bool false) []
 letI e:=Pg.toProgram (Env.P (Pq κ))
 an (decide ((↑(ds.length):Int)>(60:Int))) c (an (decide ((↑(rs.length):Int)>(200:Int))) c (ah e L9 2=ah e L9 2/\∃(e3:O1),letI f:=[Obj.box 25 (AV.agg [b 43 e3.1,b 48 e3.2.1])];letI g:=ah d VA 2=ah d VA 2/\∃(e1:O1),sp 19 [(0,b 48 e3.2.1),(1,AV.bp 95 []),(7,a (↑(e3.2.1.length):Int)),(8,a 0)] f=sp 19 [(0,b 48 e1.2.1),(1,AV.bp 95 []),(7,a (↑(e1.2.1.length):Int)),(8,a e1.2.2)] [Obj.box 25 (AV.agg [b 43 e1.1,b 48 e1.2.1])]/\(e1.2.1.length<=9223372036854775807/\(0:Int)<=e1.2.2/\e1.2.2<=(↑(e1.2.1.length):Int)/\List.all e1.2.1 fk=true)/\an (List.all (List.drop (Int.toNat e1.2.2) e1.2.1) tE) (K (AV.bool true) []) h;sp 19 [(0,b 43 ds),(1,AV.bp 93 []),(7,a (↑(ds.length):Int)),(8,a 0)] [Obj.box 25 (AV.agg [b 43 ds,b 48 rs])]=sp 19 [(0,b 43 e3.1),(1,AV.bp 93 []),(7,a (↑(e3.1.length):Int)),(8,a e3.2.2)] f/\(e3.1.length<=9223372036854775807/\(0:Int)<=e3.2.2/\e3.2.2<=(↑(e3.1.length):Int))/\an (List.all (List.drop (Int.toNat e3.2.2) e3.1) EK) g (∀(e2:Int),(0:Int)<=e2->an (!decide (e2>=(0:Int))) g c)))):=by kernel_rfl
def fR(ds a:List _):=decide (ds.length<=60)&&decide (a.length<=200)&&ds.all EK&&a.all tE
def gRt:List AV->Option (Bool×AV)
 |[.agg [.ad 43 ds, .ad 48 a]]=>some (a.all fk, .bool (fR ds a))
 |_=>none
theorem pRt κ:cg (Lb κ) 12 48 gRt:=by
 intro g x a;unfold gRt at a;split at a
 ·rename_i ds b
  simp only[an5,ao1] at a;obtain⟨h,rfl⟩:=a;refine⟨_,rfl,rfl,?_⟩;refine Eq.mpr (yRt κ ds b _) ?_;unfold fR;rw[ag,an2,an4];refine⟨fun e=>oz (by rw[an6 (show ¬ ds.length<=60 by omega)];rfl),fun e=>?_⟩;rw[ag,an2,an4];refine⟨fun i=>oz (by rw[an6 (show ¬ b.length<=200 by omega)];simp),fun i=>?_⟩;rw[an8 (show ds.length<=60 by omega),an8 (show b.length<=200 by omega)];refine⟨rfl,(ds,b,0),rfl,⟨by simp only[aU];omega,by simp only;omega,by simp only;omega⟩,?_⟩;simp only[Int.toNat_zero,ao2,ao7];rw[ag];refine⟨fun f=>⟨trivial,(ds,b,0),rfl,⟨by simp only[aU];omega,by simp only;omega,by simp only;omega,h⟩,?_⟩,fun f y d=>?_⟩
  ·simp only[Int.toNat_zero,ao2]
   rw[ag,f];refine⟨fun c=>oz (by rw[c];rfl),fun c y d=>oz ?_⟩;rw[c,an8 (show y>=0 from d)];rfl
  ·rw[an8 (show y>=0 from d)]
   exact oz (by rw[f];rfl)
 ·cases a
noncomputable def Pv κ:=(Lb κ).aV 48 gRt
theorem eRt κ:aF (Pv κ):=(ae6 _).aV (Xq _) (pRt _)
theorem mRt κ:aj (Pv κ):=(Xq _).aV
theorem xFi κ ds s i I n K:(vc (Pv κ) 12 L9 none 1 (ah (Pr κ).toProgram L9 2) (sp 19 [(0, .ad 43 ds),(1, .bp 110 [.ptr 0 0 [] 0]),(7, .int ds.length),(8, .int i)] [.box 9 (.lit (.string s))]) (bh (Pv κ) L9 2 1 I n K))=(
 letI a:=i<(↑(ds.length):Int)
 an (decide a) (aG (decide ((0:Int)<=i)&&decide a) (an (ByteArray.toList (toStr (af (nth ds i.toNat) 0))==ByteArray.toList s) (K Exit.ret (sp 19 [(4,
 AV.int i)] [Obj.box 9 (AV.str s)])) (∃(e0:Nat),e0<n/\I e0 (sp 19 [(0,AV.ad 43 ds),(1,AV.bp 110 [AV.ptr 0 0 [] 0]),(7,AV.int (↑(ds.length):Int)),
 (8,AV.int (IntKind.wrap IntKind.i64 (i+(1:Int))))] [Obj.box 9 (AV.str s)])))) (K (Exit.exit 0) (sp 19 [] [Obj.box 9 (AV.str s)]))):=by kernel_rfl
def mH(s:ByteArray):List AV->Int->Int
 |[],_=> -1
 |d::l,i=>bif oh (toStr (af d 0)) s then i else mH s l (i+1)
abbrev YU(a:List _×ByteArray×Int):=sp 19 [(0, .ad 43 a.1),(1, .bp 110 [.ptr 0 0 [] 0]),(7, .int a.1.length),(8, .int a.2.2)] [.box 9 (.lit (.string a.2.1))]
def NK(a:List AV×ByteArray×Int):=a.1.length<=aU/\0<=a.2.2/\a.2.2<=a.1.length
def Ho(a:List AV×ByteArray×Int):Out (Exit×S):= .an (decide (0<=mH a.2.1 (a.1.drop a.2.2.toNat) a.2.2)) (.one (.ret,sp 19 [(4, .int (mH a.2.1 (a.1.drop a.2.2.toNat) a.2.2))] [.box 9 (.lit (.string a.2.1))])) (.one (.exit 0,sp 19 [] [.box 9 (.lit (.string a.2.1))]))
theorem lFi κ:aP (Pv κ) 12 L9 2 (aI 1 YU NK Ho):=by
 refine aD (fun a=>a.1.length - a.2.2.toNat) ?_;rintro⟨ds,s,i⟩ K ⟨d,c,h⟩ b;simp only at d c h;rw[show(Pv κ).P=Pr κ from rfl];refine Eq.mpr (xFi κ ds s i _ _ K) ?_;simp only[aU] at d;simp only[Ho,Out.run,ag] at b;simp only[ag,ai,an2,an4,an3];refine⟨fun g=>⟨⟨c,g⟩,?_⟩,fun g=>?_⟩
 ·have f:i.toNat<ds.length:=by omega
  rw[ao3 f,←aJ ds i.toNat f,mH] at b;refine⟨fun e=>?_,fun e=>?_⟩
  ·rw[show oh (toStr (af (nth ds i.toNat) 0)) s=true from e,an9] at b
   exact b.1 (an8 c)
  ·rw[show oh (toStr (af (nth ds i.toNat) 0)) s=false from e,an7] at b
   rw[ay (n:=i+1) (by omega) (by omega)];refine⟨_,?_,(ds,s,i+1),rfl,⟨by simpa[aU] using d,by simp only;omega,by simp only;omega⟩,rfl,?_⟩
   ·simp only;omega
   ·simp only[Ho,Out.run,ag,show(i+1).toNat=i.toNat+1 by omega]
    exact b
 ·rw[ao0 (by omega)] at b
  exact b.2 rfl
noncomputable def Wb κ:=(Pv κ).aq L9 2 (aI 1 YU NK Ho)
theorem eFl κ:aF (Wb κ):=(eRt _).aq (mRt _) (lFi _)
theorem mFl κ:aj (Wb κ):=(mRt _).aq a0
theorem yFi κ ds s K:(a8 (Wb κ) 12 63 [.ad 43 ds, .lit (.string s)] [] K)=(
 letI b:=AV.int
 ah (Pg.toProgram (Env.P (Pv κ))) L9 2=ah (Pg.toProgram (Env.P (Pv κ))) L9 2/\∃(a:List AV×ByteArray×Int),letI c:=List.drop (Int.toNat a.2.2) a.1;sp 19 [(0,AV.ad 43 ds),(1,AV.bp 110 [AV.ptr 0 0 [] 0]),(7,b (↑(ds.length):Int)),(8,b 0)] [Obj.box 9 (AV.str s)]=sp 19 [(0,AV.ad 43 a.1),(1,AV.bp 110 [AV.ptr 0 0 [] 0]),(7,b (↑(a.1.length):Int)),(8,b a.2.2)] [Obj.box 9 (AV.str a.2.1)]/\(a.1.length<=9223372036854775807/\(0:Int)<=a.2.2/\a.2.2<=(↑(a.1.length):Int))/\an (decide ((0:Int)<=mH a.2.1 c a.2.2)) (K (AV.aK [b (if(0:Int)>mH a.2.1 c a.2.2 then(0:Int) else mH a.2.1 c a.2.2),AV.bool (decide (mH a.2.1 c a.2.2>=(0:Int)))]) []) (K (AV.aK [b 0,AV.bool false]) [])):=by kernel_rfl
def ck s ds:=bif decide (0<=mH s ds 0) then mH s ds 0 else 0
def fL s ds:=decide (0<=mH s ds 0)
def H6(a:List AV×ByteArray):List AV×List Dn.Obj:=([.ad 43 a.1, .lit (.string a.2)],[])
def p9(a:List AV×ByteArray):=a.1.length<=aU
def FA(a:List AV×ByteArray):Out (AV×List Dn.Obj):= .one (.aK [.int (ck a.2 a.1), .bool (fL a.2 a.1)],[])
theorem cFi κ:bq (Wb κ) 12 63 (aX H6 p9 FA):=by
 refine a7 ?_;rintro⟨ds,s⟩ K b a;refine Eq.mpr (yFi κ ds s K) ?_;simp only[FA,Out.run,ck,fL] at a;refine⟨rfl,(ds,s,0),rfl,⟨b,by simp,by simp⟩,?_⟩;rw[ag]
 grind
noncomputable def Wa κ:=(Wb κ).aB 63 (aX H6 p9 FA)
theorem eFi κ:aF (Wa κ):=(eFl _).aB (mFl _) (cFi _)
theorem mFi κ:aj (Wa κ):=(mFl _).aB aZ
structure ko where
 ds:List AV
 es:List (Value×AV)
 more:Bool
abbrev bO(a:ko):List Dn.Obj:=[.box 219 (.agg [.ad 43 a.ds, .mp 1, .bool a.more]), .map 9 3 a.es]
abbrev Ef:AV:= .ptr 0 0 [] 0
theorem yOf κ a t K:(a8 (Wa κ) 12 197 [Ef,cD t] (bO a) K)=(
 letI b:=AV.int
 an (t.op==(1:Int)) (K (b (toInt (de a.es (Value.string t.s) (b 0)))) (bO a)) (an (t.op==(3:Int)) (K (b 2) (bO a)) (an (t.op==(4:Int))
 (K (b 0) (bO a)) (K (b 1) (bO a))))):=by kernel_rfl
def Y4(x:ko×AT):=([Ef,cD x.2],bO x.1)
def NT(_:ko×AT):Prop:=True
def M8(x:ko×AT):Out (AV×List Dn.Obj):= .one (.int (bF getM x.2.tm x.1.es),bO x.1)
theorem cOf κ:bq (Wa κ) 12 197 (aX Y4 NT M8):=by
 refine a7 ?_;rintro⟨a,t⟩ K _ b;refine Eq.mpr (yOf κ a t K) ?_;simp[M8] at b;have e:bF _ t.tm _=bif decide (t.op=1) then getM a.es _ else bif decide (t.op=3) then 2 else bif decide (t.op=4) then 0 else 1:=rfl
 rw[e] at b;simp[ZY];cases d:decide (t.op=1) with
 |true=>rw[d] at b;exact b
 | false=>
  rw[d] at b;cases f:decide (t.op=3) with
  |true=>rw[f] at b;exact b
  |false=>
   rw[f] at b;cases c:decide (t.op=4) with
   |true=>rw[c] at b;exact b
   |false=>rw[c] at b;exact b
noncomputable def ZT κ:=(Wa κ).aB 197 (aX Y4 NT M8)
theorem eYo κ:aF (ZT κ):=(eFi _).aB (mFi _) (cOf _)
theorem mYo κ:aj (ZT κ):=(mFi _).aB aZ
structure qg where
 a:ko
 t:AT
 k:Int
def aQ(a:ko)(t:AT) k:=t.tm.want getM gI k (a.es,a.more)
def dN(a:ko)(r:List (Value×AV)×Bool):ko:=⟨a.ds,r.1,r.2⟩
def ia(b:Bool):Int:=bif b then 53 else 0
def U3(x:qg):=([Ef,cD x.t, .int x.k],bO x.a)
def UF n(x:qg):=x.t.tm.eT=n/\n<=100000
noncomputable def Ht(κ:Kp)(x:qg):Out (AV×List Dn.Obj):= .one (.lit (bf κ (ia (aQ x.a x.t x.k).1)),bO (dN x.a (aQ x.a x.t x.k).2))
noncomputable def QV κ n:=aX U3 (UF n) (Ht κ)
noncomputable def Tp κ r:=(ZT κ).aB 196 fun a st K=>∃m,m<r/\QV κ m a st K
theorem xWt κ r a t k i I n K:(vc (Tp κ r) 12 196 none 2 (ah (Pr κ).toProgram 196 2) (sp 56 [(0,Ef),(2, .int k),(4, .ptr 2 0 [] 0),(12, .ad 38 t.l),(13, .int t.l.length),(14, .int i)] (bO a++[.box 38 (cD t)])) (bh (Tp κ r) 196 2 2 I n K))=(
 letI b:=AV.ptr 0 0 []
 letI c:=AV.int
 letI d:=Obj.box
 letI e:=nth t.l i.toNat
 letI h:=i<(↑(t.l.length):Int)
 an (decide h) (aG (decide ((0:Int)<=i)&&decide h) (∃(e2:Nat),e2<r/\∃(e1:qg),letI f:=dN e1.a (Prod.snd (aQ e1.a e1.t e1.k));letI g:=bf κ (ia (Prod.fst (aQ e1.a e1.t e1.k)));([b 0,AV.agg [c (toInt (af e 0)),AV.str (toStr (af e 1)),c (toInt (af e 2)),AV.ad 38 (aa (af e 3))],c 1],(bO a))=([b 0,cD e1.t,c e1.k],(bO e1.a))/\(Tm.eT (AT.tm e1.t)=e2/\e2<=100000)/\aG (aC g) (an (!bM g) (K Exit.ret (sp 56 [(6,AV.lit g)] (bO f))) (∃(e0:Nat),e0<n/\I e0 (sp 56 [(0,b 0),(2,c k),(4,AV.ptr 2 0 [] 0),(12,AV.ad 38 t.l),(13,c (↑(t.l.length):Int)),(14,c (IntKind.wrap IntKind.i64 (i+(1:Int))))] [d 219 (AV.agg [AV.ad 43 (ko.ds f),AV.mp 1,AV.bool (ko.more f)]),Dn.Obj.map 9 3 (ko.es f),d 38 (cD t)]))))) (K (Exit.exit 0) (sp 56 [(0,b 0),(2,c k),(4,AV.ptr 2 0 [] 0)] [d 219 (AV.agg [AV.ad 43 a.ds,AV.mp 1,AV.bool a.more]),Dn.Obj.map 9 3 a.es,d 38 (cD t)]))):=by kernel_rfl
abbrev VP:=qg×Int
abbrev Zf(x:VP):=sp 56 [(0,Ef),(2, .int x.1.k),(4, .ptr 2 0 [] 0),(12, .ad 38 x.1.t.l),(13, .int x.1.t.l.length),(14, .int x.2)] (bO x.1.a++[.box 38 (cD x.1.t)])
def NZ r(x:VP):=x.1.t.l.length<=aU/\0<=x.2/\x.2<=x.1.t.l.length/\aM (ae (x.1.t.l.drop x.2.toNat))<r/\aM (ae (x.1.t.l.drop x.2.toNat))<=100000
def gw(x:VP):=jw getM gI (ae (x.1.t.l.drop x.2.toNat)) (x.1.a.es,x.1.a.more)
noncomputable def Hs(κ:Kp)(x:VP):Out (Exit×S):= .an (gw x).1 (.one (.ret,sp 56 [(6, .lit (bf κ 53))] (bO (dN x.1.a (gw x).2))))
 (.one (.exit 0,sp 56 [(0,Ef),(2, .int x.1.k),(4, .ptr 2 0 [] 0)] (bO (dN x.1.a (gw x).2)++[.box 38 (cD x.1.t)])))
theorem Au b:decide (ia b=0)= !b:=by cases b<;>rfl
theorem lWt κ r:aP (Tp κ r) 12 196 2 (aI 2 Zf (NZ r) (Hs κ)):=by
 refine aD (fun x=>x.1.t.l.length - x.2.toNat) ?_;rintro⟨⟨a,t,k⟩,i⟩ K ⟨f,g,p,m,h⟩ b;simp only at f g p m h;rw[show(Tp κ r).P=Pr κ from rfl];refine Eq.mpr (xWt κ r a t k i _ _ K) ?_;simp only[aU] at f;simp only[Hs,Out.run,ag] at b;rw[ag,an2,an4];refine⟨fun j=>?_,fun j=>?_⟩
 ·have o:i.toNat<t.l.length:=by omega
  have e:=eg t.l i.toNat o;have d:gw (⟨a,t,k⟩,i)=bif (aQ a (dM (nth t.l i.toNat)) 1).1 then aQ a (dM (nth t.l i.toNat)) 1 else gw (⟨dN a (aQ a (dM (nth t.l i.toNat)) 1).2,t,k⟩,i+1):=by
   unfold gw aQ;simp only[show(i+1).toNat=i.toNat+1 by omega];rw[e,jw,eY];rfl
  rw[e,aM] at m h;rw[d] at b;rw[ai,an3,an2,an2];refine⟨⟨g,j⟩,(bX (nth t.l i.toNat)).eT,by omega,⟨a,dM (nth t.l i.toNat),1⟩,rfl,⟨by rw[eY],by omega⟩,?_⟩;rw[ai];refine⟨cL _ _,?_⟩;rw[jG,Au,Bool.not_not,ag];refine⟨fun c=>?_,fun c=>?_⟩
  ·simp only[c,an9] at b⊢
   exact b.1 trivial
  ·simp only[c,an7] at b
   rw[ay (n:=i+1) (by omega) (by omega)];refine⟨_,?_,(⟨dN a (aQ a (dM (nth t.l i.toNat)) 1).2,t,k⟩,i+1),rfl,⟨by simpa[aU] using f,by simp only;omega,by simp only;omega,?_,?_⟩,rfl,?_⟩
   ·simp only;omega
   ·simp only[show(i+1).toNat=i.toNat+1 by omega];omega
   ·simp only[show(i+1).toNat=i.toNat+1 by omega];omega
   ·simp only[Hs,Out.run,ag]
    exact b
 ·have d:gw (⟨a,t,k⟩,i)=(false,(a.es,a.more)):=by
   unfold gw;simp only;rw[ao0 (by omega)];rfl
  rw[d] at b;exact b.2 rfl
noncomputable def Wh κ r:=(Tp κ r).aq 196 2 (aI 2 Zf (NZ r) (Hs κ))
theorem yWt κ r a t k K:(a8 (Wh κ r) 12 196 [Ef,cD t, .int k] (bO a) K)=(
 letI b:=AV.ptr 0 0 []
 letI c:=AV.int
 letI d:=Obj.box
 letI e:=Dn.Obj.map
 letI h:=AV.lit Value.nilIface
 letI i:=Pg.toProgram (Env.P (Tp κ r))
 ah i 196 2=ah i 196 2/\∃(e1:VP),letI f:=Value.string e1.1.t.s;letI j:=ae (List.drop e1.2.toNat e1.1.t.l);letI l:=bO (dN e1.1.a (Prod.snd (gw e1)));sp 56 [(0,b 0),(2,c k),(4,AV.ptr 2 0 [] 0),(12,AV.ad 38 t.l),(13,c (↑(t.l.length):Int)),(14,c 0)] [d 219 (AV.agg [AV.ad 43 a.ds,AV.mp 1,AV.bool a.more]),e 9 3 a.es,d 38 (cD t)]=sp 56 [(0,b 0),(2,c e1.1.k),(4,AV.ptr 2 0 [] 0),(12,AV.ad 38 e1.1.t.l),(13,c (↑(List.length e1.1.t.l):Int)),(14,c e1.2)] [d 219 (AV.agg [AV.ad 43 e1.1.a.ds,AV.mp 1,AV.bool e1.1.a.more]),e 9 3 e1.1.a.es,d 38 (cD e1.1.t)]/\(List.length e1.1.t.l<=9223372036854775807/\(0:Int)<=e1.2/\e1.2<=(↑(List.length e1.1.t.l):Int)/\aM j<r/\aM j<=100000)/\an (Prod.fst (gw e1)) (K (AV.lit (Value.iface 273 (Value.pointer (some (RJ κ (53:Int)))))) l) (∃(e0:ko×AT),letI g:=K h (bO e0.1);([b 0,cD e1.1.t],l)=([b 0,cD e0.2],(bO e0.1))/\True/\an (e1.1.k==(0:Int)) g (an (e1.1.t.op==(4:Int)) g (an (bF getM (AT.tm e0.2) e0.1.es==(0:Int)) (K h [d 219 (AV.agg [AV.ad 43 e0.1.ds,AV.mp 1,AV.bool true]),e 9 3 (fw (fw e0.1.es f (c (toInt (de e0.1.es f (c 0))))) f (c e1.1.k))]) (an (bF getM (AT.tm e0.2) e0.1.es != e1.1.k) (K (AV.lit (Value.iface 273 (Value.pointer (some (Kp.type κ))))) (bO e0.1)) g))))):=by kernel_rfl
theorem Ir s v w: ∀a,fw (fw a (.string s) v) (.string s) w=fw a (.string s) w
 |[]=>by simp[fw,eM]
 |(c,b)::a=>by
  rw[fw,fw];cases h:eM _ _ with
  |true=>simp[fw,eM]
  |false=>simp[fw,h,Ir s v w _]
theorem Ki κ n:(QV κ n).gA:=aZ
theorem eYr κ r(d: ∀a st K,(∃m,m<r/\QV κ m a st K)->bt (Pr κ) 196 a st K):aF (Wh κ r)/\aj (Wh κ r)/\(Wh κ r).P=Pr κ:=
 have h:=(eYo _).eX d;have b:=(mYo _).aB fun _ _ _ _ e ⟨m,f,c⟩=>⟨m,f,Ki _ m _ _ _ _ e c⟩
 ⟨h.aq b (lWt _ r),b.aq a0,rfl⟩
theorem cWt κ r:bq (Wh κ r) 12 196 (QV κ r):=by
 refine a7 ?_;rintro⟨a,t,k⟩ K ⟨g,n⟩ b;refine Eq.mpr (yWt κ r a t k K) ?_;simp only[Ht,Out.run] at b;have m:t.tm.eT=1+aM (ae t.l):=rfl;have i:=eu (ae t.l);rw[dz] at i;simp only at g;refine⟨rfl,(⟨a,t,k⟩,0),rfl,⟨by simp only[aU];omega,by simp only;omega,by simp only;omega,by simp only[Int.toNat_zero,ao2];omega,by simp only[Int.toNat_zero,ao2];omega⟩,?_⟩;have h:aQ a t k=bif (gw (⟨a,t,k⟩,0)).1 then gw (⟨a,t,k⟩,0) else bif decide (k=0)||decide (t.op=4) then(false,(gw (⟨a,t,k⟩,0)).2)
   else bif decide (bF getM t.tm (gw (⟨a,t,k⟩,0)).2.1=0) then(false,(gI (gw (⟨a,t,k⟩,0)).2.1 t.s k,true)) else(!decide (bF getM t.tm (gw (⟨a,t,k⟩,0)).2.1=k),(gw (⟨a,t,k⟩,0)).2):=by
  unfold aQ gw;rw[AT.tm,Tm.want];rfl
 rw[h] at b;simp only[ZY,Lv];cases hd:(gw (⟨a,t,k⟩,0)).1 with
 |true=>
  rw[hd,an9,hd] at b;exact b
 | false=>
  rw[hd,an7] at b;refine⟨(dN a (gw (⟨a,t,k⟩,0)).2,t),rfl,trivial,?_⟩;cases c:decide (k=0) with
  |true=>rw[c] at b;exact b
  | false=>
   rw[c] at b;cases e:decide (t.op=4) with
   |true=>rw[e] at b;exact b
   | false=>
    rw[e] at b;rw[show(false||false)=false from rfl,an7] at b;have j:bF getM t.tm (dN a (gw (⟨a,t,k⟩,0)).2).es=bF getM t.tm (gw (⟨a,t,k⟩,0)).2.1:=rfl;simp only[j];cases f:decide (bF getM t.tm (gw (⟨a,t,k⟩,0)).2.1=0) with
    |true=>
     rw[f,an9] at b;simp only[an,Ir];exact b
    |false=>
     rw[f,an7] at b;cases d:decide (bF getM t.tm (gw (⟨a,t,k⟩,0)).2.1=k) with
     |true=>rw[d] at b;exact b
     |false=>rw[d] at b;exact b
def du(x:qg):=x.t.tm.eT<=100000
theorem qWt κ: ∀b st K,aX U3 du (Ht κ) b st K->bt (Pr κ) 196 b st K:=by
 rintro b st K ⟨a,d,e,c⟩;exact aF.nf _ _ (eYr _) (cWt _) _ _ _ K ⟨a,d,⟨rfl,e⟩,c⟩
noncomputable def PA κ:=(ZT κ).aB 196 (aX U3 du (Ht κ))
theorem eYw κ:aF (PA κ):=(eYo _).eX (qWt _)
theorem mYw κ:aj (PA κ):=(mYo _).aB aZ
def PT(x:AV):Dc:=⟨toStr (af x 0),(aa (af x 2)).map toInt⟩
def cP(l:List AV):List Dc:=l.map PT
theorem wk s: ∀ds i,mH s ds i=match jV s (cP ds) with|some k=>i+k|none=> -1
 |[],i=>rfl
 |d::ds,i=>by
  have a:=wk s ds (i+1)
  grind [mH,cP,PT,jV]
theorem Cw s: ∀ds k,jV s ds=some k->k<ds.length
 |[],_,h=>by cases h
 | d::ds,k,h=>by
  rw[jV] at h;cases e:oh d.rel s with
  |true=>grind
  | false=>
   rw[e] at h;cases a:jV s ds with
   |none=>grind
   |some j=>
    rw[a] at h;have:=Cw s ds j a
    grind
theorem wu{s ds}(h:jV s (cP ds)=none):fL s ds=false/\ck s ds=0:=by
 grind [wk,fL,ck]
theorem rZ{s ds k}(h:jV s (cP ds)=some k):fL s ds=true/\ck s ds=k/\k<ds.length:=by
 have e:=wk s ds 0;have a:=Cw s _ k h
 grind [fL,ck,cP]
def nW ds(i:Int):=(aa (af (nth ds i.toNat) 2)).map toInt
theorem D1{s ds k}(h:jV s (cP ds)=some k):da (cP ds) s=nW ds k:=by
 obtain⟨_,_,a⟩:=rZ h;unfold da nW;rw[h,aJ _ _ _];simp only[cP];rw[List.getD_eq_getElem?_getD,List.getElem?_map,ao5 a];rfl
theorem Jo ds a l:known (cP ds) ⟨a,ae l⟩=bif fL a ds then bif decide ((nW ds (ck a ds)).length=l.length) then 0 else 52 else 51:=by
 unfold known;cases h:jV _ _<;>simp_all[wu,rZ,D1,dz]
theorem Ru{ds i k}(h:k<(nW ds i).length):(nW ds i).drop k=toInt (nth (aa (af (nth ds i.toNat) 2)) k)::(nW ds i).drop (k+1):=by
 grind [List.drop_eq_getElem_cons,nW,aJ]
structure VI where
 a:ko
 fi:Int
 l:List AV
 k:Int
abbrev UL(x:VI):=sp 65 [(0,Ef),(5, .int x.fi),(40, .ad 38 x.l),(41, .int x.l.length),(42, .int x.k)] (bO x.a)
theorem xAt κ x I n K:(vc (PA κ) 12 180 none 2 (ah (Pr κ).toProgram 180 7) (UL x) (bh (PA κ) 180 7 2 I n K))=(
 letI a:=AV.ptr 0 0 []
 letI b:=AV.int
 letI c:=nth x.l x.k.toNat
 letI e:=aa (af (nth x.a.ds x.fi.toNat) 2)
 letI f:=x.k<(↑(x.l.length):Int)
 an (decide f) (aG (decide ((0:Int)<=x.k)&&decide f) (aG (decide ((0:Int)<=x.fi)&&decide (x.fi<(↑(List.length x.a.ds):Int))) (aG (decide ((0:Int)<=x.k)&&decide (x.k<(↑(List.length e):Int))) (∃(e1:qg),letI d:=bf κ (ia (Prod.fst (aQ e1.a e1.t e1.k)));letI g:=bO (dN e1.a (Prod.snd (aQ e1.a e1.t e1.k)));([a 0,AV.agg [b (toInt (af c 0)),AV.str (toStr (af c 1)),b (toInt (af c 2)),AV.ad 38 (aa (af c 3))],b (toInt (nth e x.k.toNat))],(bO x.a))=([a 0,cD e1.t,b e1.k],(bO e1.a))/\du e1/\aG (aC d) (an (!bM d) (K Exit.ret (sp 65 [(4,AV.lit d)] g)) (∃(e0:Nat),e0<n/\I e0 (sp 65 [(0,a 0),(5,b x.fi),(40,AV.ad 38 x.l),(41,b (↑(x.l.length):Int)),(42,b (IntKind.wrap IntKind.i64 (x.k+(1:Int))))] g))))))) (K (Exit.exit 1) (sp 65 [] (bO x.a)))):=by kernel_rfl
def jL(x:VI):=j3 getM gI ((nW x.a.ds x.fi).drop x.k.toNat) (ae (x.l.drop x.k.toNat)) (x.a.es,x.a.more)
def NF(x:VI):=0<=x.fi/\x.fi<x.a.ds.length/\(nW x.a.ds x.fi).length=x.l.length/\x.l.length<=aU/\0<=x.k/\x.k<=x.l.length/\aM (ae (x.l.drop x.k.toNat))<=100000
noncomputable def Hk(κ:Kp)(x:VI):Out (Exit×S):= .an (jL x).1 (.one (.ret,sp 65 [(4, .lit (bf κ 53))] (bO (dN x.a (jL x).2)))) (.one (.exit 1,sp 65 [] (bO (dN x.a (jL x).2))))
theorem lAt κ:aP (PA κ) 12 180 7 (aI 2 UL NF (Hk κ)):=by
 refine aD (fun x=>x.l.length - x.k.toNat) ?_;rintro⟨a,b,l,k⟩ K ⟨j,f,r,p,g,u,q⟩ c;simp only at j f r p g u q;rw[show(PA κ).P=Pr κ from rfl];refine Eq.mpr (xAt κ ⟨a,b,l,k⟩ _ _ K) ?_;simp only[aU] at p;simp only[Hk,Out.run,ag] at c;have h:(aa (af (nth a.ds b.toNat) 2)).length=(nW a.ds b).length:=by simp[nW]
 rw[ag,an2,an4];refine⟨fun d=>?_,fun d=>?_⟩
 ·simp only at d
  have s:k.toNat<l.length:=by omega
  have e:=eg l k.toNat s;have t:=Ru (ds:=a.ds) (i:=b) (k:=k.toNat) (by omega);have o:jL ⟨a,b,l,k⟩=bif (aQ a (dM (nth l k.toNat)) (toInt (nth (aa (af (nth a.ds b.toNat) 2)) k.toNat))).1 then aQ a (dM (nth l k.toNat)) (toInt (nth (aa (af (nth a.ds b.toNat) 2)) k.toNat)) else jL ⟨dN a (aQ a (dM (nth l k.toNat)) (toInt (nth (aa (af (nth a.ds b.toNat) 2)) k.toNat))).2,b,l,k+1⟩:=by
   unfold jL aQ;simp only[show(k+1).toNat=k.toNat+1 by omega];rw[e,t,j3,eY];rfl
  rw[e,aM] at q;rw[o] at c;simp only[ai,an3,an2,h];refine⟨⟨g,d⟩,⟨j,f⟩,⟨g,by omega⟩,⟨a,dM (nth l k.toNat),toInt (nth (aa (af (nth a.ds b.toNat) 2)) k.toNat)⟩,rfl,by show(dM (nth l k.toNat)).tm.eT<=100000;rw[eY];omega,cL _ _,?_⟩;rw[jG,Au,Bool.not_not,ag];refine⟨fun m=>?_,fun m=>?_⟩
  ·simp only[m,an9] at c⊢
   exact c.1 trivial
  ·simp only[m,an7] at c
   rw[ay (n:=k+1) (by omega) (by omega)];refine⟨_,?_,⟨dN a (aQ a (dM (nth l k.toNat)) (toInt (nth (aa (af (nth a.ds b.toNat) 2)) k.toNat))).2,b,l,k+1⟩,rfl,⟨j,f,r,by simpa[aU] using p,by simp only;omega,by simp only;omega,?_⟩,rfl,?_⟩
   ·simp only;omega
   ·simp only[show(k+1).toNat=k.toNat+1 by omega];omega
   ·simp only[Hk,Out.run,ag]
    exact c
 ·simp only at d
  have o:jL ⟨a,b,l,k⟩=(false,(a.es,a.more)):=by
   unfold jL;simp only;rw[ao0 (show l.length<=k.toNat by omega),ao0 (show(nW a.ds b).length<=k.toNat by omega)];rfl
  rw[o] at c;exact c.2 rfl
noncomputable def Wf κ:=(PA κ).aq 180 7 (aI 2 UL NF (Hk κ))
theorem eYl κ:aF (Wf κ):=(eYw _).aq (mYw _) (lAt _)
theorem mYl κ:aj (Wf κ):=(mYw _).aq a0
theorem yAt κ a rel l K:(a8 (Wf κ) 12 180 [Ef, .agg [.lit (.string rel), .ad 38 l]] (bO a) K)=(
 letI b:=AV.int
 letI c:=Pg.toProgram (Env.P (PA κ))
 ∃(e1:List AV×ByteArray),([AV.ad 43 a.ds,AV.str rel],aO)=([AV.ad 43 e1.1,AV.str e1.2],aO)/\p9 e1/\an (!fL e1.2 e1.1) (K (AV.lit (Value.iface 273 (Value.pointer (some (Kp.fX κ))))) (bO a)) (aG (decide ((0:Int)<=ck e1.2 e1.1)&&decide (ck e1.2 e1.1<(↑(a.ds.length):Int))) (an ((↑(List.length (aa (af (nth a.ds (Int.toNat (ck e1.2 e1.1))) 2))):Int) != (↑(l.length):Int)) (K (AV.lit (Value.iface 273 (Value.pointer (some (Kp.arity κ))))) (bO a)) (ah c 180 7=ah c 180 7/\∃(e0:VI),letI d:=bO (dN e0.a (Prod.snd (jL e0)));sp 65 [(0,AV.ptr 0 0 [] 0),(5,b (ck e1.2 e1.1)),(40,AV.ad 38 l),(41,b (↑(l.length):Int)),(42,b 0)] (bO a)=sp 65 [(0,AV.ptr 0 0 [] 0),(5,b e0.fi),(40,AV.ad 38 e0.l),(41,b (↑(e0.l.length):Int)),(42,b e0.k)] (bO e0.a)/\((0:Int)<=e0.fi/\e0.fi<(↑(List.length e0.a.ds):Int)/\List.length (nW e0.a.ds e0.fi)=e0.l.length/\e0.l.length<=9223372036854775807/\(0:Int)<=e0.k/\e0.k<=(↑(e0.l.length):Int)/\aM (ae (List.drop e0.k.toNat e0.l))<=100000)/\an (Prod.fst (jL e0)) (K (AV.lit (Value.iface 273 (Value.pointer (some (RJ κ (53:Int)))))) d) (K (AV.lit Value.nilIface) d))))):=by kernel_rfl
def dD(a:ko) b l:=ff getM gI (cP a.ds) ⟨b,ae l⟩ (a.es,a.more)
abbrev SC:=ko×ByteArray×List AV
def YN(x:SC):=([Ef, .agg [.lit (.string x.2.1), .ad 38 x.2.2]],bO x.1)
def ND(x:SC):=x.1.ds.length<=aU/\aM (ae x.2.2)<=100000
noncomputable def MQ(κ:Kp)(x:SC):Out (AV×List Dn.Obj):= .one (.lit (bf κ (dD x.1 x.2.1 x.2.2).1),bO (dN x.1 (dD x.1 x.2.1 x.2.2).2))
theorem cAc κ:bq (Wf κ) 12 180 (aX YN ND (MQ κ)):=by
 refine a7 ?_;rintro⟨a,c,l⟩ K ⟨h,n⟩ b;simp only at h n;refine Eq.mpr (yAt κ a c l K) ?_;simp only[MQ,Out.run,dD,ff,Jo] at b;have m:=eu (ae l);rw[dz] at m;refine⟨(a.ds,c),rfl,h,?_⟩;cases f:jV c (cP a.ds) with
 |none=>
  rw[(wu f).1] at b;simp only[(wu f).1];exact b
 | some k=>
  obtain⟨i,j,o⟩:=rZ f;rw[i,j,D1 f] at b;have g:(aa (af (nth a.ds (Int.toNat (k:Int))) 2)).length=(nW a.ds k).length:=by simp[nW]
  simp only[i,j,g,Lv];refine ai.2 ⟨by simp;omega,?_⟩;cases d:decide ((nW a.ds k).length=l.length) with
  |false=>
   rw[d] at b;rw[an4] at d;rw[an6 (show ¬ (((nW a.ds k).length:Int)=(l.length:Int)) by omega)];exact b
  | true=>
   rw[d] at b;rw[an2] at d;rw[an8 (show(((nW a.ds k).length:Int)=(l.length:Int)) by omega)];refine⟨trivial,⟨a,k,l,0⟩,rfl,by grind,?_⟩;have hd:jL ⟨a,k,l,0⟩=j3 getM gI (nW a.ds k) (ae l) (a.es,a.more):=by
    unfold jL;simp only[Int.toNat_zero,ao2]
   rw[hd];simp only[an9,decide_true] at b;rw[ag];refine⟨fun e=>by rw[e] at b;exact b,fun e=>by rw[e] at b;exact b⟩
noncomputable def We κ:=(Wf κ).aB 180 (aX YN ND (MQ κ))
theorem eYa κ:aF (We κ):=(eYl _).aB (mYl _) (cAc _)
theorem mYa κ:aj (We κ):=(mYl _).aB aZ
theorem yLi(κ:Kp)(a:ko)(op:Int) rel l(u v:AT) K:(a8 (We κ) 12 181 [Ef, .agg [.int op, .agg [.lit (.string rel), .ad 38 l],cD u,cD v]] (bO a) K)=(
 letI b:=AV.ptr 0 0 []
 letI c:=AV.int
 letI d:=AV.lit
 letI j:=∃(e3:ko×AT),letI n:=AT.tm e3.2;([b 0,cD u],(bO a))=([b 0,cD e3.2],(bO e3.1))/\True/\∃(e2:ko×AT),letI f:=if bF getM (AT.tm e2.2) e2.1.es>bF getM n e3.1.es then bF getM (AT.tm e2.2) e2.1.es else bF getM n e3.1.es;([b 0,cD v],(bO e3.1))=([b 0,cD e2.2],(bO e2.1))/\True/\∃(e1:qg),letI e:=bf κ (ia (Prod.fst (aQ e1.a e1.t e1.k)));letI g:=bO (dN e1.a (Prod.snd (aQ e1.a e1.t e1.k)));([b 0,cD u,c f],(bO e2.1))=([b 0,cD e1.t,c e1.k],(bO e1.a))/\du e1/\aG (aC e) (an (!bM e) (K (d e) g) (∃(e0:qg),([b 0,cD v,c f],g)=([b 0,cD e0.t,c e0.k],(bO e0.a))/\du e0/\K (d (bf κ (ia (Prod.fst (aQ e0.a e0.t e0.k))))) (bO (dN e0.a (Prod.snd (aQ e0.a e0.t e0.k))))))
 letI o:=∃(e0:SC),([b 0,AV.agg [AV.str rel,AV.ad 38 l]],(bO a))=([b 0,AV.agg [AV.str e0.2.1,AV.ad 38 e0.2.2]],(bO e0.1))/\
  (e0.1.ds.length<=9223372036854775807/\aM (ae e0.2.2)<=100000)/\K (d (bf κ (Prod.fst (dD e0.1 e0.2.1 e0.2.2)))) (bO (dN e0.1 (Prod.snd (dD e0.1 e0.2.1
  e0.2.2))))
 letI h:=j/\j/\j
 an (op==(3:Int)) h (an (op==(4:Int)) h (an (op==(5:Int)) h (an (op==(6:Int)) h (an (op==(1:Int)) o (an (op==(2:Int)) o (∃(e2:SC),letI p:=dD e2.1 e2.2.1 e2.2.2;letI k:=bf κ (Prod.fst p);letI q:=bO (dN e2.1 (Prod.snd p));([b 0,AV.agg [AV.str rel,AV.ad 38 l]],(bO a))=([b 0,AV.agg [AV.str e2.2.1,AV.ad 38 e2.2.2]],(bO e2.1))/\(e2.1.ds.length<=9223372036854775807/\aM (ae e2.2.2)<=100000)/\aG (aC k) (an (!bM k) (K (d k) q) (∃(e1:qg),letI i:=bf κ (ia (Prod.fst (aQ e1.a e1.t e1.k)));letI m:=bO (dN e1.a (Prod.snd (aQ e1.a e1.t e1.k)));([b 0,cD u,c 1],q)=([b 0,cD e1.t,c e1.k],(bO e1.a))/\du e1/\aG (aC i) (an (!bM i) (K (d i) m) (an (op==(7:Int)) (K (d i) m) (∃(e0:qg),([b 0,cD v,c 1],m)=([b 0,cD e0.t,c e0.k],(bO e0.a))/\du e0/\K (d (bf κ (ia (Prod.fst (aQ e0.a e0.t e0.k))))) (bO (dN e0.a (Prod.snd (aQ e0.a e0.t e0.k)))))))))))))))):=by kernel_rfl
structure Gn where
 a:ko
 op:Int
 rel:ByteArray
 l:List AV
 u:AT
 v:AT
def Gn.lt(x:Gn):Lt:=⟨x.op,⟨x.rel,ae x.l⟩,x.u.tm,x.v.tm⟩
def bR(x:Gn):=k8 getM gI (cP x.a.ds) x.lt (x.a.es,x.a.more)
def Y0(x:Gn):=([Ef, .agg [.int x.op, .agg [.lit (.string x.rel), .ad 38 x.l],cD x.u,cD x.v]],bO x.a)
def NN(x:Gn):=x.a.ds.length<=aU/\jh x.lt<=100000
noncomputable def R5(κ:Kp)(x:Gn):Out (AV×List Dn.Obj):= .one (.lit (bf κ (bR x).1),bO (dN x.a (bR x).2))
def kd(a:ko)(u v:AT):=if bF getM v.tm a.es>bF getM u.tm a.es then bF getM v.tm a.es else bF getM u.tm a.es
theorem WU(x:Gn):lS getM x.lt x.a.es=kd x.a x.u x.v:=by
 unfold lS kd;show(bif decide (bF _ x.v.tm _>bF _ x.u.tm _) then _ else _)=_
 by_cases h:bF getM x.v.tm x.a.es>bF getM x.u.tm x.a.es
 ·rw[an8 h,if_pos h];rfl
 ·rw[an6 h,if_neg h];rfl
theorem A7 κ b:(!bM (bf κ (ia b)))=b:=by rw[jG,Au,Bool.not_not]
theorem cLi κ:bq (We κ) 12 181 (aX Y0 NN (R5 κ)):=by
 refine a7 ?_;rintro⟨a,op,c,l,u,v⟩ K ⟨s,o⟩ f;simp only at s;refine Eq.mpr (yLi κ a op c l u v K) ?_;have f:K (.lit (bf κ (bR ⟨a,op,c,l,u,v⟩).1)) (bO (dN a (bR ⟨a,op,c,l,u,v⟩).2)):=f;have o:aM [u.tm,v.tm]+aM (ae l)<=100000:=o;simp only[aM] at o;have i:du ⟨a,u,kd a u v⟩:=by show u.tm.eT<=100000;omega
 have g:du ⟨dN a (aQ a u (kd a u v)).2,v,kd a u v⟩:=by show v.tm.eT<=100000;omega
 have k:gS op=true->bR ⟨a,op,c,l,u,v⟩=kR (aQ a u (kd a u v)) (v.tm.want getM gI (kd a u v)):=fun d=>by
  unfold bR k8;rw[WU ⟨a,op,c,l,u,v⟩,show(Gn.lt ⟨a,op,c,l,u,v⟩).op=op from rfl,d];rfl
 have h:gS op=true->(!bM (bf κ (ia (aQ a u (kd a u v)).1)))=true->K (.lit (bf κ (ia (aQ a u (kd a u v)).1))) (bO (dN a (aQ a u (kd a u v)).2)):=fun d q=>by
  rw[A7] at q;rw[k d] at f;unfold kR at f;rw[q] at f⊢;exact f
 have j:gS op=true->(!bM (bf κ (ia (aQ a u (kd a u v)).1)))=false->K (.lit (bf κ (ia (aQ (dN a (aQ a u (kd a u v)).2) v (kd a u v)).1))) (bO (dN (dN a (aQ a u (kd a u v)).2) (aQ (dN a (aQ a u (kd a u v)).2) v (kd a u v)).2)):=fun d q=>by
  rw[A7] at q;rw[k d] at f;unfold kR at f;rw[q] at f;exact f
 have n: ∀b:ko,b=a->(b.ds.length<=9223372036854775807/\aM (ae l)<=100000):=fun b D=>by subst D;exact⟨s,by omega⟩
 have x:gS op=false->(decide (op=1)||decide (op=2))=true->bR ⟨a,op,c,l,u,v⟩=dD a c l:=fun d p=>by
  unfold bR k8;rw[show(Gn.lt ⟨a,op,c,l,u,v⟩).op=op from rfl,d,p];rfl
 refine ag.2 ⟨fun e=>by
   have d:gS op=true:=(by rw[show op=3 from eq_of_beq e];rfl)
   exact⟨⟨(a,u),rfl,trivial,(a,v),rfl,trivial,⟨a,u,_⟩,rfl,i,ai.2 ⟨cL _ _,ag.2 ⟨fun q=>h d q,fun q=>⟨⟨_,v,_⟩,rfl,g,j d q⟩⟩⟩⟩,
    ⟨(a,u),rfl,trivial,(a,v),rfl,trivial,⟨a,u,_⟩,rfl,i,ai.2 ⟨cL _ _,ag.2 ⟨fun q=>h d q,fun q=>⟨⟨_,v,_⟩,rfl,g,j d q⟩⟩⟩⟩,
    ⟨(a,u),rfl,trivial,(a,v),rfl,trivial,⟨a,u,_⟩,rfl,i,ai.2 ⟨cL _ _,ag.2 ⟨fun q=>h d q,fun q=>⟨⟨_,v,_⟩,rfl,g,j d q⟩⟩⟩⟩⟩,fun A=>ag.2 ⟨fun e=>by
   have d:gS op=true:=(by rw[show op=4 from eq_of_beq e];rfl)
   exact⟨⟨(a,u),rfl,trivial,(a,v),rfl,trivial,⟨a,u,_⟩,rfl,i,ai.2 ⟨cL _ _,ag.2 ⟨fun q=>h d q,fun q=>⟨⟨_,v,_⟩,rfl,g,j d q⟩⟩⟩⟩,
    ⟨(a,u),rfl,trivial,(a,v),rfl,trivial,⟨a,u,_⟩,rfl,i,ai.2 ⟨cL _ _,ag.2 ⟨fun q=>h d q,fun q=>⟨⟨_,v,_⟩,rfl,g,j d q⟩⟩⟩⟩,
    ⟨(a,u),rfl,trivial,(a,v),rfl,trivial,⟨a,u,_⟩,rfl,i,ai.2 ⟨cL _ _,ag.2 ⟨fun q=>h d q,fun q=>⟨⟨_,v,_⟩,rfl,g,j d q⟩⟩⟩⟩⟩,fun B=>ag.2 ⟨fun e=>by
   have d:gS op=true:=(by rw[show op=5 from eq_of_beq e];rfl)
   exact⟨⟨(a,u),rfl,trivial,(a,v),rfl,trivial,⟨a,u,_⟩,rfl,i,ai.2 ⟨cL _ _,ag.2 ⟨fun q=>h d q,fun q=>⟨⟨_,v,_⟩,rfl,g,j d q⟩⟩⟩⟩,
    ⟨(a,u),rfl,trivial,(a,v),rfl,trivial,⟨a,u,_⟩,rfl,i,ai.2 ⟨cL _ _,ag.2 ⟨fun q=>h d q,fun q=>⟨⟨_,v,_⟩,rfl,g,j d q⟩⟩⟩⟩,
    ⟨(a,u),rfl,trivial,(a,v),rfl,trivial,⟨a,u,_⟩,rfl,i,ai.2 ⟨cL _ _,ag.2 ⟨fun q=>h d q,fun q=>⟨⟨_,v,_⟩,rfl,g,j d q⟩⟩⟩⟩⟩,fun E=>ag.2 ⟨fun e=>by
   have d:gS op=true:=(by rw[show op=6 from eq_of_beq e];rfl)
   exact⟨⟨(a,u),rfl,trivial,(a,v),rfl,trivial,⟨a,u,_⟩,rfl,i,ai.2 ⟨cL _ _,ag.2 ⟨fun q=>h d q,fun q=>⟨⟨_,v,_⟩,rfl,g,j d q⟩⟩⟩⟩,
    ⟨(a,u),rfl,trivial,(a,v),rfl,trivial,⟨a,u,_⟩,rfl,i,ai.2 ⟨cL _ _,ag.2 ⟨fun q=>h d q,fun q=>⟨⟨_,v,_⟩,rfl,g,j d q⟩⟩⟩⟩,
    ⟨(a,u),rfl,trivial,(a,v),rfl,trivial,⟨a,u,_⟩,rfl,i,ai.2 ⟨cL _ _,ag.2 ⟨fun q=>h d q,fun q=>⟨⟨_,v,_⟩,rfl,g,j d q⟩⟩⟩⟩⟩,fun z=>?_⟩⟩⟩⟩
 simp only[beq_eq_false_iff_ne] at A B E z;have d:gS op=false:=by
  unfold gS;rw[Bool.and_eq_false_iff,an4,an4];omega
 refine ag.2 ⟨fun e=>⟨(a,c,l),rfl,n a rfl,?_⟩,fun w=>ag.2 ⟨fun e=>⟨(a,c,l),rfl,n a rfl,?_⟩,fun t=>?_⟩⟩
 ·rw[x d (by rw[show op=1 by simpa using e];rfl)] at f;exact f
 ·rw[x d (by rw[show op=2 by simpa using e];rfl)] at f;exact f
 simp only[beq_eq_false_iff_ne] at w t;have C:bR ⟨a,op,c,l,u,v⟩=bif !decide ((dD a c l).1=0) then dD a c l
   else bif decide (op=7) then(ia (aQ (dN a (dD a c l).2) u 1).1,(aQ (dN a (dD a c l).2) u 1).2)
   else kR (aQ (dN a (dD a c l).2) u 1) (v.tm.want getM gI 1):=by
  unfold bR k8;rw[show(Gn.lt ⟨a,op,c,l,u,v⟩).op=op from rfl,d,an6 w,an6 t];rfl
 rw[C] at f;refine⟨(a,c,l),rfl,n a rfl,ai.2 ⟨cL _ _,?_⟩⟩;rw[jG];refine ag.2 ⟨fun q=>?_,fun q=>?_⟩
 ·rw[q] at f;exact f
 ·rw[q,an7] at f
  refine⟨⟨dN a (dD a c l).2,u,1⟩,rfl,by show u.tm.eT<=100000;omega,ai.2 ⟨cL _ _,?_⟩⟩;rw[A7];refine ag.2 ⟨fun m=>?_,fun m=>ag.2 ⟨fun r=>?_,fun r=>⟨⟨dN (dN a (dD a c l).2) (aQ (dN a (dD a c l).2) u 1).2,v,1⟩,rfl,by show v.tm.eT<=100000;omega,?_⟩⟩⟩
  ·have m:(aQ (dN a (dD a c l).2) u 1).1=true:=m
   unfold kR at f;rw[m] at f;simp only[m];cases y:decide (op=7)<;>rw[y] at f<;>exact f
  ·rw[show decide (op=7)=true by simpa using r] at f
   exact f
  ·have m:(aQ (dN a (dD a c l).2) u 1).1=false:=m
   rw[show decide (op=7)=false by simpa using r,an7] at f;unfold kR at f;rw[m] at f;exact f
noncomputable def Wi κ:=(We κ).aB 181 (aX Y0 NN (R5 κ))
theorem eYt κ:aF (Wi κ):=(eYa _).aB (mYa _) (cLi _)
theorem mYt κ:aj (Wi κ):=(mYa _).aB aZ
theorem yCo κ v K:(a8 (Wi κ) 12 153 [.lit v] [] K)=(
 letI a:=Value.iface 273 (Value.pointer (some (Kp.arity κ)))
 letI b:=Value.iface 273 (Value.pointer (some (Kp.type κ)))
 letI c:=Value.iface 273 (Value.pointer (some (Kp.fX κ)))
 aG (lg κ v&&mn κ c) (an (gV v c) (K (AV.int 51) []) (aG (lg κ v&&mn κ a) (an (gV v a) (K (AV.int 52) []) (aG (lg κ v&&mn κ b) (an (gV v b) (K
 (AV.int 53) []) (K (AV.int 0) []))))))):=by kernel_rfl
noncomputable def Qs(κ:Kp)(v:Value):Int:=bif gV v (bf κ 51) then 51 else bif gV v (bf κ 52) then 52 else bif gV v (bf κ 53) then 53 else 0
theorem MB κ{e}(h:jX e):Qs κ (bf κ e)=e:=by
 unfold Qs;rw[iH _ h (.inr (.inl rfl)),iH _ h (.inr (.inr (.inl rfl))),iH _ h (.inr (.inr (.inr rfl)))];rcases h with rfl|rfl|rfl|rfl<;>rfl
noncomputable def gCo(κ:Kp):List AV->Option (Bool×AV)
 |[.lit v]=>some (lg κ v, .int (Qs κ v))
 |_=>none
theorem pCo κ:cg (Wi κ) 12 153 (gCo κ):=by
 intro h x b;unfold gCo at b;split at b
 ·simp only[an5,ao1] at b
  obtain⟨i,rfl⟩:=b;refine⟨_,rfl,rfl,?_⟩;obtain⟨e,a,rfl⟩:=(xi _ _).1 i;refine Eq.mpr (yCo κ _ _) ?_;rw[MB κ a];have d: ∀k,wJ k->(lg κ (bf κ e)&&mn κ (bf κ k))=true:=fun k j=>by grind [Be,Bf]
  have c:Value.iface 273 (.pointer (some κ.fX))=bf κ 51:=rfl;have f:Value.iface 273 (.pointer (some κ.arity))=bf κ 52:=rfl;have g:Value.iface 273 (.pointer (some κ.type))=bf κ 53:=rfl;rw[c,f,g,d _ (.inl rfl),d _ (.inr (.inl rfl)),d _ (.inr (.inr rfl)),iH κ a (.inr (.inl rfl)),iH κ a (.inr (.inr (.inl rfl))),iH κ a (.inr (.inr (.inr rfl)))];rcases a with rfl|rfl|rfl|rfl<;>rfl
 ·cases b
noncomputable def Px κ:=(Wi κ).aV 153 (gCo κ)
theorem eYc κ:aF (Px κ):=(eYt _).aV (mYt _) (pCo _)
theorem mYc κ:aj (Px κ):=(mYt _).aV
structure Vf where
 a:ko
 w:Int
 bl:List AV
 i:Int
noncomputable abbrev Ra κ(x:Vf):=sp 52 [(0,Ef),(5, .lit (bf κ x.w)),(14, .ad 80 x.bl),(15, .int x.bl.length),(16, .int x.i)] (bO x.a)
theorem xPa(κ:Kp)(x:Vf) I n K:(vc (Px κ) 12 152 none 2 (ah (Pr κ).toProgram 152 3) (Ra κ x) (bh (Px κ) 152 3 2 I n K))=(
 letI a:=AV.ptr 0 0 []
 letI b:=AV.int
 letI c:=AV.agg
 letI d:=AV.str
 letI e:=AV.lit
 letI f:=Exit.ret
 letI g:=AV.ad
 letI k:=Value.iface 273 (Value.pointer (some (Kp.arity κ)))
 letI l:=Value.iface 273 (Value.pointer (some (Kp.fX κ)))
 letI j:=nth x.bl x.i.toNat
 letI q:=IntKind.wrap IntKind.i64 (x.i+(1:Int))
 letI o:=x.bl.length
 letI r:=Value.iface 273 (Value.pointer (some (Kp.type κ)))
 letI s:=lg κ (bf κ x.w)&&mn κ l
 letI t:=lg κ (bf κ x.w)&&mn κ k
 an (decide (x.i<(↑o:Int))) (aG (decide ((0:Int)<=x.i)&&decide (x.i<(↑o:Int))) (∃(e1:Gn),letI h:=bf κ (Prod.fst (bR e1));letI i:=bO (dN e1.a (Prod.snd (bR e1)));letI p:=aG (lg κ h&&mn κ l) (an (gV h l) (K f (sp 52 [(4,e h)] i)) (aG (lg κ h&&mn κ k) (an (gV h k) (K f (sp 52 [(4,e h)] i)) (∃(e0:Nat),e0<n/\I e0 (sp 52 [(0,a 0),(5,e h),(14,g 80 x.bl),(15,b (↑o:Int)),(16,b q)] i)))));letI m:=aG s (an (gV (bf κ x.w) l) (K f (sp 52 [(4,e (bf κ x.w))] i)) (aG t (an (gV (bf κ x.w) k) (K f (sp 52 [(4,e (bf κ x.w))] i)) (∃(e0:Nat),e0<n/\I e0 (sp 52 [(0,a 0),(5,e (bf κ x.w)),(14,g 80 x.bl),(15,b (↑o:Int)),(16,b q)] i)))));([a 0,c [b (toInt (af j 0)),c [d (toStr (af (af j 1) 0)),g 38 (aa (af (af j 1) 1))],c [b (toInt (af (af j 2) 0)),d (toStr (af (af j 2) 1)),b (toInt (af (af j 2) 2)),g 38 (aa (af (af j 2) 3))],c [b (toInt (af (af j 3) 0)),d (toStr (af (af j 3) 1)),b (toInt (af (af j 3) 2)),g 38 (aa (af (af j 3) 3))]]],(bO x.a))=([a 0,c [b e1.op,c [d e1.rel,g 38 e1.l],c [b e1.u.op,d e1.u.s,b e1.u.n,g 38 e1.u.l],c [b e1.v.op,d e1.v.s,b e1.v.n,g 38 e1.v.l]]],(bO e1.a))/\(List.length e1.a.ds<=9223372036854775807/\jh (Gn.lt e1)<=100000)/\aG (aC (bf κ x.w)) (an (bM (bf κ x.w)) p (aG (lg κ (bf κ x.w)&&mn κ r) (an (gV (bf κ x.w) r) (aG (lg κ h&&mn κ l) (an (gV h l) p (aG (lg κ h&&mn κ k) (an (gV h k) p m)))) m))))) (K (Exit.exit 0) (sp 52 [(5,e (bf κ x.w))] (bO x.a)))):=by kernel_rfl
def jb(a:ko)(x:AV):Gn:=⟨a,toInt (af x 0),toStr (af (af x 1) 0),aa (af (af x 1) 1),dM (af x 2),dM (af x 3)⟩
theorem Cf a x:(jb a x).lt=c9 x:=by
 unfold Gn.lt jb;simp[eY];rfl
theorem qU{σ get set} ds l(x:σ×Bool):jX (k8 get set ds l x).1:=by
 have b: ∀e,(e=0\/e=51\/e=52)->jX e:=fun e h=>by
  rcases h with rfl|rfl|rfl
  ·exact .inl rfl
  ·exact .inr (.inl rfl)
  ·exact .inr (.inr (.inl rfl))
 have a:jX 53:= .inr (.inr (.inr rfl))
 grind [jX,kR,te,ff,known,tu,k8]
theorem uu{σ get set} ds a(x:σ×Bool):jX (ff get set ds a x).1:=by
 have h:=qU (get:=get) (set:=set) ds ⟨1,a, .mk 0 ByteArray.empty 0 [], .mk 0 ByteArray.empty 0 []⟩ x;exact h
theorem uJ{w e}(b:jX w)(a:jX e):jX (iS w e):=by
 grind [iS]
theorem uw{σ get set} ds: ∀b (y:Int×σ×Bool),jX y.1->jX (km get set ds b y).1
 |[],_,h=>h
 |l::b,y,h=>by
  rw[km];have:=uJ h (qU (get:=get) (set:=set) ds l y.2)
  cases wK _ with
  |true=>grind
  |false=>exact uw _ b _ this
def lJ(x:Vf):=km getM gI (cP x.a.ds) (dB (x.bl.drop x.i.toNat)) (x.w,(x.a.es,x.a.more))
def F5(x:Vf):=x.a.ds.length<=aU/\jX x.w/\x.bl.length<=100000/\(∀l,l∈x.bl->jh (c9 l)<=100000)/\0<=x.i/\x.i<=x.bl.length
noncomputable def M9(κ:Kp)(x:Vf):Out (Exit×S):= .all (fun _=>True) fun b=> .an b (.one (.ret,sp 52 [(4, .lit (bf κ (lJ x).1))] (bO (dN x.a (lJ x).2)))) (.one (.exit 0,sp 52 [(5, .lit (bf κ (lJ x).1))] (bO (dN x.a (lJ x).2))))
theorem lPa κ:aP (Px κ) 12 152 3 (aI 2 (Ra κ) F5 (M9 κ)):=by
 refine aD (fun x=>x.bl.length - x.i.toNat) ?_;rintro⟨a,w,c,i⟩ K ⟨o,h,v,t,B,z⟩ u;simp only at o h v t B z;rw[show(Px κ).P=Pr κ from rfl];refine Eq.mpr (xPa κ ⟨a,w,c,i⟩ _ _ K) ?_;have f:=u true trivial;have d:=u false trivial;simp only[Out.run,an] at f d;rw[ag,an2,an4];refine⟨fun k=>?_,fun k=>?_⟩
 ·simp only at k
  have l:i.toNat<c.length:=by omega
  have j:lJ ⟨a,w,c,i⟩=bif wK (iS w (bR (jb a (nth c i.toNat))).1) then(iS w (bR (jb a (nth c i.toNat))).1,(bR (jb a (nth c i.toNat))).2) else lJ ⟨dN a (bR (jb a (nth c i.toNat))).2,iS w (bR (jb a (nth c i.toNat))).1,c,i+1⟩:=by
   unfold lJ bR;simp only[show(i+1).toNat=i.toNat+1 by omega];rw[oT c i.toNat l,km,Cf];rfl
  have g:jX (bR (jb a (nth c i.toNat))).1:=qU _ _ _;have q:jh (c9 (nth c i.toNat))<=100000:=t _ (by rw[aJ _ _ l];exact List.getElem_mem l);have R:wK (iS w (bR (jb a (nth c i.toNat))).1)=true->K .ret (sp 52 [(4, .lit (bf κ (iS w (bR (jb a (nth c i.toNat))).1)))] (bO (dN a (bR (jb a (nth c i.toNat))).2))):=fun e=>by
   rw[j,e,an9] at f;exact f
  have N:wK (iS w (bR (jb a (nth c i.toNat))).1)=false->∃m,m<c.length - i.toNat/\gq (Ra κ) F5 (M9 κ) (fun x=>x.bl.length - x.i.toNat) K m (sp 52 [(0,Ef),(5, .lit (bf κ (iS w (bR (jb a (nth c i.toNat))).1))),(14, .ad 80 c),(15, .int c.length),(16, .int (IntKind.wrap .i64 (i+1)))] (bO (dN a (bR (jb a (nth c i.toNat))).2))):=fun e=>by
   rw[j,e,an7] at f d;rw[ay (n:=i+1) (by omega) (by omega)];refine⟨_,?_,⟨dN a (bR (jb a (nth c i.toNat))).2,iS w (bR (jb a (nth c i.toNat))).1,c,i+1⟩,rfl,⟨o,uJ h g,v,t,by simp only;omega,by simp only;omega⟩,rfl,?_⟩
   ·simp only;omega
   ·intro b _
    cases b
    ·exact d
    ·exact f
  refine ai.2 ⟨by simp;omega,jb a (nth c i.toNat),rfl,⟨o,by rw[Cf];exact q⟩,?_⟩;have p:Value.iface 273 (.pointer (some κ.fX))=bf κ 51:=rfl;have s:Value.iface 273 (.pointer (some κ.arity))=bf κ 52:=rfl;have r:Value.iface 273 (.pointer (some κ.type))=bf κ 53:=rfl;have A:(jb a (nth c i.toNat)).a=a:=rfl;simp only[p,s,r,A,cL,jG]
  revert R N g
  generalize bR (jb a (nth c i.toNat))=y
  intro g R N;simp only[Be κ g,Be κ h,Bf κ (show wJ 51 from .inl rfl),Bf κ (show wJ 52 from .inr (.inl rfl)),Bf κ (show wJ 53 from .inr (.inr rfl)),iH κ g (show jX 51 from .inr (.inl rfl)),iH κ g (show jX 52 from .inr (.inr (.inl rfl))),iH κ h (show jX 51 from .inr (.inl rfl)),iH κ h (show jX 52 from .inr (.inr (.inl rfl))),iH κ h (show jX 53 from .inr (.inr (.inr rfl)))];obtain⟨e,C⟩:=y;simp only at g R N⊢;rcases h with rfl|rfl|rfl|rfl<;>rcases g with rfl|rfl|rfl|rfl<;>first|exact R rfl|exact N rfl
 ·simp only at k
  have j:lJ ⟨a,w,c,i⟩=(w,(a.es,a.more)):=by
   unfold lJ;simp only;rw[ao0 (by omega)];rfl
  rw[j] at d;exact d
noncomputable def Wg κ:=(Px κ).aq 152 3 (aI 2 (Ra κ) F5 (M9 κ))
theorem eYq κ:aF (Wg κ):=(eYc _).aq (mYc _) (lPa _)
theorem mYq κ:aj (Wg κ):=(mYc _).aq a0
theorem yPa κ a r K:(a8 (Wg κ) 12 152 [Ef,aw r] (bO a) K)=(
 letI b:=AV.ptr 0 0 []
 letI c:=Pg.toProgram (Env.P (Px κ))
 ∃(e2:SC),([b 0,AV.agg [AV.str r.rel,AV.ad 38 r.hl]],(bO a))=([b 0,AV.agg [AV.str e2.2.1,AV.ad 38 e2.2.2]],(bO e2.1))/\(e2.1.ds.length<=9223372036854775807/\aM (ae e2.2.2)<=100000)/\ah c 152 3=ah c 152 3/\∃(e1:Vf),letI d:=K (AV.lit (bf κ (Prod.fst (lJ e1)))) (bO (dN e1.a (Prod.snd (lJ e1))));sp 52 [(0,b 0),(5,AV.lit (bf κ (Prod.fst (dD e2.1 e2.2.1 e2.2.2)))),(14,AV.ad 80 r.bl),(15,AV.int (↑(r.bl.length):Int)),(16,AV.int 0)] (bO (dN e2.1 (Prod.snd (dD e2.1 e2.2.1 e2.2.2))))=sp 52 [(0,b 0),(5,AV.lit (bf κ e1.w)),(14,AV.ad 80 e1.bl),(15,AV.int (↑(e1.bl.length):Int)),(16,AV.int e1.i)] (bO e1.a)/\(List.length e1.a.ds<=9223372036854775807/\(e1.w=(0:Int)\/e1.w=(51:Int)\/e1.w=(52:Int)\/e1.w=(53:Int))/\e1.bl.length<=100000/\(∀(e0:AV),List.Mem e0 e1.bl->jh (c9 e0)<=100000)/\(0:Int)<=e1.i/\e1.i<=(↑(e1.bl.length):Int))/\∀(e0:Bool),True->an e0 d d):=by kernel_rfl
abbrev VN:=ko×dt
def mO(x:VN):=km getM gI (cP x.1.ds) (dB x.2.bl) (ff getM gI (cP x.1.ds) ⟨x.2.rel,ae x.2.hl⟩ (x.1.es,x.1.more))
def Y6(x:VN):=([Ef,aw x.2],bO x.1)
def NU(x:VN):=x.1.ds.length<=aU/\dk x.2
noncomputable def R8(κ:Kp)(x:VN):Out (AV×List Dn.Obj):= .one (.lit (bf κ (mO x).1),bO (dN x.1 (mO x).2))
theorem cPs κ:bq (Wg κ) 12 152 (aX Y6 NU (R8 κ)):=by
 refine a7 ?_;rintro⟨a,r⟩ K ⟨g,d⟩ f;simp only at g d;refine Eq.mpr (yPa κ a r K) ?_;have c: ∀l,l∈r.bl->jh (c9 l)<=100000:=fun l i=>by
  obtain⟨k,h,e⟩:=List.getElem_of_mem i;have:=ly d h
  rwa [aJ _ _ h,e] at this
 have j:mO (a,r)=lJ ⟨dN a (dD a r.rel r.hl).2,(dD a r.rel r.hl).1,r.bl,0⟩:=by
  rfl
 have f:K (.lit (bf κ (mO (a,r)).1)) (bO (dN a (mO (a,r)).2)):=f;rw[j] at f;refine⟨(a,r.rel,r.hl),rfl,⟨g,qb d⟩,rfl,⟨dN a (dD a r.rel r.hl).2,(dD a r.rel r.hl).1,r.bl,0⟩,rfl,⟨g,uu _ _ _,d.2,c,by simp only;omega,by simp only;omega⟩,fun b _=>?_⟩;cases b<;>exact f
noncomputable def Py κ:=(Wg κ).aB 152 (aX Y6 NU (R8 κ))
theorem eYs κ:aF (Py κ):=(eYq _).aB (mYq _) (cPs _)
theorem mYs κ:aj (Py κ):=(mYq _).aB aZ
end Go.Proofs.YtioeffnadipbaaaGreatDoor
namespace Go.Rl
open Go Go.Dn
section
variable {σ:Type} {get:σ->ByteArray->Int} {set:σ->ByteArray->Int->σ}
variable (hgs: ∀st s k t,get (set st s k) t=bif t==s then k else get st t)
include hgs
theorem tJ ds{r}(a:ba r=true) V(g: ∀s,s∈fS r->s∈V) st(c:(fo get set ds r st).1=0)(b:(fo get set ds r st).2.2=true):mZ get V (fo get set ds r st).2.1<mZ get V st:=by
 have d:ke ds r=0:=by
  grind [ke,De]
 simp only[ba,an3,List.all_eq_true] at a;have e:=Nm   ds  (vI a.1.1.1) (fun l f=>Vb (a.2 l f)) d st c;rw[e] at b⊢;exact zY (Fa hgs ds r st) V ((Fb hgs ds r st b).left (Ext.refl _ _) g)
theorem pc ds{r}(b:ba r=true) V(a: ∀s,s∈fS r->s∈V): ∀n m st,mZ get V st<n->mZ get V st<m->gk get set ds r n st=gk get set ds r m st
 |0,_,_,h,_=>by omega
 |_+1,0,_,_,h=>by omega
 | n+1,m+1,st,d,f=>by
  rw[gk,gk];cases e:decide ((fo get set ds r st).1=0) with
  |false=>rfl
  | true=>
   cases c:(fo get set ds r st).2.2 with
   |false=>rfl
   |true=>
    have:=tJ hgs ds b V a st (by grind) c
    exact pc ds b V a n m _ (by omega) (by omega)
end
end Go.Rl
namespace Go.Proofs.YtioeffnadipbaaaGreatDoor
open Go Go.Dn Go.Rl Go.Proofs
attribute [local irreducible] a8 vc
set_option maxRecDepth 20000
structure uW where
 ds:List AV
 r:dt
 es:List (Value×AV)
 more:Bool
abbrev Re(x:uW):=sp 60 [(3, .ptr 0 0 [] 0),(6, .ptr 1 0 [] 0)] [.box 48 (aw x.r), .box 219 (.agg [.ad 43 x.ds, .mp 2, .bool x.more]), .map 9 3 x.es]
theorem xTy κ x I n K:(vc (Py κ) 12 106 none 0 (ah (Pr κ).toProgram 106 4) (Re x) (bh (Py κ) 106 4 0 I n K))=(
 letI b:=AV.ptr 0 0 []
 letI c:=AV.bool
 letI d:=Obj.box
 letI e:=Dn.Obj.map
 an x.more (∃(a:VN),letI f:=bf κ (Prod.fst (mO a));letI g:=dN a.1 (Prod.snd (mO a));([b 0,aw x.r],[d 219 (AV.agg [AV.ad 43 x.ds,AV.mp 1,c false]),e 9 3 x.es])=([b 0,aw a.2],[d 219 (AV.agg [AV.ad 43 a.1.ds,AV.mp 1,c a.1.more]),e 9 3 a.1.es])/\(a.1.ds.length<=9223372036854775807/\aM (ae (bk 38 a.2.hl a.2.bl))<=100000/\a.2.bl.length<=100000)/\aG (aC f) (an (!bM f) (aG (lg κ f) (K Exit.ret (sp 60 [(4,AV.nil),(5,AV.int (Qs κ f))] []))) (∃(m:Nat),m<n/\I m (sp 60 [(3,b 0),(6,AV.ptr 1 0 [] 0)] [d 48 (aw x.r),d 219 (AV.agg [AV.ad 43 (ko.ds g),AV.mp 2,c (ko.more g)]),e 9 3 (ko.es g)])))) (K (Exit.exit 0) (sp 60 [(3,b 0),(6,AV.ptr 1 0 [] 0)] [d 48 (aw x.r),d 219 (AV.agg [AV.ad 43 x.ds,AV.mp 2,c x.more]),e 9 3 x.es]))):=by kernel_rfl
abbrev dsR(x:uW):List Dc:=cP x.ds
def zTy(x:uW):=mZ getM (dm (aH x.r)) x.es
def ai8 x:=gk getM gI (dsR x) (aH x.r) (zTy x+1) x.es
def gN x:=bif x.more then ai8 x else(0,x.es)
def NX(x:uW):=ba (aH x.r)=true/\x.ds.length<=aU/\dk x.r
def Hp(x:uW):Out (Exit×S):= .an (decide ((gN x).1=0)) (.one (.exit 0,Re ⟨x.ds,x.r,(gN x).2,false⟩)) (.one (.ret,sp 60 [(4, .nil),(5, .int (gN x).1)] []))
theorem Df ds r a:jX (fo getM gI ds r a).1:=uw _ _ _ (uu _ _ _)
theorem lTy κ:aP (Py κ) 12 106 4 (aI 0 Re NX Hp):=by
 refine aD (fun x=>bif x.more then zTy x+1 else 0) ?_;rintro⟨ds,r,a,b⟩ K ⟨c,g,f⟩ e;simp only at c g f;rw[show(Py κ).P=Pr κ from rfl];refine Eq.mpr (xTy κ ⟨ds,r,a,b⟩ _ _ K) ?_;simp only[Hp,Out.run,ag] at e;cases b with
 |false=>exact e.1 rfl
 | true=>
  have m:mO (⟨ds,a,false⟩,r)=fo getM gI (cP ds) (aH r) a:=rfl;have h: ∀s,s∈fS (aH r)->s∈dm (aH r):=fun s l=>(zm c).2 l
  have j:=Df (cP ds) (aH r) a;have k:gN ⟨ds,r,a,true⟩=bif decide ((fo getM gI (cP ds) (aH r) a).1=0) then gN ⟨ds,r,(fo getM gI (cP ds) (aH r) a).2.1,(fo getM gI (cP ds) (aH r) a).2.2⟩ else((fo getM gI (cP ds) (aH r) a).1,(fo getM gI (cP ds) (aH r) a).2.1):=by
   have e0:gN ⟨ds,r,a,true⟩=gk getM gI (cP ds) (aH r) (zTy ⟨ds,r,a,true⟩+1) a:=rfl;rw[e0,gk];cases d:decide ((fo getM gI (cP ds) (aH r) a).1=0) with
   |false=>rfl
   | true=>
    rw[an9,an9];unfold gN;cases i:(fo getM gI (cP ds) (aH r) a).2.2 with
    |false=>rfl
    |true=>
     rw[an9];have:=tJ oO (cP ds) c _ h a (by simpa using d) i
     exact pc oO (cP ds) c _ h _ _ _ this (Nat.lt_succ_self _)
  refine⟨(⟨ds,a,false⟩,r),rfl,⟨g,f⟩,?_⟩;rw[m];refine ai.2 ⟨cL _ _,?_⟩;rw[jG];cases d:decide ((fo getM gI (cP ds) (aH r) a).1=0) with
  |false=>
   rw[k,d,an7] at e;refine ai.2 ⟨Be κ j,?_⟩;rw[MB κ j];exact e.2 d
  | true=>
   rw[k,d,an9] at e;refine⟨_,?_,⟨ds,r,(fo getM gI (cP ds) (aH r) a).2.1,(fo getM gI (cP ds) (aH r) a).2.2⟩,rfl,⟨c,g,f⟩,rfl,?_⟩
   ·simp only
    cases i:(fo getM gI (cP ds) (aH r) a).2.2 with
    |false=>exact Nat.succ_pos _
    |true=>
     have:=tJ oO (cP ds) c _ h a (by simpa using d) i
     exact Nat.succ_lt_succ this
   ·simp only[Hp,Out.run,ag]
    exact e
noncomputable def Pz κ:=(Py κ).aq 106 4 (aI 0 Re NX Hp)
theorem eYv κ:aF (Pz κ):=(eYs _).aq (mYs _) (lTy _)
theorem mYv κ:aj (Pz κ):=(mYs _).aq a0
def iA(l:List Int):List AV:=l.map fun k=> .lit (.int .i64 k)
theorem jf l:(iA l).length=l.length:=by simp[iA]
theorem L3 l m:iA (l++m)=iA l++iA m:=by simp[iA]
structure Vj where
 ds:List AV
 es:List (Value×AV)
 o:List Int
 vs:List ByteArray
 i:Int
abbrev Rf(x:Vj):=sp 60 [(6, .ptr 0 0 [] 0),(8, .ax 2 0 (iA x.o).length),(36, .ax 3 0 x.vs.length),(37, .int x.vs.length),(38, .int x.i)] [.box 219 (.agg [.ad 43 x.ds, .mp 1, .bool false]), .map 9 3 x.es, .row 3 (iA x.o), .row 9 (strs x.vs)]
theorem xTz κ ds es o vs i I n K:(vc (Pz κ) 12 106 none 0 (ah (Pr κ).toProgram 106 11) (sp 60 [(6, .ptr 0 0 [] 0),(8, .ax 2 0 o.length),(36, .ax 3 0 vs.length),(37, .int vs.length),(38, .int i)] [.box 219 (.agg [.ad 43 ds, .mp 1, .bool false]), .map 9 3 es, .row 3 o, .row 9 vs]) (bh (Pz κ) 106 11 0 I n K))=(
 letI a:=AV.int
 letI b:=de es (Value.string (toStr (nth vs (0+i.toNat)))) (a 0)
 letI c:=i<(↑(vs.length):Int)
 an (decide c) (aG (decide ((0:Int)<=i)&&decide c) (an (toInt b==(0:Int)) (K Exit.ret (sp 60 [(4,AV.nil),(5,a 53)] [])) (aG (decide
 ((o.length+1+1)*9<=70368744177664)) (∃(e0:Nat),e0<n/\I e0 (sp 60 [(6,AV.ptr 0 0 [] 0),(8,AV.ax 2 0 (o.length+1)),(36,AV.ax 3 0 vs.length),
 (37,a (↑(vs.length):Int)),(38,a (IntKind.wrap IntKind.i64 (i+(1:Int))))] [Obj.box 219 (AV.agg [AV.ad 43 ds,AV.mp 1,AV.bool false]),
 Dn.Obj.map 9 3 es,Obj.row 3 (List.take o.length o++[a (toInt b)]),Obj.row 9 vs]))))) (K (Exit.exit 2) (sp 60 [(8,AV.ax 0 0 o.length)] [Obj.row 3 o]))):=by kernel_rfl
def mq(x:Vj):=x.vs.drop x.i.toNat
def ur x:=(mq x).all fun s=>!decide (getM x.es s=0)
def NY(x:Vj):=x.vs.length<=100000/\x.o.length<=x.i.toNat/\0<=x.i/\x.i<=x.vs.length
def Hq(x:Vj):Out (Exit×S):= .an (ur x) (.one (.exit 2,sp 60 [(8, .ax 0 0 (iA (x.o++(mq x).map (getM x.es))).length)] [.row 3 (iA (x.o++(mq x).map (getM x.es)))])) (.one (.ret,sp 60 [(4, .nil),(5, .int 53)] []))
theorem lTz κ:aP (Pz κ) 12 106 11 (aI 0 Rf NY Hq):=by
 refine aD (fun x=>x.vs.length - x.i.toNat) ?_;rintro⟨ds,a,o,vs,i⟩ K ⟨h,m,f,k⟩ b;simp only at h m f k;rw[show(Pz κ).P=Pr κ from rfl];have e0:(⟨ds,a,o,vs,i⟩:Vj).vs.length=(strs vs).length:=(aR vs).symm;simp only[Rf,e0];refine Eq.mpr (xTz κ ds a (iA o) (strs vs) i _ _ K) ?_;simp only[Hq,Out.run,ag] at b;simp only[aR];rw[ag,an2,an4,ai,an3,an2,an2];refine⟨fun g=>⟨⟨f,g⟩,?_⟩,fun g=>?_⟩
 ·have j:i.toNat<vs.length:=by omega
  have c:mq ⟨ds,a,o,vs,i⟩=vs[i.toNat]::mq ⟨ds,a,o++[getM a vs[i.toNat]],vs,i+1⟩:=by
   unfold mq;simp only[show(i+1).toNat=i.toNat+1 by omega];exact ao3 j
  have d:ur ⟨ds,a,o,vs,i⟩=(!decide (getM a vs[i.toNat]=0)&&ur ⟨ds,a,o++[getM a vs[i.toNat]],vs,i+1⟩):=by
   unfold ur;rw[c,ao8]
  rw[Nat.zero_add,ya vs _ j,ZY];have l:toInt (de a (Value.string (toStr (.lit (.string vs[i.toNat])))) (AV.int 0))=getM a vs[i.toNat]:=rfl;rw[l,ag];refine⟨fun e=>?_,fun e=>?_⟩
  ·rw[d,e] at b
   exact b.2 rfl
  ·rw[d,e,c,Bool.not_false,ao7] at b
   rw[ai,an2,jf];rw[ay (n:=i+1) (by omega) (by omega)];refine⟨by omega,_,?_,⟨ds,a,o++[getM a vs[i.toNat]],vs,i+1⟩,?_,⟨h,by simp only[ao6,List.length_singleton];omega,by simp only;omega,by simp only;omega⟩,rfl,?_⟩
   ·simp only;omega
   ·simp only[Rf,L3,jf,ao6,List.length_singleton,List.take_of_length_le (show(iA o).length<=o.length by rw[jf];omega)]
    rfl
   ·simp only[Hq,Out.run,ag]
    grind
 ·have c:mq ⟨ds,a,o,vs,i⟩=[]:=by
   unfold mq;exact ao0 (by simp only;omega)
  have d:ur ⟨ds,a,o,vs,i⟩=true:=by
   unfold ur;rw[c];rfl
  rw[d,c] at b;have:=b.1 rfl
  simp only[List.map_nil,List.append_nil] at this;exact this
noncomputable def Wj κ:=(Pz κ).aq 106 11 (aI 0 Rf NY Hq)
theorem eYz κ:aF (Wj κ):=(eYv _).aq (mYv _) (lTz _)
theorem mYz κ:aj (Wj κ):=(mYv _).aq a0
theorem yTz κ ds r K:(a8 (Wj κ) 12 106 [.ad 43 ds,aw r] [] K)=(
 letI a:=AV.ptr 0 0 []
 letI b:=AV.int
 letI c:=AV.agg
 letI d:=AV.bool
 letI e:=AV.str
 letI f:=Obj.box
 letI g:=Obj.row
 letI h:=Dn.Obj.map
 letI i:=AV.ad
 letI k:=Pg.toProgram (Env.P (Py κ))
 letI l:=Pg.toProgram (Env.P (Pz κ))
 aG (List.all [c [c [e r.rel,i 38 r.hl],i 80 r.bl,b r.line]] fk) (an (!fR ds [c [c [e r.rel,i 38 r.hl],i 80 r.bl,b r.line]]) (K (AV.aK [AV.nil,b 30]) []) (ah k 106 4=ah k 106 4/\∃(e2:uW),letI j:=uW.r {ds:=e2.ds,r:=e2.r,es:=Prod.snd (gN e2),more:=false};sp 60 [(3,a 0),(6,AV.ptr 1 0 [] 0)] [f 48 (c [c [e r.rel,i 38 r.hl],i 80 r.bl,b r.line]),f 219 (c [i 43 ds,AV.mp 2,d true]),h 9 3 []]=sp 60 [(3,a 0),(6,AV.ptr 1 0 [] 0)] [f 48 (c [c [e e2.r.rel,i 38 e2.r.hl],i 80 e2.r.bl,b e2.r.line]),f 219 (c [i 43 e2.ds,AV.mp 2,d e2.more]),h 9 3 e2.es]/\(ba (aH e2.r)=true/\e2.ds.length<=9223372036854775807/\aM (ae (bk 38 e2.r.hl e2.r.bl))<=100000/\List.length e2.r.bl<=100000)/\an (decide (Prod.fst (gN e2)=(0:Int))) (∃(e1:dt),letI m:=List.length (dm (aH e1));([c [c [AV.lit (Value.string (dt.rel j)),i 38 (dt.hl j)],i 80 (dt.bl j),AV.lit (Value.int IntKind.i64 (dt.line j))]],aO)=([c [c [e e1.rel,i 38 e1.hl],i 80 e1.bl,b e1.line]],aO)/\(ba (aH e1)=true/\aM (ae (bk 38 e1.hl e1.bl))<=100000/\e1.bl.length<=100000)/\ah l 106 11=ah l 106 11/\∃(e0:Vj),letI n:=iA (e0.o++List.map (getM e0.es) (mq e0));sp 60 [(6,a 0),(8,AV.ax 2 0 0),(36,AV.ax 3 0 m),(37,b (↑m:Int)),(38,b 0)] [f 219 (c [i 43 (uW.ds {ds:=e2.ds,r:=e2.r,es:=Prod.snd (gN e2),more:=false}),AV.mp 1,d false]),h 9 3 (uW.es {ds:=e2.ds,r:=e2.r,es:=Prod.snd (gN e2),more:=false}),g 3 [],g 9 (strs (dm (aH e1)))]=sp 60 [(6,a 0),(8,AV.ax 2 0 (List.length (iA e0.o))),(36,AV.ax 3 0 e0.vs.length),(37,b (↑(e0.vs.length):Int)),(38,b e0.i)] [f 219 (c [i 43 e0.ds,AV.mp 1,d false]),h 9 3 e0.es,g 3 (iA e0.o),g 9 (strs e0.vs)]/\(e0.vs.length<=100000/\e0.o.length<=e0.i.toNat/\(0:Int)<=e0.i/\e0.i<=(↑(e0.vs.length):Int))/\an (ur e0) (K (AV.aK [AV.ax 0 0 (List.length n),b 0]) [g 3 n]) (K (AV.aK [AV.nil,b 53]) [])) (K (AV.aK [AV.nil,b (Prod.fst (gN e2))]) [])))):=by kernel_rfl
abbrev VO:=List AV×dt
def ve(x:VO):=OJ (cP x.1) (aH x.2)
def Zd(x:VO):List AV×List Dn.Obj:=([.ad 43 x.1,aw x.2],[])
def NW(x:VO):=x.1.length<=aU/\dk x.2
def Ng(x:VO):Out (AV×List Dn.Obj):= .an (fR x.1 [aw x.2]) (.an (decide ((ve x).1=0)) (.one (.aK [.ax 0 0 (iA (ve x).2).length, .int 0],[.row 3 (iA (ve x).2)])) (.one (.aK [.nil, .int (ve x).1],[]))) (.one (.aK [.nil, .int 30],[]))
theorem J1{ds r}(h:fR ds [aw r]=true):ba (aH r)=true:=by
 unfold fR at h;rw[an3] at h;have:=h.2
 rw[ao8,an3] at this;exact this.1
theorem cTs κ:bq (Wj κ) 12 106 (aX Zd NW Ng):=by
 refine a7 ?_;rintro⟨ds,r⟩ K ⟨i,b⟩ h;simp only at i b;refine Eq.mpr (yTz κ ds r K) ?_;simp only[Ng,Out.run,ag] at h;have g:=eu (ae r.hl);rw[dz] at g;have p:=qb b;have o:=b.2;refine ai.2 ⟨?_,?_⟩
 ·show(fk (aw r)&&true)=true
  have:fk (aw r)=(decide (r.hl.length<=aU)&&decide (r.bl.length<=aU)):=rfl
  rw[this,an8 (by simp only[aU];omega),an8 (by simp only[aU];omega)];rfl
 refine ag.2 ⟨fun e=>h.2 (by simpa using e),fun e=>?_⟩;have j:fR ds [aw r]=true:=by simpa using e
 have c:=J1 j;have a:=h.1 j;have n:gN ⟨ds,r,[],true⟩=gk getM gI (cP ds) (aH r) ((dm (aH r)).length+1) []:=pc oO (cP ds) c _ (fun s k=>(zm c).2 k) _ _ _ (Nat.lt_succ_self _) (Nat.lt_succ_of_le (OT _ _ _));have l:ve (ds,r)=bif decide ((gN ⟨ds,r,[],true⟩).1=0) then(bif (dm (aH r)).all (fun s=>!decide (getM (gN ⟨ds,r,[],true⟩).2 s=0)) then(0,(dm (aH r)).map (getM (gN ⟨ds,r,[],true⟩).2)) else(53,[])) else((gN ⟨ds,r,[],true⟩).1,[]):=by
  rw[n];rfl
 rw[l] at a;refine⟨rfl,⟨ds,r,[],true⟩,rfl,⟨c,i,b⟩,?_⟩;refine ag.2 ⟨fun d=>⟨r,rfl,⟨c,b⟩,rfl,⟨ds,(gN ⟨ds,r,[],true⟩).2,[],dm (aH r),0⟩,rfl,⟨zU b,Nat.zero_le _,by simp only;omega,by simp only;omega⟩,?_⟩,fun d=>?_⟩
 ·rw[d,an9] at a
  have m:ur ⟨ds,(gN ⟨ds,r,[],true⟩).2,[],dm (aH r),0⟩=(dm (aH r)).all (fun s=>!decide (getM (gN ⟨ds,r,[],true⟩).2 s=0)):=rfl;rw[m];refine ag.2 ⟨fun f=>?_,fun f=>?_⟩
  ·rw[f] at a
   exact a.1 rfl
  ·rw[f] at a
   exact a.2 rfl
 ·rw[d,an7] at a
  exact a.2 d
noncomputable def Pw κ:=(Wj κ).aB 106 (aX Zd NW Ng)
theorem eTy κ:aF (Pw κ):=(eYz _).aB (mYz _) (cTs _)
theorem mTy κ:aj (Pw κ):=(mYz _).aB aZ
abbrev lj(ds a:List AV):AV:= .agg [.ad 43 ds, .ad 48 a]
def cG(x:AV):dt:=⟨[],[],toStr (af (af x 0) 0),aa (af (af x 0) 1),aa (af x 1),toInt (af x 2),0⟩
structure KD where
 ds:List AV
 rs:List AV
 i:Int
abbrev TC(x:KD):Dn.Obj:= .box 25 (lj x.ds x.rs)
def Sy(ds:List AV):List AV->Int->Int×Int
 |[],_=>(0,0)
 |d::l,i=>bif decide (ck (toStr (af d 0)) ds=i) then Sy ds l (i+1) else(toInt (af d 5),50)
def lz ds x:=bif fR ds [aw (cG x)] then(ve (ds,cG x)).1 else 30
def Hx(f:AV->Int):List AV->Int×Int
 |[]=>(0,0)
 |x::l=>bif decide (f x=0) then Hx f l else(toInt (af x 2),f x)
def Aq ds a:=bif fR ds a then bif decide ((Sy ds ds 0).2=0) then Hx (lz ds) a else Sy ds ds 0 else(0,30)
def lh(x:AV):Int:=Fs (aH (cG x))
def jy ds a:=bif decide ((Aq ds a).2=0) then Hx lh a else Aq ds a
def j2(ds a:List AV):=ds.length<=aU/\a.length<=aU/\∀x,x∈a->dk (cG x)
theorem GL{ds c}(h:j2 ds c):c.all fk=true:=by
 refine List.all_eq_true.2 fun x d=>?_
 have b:=h.2.2 x d;have a:=eu (ae (cG x).hl);rw[dz] at a;have e:=qb b;have hl:=b.2
 grind [fk,cG,aU]
abbrev UM x:=sp 57 [(1, .ptr 0 0 [] 0),(16, .ad 43 x.ds),(17, .int x.ds.length),(18, .int x.i)] [TC x]
theorem xC1 κ x I n K:(vc (Pw κ) 12 61 none 0 (ah (Pr κ).toProgram 61 4) (UM x) (bh (Pw κ) 61 4 0 I n K))=(
 letI a:=AV.agg [AV.ad 43 x.ds,AV.ad 48 x.rs]
 letI b:=x.i<(↑(x.ds.length):Int)
 an (decide b) (aG (decide ((0:Int)<=x.i)&&decide b) (∃(e1:List AV×ByteArray),([AV.ad 43 x.ds,AV.str (toStr (af (nth x.ds x.i.toNat) 0))],aO)=
 ([AV.ad 43 e1.1,AV.str e1.2],aO)/\p9 e1/\an (ck e1.2 e1.1 != x.i) (K Exit.ret (sp 57 [(2,AV.int (toInt (af (nth x.ds x.i.toNat) 5))),(3,AV.int 50)] []))
 (∃(e0:Nat),e0<n/\I e0 (sp 57 [(1,AV.ptr 0 0 [] 0),(16,AV.ad 43 x.ds),(17,AV.int (↑(x.ds.length):Int)),(18,AV.int (IntKind.wrap IntKind.i64 (x.i
 +(1:Int))))] [Obj.box 25 a])))) (K (Exit.exit 0) (sp 57 [(1,AV.ptr 0 0 [] 0)] [Obj.box 25 a]))):=by kernel_rfl
def KI(x:KD):=Sy x.ds (x.ds.drop x.i.toNat) x.i
def NH(x:KD):=x.ds.length<=aU/\0<=x.i/\x.i<=x.ds.length
def Hl(x:KD):Out (Exit×S):= .an (decide ((KI x).2=0)) (.one (.exit 0,sp 57 [(1, .ptr 0 0 [] 0)] [TC x])) (.one (.ret,sp 57 [(2, .int (KI x).1),(3, .int (KI x).2)] []))
theorem lC1 κ:aP (Pw κ) 12 61 4 (aI 0 UM NH Hl):=by
 refine aD (fun x=>x.ds.length - x.i.toNat) ?_;rintro⟨ds,b,i⟩ K ⟨c,g,j⟩ a;simp only at c g j;rw[show(Pw κ).P=Pr κ from rfl];refine Eq.mpr (xC1 κ ⟨ds,b,i⟩ _ _ K) ?_;simp only[aU] at c;simp only[Hl,Out.run,ag] at a;rw[ag,an2,an4,ai,an3,an2,an2];refine⟨fun d=>⟨⟨g,d⟩,(ds,toStr (af (nth ds i.toNat) 0)),rfl,c,?_⟩,fun d=>?_⟩
 ·simp only at d
  have h:i.toNat<ds.length:=by omega
  have f:KI ⟨ds,b,i⟩=bif decide (ck (toStr (af (nth ds i.toNat) 0)) ds=i) then KI ⟨ds,b,i+1⟩ else(toInt (af (nth ds i.toNat) 5),50):=by
   unfold KI;simp only[show(i+1).toNat=i.toNat+1 by omega];rw[ao3 h,←aJ ds i.toNat h,Sy]
  rw[f] at a;simp only[Lv];cases e:decide (ck (toStr (af (nth ds i.toNat) 0)) ds=i) with
  |false=>
   rw[e] at a;exact a.2 rfl
  | true=>
   rw[e] at a;rw[ay (n:=i+1) (by omega) (by omega)];refine⟨_,?_,⟨ds,b,i+1⟩,rfl,⟨by simpa[aU] using c,by simp only;omega,by simp only;omega⟩,rfl,?_⟩
   ·simp only;omega
   ·simp only[Hl,Out.run,ag]
    exact a
 ·simp only at d
  have f:KI ⟨ds,b,i⟩=(0,0):=by
   unfold KI;simp only;rw[ao0 (by omega)];rfl
  rw[f] at a;exact a.1 rfl
noncomputable def Pn κ:=(Pw κ).aq 61 4 (aI 0 UM NH Hl)
theorem eC1 κ:aF (Pn κ):=(eTy _).aq (mTy _) (lC1 _)
theorem mC1 κ:aj (Pn κ):=(mTy _).aq a0
abbrev Oh x:=sp 57 [(1, .ptr 0 0 [] 0),(38, .ad 48 x.rs),(39, .int x.rs.length),(40, .int x.i)] [TC x]
theorem xC2 κ x I n K:(vc (Pn κ) 12 61 none 0 (ah (Pr κ).toProgram 61 11) (Oh x) (bh (Pn κ) 61 11 0 I n K))=(
 letI a:=AV.int
 letI b:=AV.ad
 letI e:=∃(e0:Nat),e0<n/\I e0 (sp 57 [(1,AV.ptr 0 0 [] 0),(38,b 48 x.rs),(39,a (↑(x.rs.length):Int)),(40,a (IntKind.wrap
  IntKind.i64 (x.i+(1:Int))))] [Obj.box 25 (AV.agg [b 43 x.ds,b 48 x.rs])])
 letI c:=nth x.rs x.i.toNat
 letI f:=x.i<(↑(x.rs.length):Int)
 letI d:=toInt (af c 2)
 an (decide f) (aG (decide ((0:Int)<=x.i)&&decide f) (∃(e1:VO),([b 43 x.ds,AV.agg [AV.agg [AV.str (toStr (af (af c 0) 0)),b 38 (aa (af (af
 c 0) 1))],b 80 (aa (af c 1)),a d]],aO)=([b 43 e1.1,aw e1.2],aO)/\(e1.1.length<=9223372036854775807/\aM (ae (bk 38 e1.2.hl e1.2.bl))<=
 100000/\e1.2.bl.length<=100000)/\an (fR e1.1 [aw e1.2]) (an (decide (Prod.fst (ve e1)=(0:Int))) e (an (Prod.fst (ve e1) != (0:Int)) (K Exit.ret (sp 57
 [(2,a d),(3,a (Prod.fst (ve e1)))] [])) e)) (K Exit.ret (sp 57 [(2,a d),(3,a 30)] [])))) (K (Exit.exit 2) (sp 57 [] []))):=by kernel_rfl
def BA f(x:KD):=Hx f (x.rs.drop x.i.toNat)
def tX(x:KD):=j2 x.ds x.rs/\0<=x.i/\x.i<=x.rs.length
def C5(x:KD):Out (Exit×S):= .an (decide ((BA (lz x.ds) x).2=0)) (.one (.exit 2,sp 57 [] [])) (.one (.ret,sp 57 [(2, .int (BA (lz x.ds) x).1),(3, .int (BA (lz x.ds) x).2)] []))
theorem Hz f ds a i(c:0<=i)(b:i.toNat<a.length):BA f ⟨ds,a,i⟩=bif decide (f (nth a i.toNat)=0) then BA f ⟨ds,a,i+1⟩ else(toInt (af (nth a i.toNat) 2),f (nth a i.toNat)):=by
 grind [BA,List.drop_eq_getElem_cons,aJ,Hx]
theorem Hy f ds a i(h:a.length<=i.toNat):BA f ⟨ds,a,i⟩=(0,0):=by
 unfold BA;rw[ao0 h];rfl
theorem lC2 κ:aP (Pn κ) 12 61 11 (aI 0 Oh tX C5):=by
 refine aD (fun x=>x.rs.length - x.i.toNat) ?_;rintro⟨ds,a,i⟩ K ⟨c,h,p⟩ b;simp only at c h p;rw[show(Pn κ).P=Pr κ from rfl];refine Eq.mpr (xC2 κ ⟨ds,a,i⟩ _ _ K) ?_;have g:=c.2.1;simp only[aU] at g;simp only[C5,Out.run,ag] at b;rw[ag,an2,an4,ai,an3,an2,an2];refine⟨fun d=>⟨⟨h,d⟩,(ds,cG (nth a i.toNat)),rfl,⟨c.1,?_⟩,?_⟩,fun d=>?_⟩
 ·simp only at d
  exact c.2.2 _ (by rw[aJ _ _ (show i.toNat<a.length by omega)];exact List.getElem_mem _)
 ·simp only at d
  have r:i.toNat<a.length:=by omega
  rw[Hz _ _ _ _ h r] at b;have l:lz ds (nth a i.toNat)=0->∃m,m<a.length - i.toNat/\gq Oh tX C5 (fun x=>x.rs.length - x.i.toNat) K m (Oh ⟨ds,a,i+1⟩):=fun e=>by
   rw[e] at b;refine⟨_,?_,⟨ds,a,i+1⟩,rfl,⟨c,by simp only;omega,by simp only;omega⟩,rfl,?_⟩
   ·simp only;omega
   ·simp only[C5,Out.run,ag]
    exact b
  have f: ∀e:Int,lz ds (nth a i.toNat)=e->e≠0->K .ret (sp 57 [(2, .int (toInt (af (nth a i.toNat) 2))),(3, .int e)] []):=fun e q k=>by
   rw[q,an6 k] at b;exact b.2 (an6 k)
  rw[ay (n:=i+1) (by omega) (by omega)];have o:lz ds (nth a i.toNat)=bif fR ds [aw (cG (nth a i.toNat))] then(ve (ds,cG (nth a i.toNat))).1 else 30:=rfl
  refine ag.2 ⟨fun j=>?_,fun j=>?_⟩
  ·simp_all[an9,ag,an4,Lv,ao4,an2]
  ·rw[j,an7] at o
   exact f 30 o (by decide)
 ·simp only at d
  rw[Hy _ _ _ _ (by omega)] at b;exact b.1 rfl
noncomputable def V7 κ:=(Pn κ).aq 61 11 (aI 0 Oh tX C5)
theorem eC2 κ:aF (V7 κ):=(eC1 _).aq (mC1 _) (lC2 _)
theorem mC2 κ:aj (V7 κ):=(mC1 _).aq a0
theorem yCd κ ds rs K:(a8 (V7 κ) 12 61 [lj ds rs] [] K)=(
 letI a:=AV.ptr 0 0 []
 letI b:=AV.int
 letI c:=AV.ad
 letI e:=Pg.toProgram (Env.P (Pw κ))
 letI f:=Pg.toProgram (Env.P (Pn κ))
 aG (List.all rs fk) (an (!fR ds rs) (K (AV.aK [b 0,b 30]) []) (ah e 61 4=ah e 61 4/\∃(e2:KD),letI g:=[Obj.box 25 (AV.agg [c 43 e2.ds,c 48 e2.rs])];sp 57 [(1,a 0),(16,c 43 ds),(17,b (↑(ds.length):Int)),(18,b 0)] [Obj.box 25 (AV.agg [c 43 ds,c 48 rs])]=sp 57 [(1,a 0),(16,c 43 e2.ds),(17,b (↑(e2.ds.length):Int)),(18,b e2.i)] g/\(e2.ds.length<=9223372036854775807/\(0:Int)<=e2.i/\e2.i<=(↑(e2.ds.length):Int))/\an (decide (Prod.snd (KI e2)=(0:Int))) (ah f 61 11=ah f 61 11/\∃(e1:KD),letI d:=BA (lz e1.ds) e1;sp 57 [(1,a 0),(38,c 48 e2.rs),(39,b (↑(e2.rs.length):Int)),(40,b 0)] g=sp 57 [(1,a 0),(38,c 48 e1.rs),(39,b (↑(e1.rs.length):Int)),(40,b e1.i)] [Obj.box 25 (AV.agg [c 43 e1.ds,c 48 e1.rs])]/\((e1.ds.length<=9223372036854775807/\e1.rs.length<=9223372036854775807/\∀(e0:AV),List.Mem e0 e1.rs->aM (ae (bk 38 (dt.hl (cG e0)) (dt.bl (cG e0))))<=100000/\List.length (dt.bl (cG e0))<=100000)/\(0:Int)<=e1.i/\e1.i<=(↑(e1.rs.length):Int))/\an (decide (Prod.snd d=(0:Int))) (K (AV.aK [b 0,b 0]) []) (K (AV.aK [b (Prod.fst d),b (Prod.snd d)]) [])) (K (AV.aK [b (Prod.fst (KI e2)),b (Prod.snd (KI e2))]) [])))):=by kernel_rfl
abbrev SF:=List AV×List AV
def Kl(x:SF):List AV×List Dn.Obj:=([lj x.1 x.2],[])
def tZ(x:SF):Prop:=j2 x.1 x.2
def MS(x:SF):Out (AV×List Dn.Obj):= .one (.aK [.int (Aq x.1 x.2).1, .int (Aq x.1 x.2).2],[])
theorem FQ f: ∀l,(Hx f l).2=0->Hx f l=(0,0)
 |[],_=>rfl
 | x::l,h=>by
  rw[Hx] at h⊢;cases e:decide (f x=0) with
  |true=>rw[e] at h;exact FQ f l h
  |false=>
   grind
theorem cCd κ:bq (V7 κ) 12 61 (aX Kl tZ MS):=by
 refine a7 ?_;rintro⟨ds,a⟩ K c b;have c:j2 ds a:=c;refine Eq.mpr (yCd κ ds a K) ?_;simp only[MS,Out.run,Aq] at b;refine ai.2 ⟨GL c,ag.2 ⟨fun e=>?_,fun e=>?_⟩⟩
 ·grind
 ·rw[show fR ds a=true by simpa using e,an9] at b
  have g:KI ⟨ds,a,0⟩=Sy ds ds 0:=rfl;have h:BA (lz ds) ⟨ds,a,0⟩=Hx (lz ds) a:=rfl;refine⟨rfl,⟨ds,a,0⟩,rfl,⟨c.1,by simp only;omega,by simp only;omega⟩,?_⟩;rw[g];refine ag.2 ⟨fun f=>⟨rfl,⟨ds,a,0⟩,rfl,⟨c,by simp only;omega,by simp only;omega⟩,?_⟩,fun f=>?_⟩
  ·rw[f,an9] at b
   rw[h];refine ag.2 ⟨fun d=>?_,fun d=>b⟩;rw[an2] at d;rw[FQ _ _ d] at b;exact b
  grind
noncomputable def Po κ:=(V7 κ).aB 61 (aX Kl tZ MS)
theorem eCd κ:aF (Po κ):=(eC2 _).aB (mC2 _) (cCd _)
theorem mCd κ:aj (Po κ):=(mC2 _).aB aZ
abbrev Oi(x:KD):=sp 37 [(20, .ad 48 x.rs),(21, .int x.rs.length),(22, .int x.i)] []
theorem xC3 κ x I n K:(vc (Po κ) 12 31 none 0 (ah (Pr κ).toProgram 31 5) (Oi x) (bh (Po κ) 31 5 0 I n K))=(
 letI a:=AV.int
 letI b:=nth x.rs x.i.toNat
 letI d:=x.i<(↑(x.rs.length):Int)
 letI c:=toInt (af b 2)
 an (decide d) (aG (decide ((0:Int)<=x.i)&&decide d) (∃(e1:dt),([AV.agg [AV.agg [AV.str (toStr (af (af b 0) 0)),AV.ad 38 (aa (af (af b 0) 1))],
 AV.ad 80 (aa (af b 1)),a c]],aO)=([aw e1],aO)/\(aM (ae (bk 38 e1.hl e1.bl))<=100000/\e1.bl.length<=100000)/\an (ba (aH e1)) (an (lv (aH e1)) (∃
 (e0:Nat),e0<n/\I e0 (sp 37 [(20,AV.ad 48 x.rs),(21,a (↑(x.rs.length):Int)),(22,a (IntKind.wrap IntKind.i64 (x.i+(1:Int))))] [])) (K
 Exit.ret (sp 37 [(2,a c),(3,a 60)] []))) (K Exit.ret (sp 37 [(2,a c),(3,a 30)] [])))) (K (Exit.exit 0) (sp 37 [] []))):=by kernel_rfl
def C6(x:KD):Out (Exit×S):= .an (decide ((BA lh x).2=0)) (.one (.exit 0,sp 37 [] [])) (.one (.ret,sp 37 [(2, .int (BA lh x).1),(3, .int (BA lh x).2)] []))
theorem lC3 κ:aP (Po κ) 12 31 5 (aI 0 Oi tX C6):=by
 refine aD (fun x=>x.rs.length - x.i.toNat) ?_;rintro⟨ds,a,i⟩ K ⟨f,h,p⟩ b;simp only at f h p;rw[show(Po κ).P=Pr κ from rfl];refine Eq.mpr (xC3 κ ⟨ds,a,i⟩ _ _ K) ?_;have j:=f.2.1;simp only[aU] at j;simp only[C6,Out.run,ag] at b;rw[ag,an2,an4,ai,an3,an2,an2];refine⟨fun d=>⟨⟨h,d⟩,cG (nth a i.toNat),rfl,?_,?_⟩,fun d=>?_⟩
 ·simp only at d
  exact f.2.2 _ (by rw[aJ _ _ (show i.toNat<a.length by omega)];exact List.getElem_mem _)
 ·simp only at d
  have r:i.toNat<a.length:=by omega
  rw[Hz _ _ _ _ h r] at b;have l:lh (nth a i.toNat)=0->∃m,m<a.length - i.toNat/\gq Oi tX C6 (fun x=>x.rs.length - x.i.toNat) K m (Oi ⟨ds,a,i+1⟩):=fun e=>by
   rw[e] at b;refine⟨_,?_,⟨ds,a,i+1⟩,rfl,⟨f,by simp only;omega,by simp only;omega⟩,rfl,?_⟩
   ·simp only;omega
   ·simp only[C6,Out.run,ag]
    exact b
  have c: ∀e:Int,lh (nth a i.toNat)=e->e≠0->K .ret (sp 37 [(2, .int (toInt (af (nth a i.toNat) 2))),(3, .int e)] []):=fun e q o=>by
   rw[q,an6 o] at b;exact b.2 (an6 o)
  rw[ay (n:=i+1) (by omega) (by omega)];have k:lh (nth a i.toNat)=bif ba (aH (cG (nth a i.toNat))) then bif lv (aH (cG (nth a i.toNat))) then 0 else 60 else 30:=rfl
  refine ag.2 ⟨fun g=>?_,fun g=>?_⟩
  ·rw[g,an9] at k
   grind [ag]
  ·rw[g,an7] at k
   exact c 30 k (by decide)
 ·simp only at d
  rw[Hy _ _ _ _ (by omega)] at b;exact b.1 rfl
noncomputable def V8 κ:=(Po κ).aq 31 5 (aI 0 Oi tX C6)
theorem eC3 κ:aF (V8 κ):=(eCd _).aq (mCd _) (lC3 _)
theorem mC3 κ:aj (V8 κ):=(mCd _).aq a0
theorem yCs κ ds rs K:(a8 (V8 κ) 12 31 [lj ds rs] [] K)=(
 letI b:=AV.int
 letI c:=AV.ad
 ∃(a:SF),([AV.agg [c 43 ds,c 48 rs]],aO)=([AV.agg [c 43 a.1,c 48 a.2]],aO)/\(a.1.length<=9223372036854775807/\a.2.length<=
 9223372036854775807/\∀(x:AV),List.Mem x a.2->aM (ae (bk 38 (dt.hl (cG x)) (dt.bl (cG x))))<=100000/\List.length (dt.bl (cG x))<=100000)
 /\an (Prod.snd (Aq a.1 a.2) != (0:Int)) (K (AV.aK [b (Prod.fst (Aq a.1 a.2)),b (Prod.snd (Aq a.1 a.2))]) []) (ah (Pg.toProgram
 (Env.P (Po κ))) 31 5=ah (Pg.toProgram (Env.P (Po κ))) 31 5/\∃(a:KD),sp 37 [(20,c 48 rs),(21,b (↑(rs.length):Int)),(22,b
 0)] []=sp 37 [(20,c 48 a.rs),(21,b (↑(a.rs.length):Int)),(22,b a.i)] []/\((a.ds.length<=9223372036854775807/\a.rs.length<=
 9223372036854775807/\∀(x:AV),List.Mem x a.rs->aM (ae (bk 38 (dt.hl (cG x)) (dt.bl (cG x))))<=100000/\List.length (dt.bl (cG x))<=
 100000)/\(0:Int)<=a.i/\a.i<=(↑(a.rs.length):Int))/\an (decide (Prod.snd (BA lh a)=(0:Int))) (K (AV.aK [b 0,b 0]) []) (K (AV.aK
 [b (Prod.fst (BA lh a)),b (Prod.snd (BA lh a))]) []))):=by kernel_rfl
def MZ(x:SF):Out (AV×List Dn.Obj):= .one (.aK [.int (jy x.1 x.2).1, .int (jy x.1 x.2).2],[])
theorem cCs κ:bq (V8 κ) 12 31 (aX Kl tZ MZ):=by
 refine a7 ?_;rintro⟨ds,a⟩ K c b;refine Eq.mpr (yCs κ ds a K) ?_;simp only[MZ,Out.run,jy] at b;refine⟨(ds,a),rfl,c,?_⟩;simp only[Lv];have f:BA lh ⟨ds,a,0⟩=Hx lh a:=rfl;refine ag.2 ⟨fun e=>?_,fun e=>?_⟩
 ·grind
 ·rw[show decide _=true by simpa using e] at b
  refine⟨trivial,⟨ds,a,0⟩,rfl,⟨c,by simp only;omega,by simp only;omega⟩,?_⟩;rw[f];refine ag.2 ⟨fun d=>?_,fun d=>b⟩
  simp_all[an2,an9,FQ]
noncomputable def ECs κ:=(V8 κ).aB 31 (aX Kl tZ MZ)
theorem eCs κ:aF (ECs κ):=(eC3 _).aB (mC3 _) (cCs _)
theorem mCs κ:aj (ECs κ):=(mC3 _).aB aZ
end Go.Proofs.YtioeffnadipbaaaGreatDoor
