import Derived.Test.YtdpmikfheebicaaGreatDoorDqM5
import Derived.Test.YtdpmikfheebicaaGreatDoorDqM6
namespace Go.Proofs.YtdpmikfheebicaaGreatDoor
open Go Go.Dn Go.Rl Go.Proofs Go.RowKit Go.Extern.Stop Go.Stop Go.Extern
def Ld (κ : Kp) (e : Int) : Addr := bif decide (e = 51) then κ.eC else bif decide (e = 52) then κ.arity else κ.type
def aU (κ : Kp) (e : Int) : Value := bif decide (e = 0) then .nilIface else .iface 189 (.pointer (some (Ld κ e)))
def rT (e : Int) : Prop := e = 51 ∨ e = 52 ∨ e = 53
def hJ (e : Int) : Prop := e = 0 ∨ rT e
theorem cd (κ : Kp) (e : Int) : az (aU κ e) = true := by unfold aU; cases decide (e = 0) <;> rfl
theorem hH (κ : Kp) (e : Int) : bz (aU κ e) = decide (e = 0) := by unfold aU; cases decide (e = 0) <;> rfl
theorem FW (κ : Kp) {e k : Int} (he : rT e) (hk : rT k) (h : e ≠ k) : Ld κ e ≠ Ld κ k := by
 rcases he with rfl | rfl | rfl <;> rcases hk with rfl | rfl | rfl <;> first | exact absurd rfl h | exact κ.d1 | exact κ.d2 | exact κ.d3 | exact κ.d1.symm | exact κ.d2.symm | exact κ.d3.symm
theorem Jn (κ : Kp) {e k : Int} (he : hJ e) (hk : hJ k) : aU κ e = aU κ k ↔ e = k := by
 refine ⟨fun h => ?_, fun h => by rw [h]⟩
 rcases he with rfl | he
 ·rcases hk with rfl | hk
  ·rfl
  ·have : decide (k = 0) = false := by rcases hk with rfl | rfl | rfl <;> rfl
   unfold aU at h
   rw [this] at h; cases h
 ·have e0 : decide (e = 0) = false := by rcases he with rfl | rfl | rfl <;> rfl
  rcases hk with rfl | hk
  ·unfold aU at h
   rw [e0] at h; cases h
  ·have k0 : decide (k = 0) = false := by rcases hk with rfl | rfl | rfl <;> rfl
   unfold aU at h
   rw [e0, k0, aa5, aa5] at h
   simp only [Value.iface.injEq, Value.pointer.injEq, aa3, true_and] at h
   by_cases hh : e = k
   ·exact hh
   ·exact absurd h (FW κ he hk hh)
theorem CA (κ : Kp) {e : Int} (he : rT e) : ∃ c t, vB κ (Ld κ e).block = some (.cells c t (0, 0)) := by
 have go : ∀ b, (∀ g, g ∈ [1, 0, 3, 4, 2] → b ≠ g) → b = κ.eC.block ∨ b = κ.arity.block ∨ b = κ.type.block → ∃ c t, vB κ b = some (.cells c t (0, 0)) := by
  intro b hb h
  unfold vB
  rw [pI (hb _ (by simp)), pI (hb 0 (by simp)), pI (hb 3 (by simp)), pI (hb 4 (by simp)), pI (hb 2 (by simp))]
  simp only [aa5]
  cases h1 : Nat.beq b κ.eC.block with
  | true => exact ⟨_, _, rfl⟩
  | false =>
   rw [aa5]
   cases h2 : Nat.beq b κ.arity.block with
   | true => exact ⟨_, _, rfl⟩
   | false =>
    rw [aa5]
    cases h3 : Nat.beq b κ.type.block with
    | true => exact ⟨_, _, rfl⟩
    | false =>
     rcases h with h | h | h
     ·rw [h, Nat.beq_refl] at h1; cases h1
     ·rw [h, Nat.beq_refl] at h2; cases h2
     ·rw [h, Nat.beq_refl] at h3; cases h3
 rcases he with rfl | rfl | rfl
 ·exact go _ κ.n3 (.inl rfl)
 ·exact go _ κ.n4 (.inr (.inl rfl))
 ·exact go _ κ.n5 (.inr (.inr rfl))
theorem NC (v : Value) (xT : TypeId) (w : World) : (Instr.typeAssert (.iface 189 v) xT 165 true).run Tryz.prog w = .ok (.tuple #[.nilIface, .bool false]) w := run_typeAssert_lacksB Tryz.underlying165 (by kernel_rfl) (by kernel_rfl) v xT w
theorem EA (v : Value) (xT : TypeId) (w : World) : (Instr.typeAssert (.iface 189 v) xT 167 true).run Tryz.prog w = .ok (.tuple #[.nilIface, .bool false]) w := run_typeAssert_lacksB Tryz.underlying167 (by kernel_rfl) (by kernel_rfl) v xT w
theorem Az (v : Value) (xT : TypeId) (w : World) : (Instr.typeAssert (.iface 189 v) xT 169 true).run Tryz.prog w = .ok (.tuple #[.nilIface, .bool false]) w := run_typeAssert_lacksB Tryz.underlying169 (by kernel_rfl) (by kernel_rfl) v xT w
set_option maxRecDepth 8000 in
theorem GK (a b : Addr) (w : World) (hab : a ≠ b) {ca cb : Array Value} {ta tb : TypeId} (ha : w.heap[a.block]? = some (.cells ca ta (0, 0))) (hb : w.heap[b.block]? = some (.cells cb tb (0, 0))) :
  Calls Tryz.prog 56 #[.iface 189 (.pointer (some a)), .iface 189 (.pointer (some b))] w fun e w' => e = .returned (.bool false) ∧ w' = w := by
 obtain ⟨i, hi, hcmp⟩ := Option.map_eq_some_iff.1 BL
 obtain ⟨j, hj, hjs⟩ := Option.map_eq_some_iff.1 Ba
 have h8 := @run_callFunc_extern Tryz.prog 86 _ Extern.ReflectliteType.typeOf Tryz.func86 (by kernel_rfl) (by kernel_rfl) (by kernel_rfl) (by kernel_rfl)
 have h32 := @run_callFunc_extern Tryz.prog 192 _ (Extern.ReflectliteType.method fun t => do Go.Extern.Rtype.noPackHeld "Comparable" t; pure (.bool (← typeInfo t).comparable)) Tryz.func192 (by kernel_rfl) (by kernel_rfl) (by kernel_rfl) (by kernel_rfl)
 have tT := uf
 have cT := lq
 have mR := gg
 have hne := run_eql_iface_ptr_other (P := Tryz.prog) w Tryz.underlying88 Tryz.underlying189 hi hcmp hj (by omega) hab ha hb
 have n1 := NC
 have n2 := EA
 have n3 := Az
 go_enter Tryz.func56, Tryz.ntmps56
 go_wp2
 refine wp_loop_rounds 1 ?_
 rw [rounds_succ]
 go_wp2
 all_goals (go_ret; exact ⟨rfl, rfl⟩)
open Classical in
noncomputable def jK (κ : Kp) (v : Value) : Bool := decide (∃ e, hJ e ∧ v = aU κ e)
open Classical in
noncomputable def j5 (κ : Kp) (v : Value) : Bool := decide (∃ e, rT e ∧ v = aU κ e)
open Classical in
noncomputable def fr (v t : Value) : Bool := decide (v = t)
theorem sj (κ : Kp) (v : Value) : jK κ v = true ↔ ∃ e, hJ e ∧ v = aU κ e := by unfold jK; exact @decide_eq_true_iff _ (Classical.propDecidable _)
theorem zn (κ : Kp) (v : Value) : j5 κ v = true ↔ ∃ e, rT e ∧ v = aU κ e := by unfold j5; exact @decide_eq_true_iff _ (Classical.propDecidable _)
theorem Fh (v t : Value) : fr v t = true ↔ v = t := by unfold fr; exact @decide_eq_true_iff _ (Classical.propDecidable _)
theorem xq (κ : Kp) {e : Int} (h : hJ e) : jK κ (aU κ e) = true := (sj _ _).2 ⟨e, h, rfl⟩
theorem wF (κ : Kp) {e : Int} (h : rT e) : j5 κ (aU κ e) = true := (zn _ _).2 ⟨e, h, rfl⟩
theorem fW (κ : Kp) {e k : Int} (he : hJ e) (hk : hJ k) : fr (aU κ e) (aU κ k) = decide (e = k) := by
 rw [Bool.eq_iff_iff, Fh, aa0]
 exact Jn κ he hk
noncomputable def LH (κ : Kp) : List AV → Option (Bool × AV)
 | [.lit v, .lit t] => some (jK κ v && j5 κ t, .bool (fr v t))
 | _ => none
theorem QY (κ : Kp) : fX (Pr κ) 56 (LH κ) := by
 intro args x hn hg
 unfold LH at hg
 split at hg
 ·simp only [aa3, aa9, aa1] at hg
  obtain ⟨⟨h1, h2⟩, rfl⟩ := hg
  obtain ⟨e, he, rfl⟩ := (sj _ _).1 h1
  obtain ⟨k, hk, rfl⟩ := (zn _ _).1 h2
  have k0 : decide (k = 0) = false := by rcases hk with rfl | rfl | rfl <;> rfl
  have hk' : aU κ k = .iface 189 (.pointer (some (Ld κ k))) := by unfold aU; rw [k0]; rfl
  refine ⟨_, _, Tryz.func56, rfl, rfl, rfl, fun C vs hC hI hm => ?_⟩
  rw [tJ hm, fW κ he (.inr hk)]
  rcases he with rfl | he
  ·have e0 : aU κ 0 = .nilIface := rfl
   rw [e0, hk']
   refine (callsIn_wide.2 (G6 _ C.w)).mono ?_
   rintro e w' ⟨rfl, rfl⟩
   refine ⟨?_, fK.refl _⟩
   rw [aa4 (by rcases hk with rfl | rfl | rfl <;> decide)]
  ·have e0 : decide (e = 0) = false := by rcases he with rfl | rfl | rfl <;> rfl
   have he' : aU κ e = .iface 189 (.pointer (some (Ld κ e))) := by unfold aU; rw [e0]; rfl
   rw [he', hk']
   by_cases h : e = k
   ·subst h
    refine (callsIn_wide.2 (Dp _ C.w)).mono ?_
    rintro e w' ⟨rfl, rfl⟩
    refine ⟨?_, fK.refl _⟩
    rw [aa6 rfl]
   ·obtain ⟨c1, t1, q1⟩ := CA κ he
    obtain ⟨c2, t2, q2⟩ := CA κ hk
    have w1 := (hI.kept _ _ (by rw [hC]; exact q1)).2
    have w2 := (hI.kept _ _ (by rw [hC]; exact q2)).2
    refine (callsIn_wide.2 (GK _ _ C.w (FW κ he hk h) w1 w2)).mono ?_
    rintro e w' ⟨rfl, rfl⟩
    refine ⟨?_, fK.refl _⟩
    rw [aa4 h]
 ·cases hg
noncomputable def Ju (κ : Kp) : Env := (Rr κ).aE 56 (LH κ)
theorem Xt (κ : Kp) : ay (Ju κ) := (Tq κ).eg (QY κ)
theorem RS (κ : Kp) : ah (Ju κ) := (TH κ).aE
end Go.Proofs.YtdpmikfheebicaaGreatDoor
namespace Go.Proofs.YtdpmikfheebicaaGreatDoor
open Go Go.Dn Go.Rl Go.Proofs
attribute [local irreducible] bh vc
set_option maxRecDepth 20000
structure MH where
 rel : ByteArray
 names : List AV
 types : List AV
 i : Bool
 o : Bool
 line : Int
abbrev QG (d : MH) : AV := .agg [.lit (.string d.rel), .ae 9 d.names, .ae 3 d.types, .bool d.i, .bool d.o, .int d.line]
def AX (t : AV) : Bool := decide (toInt t = 1) || decide (toInt t = 2)
def xi : List AV → List AV → Bool
 | n :: ns, t :: ts => isName (toStr n) && AX t && xi ns ts
 | _, _ => true
def zo (rel : ByteArray) (ns ts : List AV) : Bool := isName rel && !decide (ns.length = 0) && decide (ns.length ≤ 8) && decide (ts.length = ns.length) && xi ns ts
def wA (a : AV) : Bool := zo (toStr (ad a 0)) (ai (ad a 1)) (ai (ad a 2))
theorem D8 {ns ts : List AV} {i : Nat} (h1 : i < ns.length) (h2 : i < ts.length) : xi (ns.drop i) (ts.drop i) = (isName (toStr (nth ns i)) && AX (nth ts i) && xi (ns.drop (i + 1)) (ts.drop (i + 1))) := by
 rw [ab1 h1, ab1 h2, xi, br _ _ h1, br _ _ h2]
theorem TX (κ : Kp) (d : MH) (i : Int) (I : Nat → S → Prop) (n : Nat) (K : Exit → S → Prop) : (vc (Ju κ) 12 90 none 0 (ag (Pr κ).toProgram 90 4) (sp 58 [(1, .ptr 0 0 [] 0), (31, .ae 9 d.names), (32, .int d.names.length), (33, .int i)] [.box 62 (QG d)]) (bK (Ju κ) 90 4 0 I n K)) = (
 letI z1 := sp 58 [(1, AV.ptr 0 0 [] 0), (31, AV.ae 9 d.names), (32, AV.int (↑(d.names.length) : Int)), (33, AV.int (IntKind.wrap IntKind.i64 (i + (1 : Int))))]
  [Obj.box 62 (AV.agg [AV.str d.rel, AV.ae 9 d.names, AV.ae 3 d.types, AV.bool d.i, AV.bool d.o, AV.int d.line])]
 letI z2 := decide ((0 : Int) ≤ i) && decide (i < (↑(d.types.length) : Int))
 letI z3 := K Exit.ret (sp 58 [(2, AV.bool false)] [])
 aD (decide (i < (↑(d.names.length) : Int))) (bg (decide ((0 : Int) ≤ i) && decide (i < (↑(d.names.length) : Int))) (aD (!isName (toStr (nth d.names i.toNat)))
 z3 (bg z2 (aD (toInt (nth d.types i.toNat) != (1 : Int)) (bg z2 (aD (toInt (nth d.types i.toNat) != (2 : Int)) z3 (∃ (m : Nat), m < n ∧ I m z1))) (∃ (m : Nat),
 m < n ∧ I m z1))))) (K (Exit.exit 0) (sp 58 [] []))) := by kernel_rfl
abbrev Jf (a : MH × Int) : S := sp 58 [(1, .ptr 0 0 [] 0), (31, .ae 9 a.1.names), (32, .int a.1.names.length), (33, .int a.2)] [.box 62 (QG a.1)]
def Bb (a : MH × Int) : Prop := a.1.types.length = a.1.names.length ∧ a.1.names.length ≤ 8 ∧ 0 ≤ a.2 ∧ a.2 ≤ a.1.names.length
def y0 (a : MH × Int) : Out (Exit × S) := .aD (xi (a.1.names.drop a.2.toNat) (a.1.types.drop a.2.toNat)) (.one (.exit 0, sp 58 [] [])) (.one (.ret, sp 58 [(2, .bool false)] []))
theorem Um (κ : Kp) : bq (Ju κ) 12 90 4 (aO 0 Jf Bb y0) := by
 refine aR (fun a => a.1.names.length - a.2.toNat) ?_
 rintro ⟨d, i⟩ K ⟨h1, h2, h3, h4⟩ ho
 simp only at h1 h2 h3 h4
 rw [show (Ju κ).P = Pr κ from rfl]
 refine Eq.mpr (TX κ d i _ _ K) ?_
 simp only [y0, Out.run, af] at ho
 simp only [af, ax, aa0, aa2, aa1, Bool.not_eq_true', ab2, bne_iff_ne, bne_eq_false_iff_eq]
 refine ⟨fun hi => ?_, fun hi => ?_⟩
 ·have hk : i.toNat < d.names.length := by omega
  rw [D8 hk (by omega)] at ho
  rw [a8 (n := i + 1) (by omega) (by omega)]
  have go : AX (nth d.types i.toNat) = true → isName (toStr (nth d.names i.toNat)) = true → ∃ m, m < d.names.length - i.toNat ∧ fF Jf Bb y0 (fun a => a.1.names.length - a.2.toNat) K m (Jf (d, i + 1)) := fun e1 e2 => by
   rw [e1, e2, ab9, ab9] at ho
   refine ⟨_, ?_, (d, i + 1), rfl, ⟨h1, h2, by simp only; omega, by simp only; omega⟩, rfl, ?_⟩
   ·simp only; omega
   ·simp only [y0, Out.run, af, show (i + 1).toNat = i.toNat + 1 by omega]
    exact ho
  refine ⟨⟨h3, hi⟩, fun e => ho.2 (by rw [e]; rfl), fun e => ⟨⟨h3, by omega⟩, fun e1 => ⟨⟨h3, by omega⟩, fun e2 => ho.2 ?_, fun e2 => go ?_ e⟩, fun e1 => go ?_ e⟩⟩
  ·have : AX (nth d.types i.toNat) = false := by unfold AX; rw [aa4 e1, aa4 e2]; rfl
   rw [this, e]; rfl
  ·unfold AX; rw [aa6 e2, Bool.or_true]
  ·unfold AX; rw [aa6 e1, Bool.true_or]
 ·rw [aa8 (by omega)] at ho
  exact ho.1 rfl
noncomputable def OS (κ : Kp) : Env := (Ju κ).aj 90 4 (aO 0 Jf Bb y0)
theorem Y3 (κ : Kp) : ay (OS κ) := (Xt κ).aj (RS κ) (Um κ)
theorem SK (κ : Kp) : ah (OS κ) := (RS κ).aj aG
theorem X2 (κ : Kp) (d : MH) (K : AV → List Dn.Obj → Prop) : (bh (OS κ) 12 90 [QG d] [] K) = (
 letI z1 := K (AV.bool false) []
 letI z2 := Pg.toProgram (Env.P (Ju κ))
 aD (!isName d.rel) z1 (aD ((↑(d.names.length) : Int) == (0 : Int)) z1 (aD (decide ((↑(d.names.length) : Int) > (8 : Int))) z1 (aD ((↑(d.types.length) : Int) !=
 (↑(d.names.length) : Int)) z1 (ag z2 90 4 = ag z2 90 4 ∧ ∃ (a : MH × Int), sp 58 [(1, AV.ptr 0 0 [] 0), (31, AV.ae 9 d.names), (32, AV.int (↑(d.names.length) :
 Int)), (33, AV.int 0)] [Obj.box 62 (AV.agg [AV.str d.rel, AV.ae 9 d.names, AV.ae 3 d.types, AV.bool d.i, AV.bool d.o, AV.int d.line])] = sp 58 [(1, AV.ptr 0 0
 [] 0), (31, AV.ae 9 a.1.names), (32, AV.int (↑(a.1.names.length) : Int)), (33, AV.int a.2)] [Obj.box 62 (AV.agg [AV.str a.1.rel, AV.ae 9 a.1.names, AV.ae 3
 a.1.types, AV.bool a.1.i, AV.bool a.1.o, AV.int a.1.line])] ∧ (a.1.types.length = a.1.names.length ∧ a.1.names.length ≤ 8 ∧ (0 : Int) ≤ a.2 ∧ a.2 ≤
 (↑(a.1.names.length) : Int)) ∧ aD (xi (List.drop a.2.toNat a.1.names) (List.drop a.2.toNat a.1.types)) (K (AV.bool true) []) z1))))) := by kernel_rfl
def PM : List AV → Option (Bool × AV)
 | [.agg [.lit (.string rel), .ae 9 ns, .ae 3 ts, .lit (.bool _), .lit (.bool _), .lit (.int .i64 _)]] => some (true, .bool (zo rel ns ts))
 | _ => none
theorem U5 (κ : Kp) : cx (OS κ) 12 90 PM := by
 intro args x hh
 unfold PM at hh
 split at hh
 ·rename_i rel ns ts bi bo line
  simp only [aa3, aa9, true_and] at hh
  subst hh
  refine ⟨_, rfl, rfl, ?_⟩
  refine Eq.mpr (X2 κ ⟨rel, ns, ts, bi, bo, line⟩ _) ?_
  unfold zo
  simp only [af, aa0, aa2, Bool.not_eq_true', ab2, beq_iff_eq, beq_eq_false_iff_ne, bne_iff_ne, bne_eq_false_iff_eq]
  refine ⟨fun e => lW (by rw [e]; rfl), fun e => ⟨fun e2 => lW ?_, fun e2 => ⟨fun e3 => lW ?_, fun e3 => ⟨fun e4 => lW ?_, fun e4 => ⟨trivial, (⟨rel, ns, ts, bi, bo, line⟩, 0), rfl, ⟨by simp only; omega, by simp only; omega, by simp only; omega, by simp only; omega⟩, ?_⟩⟩⟩⟩⟩
  ·rw [aa6 (show ns.length = 0 by omega)]; simp
  ·rw [aa4 (show ¬ ns.length ≤ 8 by omega)]; simp
  ·rw [aa4 (show ¬ ts.length = ns.length by omega)]; simp
  ·rw [e, aa4 (show ¬ ns.length = 0 by omega), aa6 (show ns.length ≤ 8 by omega), aa6 (show ts.length = ns.length by omega)]
   simp only [ab7, ab0, Bool.not_false, ab9]
   exact ⟨fun e5 => lW e5.symm, fun e5 => lW e5.symm⟩
 ·cases hh
noncomputable def I0 (κ : Kp) : Env := (OS κ).aE 90 PM
theorem WW (κ : Kp) : ay (I0 κ) := (Y3 κ).aE (SK κ) (U5 κ)
theorem R8 (κ : Kp) : ah (I0 κ) := (SK κ).aE
theorem QM (κ : Kp) (ds rs : List AV) (i : Int) (I : Nat → S → Prop) (n : Nat) (K : Exit → S → Prop) : (vc (I0 κ) 12 93 none 1 (ag (Pr κ).toProgram 93 2) (sp 19 [(0, .ae 62 ds), (1, .bL 89 []), (7, .int ds.length), (8, .int i)] [.box 25 (.agg [.ae 62 ds, .ae 41 rs])]) (bK (I0 κ) 93 2 1 I n K)) = (
 letI z1 := AV.agg [AV.ae 62 ds, AV.ae 41 rs]
 letI z2 := nth ds i.toNat
 aD (decide (i < (↑(ds.length) : Int))) (bg (decide ((0 : Int) ≤ i) && decide (i < (↑(ds.length) : Int))) (aD (!zo (toStr (ad z2 0)) (ai (ad z2 1)) (ai (ad z2
 2))) (K Exit.ret (sp 19 [(4, AV.int i)] [Obj.box 25 z1])) (∃ (m : Nat), m < n ∧ I m (sp 19 [(0, AV.ae 62 ds), (1, AV.bL 89 []), (7, AV.int (↑(ds.length) :
 Int)), (8, AV.int (IntKind.wrap IntKind.i64 (i + (1 : Int))))] [Obj.box 25 z1])))) (K (Exit.exit 0) (sp 19 [] [Obj.box 25 z1]))) := by kernel_rfl
abbrev Il : Nat := 93
abbrev MW : Nat := 132
abbrev EG (ds rs : List AV) : Dn.Obj := .box 25 (.agg [.ae 62 ds, .ae 41 rs])
abbrev Kx := List AV × List AV × Int
abbrev K9 (a : Kx) : S := sp 19 [(0, .ae 62 a.1), (1, .bL 89 []), (7, .int a.1.length), (8, .int a.2.2)] [EG a.1 a.2.1]
def Dh (a : Kx) : Prop := a.1.length ≤ aL ∧ 0 ≤ a.2.2 ∧ a.2.2 ≤ a.1.length
def xl (a : Kx) : Out (Exit × S) := .aD ((a.1.drop a.2.2.toNat).all wA) (.one (.exit 0, sp 19 [] [EG a.1 a.2.1])) (.all (fun j : Int => 0 ≤ j) fun j => .one (.ret, sp 19 [(4, .int j)] [EG a.1 a.2.1]))
theorem Qb (κ : Kp) : bq (I0 κ) 12 Il 2 (aO 1 K9 Dh xl) := by
 refine aR (fun a => a.1.length - a.2.2.toNat) ?_
 rintro ⟨ds, rs, i⟩ K ⟨h1, h2, h3⟩ ho
 simp only at h1 h2 h3
 rw [show (I0 κ).P = Pr κ from rfl]
 refine Eq.mpr (QM κ ds rs i _ _ K) ?_
 simp only [aL] at h1
 simp only [xl, Out.run, af] at ho
 simp only [af, ax, aa0, aa2, aa1, Bool.not_eq_true', ab2]
 refine ⟨fun hi => ⟨⟨h2, hi⟩, ?_⟩, fun hi => ?_⟩
 ·have hk : i.toNat < ds.length := by omega
  rw [ab1 hk, ← br ds i.toNat hk, List.all_cons] at ho
  refine ⟨fun e => ho.2 (by rw [show wA (nth ds i.toNat) = false from e]; rfl) i h2, fun e => ?_⟩
  rw [show wA (nth ds i.toNat) = true from e, ab9] at ho
  rw [a8 (n := i + 1) (by omega) (by omega)]
  refine ⟨_, ?_, (ds, rs, i + 1), rfl, ⟨by simpa [aL] using h1, by simp only; omega, by simp only; omega⟩, rfl, ?_⟩
  ·simp only; omega
  ·simp only [xl, Out.run, af, show (i + 1).toNat = i.toNat + 1 by omega]
   exact ho
 ·rw [aa8 (by omega)] at ho
  exact ho.1 rfl
noncomputable def tP (κ : Kp) : Env := (I0 κ).aj Il 2 (aO 1 K9 Dh xl)
theorem QL (κ : Kp) : ay (tP κ) := (WW κ).aj (R8 κ) (Qb κ)
theorem Ps (κ : Kp) : ah (tP κ) := (R8 κ).aj aG
theorem Rf (κ : Kp) (ds rs : List AV) (i : Int) (I : Nat → S → Prop) (n : Nat) (K : Exit → S → Prop) : (vc (tP κ) 12 132 none 1 (ag (Pr κ).toProgram 132 2) (sp 19 [(0, .ae 41 rs), (1, .bL 92 []), (7, .int rs.length), (8, .int i)] [.box 25 (.agg [.ae 62 ds, .ae 41 rs])]) (bK (tP κ) 132 2 1 I n K)) = (
 letI z1 := AV.agg [AV.ae 62 ds, AV.ae 41 rs]
 letI z2 := nth rs i.toNat
 aD (decide (i < (↑(rs.length) : Int))) (bg (decide ((0 : Int) ≤ i) && decide (i < (↑(rs.length) : Int))) (bg (decide (List.length (ai (ad (ad z2 0) 1)) ≤ 9223372036854775807) && decide (List.length (ai (ad z2 1)) ≤ 9223372036854775807)) (aD (!aM {head := { rel := toStr (ad (ad z2 0) 0), l := aa (ai (ad (ad z2 0) 1)) }, body := cu (ai (ad z2 1)) }) (K Exit.ret (sp 19 [(4, AV.int i)] [Obj.box 25 z1])) (∃ (m : Nat), m < n ∧ I m (sp 19 [(0, AV.ae 41 rs), (1, AV.bL 92 []), (7, AV.int (↑(rs.length) : Int)), (8, AV.int (IntKind.wrap IntKind.i64 (i + (1 : Int))))] [Obj.box 25 z1]))))) (K (Exit.exit 0) (sp 19 [] [Obj.box 25 z1]))) := by kernel_rfl
def fZ (a : AV) : Bool := decide ((ai (ad (ad a 0) 1)).length ≤ aL) && decide ((ai (ad a 1)).length ≤ aL)
def mK (a : AV) : Bool := aM (rm a)
abbrev KQ (a : Kx) : S := sp 19 [(0, .ae 41 a.2.1), (1, .bL 92 []), (7, .int a.2.1.length), (8, .int a.2.2)] [EG a.1 a.2.1]
def DM (a : Kx) : Prop := a.2.1.length ≤ aL ∧ 0 ≤ a.2.2 ∧ a.2.2 ≤ a.2.1.length ∧ a.2.1.all fZ = true
def wW (a : Kx) : Out (Exit × S) := .aD ((a.2.1.drop a.2.2.toNat).all mK) (.one (.exit 0, sp 19 [] [EG a.1 a.2.1])) (.all (fun j : Int => 0 ≤ j) fun j => .one (.ret, sp 19 [(4, .int j)] [EG a.1 a.2.1]))
theorem Jj {rs : List AV} (h : rs.all fZ = true) {k : Nat} (hk : k < rs.length) : (ai (ad (ad (nth rs k) 0) 1)).length ≤ aL ∧ (ai (ad (nth rs k) 1)).length ≤ aL := by
 have := List.all_eq_true.1 h (nth rs k) (by rw [br _ _ hk]; exact List.getElem_mem hk)
 simpa [fZ] using this
theorem Qf (κ : Kp) : bq (tP κ) 12 MW 2 (aO 1 KQ DM wW) := by
 refine aR (fun a => a.2.1.length - a.2.2.toNat) ?_
 rintro ⟨ds, rs, i⟩ K ⟨h1, h2, h3, h4⟩ ho
 simp only at h1 h2 h3 h4
 rw [show (tP κ).P = Pr κ from rfl]
 refine Eq.mpr (Rf κ ds rs i _ _ K) ?_
 simp only [aL] at h1
 simp only [wW, Out.run, af] at ho
 simp only [af, ax, aa0, aa2, aa1, Bool.not_eq_true', ab2]
 refine ⟨fun hi => ⟨⟨h2, hi⟩, Jj h4 (by omega), ?_⟩, fun hi => ?_⟩
 ·have hk : i.toNat < rs.length := by omega
  rw [ab1 hk, ← br rs i.toNat hk, List.all_cons] at ho
  refine ⟨fun e => ho.2 (by rw [show mK (nth rs i.toNat) = false from e]; rfl) i h2, fun e => ?_⟩
  rw [show mK (nth rs i.toNat) = true from e, ab9] at ho
  rw [a8 (n := i + 1) (by omega) (by omega)]
  refine ⟨_, ?_, (ds, rs, i + 1), rfl, ⟨by simpa [aL] using h1, by simp only; omega, by simp only; omega, h4⟩, rfl, ?_⟩
  ·simp only; omega
  ·simp only [wW, Out.run, af, show (i + 1).toNat = i.toNat + 1 by omega]
   exact ho
 ·rw [aa8 (by omega)] at ho
  exact ho.1 rfl
noncomputable def G4 (κ : Kp) : Env := (tP κ).aj MW 2 (aO 1 KQ DM wW)
theorem QO (κ : Kp) : ay (G4 κ) := (QL κ).aj (Ps κ) (Qf κ)
theorem NP (κ : Kp) : ah (G4 κ) := (Ps κ).aj aG
theorem TV (κ : Kp) (ds rs : List AV) (K : AV → List Dn.Obj → Prop) : (bh (G4 κ) 12 59 [.agg [.ae 62 ds, .ae 41 rs]] [] K) = (
 letI z1 := Pg.toProgram (Env.P (tP κ))
 letI z2 := (0 : Int)
 letI z3 := K (AV.bool false) []
 letI z4 := Pg.toProgram (Env.P (I0 κ))
 aD (decide ((↑(ds.length) : Int) > (60 : Int))) z3 (aD (decide ((↑(rs.length) : Int) > (200 : Int))) z3 (ag z4 Il 2 = ag z4 Il 2 ∧ ∃ (a : Kx), sp 19 [(0, AV.ae
 62 ds), (1, AV.bL 89 []), (7, AV.int (↑(ds.length) : Int)), (8, AV.int 0)] [Obj.box 25 (AV.agg [AV.ae 62 ds, AV.ae 41 rs])] = sp 19 [(0, AV.ae 62 a.1), (1,
 AV.bL 89 []), (7, AV.int (↑(a.1.length) : Int)), (8, AV.int a.2.2)] [Obj.box 25 (AV.agg [AV.ae 62 a.1, AV.ae 41 a.2.1])] ∧ (a.1.length ≤ 9223372036854775807 ∧
 z2 ≤ a.2.2 ∧ a.2.2 ≤ (↑(a.1.length) : Int)) ∧ aD (List.all (List.drop (Int.toNat a.2.2) a.1) wA) (ag z1 MW 2 = ag z1 MW 2 ∧ ∃ (a_1 : Kx), sp 19 [(0, AV.ae 41
 a.2.1), (1, AV.bL 92 []), (7, AV.int (↑(a.2.1.length) : Int)), (8, AV.int 0)] [Obj.box 25 (AV.agg [AV.ae 62 a.1, AV.ae 41 a.2.1])] = sp 19 [(0, AV.ae 41
 a_1.2.1), (1, AV.bL 92 []), (7, AV.int (↑(a_1.2.1.length) : Int)), (8, AV.int a_1.2.2)] [Obj.box 25 (AV.agg [AV.ae 62 a_1.1, AV.ae 41 a_1.2.1])] ∧
 (a_1.2.1.length ≤ 9223372036854775807 ∧ z2 ≤ a_1.2.2 ∧ a_1.2.2 ≤ (↑(a_1.2.1.length) : Int) ∧ List.all a_1.2.1 fZ = true) ∧ aD (List.all (List.drop (Int.toNat
 a_1.2.2) a_1.2.1) mK) (K (AV.bool true) []) (∀ (y : Int), z2 ≤ y → K (AV.lit (Value.bool !decide (y ≥ z2))) [])) (∀ (y : Int), z2 ≤ y → aD (!decide (y ≥ z2))
 (ag z1 MW 2 = ag z1 MW 2 ∧ ∃ (a_2 : Kx), sp 19 [(0, AV.ae 41 a.2.1), (1, AV.bL 92 []), (7, AV.int (↑(a.2.1.length) : Int)), (8, AV.int 0)] [Obj.box 25 (AV.agg
 [AV.ae 62 a.1, AV.ae 41 a.2.1])] = sp 19 [(0, AV.ae 41 a_2.2.1), (1, AV.bL 92 []), (7, AV.int (↑(a_2.2.1.length) : Int)), (8, AV.int a_2.2.2)] [Obj.box 25
 (AV.agg [AV.ae 62 a_2.1, AV.ae 41 a_2.2.1])] ∧ (a_2.2.1.length ≤ 9223372036854775807 ∧ z2 ≤ a_2.2.2 ∧ a_2.2.2 ≤ (↑(a_2.2.1.length) : Int) ∧ List.all a_2.2.1 fZ
 = true) ∧ aD (List.all (List.drop (Int.toNat a_2.2.2) a_2.2.1) mK) (K (AV.bool true) []) (∀ (y : Int), z2 ≤ y → K (AV.lit (Value.bool !decide (y ≥ z2))) []))
 z3)))) := by kernel_rfl
def ez (ds rs : List AV) : Bool := decide (ds.length ≤ 60) && decide (rs.length ≤ 200) && ds.all wA && rs.all mK
def Ql : List AV → Option (Bool × AV)
 | [.agg [.ae 62 ds, .ae 41 rs]] => some (rs.all fZ, .bool (ez ds rs))
 | _ => none
theorem TF (κ : Kp) : cx (G4 κ) 12 59 Ql := by
 intro args x hh
 unfold Ql at hh
 split at hh
 ·rename_i ds rs
  simp only [aa3, aa9] at hh
  obtain ⟨h1, rfl⟩ := hh
  refine ⟨_, rfl, rfl, ?_⟩
  refine Eq.mpr (TV κ ds rs _) ?_
  unfold ez
  rw [af, aa0, aa2]
  refine ⟨fun e => lW (by rw [aa4 (show ¬ ds.length ≤ 60 by omega)]; rfl), fun e => ?_⟩
  rw [af, aa0, aa2]
  refine ⟨fun e2 => lW (by rw [aa4 (show ¬ rs.length ≤ 200 by omega)]; simp), fun e2 => ?_⟩
  rw [aa6 (show ds.length ≤ 60 by omega), aa6 (show rs.length ≤ 200 by omega)]
  refine ⟨rfl, (ds, rs, 0), rfl, ⟨by simp only [aL]; omega, by simp only; omega, by simp only; omega⟩, ?_⟩
  simp only [ab7, ab0, ab9]
  rw [af]
  refine ⟨fun e3 => ⟨trivial, (ds, rs, 0), rfl, ⟨by simp only [aL]; omega, by simp only; omega, by simp only; omega, h1⟩, ?_⟩, fun e3 y hy => ?_⟩
  ·simp only [ab7, ab0]
   rw [af, e3]
   refine ⟨fun e4 => lW (by rw [e4]; rfl), fun e4 y hy => lW ?_⟩
   rw [e4, aa6 (show y ≥ 0 from hy)]; rfl
  ·rw [aa6 (show y ≥ 0 from hy)]
   exact lW (by rw [e3]; rfl)
 ·cases hh
noncomputable def JC (κ : Kp) : Env := (G4 κ).aE 59 Ql
theorem VA (κ : Kp) : ay (JC κ) := (QO κ).aE (NP κ) (TF κ)
theorem RU (κ : Kp) : ah (JC κ) := (NP κ).aE
theorem Xf (κ : Kp) (ds : List AV) (s : ByteArray) (i : Int) (I : Nat → S → Prop) (n : Nat) (K : Exit → S → Prop) : (vc (JC κ) 12 Il none 1 (ag (Pr κ).toProgram Il 2) (sp 19 [(0, .ae 62 ds), (1, .bL 94 [.ptr 0 0 [] 0]), (7, .int ds.length), (8, .int i)] [.box 9 (.lit (.string s))]) (bK (JC κ) Il 2 1 I n K)) = (
 aD (decide (i < (↑(ds.length) : Int))) (bg (decide ((0 : Int) ≤ i) && decide (i < (↑(ds.length) : Int))) (aD (ByteArray.toList (toStr (ad (nth ds i.toNat)
 0)) == ByteArray.toList s) (K Exit.ret (sp 19 [(4, AV.int i)] [Obj.box 9 (AV.str s)])) (∃ (m : Nat), m < n ∧ I m (sp 19 [(0, AV.ae 62 ds), (1, AV.bL 94
 [AV.ptr 0 0 [] 0]), (7, AV.int (↑(ds.length) : Int)), (8, AV.int (IntKind.wrap IntKind.i64 (i + (1 : Int))))] [Obj.box 9 (AV.str s)])))) (K (Exit.exit 0) (sp
 19 [] [Obj.box 9 (AV.str s)]))) := by kernel_rfl
def jW (s : ByteArray) : List AV → Int → Int
 | [], _ => -1
 | d :: l, i => bif kq (toStr (ad d 0)) s then i else jW s l (i + 1)
abbrev OC (a : List AV × ByteArray × Int) : S := sp 19 [(0, .ae 62 a.1), (1, .bL 94 [.ptr 0 0 [] 0]), (7, .int a.1.length), (8, .int a.2.2)] [.box 9 (.lit (.string a.2.1))]
def F4 (a : List AV × ByteArray × Int) : Prop := a.1.length ≤ aL ∧ 0 ≤ a.2.2 ∧ a.2.2 ≤ a.1.length
def C6 (a : List AV × ByteArray × Int) : Out (Exit × S) := .aD (decide (0 ≤ jW a.2.1 (a.1.drop a.2.2.toNat) a.2.2)) (.one (.ret, sp 19 [(4, .int (jW a.2.1 (a.1.drop a.2.2.toNat) a.2.2))] [.box 9 (.lit (.string a.2.1))])) (.one (.exit 0, sp 19 [] [.box 9 (.lit (.string a.2.1))]))
theorem Xc (κ : Kp) : bq (JC κ) 12 Il 2 (aO 1 OC F4 C6) := by
 refine aR (fun a => a.1.length - a.2.2.toNat) ?_
 rintro ⟨ds, s, i⟩ K ⟨h1, h2, h3⟩ ho
 simp only at h1 h2 h3
 rw [show (JC κ).P = Pr κ from rfl]
 refine Eq.mpr (Xf κ ds s i _ _ K) ?_
 simp only [aL] at h1
 simp only [C6, Out.run, af] at ho
 simp only [af, ax, aa0, aa2, aa1]
 refine ⟨fun hi => ⟨⟨h2, hi⟩, ?_⟩, fun hi => ?_⟩
 ·have hk : i.toNat < ds.length := by omega
  rw [ab1 hk, ← br ds i.toNat hk, jW] at ho
  refine ⟨fun e => ?_, fun e => ?_⟩
  ·rw [show kq (toStr (ad (nth ds i.toNat) 0)) s = true from e, aa7] at ho
   exact ho.1 (aa6 h2)
  ·rw [show kq (toStr (ad (nth ds i.toNat) 0)) s = false from e, aa5] at ho
   rw [a8 (n := i + 1) (by omega) (by omega)]
   refine ⟨_, ?_, (ds, s, i + 1), rfl, ⟨by simpa [aL] using h1, by simp only; omega, by simp only; omega⟩, rfl, ?_⟩
   ·simp only; omega
   ·simp only [C6, Out.run, af, show (i + 1).toNat = i.toNat + 1 by omega]
    exact ho
 ·rw [aa8 (by omega)] at ho
  exact ho.2 rfl
noncomputable def Nl (κ : Kp) : Env := (JC κ).aj Il 2 (aO 1 OC F4 C6)
theorem Uy (κ : Kp) : ay (Nl κ) := (VA κ).aj (RU κ) (Xc κ)
theorem SE (κ : Kp) : ah (Nl κ) := (RU κ).aj aG
theorem Wv (κ : Kp) (ds : List AV) (s : ByteArray) (K : AV → List Dn.Obj → Prop) : (bh (Nl κ) 12 60 [.ae 62 ds, .lit (.string s)] [] K) = (
 letI z1 := Pg.toProgram (Env.P (JC κ))
 letI z2 := (0 : Int)
 ag z1 Il 2 = ag z1 Il 2 ∧ ∃ (a : List AV × ByteArray × Int), sp 19 [(0, AV.ae 62 ds), (1, AV.bL 94 [AV.ptr 0 0 [] 0]), (7, AV.int (↑(ds.length) : Int)), (8,
 AV.int 0)] [Obj.box 9 (AV.str s)] = sp 19 [(0, AV.ae 62 a.1), (1, AV.bL 94 [AV.ptr 0 0 [] 0]), (7, AV.int (↑(a.1.length) : Int)), (8, AV.int a.2.2)] [Obj.box 9
 (AV.str a.2.1)] ∧ (a.1.length ≤ 9223372036854775807 ∧ z2 ≤ a.2.2 ∧ a.2.2 ≤ (↑(a.1.length) : Int)) ∧ aD (decide (z2 ≤ jW a.2.1 (List.drop (Int.toNat a.2.2) a.1)
 a.2.2)) (K (AV.bj [AV.int (if z2 > jW a.2.1 (List.drop (Int.toNat a.2.2) a.1) a.2.2 then z2 else jW a.2.1 (List.drop (Int.toNat a.2.2) a.1) a.2.2), AV.bool
 (decide (jW a.2.1 (List.drop (Int.toNat a.2.2) a.1) a.2.2 ≥ z2))]) []) (K (AV.bj [AV.int 0, AV.bool false]) [])) := by kernel_rfl
def cX (s : ByteArray) (ds : List AV) : Int := bif decide (0 ≤ jW s ds 0) then jW s ds 0 else 0
def zT (s : ByteArray) (ds : List AV) : Bool := decide (0 ≤ jW s ds 0)
def Lf (a : List AV × ByteArray) : List AV × List Dn.Obj := ([.ae 62 a.1, .lit (.string a.2)], [])
def ie (a : List AV × ByteArray) : Prop := a.1.length ≤ aL
def Bn (a : List AV × ByteArray) : Out (AV × List Dn.Obj) := .one (.bj [.int (cX a.2 a.1), .bool (zT a.2 a.1)], [])
theorem Y7 (κ : Kp) : bu (Nl κ) 12 60 (aW Lf ie Bn) := by
 refine ba ?_
 rintro ⟨ds, s⟩ K h1 ho
 refine Eq.mpr (Wv κ ds s K) ?_
 simp only [Bn, Out.run, cX, zT] at ho
 refine ⟨rfl, (ds, s, 0), rfl, ⟨h1, by simp only; omega, by simp only; omega⟩, ?_⟩
 simp only [ab7, ab0]
 rw [af]
 refine ⟨fun e => ?_, fun e => ?_⟩
 ·rw [e, aa7] at ho
  rw [aa0] at e
  rw [if_neg (by omega), aa6 (show jW s ds 0 ≥ 0 from e)]
  exact ho
 ·rw [e, aa5] at ho
  exact ho
noncomputable def M5 (κ : Kp) : Env := (Nl κ).au 60 (aW Lf ie Bn)
theorem V0 (κ : Kp) : ay (M5 κ) := (Uy κ).au (SE κ) (Y7 κ)
theorem Ti (κ : Kp) : ah (M5 κ) := (SE κ).au aH
structure gX where
 ds : List AV
 es : List (Value × AV)
 more : Bool
abbrev bB (a : gX) : List Dn.Obj := [.box 133 (.agg [.ae 62 a.ds, .mp 1, .bool a.more]), .map 9 3 a.es]
abbrev Af : AV := .ptr 0 0 [] 0
theorem YR (κ : Kp) (a : gX) (t : AT) (K : AV → List Dn.Obj → Prop) : (bh (M5 κ) 12 157 [Af, c6 t] (bB a) K) = (
 aD (t.op == (1 : Int)) (K (AV.int (toInt (cF a.es (Value.string t.s) (AV.int 0)))) (bB a)) (aD (t.op == (3 : Int)) (K (AV.int 2) (bB a)) (aD (t.op == (4 :
 Int)) (K (AV.int 0) (bB a)) (K (AV.int 1) (bB a))))) := by kernel_rfl
def OO (x : gX × AT) : List AV × List Dn.Obj := ([Af, c6 x.2], bB x.1)
def Ft (_ : gX × AT) : Prop := True
def FJ (x : gX × AT) : Out (AV × List Dn.Obj) := .one (.int (bp getM x.2.tm x.1.es), bB x.1)
theorem Ur (κ : Kp) : bu (M5 κ) 12 157 (aW OO Ft FJ) := by
 refine ba ?_
 rintro ⟨a, t⟩ K _ ho
 refine Eq.mpr (YR κ a t K) ?_
 simp only [FJ, Out.run] at ho
 have e : bp getM t.tm a.es = bif decide (t.op = 1) then getM a.es t.s else bif decide (t.op = 3) then 2 else bif decide (t.op = 4) then 0 else 1 := rfl
 rw [e] at ho
 simp only [Lb]
 cases h1 : decide (t.op = 1) with
 | true => rw [h1] at ho; exact ho
 | false =>
  rw [h1] at ho
  cases h3 : decide (t.op = 3) with
  | true => rw [h3] at ho; exact ho
  | false =>
   rw [h3] at ho
   cases h4 : decide (t.op = 4) with
   | true => rw [h4] at ho; exact ho
   | false => rw [h4] at ho; exact ho
noncomputable def Pv (κ : Kp) : Env := (M5 κ).au 157 (aW OO Ft FJ)
theorem S0 (κ : Kp) : ay (Pv κ) := (V0 κ).au (Ti κ) (Ur κ)
theorem SY (κ : Kp) : ah (Pv κ) := (Ti κ).au aH
structure nr where
 a : gX
 t : AT
 k : Int
def aJ (a : gX) (t : AT) (k : Int) : Bool × (List (Value × AV) × Bool) := t.tm.want getM fe k (a.es, a.more)
def dd (a : gX) (r : List (Value × AV) × Bool) : gX := ⟨a.ds, r.1, r.2⟩
def fI (b : Bool) : Int := bif b then 53 else 0
def LO (x : nr) : List AV × List Dn.Obj := ([Af, c6 x.t, .int x.k], bB x.a)
def LY (n : Nat) (x : nr) : Prop := x.t.tm.oi = n ∧ n ≤ 100000
noncomputable def Cq (κ : Kp) (x : nr) : Out (AV × List Dn.Obj) := .one (.lit (aU κ (fI (aJ x.a x.t x.k).1)), bB (dd x.a (aJ x.a x.t x.k).2))
noncomputable def Ic (κ : Kp) (n : Nat) : cK := aW LO (LY n) (Cq κ)
noncomputable def JF (κ : Kp) (r : Nat) : Env := (Pv κ).au 156 fun args st K => ∃ m, m < r ∧ Ic κ m args st K
theorem Yd (κ : Kp) (r : Nat) (a : gX) (t : AT) (k : Int) (i : Int) (I : Nat → S → Prop) (n : Nat) (K : Exit → S → Prop) : (vc (JF κ r) 12 156 none 2 (ag (Pr κ).toProgram 156 2) (sp 56 [(0, Af), (2, .int k), (4, .ptr 2 0 [] 0), (12, .ae 52 t.l), (13, .int t.l.length), (14, .int i)] (bB a ++ [.box 52 (c6 t)])) (bK (JF κ r) 156 2 2 I n K)) = (
 letI z1 := nth t.l i.toNat
 aD (decide (i < (↑(t.l.length) : Int))) (bg (decide ((0 : Int) ≤ i) && decide (i < (↑(t.l.length) : Int))) (∃ (m : Nat), m < r ∧ ∃ (a_1 : nr), ([AV.ptr 0 0 []
 0, AV.agg [AV.int (toInt (ad z1 0)), AV.str (toStr (ad z1 1)), AV.int (toInt (ad z1 2)), AV.ae 52 (ai (ad z1 3))], AV.int 1], (bB a)) = ([AV.ptr 0 0 [] 0, c6
 a_1.t, AV.int a_1.k], (bB a_1.a)) ∧ (Tm.oi (AT.tm a_1.t) = m ∧ m ≤ 100000) ∧ bg (az (aU κ (fI (Prod.fst (aJ a_1.a a_1.t a_1.k))))) (aD (!bz (aU κ (fI (Prod.fst
 (aJ a_1.a a_1.t a_1.k))))) (K Exit.ret (sp 56 [(6, AV.lit (aU κ (fI (Prod.fst (aJ a_1.a a_1.t a_1.k)))))] (bB (dd a_1.a (Prod.snd (aJ a_1.a a_1.t a_1.k)))))) (∃
 (m : Nat), m < n ∧ I m (sp 56 [(0, AV.ptr 0 0 [] 0), (2, AV.int k), (4, AV.ptr 2 0 [] 0), (12, AV.ae 52 t.l), (13, AV.int (↑(t.l.length) : Int)), (14, AV.int
 (IntKind.wrap IntKind.i64 (i + (1 : Int))))] [Obj.box 133 (AV.agg [AV.ae 62 (gX.ds (dd a_1.a (Prod.snd (aJ a_1.a a_1.t a_1.k)))), AV.mp 1, AV.bool (gX.more (dd
 a_1.a (Prod.snd (aJ a_1.a a_1.t a_1.k))))]), Dn.Obj.map 9 3 (gX.es (dd a_1.a (Prod.snd (aJ a_1.a a_1.t a_1.k)))), Obj.box 52 (c6 t)]))))) (K (Exit.exit 0) (sp
 56 [(0, AV.ptr 0 0 [] 0), (2, AV.int k), (4, AV.ptr 2 0 [] 0)] [Obj.box 133 (AV.agg [AV.ae 62 a.ds, AV.mp 1, AV.bool a.more]), Dn.Obj.map 9 3 a.es, Obj.box 52
 (c6 t)]))) := by kernel_rfl
abbrev Nm := nr × Int
abbrev Nz (x : Nm) : S := sp 56 [(0, Af), (2, .int x.1.k), (4, .ptr 2 0 [] 0), (12, .ae 52 x.1.t.l), (13, .int x.1.t.l.length), (14, .int x.2)] (bB x.1.a ++ [.box 52 (c6 x.1.t)])
def HJ (r : Nat) (x : Nm) : Prop := x.1.t.l.length ≤ aL ∧ 0 ≤ x.2 ∧ x.2 ≤ x.1.t.l.length ∧ aX (aa (x.1.t.l.drop x.2.toNat)) < r ∧ aX (aa (x.1.t.l.drop x.2.toNat)) ≤ 100000
def eR (x : Nm) : Bool × (List (Value × AV) × Bool) := gu getM fe (aa (x.1.t.l.drop x.2.toNat)) (x.1.a.es, x.1.a.more)
noncomputable def Dk (κ : Kp) (x : Nm) : Out (Exit × S) := .aD (eR x).1 (.one (.ret, sp 56 [(6, .lit (aU κ 53))] (bB (dd x.1.a (eR x).2))))
 (.one (.exit 0, sp 56 [(0, Af), (2, .int x.1.k), (4, .ptr 2 0 [] 0)] (bB (dd x.1.a (eR x).2) ++ [.box 52 (c6 x.1.t)])))
theorem xF (b : Bool) : decide (fI b = 0) = !b := by cases b <;> rfl
theorem TQ (κ : Kp) (r : Nat) : bq (JF κ r) 12 156 2 (aO 2 Nz (HJ r) (Dk κ)) := by
 refine aR (fun x => x.1.t.l.length - x.2.toNat) ?_
 rintro ⟨⟨a, t, k⟩, i⟩ K ⟨h1, h2, h3, h4, h5⟩ ho
 simp only at h1 h2 h3 h4 h5
 rw [show (JF κ r).P = Pr κ from rfl]
 refine Eq.mpr (Yd κ r a t k i _ _ K) ?_
 simp only [aL] at h1
 simp only [Dk, Out.run, af] at ho
 rw [af, aa0, aa2]
 refine ⟨fun hi => ?_, fun hi => ?_⟩
 ·have hk : i.toNat < t.l.length := by omega
  have e := dM t.l i.toNat hk
  have hw : eR (⟨a, t, k⟩, i) = bif (aJ a (Ci (nth t.l i.toNat)) 1).1 then aJ a (Ci (nth t.l i.toNat)) 1 else eR (⟨dd a (aJ a (Ci (nth t.l i.toNat)) 1).2, t, k⟩, i + 1) := by
   unfold eR aJ
   simp only [show (i + 1).toNat = i.toNat + 1 by omega]
   rw [e, gu, tC]; rfl
  rw [e, aX] at h4 h5
  rw [hw] at ho
  rw [ax, aa1, aa0, aa0]
  refine ⟨⟨h2, hi⟩, (cz (nth t.l i.toNat)).oi, by omega, ⟨a, Ci (nth t.l i.toNat), 1⟩, rfl, ⟨by rw [tC], by omega⟩, ?_⟩
  rw [ax]
  refine ⟨cd _ _, ?_⟩
  rw [hH, xF, Bool.not_not, af]
  refine ⟨fun e1 => ?_, fun e1 => ?_⟩
  ·simp only [e1, aa7] at ho ⊢
   exact ho.1 trivial
  ·simp only [e1, aa5] at ho
   rw [a8 (n := i + 1) (by omega) (by omega)]
   refine ⟨_, ?_, (⟨dd a (aJ a (Ci (nth t.l i.toNat)) 1).2, t, k⟩, i + 1), rfl, ⟨by simpa [aL] using h1, by simp only; omega, by simp only; omega, ?_, ?_⟩, rfl, ?_⟩
   ·simp only; omega
   ·simp only [show (i + 1).toNat = i.toNat + 1 by omega]; omega
   ·simp only [show (i + 1).toNat = i.toNat + 1 by omega]; omega
   ·simp only [Dk, Out.run, af]
    exact ho
 ·have hw : eR (⟨a, t, k⟩, i) = (false, (a.es, a.more)) := by
   unfold eR
   simp only
   rw [aa8 (by omega)]; rfl
  rw [hw] at ho
  exact ho.2 rfl
noncomputable def MO (κ : Kp) (r : Nat) : Env := (JF κ r).aj 156 2 (aO 2 Nz (HJ r) (Dk κ))
theorem Uq (κ : Kp) (r : Nat) (a : gX) (t : AT) (k : Int) (K : AV → List Dn.Obj → Prop) : (bh (MO κ r) 12 156 [Af, c6 t, .int k] (bB a) K) = (
 letI z1 := AV.lit Value.nilIface
 letI z2 := Pg.toProgram (Env.P (JF κ r))
 ag z2 156 2 = ag z2 156 2 ∧ ∃ (a_1 : Nm), sp 56 [(0, AV.ptr 0 0 [] 0), (2, AV.int k), (4, AV.ptr 2 0 [] 0), (12, AV.ae 52 t.l), (13, AV.int (↑(t.l.length) :
 Int)), (14, AV.int 0)] [Obj.box 133 (AV.agg [AV.ae 62 a.ds, AV.mp 1, AV.bool a.more]), Dn.Obj.map 9 3 a.es, Obj.box 52 (c6 t)] = sp 56 [(0, AV.ptr 0 0 [] 0),
 (2, AV.int a_1.1.k), (4, AV.ptr 2 0 [] 0), (12, AV.ae 52 a_1.1.t.l), (13, AV.int (↑(List.length a_1.1.t.l) : Int)), (14, AV.int a_1.2)] [Obj.box 133 (AV.agg
 [AV.ae 62 a_1.1.a.ds, AV.mp 1, AV.bool a_1.1.a.more]), Dn.Obj.map 9 3 a_1.1.a.es, Obj.box 52 (c6 a_1.1.t)] ∧ (List.length a_1.1.t.l ≤ 9223372036854775807 ∧ (0 :
 Int) ≤ a_1.2 ∧ a_1.2 ≤ (↑(List.length a_1.1.t.l) : Int) ∧ aX (aa (List.drop a_1.2.toNat a_1.1.t.l)) < r ∧ aX (aa (List.drop a_1.2.toNat a_1.1.t.l)) ≤ 100000) ∧
 aD (Prod.fst (eR a_1)) (K (AV.lit (Value.iface 189 (Value.pointer (some (Ld κ (53 : Int)))))) (bB (dd a_1.1.a (Prod.snd (eR a_1))))) (∃ (a : gX × AT), ([AV.ptr
 0 0 [] 0, c6 a_1.1.t], (bB (dd a_1.1.a (Prod.snd (eR a_1))))) = ([AV.ptr 0 0 [] 0, c6 a.2], (bB a.1)) ∧ True ∧ aD (a_1.1.k == (0 : Int)) (K z1 (bB a.1)) (aD
 (a_1.1.t.op == (4 : Int)) (K z1 (bB a.1)) (aD (bp getM (AT.tm a.2) a.1.es == (0 : Int)) (K z1 [Obj.box 133 (AV.agg [AV.ae 62 a.1.ds, AV.mp 1, AV.bool true]),
 Dn.Obj.map 9 3 (dU (dU a.1.es (Value.string a_1.1.t.s) (AV.int (toInt (cF a.1.es (Value.string a_1.1.t.s) (AV.int 0))))) (Value.string a_1.1.t.s) (AV.int
 a_1.1.k))]) (aD (bp getM (AT.tm a.2) a.1.es != a_1.1.k) (K (AV.lit (Value.iface 189 (Value.pointer (some (Kp.type κ))))) (bB a.1)) (K z1 (bB a.1))))))) := by kernel_rfl
theorem DA (s : ByteArray) (v w : AV) : ∀ es : List (Value × AV), dU (dU es (.string s) v) (.string s) w = dU es (.string s) w
 | [] => by simp [dU, cv]
 | (k', a') :: es => by
  rw [dU, dU]
  cases h : cv (.string s) k' with
  | true => simp [dU, cv]
  | false => simp only [aa5, dU, h, DA s v w es]
theorem EF (κ : Kp) (n : Nat) : (Ic κ n).jb := aH
theorem YG (κ : Kp) (r : Nat) (hp : ∀ args st K, (∃ m, m < r ∧ Ic κ m args st K) → dF (Pr κ) 156 args st K) : ay (MO κ r) ∧ ah (MO κ r) ∧ (MO κ r).P = Pr κ :=
 have h : ay (JF κ r) := (S0 κ).lC hp
 have hm : ah (JF κ r) := (SY κ).au (fun _ _ _ _ hK ⟨m, h1, h2⟩ => ⟨m, h1, EF κ m _ _ _ _ hK h2⟩)
 ⟨h.aj hm (TQ κ r), hm.aj aG, rfl⟩
theorem VU (κ : Kp) (r : Nat) : bu (MO κ r) 12 156 (Ic κ r) := by
 refine ba ?_
 rintro ⟨a, t, k⟩ K ⟨h1, h2⟩ ho
 refine Eq.mpr (Uq κ r a t k K) ?_
 simp only [Cq, Out.run] at ho
 have e1 : t.tm.oi = 1 + aX (aa t.l) := rfl
 have hl := fu (aa t.l)
 rw [eG] at hl
 simp only at h1
 refine ⟨rfl, (⟨a, t, k⟩, 0), rfl, ⟨by simp only [aL]; omega, by simp only; omega, by simp only; omega, by simp only [ab7, ab0]; omega, by simp only [ab7, ab0]; omega⟩, ?_⟩
 have hw : aJ a t k = bif (eR (⟨a, t, k⟩, 0)).1 then eR (⟨a, t, k⟩, 0) else bif decide (k = 0) || decide (t.op = 4) then (false, (eR (⟨a, t, k⟩, 0)).2)
   else bif decide (bp getM t.tm (eR (⟨a, t, k⟩, 0)).2.1 = 0) then (false, (fe (eR (⟨a, t, k⟩, 0)).2.1 t.s k, true)) else (!decide (bp getM t.tm (eR (⟨a, t, k⟩, 0)).2.1 = k), (eR (⟨a, t, k⟩, 0)).2) := by
  unfold aJ eR
  rw [AT.tm, Tm.want]; rfl
 rw [hw] at ho
 simp only [Lb, HN]
 cases hd : (eR (⟨a, t, k⟩, 0)).1 with
 | true =>
  rw [hd, aa7, hd] at ho
  exact ho
 | false =>
  rw [hd, aa5] at ho
  refine ⟨(dd a (eR (⟨a, t, k⟩, 0)).2, t), rfl, trivial, ?_⟩
  cases hk : decide (k = 0) with
  | true => rw [hk] at ho; exact ho
  | false =>
   rw [hk] at ho
   cases h4 : decide (t.op = 4) with
   | true => rw [h4] at ho; exact ho
   | false =>
    rw [h4] at ho
    rw [show (false || false) = false from rfl, aa5] at ho
    have ht : bp getM t.tm (dd a (eR (⟨a, t, k⟩, 0)).2).es = bp getM t.tm (eR (⟨a, t, k⟩, 0)).2.1 := rfl
    simp only [ht]
    cases h0 : decide (bp getM t.tm (eR (⟨a, t, k⟩, 0)).2.1 = 0) with
    | true =>
     rw [h0, aa7] at ho
     simp only [aD, DA]
     exact ho
    | false =>
     rw [h0, aa5] at ho
     cases hq : decide (bp getM t.tm (eR (⟨a, t, k⟩, 0)).2.1 = k) with
     | true => rw [hq] at ho; exact ho
     | false => rw [hq] at ho; exact ho
def cG (x : nr) : Prop := x.t.tm.oi ≤ 100000
theorem Xq (κ : Kp) : ∀ args st K, aW LO cG (Cq κ) args st K → dF (Pr κ) 156 args st K := by
 rintro args st K ⟨a, h1, h2, h3⟩
 exact ay.x2 (Ic κ) (MO κ) (YG κ) (VU κ) a.t.tm.oi args st K ⟨a, h1, ⟨rfl, h2⟩, h3⟩
noncomputable def KC (κ : Kp) : Env := (Pv κ).au 156 (aW LO cG (Cq κ))
theorem Uf (κ : Kp) : ay (KC κ) := (S0 κ).lC (Xq κ)
theorem SM (κ : Kp) : ah (KC κ) := (SY κ).au aH
def Mn (x : AV) : Dc := ⟨toStr (ad x 0), (ai (ad x 2)).map toInt⟩
def b8 (l : List AV) : List Dc := l.map Mn
theorem sJ (s : ByteArray) : ∀ (ds : List AV) (i : Int), jW s ds i = match iO s (b8 ds) with | some k => i + k | none => -1
 | [], i => rfl
 | d :: ds, i => by
  have ih := sJ s ds (i + 1)
  rw [jW, ih, show b8 (d :: ds) = Mn d :: b8 ds from rfl, iO, show (Mn d).rel = toStr (ad d 0) from rfl]
  cases kq (toStr (ad d 0)) s with
  | true => simp
  | false =>
   rw [aa5, aa5]
   cases iO s (b8 ds) with
   | none => rfl
    | some k => show i + 1 + (k : Int) = i + ((k + 1 : Nat) : Int); omega
theorem zH (s : ByteArray) : ∀ (ds : List Dc) (k : Nat), iO s ds = some k → k < ds.length
 | [], _, h => by cases h
 | d :: ds, k, h => by
  rw [iO] at h
  cases e : kq d.rel s with
  | true => rw [e, aa7] at h; cases h; simp
  | false =>
   rw [e, aa5] at h
   cases h2 : iO s ds with
   | none => rw [h2] at h; cases h
   | some j =>
    rw [h2] at h; cases h
    have := zH s ds j h2
    simp only [List.length_cons]; omega
theorem tE {s : ByteArray} {ds : List AV} (h : iO s (b8 ds) = none) : zT s ds = false ∧ cX s ds = 0 := by
 have e := sJ s ds 0
 rw [h] at e
 unfold zT cX
 rw [e]; exact ⟨rfl, rfl⟩
theorem oS {s : ByteArray} {ds : List AV} {k : Nat} (h : iO s (b8 ds) = some k) : zT s ds = true ∧ cX s ds = k ∧ k < ds.length := by
 have e := sJ s ds 0
 rw [h] at e
 simp only [Int.zero_add] at e
 have h1 := zH s _ k h
 unfold zT cX
 rw [e, aa6 (show (0 : Int) ≤ k by omega)]
 exact ⟨rfl, rfl, by simpa [b8] using h1⟩
def kj (ds : List AV) (i : Int) : List Int := (ai (ad (nth ds i.toNat) 2)).map toInt
theorem zB {s : ByteArray} {ds : List AV} {k : Nat} (h : iO s (b8 ds) = some k) : b6 (b8 ds) s = kj ds k := by
 obtain ⟨_, _, h2⟩ := oS h
 unfold b6 kj
 rw [h, Int.toNat_natCast, br _ _ h2]
 simp only [b8]
 rw [List.getD_eq_getElem?_getD, List.getElem?_map, ab6 h2]
 rfl
theorem ER (ds : List AV) (rel : ByteArray) (l : List AV) : known (b8 ds) ⟨rel, aa l⟩ = bif zT rel ds then (bif decide ((kj ds (cX rel ds)).length = l.length) then 0 else 52) else 51 := by
 unfold known
 simp only
 cases h : iO rel (b8 ds) with
 | none => rw [(tE h).1]; rfl
 | some k =>
  obtain ⟨h1, h2, _⟩ := oS h
  rw [h1, h2, zB h, eG]; rfl
theorem J1 {ds : List AV} {i : Int} {k : Nat} (h : k < (kj ds i).length) : (kj ds i).drop k = toInt (nth (ai (ad (nth ds i.toNat) 2)) k) :: (kj ds i).drop (k + 1) := by
 rw [ab1 h]
 have h' : k < (ai (ad (nth ds i.toNat) 2)).length := by simpa [kj] using h
 rw [br _ _ h']
 simp [kj]
structure MN where
 a : gX
 fi : Int
 l : List AV
 k : Int
abbrev LS (x : MN) : S := sp 65 [(0, Af), (5, .int x.fi), (40, .ae 52 x.l), (41, .int x.l.length), (42, .int x.k)] (bB x.a)
theorem Yo (κ : Kp) (x : MN) (I : Nat → S → Prop) (n : Nat) (K : Exit → S → Prop) : (vc (KC κ) 12 133 none 2 (ag (Pr κ).toProgram 133 7) (LS x) (bK (KC κ) 133 7 2 I n K)) = (
 letI z1 := nth x.l x.k.toNat
 aD (decide (x.k < (↑(x.l.length) : Int))) (bg (decide ((0 : Int) ≤ x.k) && decide (x.k < (↑(x.l.length) : Int))) (bg (decide ((0 : Int) ≤ x.fi) && decide (x.fi
 < (↑(List.length x.a.ds) : Int))) (bg (decide ((0 : Int) ≤ x.k) && decide (x.k < (↑(List.length (ai (ad (nth x.a.ds x.fi.toNat) 2))) : Int))) (∃ (a : nr),
 ([AV.ptr 0 0 [] 0, AV.agg [AV.int (toInt (ad z1 0)), AV.str (toStr (ad z1 1)), AV.int (toInt (ad z1 2)), AV.ae 52 (ai (ad z1 3))], AV.int (toInt (nth (ai (ad
 (nth x.a.ds x.fi.toNat) 2)) x.k.toNat))], (bB x.a)) = ([AV.ptr 0 0 [] 0, c6 a.t, AV.int a.k], (bB a.a)) ∧ cG a ∧ bg (az (aU κ (fI (Prod.fst (aJ a.a a.t a.k)))))
 (aD (!bz (aU κ (fI (Prod.fst (aJ a.a a.t a.k))))) (K Exit.ret (sp 65 [(4, AV.lit (aU κ (fI (Prod.fst (aJ a.a a.t a.k)))))] (bB (dd a.a (Prod.snd (aJ a.a a.t
 a.k)))))) (∃ (m : Nat), m < n ∧ I m (sp 65 [(0, AV.ptr 0 0 [] 0), (5, AV.int x.fi), (40, AV.ae 52 x.l), (41, AV.int (↑(x.l.length) : Int)), (42, AV.int
 (IntKind.wrap IntKind.i64 (x.k + (1 : Int))))] (bB (dd a.a (Prod.snd (aJ a.a a.t a.k))))))))))) (K (Exit.exit 1) (sp 65 [] (bB x.a)))) := by kernel_rfl
def gQ (x : MN) : Bool × (List (Value × AV) × Bool) := gk getM fe ((kj x.a.ds x.fi).drop x.k.toNat) (aa (x.l.drop x.k.toNat)) (x.a.es, x.a.more)
def Gm (x : MN) : Prop := 0 ≤ x.fi ∧ x.fi < x.a.ds.length ∧ (kj x.a.ds x.fi).length = x.l.length ∧ x.l.length ≤ aL ∧ 0 ≤ x.k ∧ x.k ≤ x.l.length ∧ aX (aa (x.l.drop x.k.toNat)) ≤ 100000
noncomputable def DB (κ : Kp) (x : MN) : Out (Exit × S) := .aD (gQ x).1 (.one (.ret, sp 65 [(4, .lit (aU κ 53))] (bB (dd x.a (gQ x).2)))) (.one (.exit 1, sp 65 [] (bB (dd x.a (gQ x).2))))
theorem V3 (κ : Kp) : bq (KC κ) 12 133 7 (aO 2 LS Gm (DB κ)) := by
 refine aR (fun x => x.l.length - x.k.toNat) ?_
 rintro ⟨a, fi, l, k⟩ K ⟨h1, h2, h3, h4, h5, h6, h7⟩ ho
 simp only at h1 h2 h3 h4 h5 h6 h7
 rw [show (KC κ).P = Pr κ from rfl]
 refine Eq.mpr (Yo κ ⟨a, fi, l, k⟩ _ _ K) ?_
 simp only [aL] at h4
 simp only [DB, Out.run, af] at ho
 have hwl : (ai (ad (nth a.ds fi.toNat) 2)).length = (kj a.ds fi).length := by simp [kj]
 rw [af, aa0, aa2]
 refine ⟨fun hi => ?_, fun hi => ?_⟩
 ·simp only at hi
  have hk : k.toNat < l.length := by omega
  have e := dM l k.toNat hk
  have ew := J1 (ds := a.ds) (i := fi) (k := k.toNat) (by omega)
  have hw : gQ ⟨a, fi, l, k⟩ = bif (aJ a (Ci (nth l k.toNat)) (toInt (nth (ai (ad (nth a.ds fi.toNat) 2)) k.toNat))).1 then aJ a (Ci (nth l k.toNat)) (toInt (nth (ai (ad (nth a.ds fi.toNat) 2)) k.toNat)) else gQ ⟨dd a (aJ a (Ci (nth l k.toNat)) (toInt (nth (ai (ad (nth a.ds fi.toNat) 2)) k.toNat))).2, fi, l, k + 1⟩ := by
   unfold gQ aJ
   simp only [show (k + 1).toNat = k.toNat + 1 by omega]
   rw [e, ew, gk, tC]; rfl
  rw [e, aX] at h7
  rw [hw] at ho
  simp only [ax, aa1, aa0, hwl]
  refine ⟨⟨h5, hi⟩, ⟨h1, h2⟩, ⟨h5, by omega⟩, ⟨a, Ci (nth l k.toNat), toInt (nth (ai (ad (nth a.ds fi.toNat) 2)) k.toNat)⟩, rfl, by show (Ci (nth l k.toNat)).tm.oi ≤ 100000; rw [tC]; omega, cd _ _, ?_⟩
  rw [hH, xF, Bool.not_not, af]
  refine ⟨fun e1 => ?_, fun e1 => ?_⟩
  ·simp only [e1, aa7] at ho ⊢
   exact ho.1 trivial
  ·simp only [e1, aa5] at ho
   rw [a8 (n := k + 1) (by omega) (by omega)]
   refine ⟨_, ?_, ⟨dd a (aJ a (Ci (nth l k.toNat)) (toInt (nth (ai (ad (nth a.ds fi.toNat) 2)) k.toNat))).2, fi, l, k + 1⟩, rfl, ⟨h1, h2, h3, by simpa [aL] using h4, by simp only; omega, by simp only; omega, ?_⟩, rfl, ?_⟩
   ·simp only; omega
   ·simp only [show (k + 1).toNat = k.toNat + 1 by omega]; omega
   ·simp only [DB, Out.run, af]
    exact ho
 ·simp only at hi
  have hw : gQ ⟨a, fi, l, k⟩ = (false, (a.es, a.more)) := by
   unfold gQ
   simp only
   rw [aa8 (show l.length ≤ k.toNat by omega), aa8 (show (kj a.ds fi).length ≤ k.toNat by omega)]; rfl
  rw [hw] at ho
  exact ho.2 rfl
noncomputable def O3 (κ : Kp) : Env := (KC κ).aj 133 7 (aO 2 LS Gm (DB κ))
theorem Ut (κ : Kp) : ay (O3 κ) := (Uf κ).aj (SM κ) (V3 κ)
theorem R4 (κ : Kp) : ah (O3 κ) := (SM κ).aj aG
theorem X7 (κ : Kp) (a : gX) (rel : ByteArray) (l : List AV) (K : AV → List Dn.Obj → Prop) : (bh (O3 κ) 12 133 [Af, .agg [.lit (.string rel), .ae 52 l]] (bB a) K) = (
 letI z1 := Pg.toProgram (Env.P (KC κ))
 ∃ (a_1 : List AV × ByteArray), ([AV.ae 62 a.ds, AV.str rel], aF) = ([AV.ae 62 a_1.1, AV.str a_1.2], aF) ∧ ie a_1 ∧ aD (!zT a_1.2 a_1.1) (K (AV.lit (Value.iface
 189 (Value.pointer (some (Kp.eC κ))))) (bB a)) (bg (decide ((0 : Int) ≤ cX a_1.2 a_1.1) && decide (cX a_1.2 a_1.1 < (↑(a.ds.length) : Int))) (aD ((↑(List.length
 (ai (ad (nth a.ds (Int.toNat (cX a_1.2 a_1.1))) 2))) : Int) != (↑(l.length) : Int)) (K (AV.lit (Value.iface 189 (Value.pointer (some (Kp.arity κ))))) (bB a))
 (ag z1 133 7 = ag z1 133 7 ∧ ∃ (a_2 : MN), sp 65 [(0, AV.ptr 0 0 [] 0), (5, AV.int (cX a_1.2 a_1.1)), (40, AV.ae 52 l), (41, AV.int (↑(l.length) : Int)), (42,
 AV.int 0)] (bB a) = sp 65 [(0, AV.ptr 0 0 [] 0), (5, AV.int a_2.fi), (40, AV.ae 52 a_2.l), (41, AV.int (↑(a_2.l.length) : Int)), (42, AV.int a_2.k)] (bB a_2.a)
 ∧ ((0 : Int) ≤ a_2.fi ∧ a_2.fi < (↑(List.length a_2.a.ds) : Int) ∧ List.length (kj a_2.a.ds a_2.fi) = a_2.l.length ∧ a_2.l.length ≤ 9223372036854775807 ∧ (0 :
 Int) ≤ a_2.k ∧ a_2.k ≤ (↑(a_2.l.length) : Int) ∧ aX (aa (List.drop a_2.k.toNat a_2.l)) ≤ 100000) ∧ aD (Prod.fst (gQ a_2)) (K (AV.lit (Value.iface 189
 (Value.pointer (some (Ld κ (53 : Int)))))) (bB (dd a_2.a (Prod.snd (gQ a_2))))) (K (AV.lit Value.nilIface) (bB (dd a_2.a (Prod.snd (gQ a_2))))))))) := by kernel_rfl
def cV (a : gX) (rel : ByteArray) (l : List AV) : Int × (List (Value × AV) × Bool) := dt getM fe (b8 a.ds) ⟨rel, aa l⟩ (a.es, a.more)
abbrev Ma := gX × ByteArray × List AV
def Nu (x : Ma) : List AV × List Dn.Obj := ([Af, .agg [.lit (.string x.2.1), .ae 52 x.2.2]], bB x.1)
def FE (x : Ma) : Prop := x.1.ds.length ≤ aL ∧ aX (aa x.2.2) ≤ 100000
noncomputable def Gf (κ : Kp) (x : Ma) : Out (AV × List Dn.Obj) := .one (.lit (aU κ (cV x.1 x.2.1 x.2.2).1), bB (dd x.1 (cV x.1 x.2.1 x.2.2).2))
theorem T9 (κ : Kp) : bu (O3 κ) 12 133 (aW Nu FE (Gf κ)) := by
 refine ba ?_
 rintro ⟨a, rel, l⟩ K ⟨h1, h2⟩ ho
 simp only at h1 h2
 refine Eq.mpr (X7 κ a rel l K) ?_
 simp only [Gf, Out.run, cV, dt, ER] at ho
 have hl := fu (aa l)
 rw [eG] at hl
 refine ⟨(a.ds, rel), rfl, h1, ?_⟩
 cases hf : iO rel (b8 a.ds) with
 | none =>
  rw [(tE hf).1] at ho
  simp only [(tE hf).1]
  exact ho
 | some k =>
  obtain ⟨e1, e2, e3⟩ := oS hf
  rw [e1, e2, zB hf] at ho
  have hwl : (ai (ad (nth a.ds (Int.toNat (k : Int))) 2)).length = (kj a.ds k).length := by simp [kj]
  simp only [e1, e2, hwl, HN]
  refine ax.2 ⟨by simp; omega, ?_⟩
  cases hq : decide ((kj a.ds k).length = l.length) with
  | false =>
   rw [hq] at ho
   rw [aa2] at hq
   rw [aa4 (show ¬ (((kj a.ds k).length : Int) = (l.length : Int)) by omega)]
   exact ho
  | true =>
   rw [hq] at ho
   rw [aa0] at hq
   rw [aa6 (show (((kj a.ds k).length : Int) = (l.length : Int)) by omega)]
   refine ⟨trivial, ⟨a, k, l, 0⟩, rfl, ⟨by simp only; omega, by simp only; omega, hq, by simp only [aL]; omega, by simp only; omega, by simp only; omega, by simp only [ab7, ab0]; exact h2⟩, ?_⟩
   have hd : gQ ⟨a, k, l, 0⟩ = gk getM fe (kj a.ds k) (aa l) (a.es, a.more) := by
    unfold gQ; simp only [ab7, ab0]
   rw [hd]
   simp only [aa7, decide_true] at ho
   rw [af]
   refine ⟨fun e => by rw [e] at ho; exact ho, fun e => by rw [e] at ho; exact ho⟩
noncomputable def NB (κ : Kp) : Env := (O3 κ).au 133 (aW Nu FE (Gf κ))
theorem Vj (κ : Kp) : ay (NB κ) := (Ut κ).au (R4 κ) (T9 κ)
theorem SR (κ : Kp) : ah (NB κ) := (R4 κ).au aH
theorem Va (κ : Kp) (a : gX) (op : Int) (rel : ByteArray) (l : List AV) (u v : AT) (K : AV → List Dn.Obj → Prop) : (bh (NB κ) 12 134 [Af, .agg [.int op, .agg [.lit (.string rel), .ae 52 l], c6 u, c6 v]] (bB a) K) = (
 aD (op == (3 : Int)) ((∃ (a_1 : gX × AT), ([AV.ptr 0 0 [] 0, c6 u], (bB a)) = ([AV.ptr 0 0 [] 0, c6 a_1.2], (bB a_1.1)) ∧ True ∧ ∃ (a : gX × AT), ([AV.ptr
 0 0 [] 0, c6 v], (bB a_1.1)) = ([AV.ptr 0 0 [] 0, c6 a.2], (bB a.1)) ∧ True ∧ ∃ (a_2 : nr), ([AV.ptr 0 0 [] 0, c6 u, AV.int (if bp getM (AT.tm a.2)
 a.1.es > bp getM (AT.tm a_1.2) a_1.1.es then bp getM (AT.tm a.2) a.1.es else bp getM (AT.tm a_1.2) a_1.1.es)], (bB a.1)) = ([AV.ptr 0 0 [] 0, c6 a_2.t,
 AV.int a_2.k], (bB a_2.a)) ∧ cG a_2 ∧ bg (az (aU κ (fI (Prod.fst (aJ a_2.a a_2.t a_2.k))))) (aD (!bz (aU κ (fI (Prod.fst (aJ a_2.a
 a_2.t a_2.k))))) (K (AV.lit (aU κ (fI (Prod.fst (aJ a_2.a a_2.t a_2.k))))) (bB (dd a_2.a (Prod.snd (aJ a_2.a a_2.t a_2.k))))) (∃ (a_3 : nr),
 ([AV.ptr 0 0 [] 0, c6 v, AV.int (if bp getM (AT.tm a.2) a.1.es > bp getM (AT.tm a_1.2) a_1.1.es then bp getM (AT.tm a.2) a.1.es else bp getM (AT.tm
 a_1.2) a_1.1.es)], (bB (dd a_2.a (Prod.snd (aJ a_2.a a_2.t a_2.k))))) = ([AV.ptr 0 0 [] 0, c6 a_3.t, AV.int a_3.k], (bB a_3.a)) ∧ cG a_3 ∧ K (AV.lit
 (aU κ (fI (Prod.fst (aJ a_3.a a_3.t a_3.k))))) (bB (dd a_3.a (Prod.snd (aJ a_3.a a_3.t a_3.k))))))) ∧ (∃ (a_1 : gX × AT), ([AV.ptr 0 0 [] 0, c6
 u], (bB a)) = ([AV.ptr 0 0 [] 0, c6 a_1.2], (bB a_1.1)) ∧ True ∧ ∃ (a : gX × AT), ([AV.ptr 0 0 [] 0, c6 v], (bB a_1.1)) = ([AV.ptr 0 0 [] 0, c6 a.2],
 (bB a.1)) ∧ True ∧ ∃ (a_2 : nr), ([AV.ptr 0 0 [] 0, c6 u, AV.int (if bp getM (AT.tm a.2) a.1.es > bp getM (AT.tm a_1.2) a_1.1.es then bp getM (AT.tm
 a.2) a.1.es else bp getM (AT.tm a_1.2) a_1.1.es)], (bB a.1)) = ([AV.ptr 0 0 [] 0, c6 a_2.t, AV.int a_2.k], (bB a_2.a)) ∧ cG a_2 ∧ bg (az (aU κ
 (fI (Prod.fst (aJ a_2.a a_2.t a_2.k))))) (aD (!bz (aU κ (fI (Prod.fst (aJ a_2.a a_2.t a_2.k))))) (K (AV.lit (aU κ (fI (Prod.fst (aJ a_2.a
 a_2.t a_2.k))))) (bB (dd a_2.a (Prod.snd (aJ a_2.a a_2.t a_2.k))))) (∃ (a_3 : nr), ([AV.ptr 0 0 [] 0, c6 v, AV.int (if bp getM (AT.tm a.2) a.1.es >
 bp getM (AT.tm a_1.2) a_1.1.es then bp getM (AT.tm a.2) a.1.es else bp getM (AT.tm a_1.2) a_1.1.es)], (bB (dd a_2.a (Prod.snd (aJ a_2.a a_2.t
 a_2.k))))) = ([AV.ptr 0 0 [] 0, c6 a_3.t, AV.int a_3.k], (bB a_3.a)) ∧ cG a_3 ∧ K (AV.lit (aU κ (fI (Prod.fst (aJ a_3.a a_3.t a_3.k))))) (bB (dd
 a_3.a (Prod.snd (aJ a_3.a a_3.t a_3.k))))))) ∧ ∃ (a_1 : gX × AT), ([AV.ptr 0 0 [] 0, c6 u], (bB a)) = ([AV.ptr 0 0 [] 0, c6 a_1.2], (bB a_1.1)) ∧ True
 ∧ ∃ (a : gX × AT), ([AV.ptr 0 0 [] 0, c6 v], (bB a_1.1)) = ([AV.ptr 0 0 [] 0, c6 a.2], (bB a.1)) ∧ True ∧ ∃ (a_2 : nr), ([AV.ptr 0 0 [] 0, c6 u, AV.int
 (if bp getM (AT.tm a.2) a.1.es > bp getM (AT.tm a_1.2) a_1.1.es then bp getM (AT.tm a.2) a.1.es else bp getM (AT.tm a_1.2) a_1.1.es)], (bB a.1)) =
 ([AV.ptr 0 0 [] 0, c6 a_2.t, AV.int a_2.k], (bB a_2.a)) ∧ cG a_2 ∧ bg (az (aU κ (fI (Prod.fst (aJ a_2.a a_2.t a_2.k))))) (aD (!bz (aU κ
 (fI (Prod.fst (aJ a_2.a a_2.t a_2.k))))) (K (AV.lit (aU κ (fI (Prod.fst (aJ a_2.a a_2.t a_2.k))))) (bB (dd a_2.a (Prod.snd (aJ a_2.a a_2.t
 a_2.k))))) (∃ (a_3 : nr), ([AV.ptr 0 0 [] 0, c6 v, AV.int (if bp getM (AT.tm a.2) a.1.es > bp getM (AT.tm a_1.2) a_1.1.es then bp getM (AT.tm a.2)
 a.1.es else bp getM (AT.tm a_1.2) a_1.1.es)], (bB (dd a_2.a (Prod.snd (aJ a_2.a a_2.t a_2.k))))) = ([AV.ptr 0 0 [] 0, c6 a_3.t, AV.int a_3.k], (bB
 a_3.a)) ∧ cG a_3 ∧ K (AV.lit (aU κ (fI (Prod.fst (aJ a_3.a a_3.t a_3.k))))) (bB (dd a_3.a (Prod.snd (aJ a_3.a a_3.t a_3.k))))))) (aD (op == (4
 : Int)) ((∃ (a_1 : gX × AT), ([AV.ptr 0 0 [] 0, c6 u], (bB a)) = ([AV.ptr 0 0 [] 0, c6 a_1.2], (bB a_1.1)) ∧ True ∧ ∃ (a : gX × AT), ([AV.ptr 0 0 [] 0,
 c6 v], (bB a_1.1)) = ([AV.ptr 0 0 [] 0, c6 a.2], (bB a.1)) ∧ True ∧ ∃ (a_2 : nr), ([AV.ptr 0 0 [] 0, c6 u, AV.int (if bp getM (AT.tm a.2) a.1.es > bp
 getM (AT.tm a_1.2) a_1.1.es then bp getM (AT.tm a.2) a.1.es else bp getM (AT.tm a_1.2) a_1.1.es)], (bB a.1)) = ([AV.ptr 0 0 [] 0, c6 a_2.t, AV.int
 a_2.k], (bB a_2.a)) ∧ cG a_2 ∧ bg (az (aU κ (fI (Prod.fst (aJ a_2.a a_2.t a_2.k))))) (aD (!bz (aU κ (fI (Prod.fst (aJ a_2.a a_2.t
 a_2.k))))) (K (AV.lit (aU κ (fI (Prod.fst (aJ a_2.a a_2.t a_2.k))))) (bB (dd a_2.a (Prod.snd (aJ a_2.a a_2.t a_2.k))))) (∃ (a_3 : nr), ([AV.ptr 0 0
 [] 0, c6 v, AV.int (if bp getM (AT.tm a.2) a.1.es > bp getM (AT.tm a_1.2) a_1.1.es then bp getM (AT.tm a.2) a.1.es else bp getM (AT.tm a_1.2)
 a_1.1.es)], (bB (dd a_2.a (Prod.snd (aJ a_2.a a_2.t a_2.k))))) = ([AV.ptr 0 0 [] 0, c6 a_3.t, AV.int a_3.k], (bB a_3.a)) ∧ cG a_3 ∧ K (AV.lit (aU
 κ (fI (Prod.fst (aJ a_3.a a_3.t a_3.k))))) (bB (dd a_3.a (Prod.snd (aJ a_3.a a_3.t a_3.k))))))) ∧ (∃ (a_1 : gX × AT), ([AV.ptr 0 0 [] 0, c6 u], (bB
 a)) = ([AV.ptr 0 0 [] 0, c6 a_1.2], (bB a_1.1)) ∧ True ∧ ∃ (a : gX × AT), ([AV.ptr 0 0 [] 0, c6 v], (bB a_1.1)) = ([AV.ptr 0 0 [] 0, c6 a.2], (bB a.1))
 ∧ True ∧ ∃ (a_2 : nr), ([AV.ptr 0 0 [] 0, c6 u, AV.int (if bp getM (AT.tm a.2) a.1.es > bp getM (AT.tm a_1.2) a_1.1.es then bp getM (AT.tm a.2) a.1.es
 else bp getM (AT.tm a_1.2) a_1.1.es)], (bB a.1)) = ([AV.ptr 0 0 [] 0, c6 a_2.t, AV.int a_2.k], (bB a_2.a)) ∧ cG a_2 ∧ bg (az (aU κ (fI
 (Prod.fst (aJ a_2.a a_2.t a_2.k))))) (aD (!bz (aU κ (fI (Prod.fst (aJ a_2.a a_2.t a_2.k))))) (K (AV.lit (aU κ (fI (Prod.fst (aJ a_2.a a_2.t
 a_2.k))))) (bB (dd a_2.a (Prod.snd (aJ a_2.a a_2.t a_2.k))))) (∃ (a_3 : nr), ([AV.ptr 0 0 [] 0, c6 v, AV.int (if bp getM (AT.tm a.2) a.1.es > bp
 getM (AT.tm a_1.2) a_1.1.es then bp getM (AT.tm a.2) a.1.es else bp getM (AT.tm a_1.2) a_1.1.es)], (bB (dd a_2.a (Prod.snd (aJ a_2.a a_2.t a_2.k)))))
 = ([AV.ptr 0 0 [] 0, c6 a_3.t, AV.int a_3.k], (bB a_3.a)) ∧ cG a_3 ∧ K (AV.lit (aU κ (fI (Prod.fst (aJ a_3.a a_3.t a_3.k))))) (bB (dd a_3.a
 (Prod.snd (aJ a_3.a a_3.t a_3.k))))))) ∧ ∃ (a_1 : gX × AT), ([AV.ptr 0 0 [] 0, c6 u], (bB a)) = ([AV.ptr 0 0 [] 0, c6 a_1.2], (bB a_1.1)) ∧ True ∧ ∃ (a
 : gX × AT), ([AV.ptr 0 0 [] 0, c6 v], (bB a_1.1)) = ([AV.ptr 0 0 [] 0, c6 a.2], (bB a.1)) ∧ True ∧ ∃ (a_2 : nr), ([AV.ptr 0 0 [] 0, c6 u, AV.int (if
 bp getM (AT.tm a.2) a.1.es > bp getM (AT.tm a_1.2) a_1.1.es then bp getM (AT.tm a.2) a.1.es else bp getM (AT.tm a_1.2) a_1.1.es)], (bB a.1)) =
 ([AV.ptr 0 0 [] 0, c6 a_2.t, AV.int a_2.k], (bB a_2.a)) ∧ cG a_2 ∧ bg (az (aU κ (fI (Prod.fst (aJ a_2.a a_2.t a_2.k))))) (aD (!bz (aU κ
 (fI (Prod.fst (aJ a_2.a a_2.t a_2.k))))) (K (AV.lit (aU κ (fI (Prod.fst (aJ a_2.a a_2.t a_2.k))))) (bB (dd a_2.a (Prod.snd (aJ a_2.a a_2.t
 a_2.k))))) (∃ (a_3 : nr), ([AV.ptr 0 0 [] 0, c6 v, AV.int (if bp getM (AT.tm a.2) a.1.es > bp getM (AT.tm a_1.2) a_1.1.es then bp getM (AT.tm a.2)
 a.1.es else bp getM (AT.tm a_1.2) a_1.1.es)], (bB (dd a_2.a (Prod.snd (aJ a_2.a a_2.t a_2.k))))) = ([AV.ptr 0 0 [] 0, c6 a_3.t, AV.int a_3.k], (bB
 a_3.a)) ∧ cG a_3 ∧ K (AV.lit (aU κ (fI (Prod.fst (aJ a_3.a a_3.t a_3.k))))) (bB (dd a_3.a (Prod.snd (aJ a_3.a a_3.t a_3.k))))))) (aD (op == (5
 : Int)) ((∃ (a_1 : gX × AT), ([AV.ptr 0 0 [] 0, c6 u], (bB a)) = ([AV.ptr 0 0 [] 0, c6 a_1.2], (bB a_1.1)) ∧ True ∧ ∃ (a : gX × AT), ([AV.ptr 0 0 [] 0,
 c6 v], (bB a_1.1)) = ([AV.ptr 0 0 [] 0, c6 a.2], (bB a.1)) ∧ True ∧ ∃ (a_2 : nr), ([AV.ptr 0 0 [] 0, c6 u, AV.int (if bp getM (AT.tm a.2) a.1.es > bp
 getM (AT.tm a_1.2) a_1.1.es then bp getM (AT.tm a.2) a.1.es else bp getM (AT.tm a_1.2) a_1.1.es)], (bB a.1)) = ([AV.ptr 0 0 [] 0, c6 a_2.t, AV.int
 a_2.k], (bB a_2.a)) ∧ cG a_2 ∧ bg (az (aU κ (fI (Prod.fst (aJ a_2.a a_2.t a_2.k))))) (aD (!bz (aU κ (fI (Prod.fst (aJ a_2.a a_2.t
 a_2.k))))) (K (AV.lit (aU κ (fI (Prod.fst (aJ a_2.a a_2.t a_2.k))))) (bB (dd a_2.a (Prod.snd (aJ a_2.a a_2.t a_2.k))))) (∃ (a_3 : nr), ([AV.ptr 0 0
 [] 0, c6 v, AV.int (if bp getM (AT.tm a.2) a.1.es > bp getM (AT.tm a_1.2) a_1.1.es then bp getM (AT.tm a.2) a.1.es else bp getM (AT.tm a_1.2)
 a_1.1.es)], (bB (dd a_2.a (Prod.snd (aJ a_2.a a_2.t a_2.k))))) = ([AV.ptr 0 0 [] 0, c6 a_3.t, AV.int a_3.k], (bB a_3.a)) ∧ cG a_3 ∧ K (AV.lit (aU
 κ (fI (Prod.fst (aJ a_3.a a_3.t a_3.k))))) (bB (dd a_3.a (Prod.snd (aJ a_3.a a_3.t a_3.k))))))) ∧ (∃ (a_1 : gX × AT), ([AV.ptr 0 0 [] 0, c6 u], (bB
 a)) = ([AV.ptr 0 0 [] 0, c6 a_1.2], (bB a_1.1)) ∧ True ∧ ∃ (a : gX × AT), ([AV.ptr 0 0 [] 0, c6 v], (bB a_1.1)) = ([AV.ptr 0 0 [] 0, c6 a.2], (bB a.1))
 ∧ True ∧ ∃ (a_2 : nr), ([AV.ptr 0 0 [] 0, c6 u, AV.int (if bp getM (AT.tm a.2) a.1.es > bp getM (AT.tm a_1.2) a_1.1.es then bp getM (AT.tm a.2) a.1.es
 else bp getM (AT.tm a_1.2) a_1.1.es)], (bB a.1)) = ([AV.ptr 0 0 [] 0, c6 a_2.t, AV.int a_2.k], (bB a_2.a)) ∧ cG a_2 ∧ bg (az (aU κ (fI
 (Prod.fst (aJ a_2.a a_2.t a_2.k))))) (aD (!bz (aU κ (fI (Prod.fst (aJ a_2.a a_2.t a_2.k))))) (K (AV.lit (aU κ (fI (Prod.fst (aJ a_2.a a_2.t
 a_2.k))))) (bB (dd a_2.a (Prod.snd (aJ a_2.a a_2.t a_2.k))))) (∃ (a_3 : nr), ([AV.ptr 0 0 [] 0, c6 v, AV.int (if bp getM (AT.tm a.2) a.1.es > bp
 getM (AT.tm a_1.2) a_1.1.es then bp getM (AT.tm a.2) a.1.es else bp getM (AT.tm a_1.2) a_1.1.es)], (bB (dd a_2.a (Prod.snd (aJ a_2.a a_2.t a_2.k)))))
 = ([AV.ptr 0 0 [] 0, c6 a_3.t, AV.int a_3.k], (bB a_3.a)) ∧ cG a_3 ∧ K (AV.lit (aU κ (fI (Prod.fst (aJ a_3.a a_3.t a_3.k))))) (bB (dd a_3.a
 (Prod.snd (aJ a_3.a a_3.t a_3.k))))))) ∧ ∃ (a_1 : gX × AT), ([AV.ptr 0 0 [] 0, c6 u], (bB a)) = ([AV.ptr 0 0 [] 0, c6 a_1.2], (bB a_1.1)) ∧ True ∧ ∃ (a
 : gX × AT), ([AV.ptr 0 0 [] 0, c6 v], (bB a_1.1)) = ([AV.ptr 0 0 [] 0, c6 a.2], (bB a.1)) ∧ True ∧ ∃ (a_2 : nr), ([AV.ptr 0 0 [] 0, c6 u, AV.int (if
 bp getM (AT.tm a.2) a.1.es > bp getM (AT.tm a_1.2) a_1.1.es then bp getM (AT.tm a.2) a.1.es else bp getM (AT.tm a_1.2) a_1.1.es)], (bB a.1)) =
 ([AV.ptr 0 0 [] 0, c6 a_2.t, AV.int a_2.k], (bB a_2.a)) ∧ cG a_2 ∧ bg (az (aU κ (fI (Prod.fst (aJ a_2.a a_2.t a_2.k))))) (aD (!bz (aU κ
 (fI (Prod.fst (aJ a_2.a a_2.t a_2.k))))) (K (AV.lit (aU κ (fI (Prod.fst (aJ a_2.a a_2.t a_2.k))))) (bB (dd a_2.a (Prod.snd (aJ a_2.a a_2.t
 a_2.k))))) (∃ (a_3 : nr), ([AV.ptr 0 0 [] 0, c6 v, AV.int (if bp getM (AT.tm a.2) a.1.es > bp getM (AT.tm a_1.2) a_1.1.es then bp getM (AT.tm a.2)
 a.1.es else bp getM (AT.tm a_1.2) a_1.1.es)], (bB (dd a_2.a (Prod.snd (aJ a_2.a a_2.t a_2.k))))) = ([AV.ptr 0 0 [] 0, c6 a_3.t, AV.int a_3.k], (bB
 a_3.a)) ∧ cG a_3 ∧ K (AV.lit (aU κ (fI (Prod.fst (aJ a_3.a a_3.t a_3.k))))) (bB (dd a_3.a (Prod.snd (aJ a_3.a a_3.t a_3.k))))))) (aD (op == (6
 : Int)) ((∃ (a_1 : gX × AT), ([AV.ptr 0 0 [] 0, c6 u], (bB a)) = ([AV.ptr 0 0 [] 0, c6 a_1.2], (bB a_1.1)) ∧ True ∧ ∃ (a : gX × AT), ([AV.ptr 0 0 [] 0,
 c6 v], (bB a_1.1)) = ([AV.ptr 0 0 [] 0, c6 a.2], (bB a.1)) ∧ True ∧ ∃ (a_2 : nr), ([AV.ptr 0 0 [] 0, c6 u, AV.int (if bp getM (AT.tm a.2) a.1.es > bp
 getM (AT.tm a_1.2) a_1.1.es then bp getM (AT.tm a.2) a.1.es else bp getM (AT.tm a_1.2) a_1.1.es)], (bB a.1)) = ([AV.ptr 0 0 [] 0, c6 a_2.t, AV.int
 a_2.k], (bB a_2.a)) ∧ cG a_2 ∧ bg (az (aU κ (fI (Prod.fst (aJ a_2.a a_2.t a_2.k))))) (aD (!bz (aU κ (fI (Prod.fst (aJ a_2.a a_2.t
 a_2.k))))) (K (AV.lit (aU κ (fI (Prod.fst (aJ a_2.a a_2.t a_2.k))))) (bB (dd a_2.a (Prod.snd (aJ a_2.a a_2.t a_2.k))))) (∃ (a_3 : nr), ([AV.ptr 0 0
 [] 0, c6 v, AV.int (if bp getM (AT.tm a.2) a.1.es > bp getM (AT.tm a_1.2) a_1.1.es then bp getM (AT.tm a.2) a.1.es else bp getM (AT.tm a_1.2)
 a_1.1.es)], (bB (dd a_2.a (Prod.snd (aJ a_2.a a_2.t a_2.k))))) = ([AV.ptr 0 0 [] 0, c6 a_3.t, AV.int a_3.k], (bB a_3.a)) ∧ cG a_3 ∧ K (AV.lit (aU
 κ (fI (Prod.fst (aJ a_3.a a_3.t a_3.k))))) (bB (dd a_3.a (Prod.snd (aJ a_3.a a_3.t a_3.k))))))) ∧ (∃ (a_1 : gX × AT), ([AV.ptr 0 0 [] 0, c6 u], (bB
 a)) = ([AV.ptr 0 0 [] 0, c6 a_1.2], (bB a_1.1)) ∧ True ∧ ∃ (a : gX × AT), ([AV.ptr 0 0 [] 0, c6 v], (bB a_1.1)) = ([AV.ptr 0 0 [] 0, c6 a.2], (bB a.1))
 ∧ True ∧ ∃ (a_2 : nr), ([AV.ptr 0 0 [] 0, c6 u, AV.int (if bp getM (AT.tm a.2) a.1.es > bp getM (AT.tm a_1.2) a_1.1.es then bp getM (AT.tm a.2) a.1.es
 else bp getM (AT.tm a_1.2) a_1.1.es)], (bB a.1)) = ([AV.ptr 0 0 [] 0, c6 a_2.t, AV.int a_2.k], (bB a_2.a)) ∧ cG a_2 ∧ bg (az (aU κ (fI
 (Prod.fst (aJ a_2.a a_2.t a_2.k))))) (aD (!bz (aU κ (fI (Prod.fst (aJ a_2.a a_2.t a_2.k))))) (K (AV.lit (aU κ (fI (Prod.fst (aJ a_2.a a_2.t
 a_2.k))))) (bB (dd a_2.a (Prod.snd (aJ a_2.a a_2.t a_2.k))))) (∃ (a_3 : nr), ([AV.ptr 0 0 [] 0, c6 v, AV.int (if bp getM (AT.tm a.2) a.1.es > bp
 getM (AT.tm a_1.2) a_1.1.es then bp getM (AT.tm a.2) a.1.es else bp getM (AT.tm a_1.2) a_1.1.es)], (bB (dd a_2.a (Prod.snd (aJ a_2.a a_2.t a_2.k)))))
 = ([AV.ptr 0 0 [] 0, c6 a_3.t, AV.int a_3.k], (bB a_3.a)) ∧ cG a_3 ∧ K (AV.lit (aU κ (fI (Prod.fst (aJ a_3.a a_3.t a_3.k))))) (bB (dd a_3.a
 (Prod.snd (aJ a_3.a a_3.t a_3.k))))))) ∧ ∃ (a_1 : gX × AT), ([AV.ptr 0 0 [] 0, c6 u], (bB a)) = ([AV.ptr 0 0 [] 0, c6 a_1.2], (bB a_1.1)) ∧ True ∧ ∃ (a
 : gX × AT), ([AV.ptr 0 0 [] 0, c6 v], (bB a_1.1)) = ([AV.ptr 0 0 [] 0, c6 a.2], (bB a.1)) ∧ True ∧ ∃ (a_2 : nr), ([AV.ptr 0 0 [] 0, c6 u, AV.int (if
 bp getM (AT.tm a.2) a.1.es > bp getM (AT.tm a_1.2) a_1.1.es then bp getM (AT.tm a.2) a.1.es else bp getM (AT.tm a_1.2) a_1.1.es)], (bB a.1)) =
 ([AV.ptr 0 0 [] 0, c6 a_2.t, AV.int a_2.k], (bB a_2.a)) ∧ cG a_2 ∧ bg (az (aU κ (fI (Prod.fst (aJ a_2.a a_2.t a_2.k))))) (aD (!bz (aU κ
 (fI (Prod.fst (aJ a_2.a a_2.t a_2.k))))) (K (AV.lit (aU κ (fI (Prod.fst (aJ a_2.a a_2.t a_2.k))))) (bB (dd a_2.a (Prod.snd (aJ a_2.a a_2.t
 a_2.k))))) (∃ (a_3 : nr), ([AV.ptr 0 0 [] 0, c6 v, AV.int (if bp getM (AT.tm a.2) a.1.es > bp getM (AT.tm a_1.2) a_1.1.es then bp getM (AT.tm a.2)
 a.1.es else bp getM (AT.tm a_1.2) a_1.1.es)], (bB (dd a_2.a (Prod.snd (aJ a_2.a a_2.t a_2.k))))) = ([AV.ptr 0 0 [] 0, c6 a_3.t, AV.int a_3.k], (bB
 a_3.a)) ∧ cG a_3 ∧ K (AV.lit (aU κ (fI (Prod.fst (aJ a_3.a a_3.t a_3.k))))) (bB (dd a_3.a (Prod.snd (aJ a_3.a a_3.t a_3.k))))))) (aD (op == (1
 : Int)) (∃ (a_1 : Ma), ([AV.ptr 0 0 [] 0, AV.agg [AV.str rel, AV.ae 52 l]], (bB a)) = ([AV.ptr 0 0 [] 0, AV.agg [AV.str a_1.2.1, AV.ae 52 a_1.2.2]], (bB
 a_1.1)) ∧ (a_1.1.ds.length ≤ 9223372036854775807 ∧ aX (aa a_1.2.2) ≤ 100000) ∧ K (AV.lit (aU κ (Prod.fst (cV a_1.1 a_1.2.1 a_1.2.2)))) (bB (dd
 a_1.1 (Prod.snd (cV a_1.1 a_1.2.1 a_1.2.2))))) (aD (op == (2 : Int)) (∃ (a_1 : Ma), ([AV.ptr 0 0 [] 0, AV.agg [AV.str rel, AV.ae 52 l]], (bB a)) =
 ([AV.ptr 0 0 [] 0, AV.agg [AV.str a_1.2.1, AV.ae 52 a_1.2.2]], (bB a_1.1)) ∧ (a_1.1.ds.length ≤ 9223372036854775807 ∧ aX (aa a_1.2.2) ≤ 100000) ∧ K
 (AV.lit (aU κ (Prod.fst (cV a_1.1 a_1.2.1 a_1.2.2)))) (bB (dd a_1.1 (Prod.snd (cV a_1.1 a_1.2.1 a_1.2.2))))) (∃ (a_1 : Ma), ([AV.ptr 0 0 [] 0,
 AV.agg [AV.str rel, AV.ae 52 l]], (bB a)) = ([AV.ptr 0 0 [] 0, AV.agg [AV.str a_1.2.1, AV.ae 52 a_1.2.2]], (bB a_1.1)) ∧ (a_1.1.ds.length ≤
 9223372036854775807 ∧ aX (aa a_1.2.2) ≤ 100000) ∧ bg (az (aU κ (Prod.fst (cV a_1.1 a_1.2.1 a_1.2.2)))) (aD (!bz (aU κ (Prod.fst (cV
 a_1.1 a_1.2.1 a_1.2.2)))) (K (AV.lit (aU κ (Prod.fst (cV a_1.1 a_1.2.1 a_1.2.2)))) (bB (dd a_1.1 (Prod.snd (cV a_1.1 a_1.2.1 a_1.2.2))))) (∃ (a :
 nr), ([AV.ptr 0 0 [] 0, c6 u, AV.int 1], (bB (dd a_1.1 (Prod.snd (cV a_1.1 a_1.2.1 a_1.2.2))))) = ([AV.ptr 0 0 [] 0, c6 a.t, AV.int a.k], (bB a.a)) ∧
 cG a ∧ bg (az (aU κ (fI (Prod.fst (aJ a.a a.t a.k))))) (aD (!bz (aU κ (fI (Prod.fst (aJ a.a a.t a.k))))) (K (AV.lit (aU κ (fI
 (Prod.fst (aJ a.a a.t a.k))))) (bB (dd a.a (Prod.snd (aJ a.a a.t a.k))))) (aD (op == (7 : Int)) (K (AV.lit (aU κ (fI (Prod.fst (aJ a.a a.t
 a.k))))) (bB (dd a.a (Prod.snd (aJ a.a a.t a.k))))) (∃ (a_2 : nr), ([AV.ptr 0 0 [] 0, c6 v, AV.int 1], (bB (dd a.a (Prod.snd (aJ a.a a.t a.k))))) =
 ([AV.ptr 0 0 [] 0, c6 a_2.t, AV.int a_2.k], (bB a_2.a)) ∧ cG a_2 ∧ K (AV.lit (aU κ (fI (Prod.fst (aJ a_2.a a_2.t a_2.k))))) (bB (dd a_2.a
 (Prod.snd (aJ a_2.a a_2.t a_2.k)))))))))))))))) := by kernel_rfl
structure Co where
 a : gX
 op : Int
 rel : ByteArray
 l : List AV
 u : AT
 v : AT
def Co.lt (x : Co) : Lt := ⟨x.op, ⟨x.rel, aa x.l⟩, x.u.tm, x.v.tm⟩
def bF (x : Co) : Int × (List (Value × AV) × Bool) := jd getM fe (b8 x.a.ds) x.lt (x.a.es, x.a.more)
def No (x : Co) : List AV × List Dn.Obj := ([Af, .agg [.int x.op, .agg [.lit (.string x.rel), .ae 52 x.l], c6 x.u, c6 x.v]], bB x.a)
def Ha (x : Co) : Prop := x.a.ds.length ≤ aL ∧ ik x.lt ≤ 100000
noncomputable def KH (κ : Kp) (x : Co) : Out (AV × List Dn.Obj) := .one (.lit (aU κ (bF x).1), bB (dd x.a (bF x).2))
def kd (a : gX) (u v : AT) : Int := if bp getM v.tm a.es > bp getM u.tm a.es then bp getM v.tm a.es else bp getM u.tm a.es
theorem Ov (x : Co) : jE getM x.lt x.a.es = kd x.a x.u x.v := by
 unfold jE kd
 show (bif decide (bp getM x.v.tm x.a.es > bp getM x.u.tm x.a.es) then _ else _) = _
 by_cases h : bp getM x.v.tm x.a.es > bp getM x.u.tm x.a.es
 ·rw [aa6 h, if_pos h]; rfl
 ·rw [aa4 h, if_neg h]; rfl
theorem xJ (κ : Kp) (b : Bool) : (!bz (aU κ (fI b))) = b := by rw [hH, xF, Bool.not_not]
theorem Wl (κ : Kp) : bu (NB κ) 12 134 (aW No Ha (KH κ)) := by
 refine ba ?_
 rintro ⟨a, op, rel, l, u, v⟩ K ⟨h1, h2⟩ ho
 simp only at h1
 refine Eq.mpr (Va κ a op rel l u v K) ?_
 have ho : K (.lit (aU κ (bF ⟨a, op, rel, l, u, v⟩).1)) (bB (dd a (bF ⟨a, op, rel, l, u, v⟩).2)) := ho
 have h2 : aX [u.tm, v.tm] + aX (aa l) ≤ 100000 := h2
 simp only [aX] at h2
 have hu : cG ⟨a, u, kd a u v⟩ := by show u.tm.oi ≤ 100000; omega
 have hv : cG ⟨dd a (aJ a u (kd a u v)).2, v, kd a u v⟩ := by show v.tm.oi ≤ 100000; omega
 have both : eT op = true → bF ⟨a, op, rel, l, u, v⟩ = js (aJ a u (kd a u v)) (v.tm.want getM fe (kd a u v)) := fun hc => by
  unfold bF jd
  rw [Ov ⟨a, op, rel, l, u, v⟩, show (Co.lt ⟨a, op, rel, l, u, v⟩).op = op from rfl, hc]; rfl
 have c1 : eT op = true → (!bz (aU κ (fI (aJ a u (kd a u v)).1))) = true → K (.lit (aU κ (fI (aJ a u (kd a u v)).1))) (bB (dd a (aJ a u (kd a u v)).2)) := fun hc q => by
  rw [xJ] at q
  rw [both hc] at ho
  unfold js at ho
  rw [q] at ho ⊢
  exact ho
 have c2 : eT op = true → (!bz (aU κ (fI (aJ a u (kd a u v)).1))) = false → K (.lit (aU κ (fI (aJ (dd a (aJ a u (kd a u v)).2) v (kd a u v)).1))) (bB (dd (dd a (aJ a u (kd a u v)).2) (aJ (dd a (aJ a u (kd a u v)).2) v (kd a u v)).2)) := fun hc q => by
  rw [xJ] at q
  rw [both hc] at ho
  unfold js at ho
  rw [q] at ho
  exact ho
 have hat : ∀ b : gX, b = a → (b.ds.length ≤ 9223372036854775807 ∧ aX (aa l) ≤ 100000) := fun b hb => by subst hb; exact ⟨h1, by omega⟩
 have nc : eT op = false → (decide (op = 1) || decide (op = 2)) = true → bF ⟨a, op, rel, l, u, v⟩ = cV a rel l := fun hc h12 => by
  unfold bF jd
  rw [show (Co.lt ⟨a, op, rel, l, u, v⟩).op = op from rfl, hc, h12]; rfl
 refine af.2 ⟨fun e => by
   have hc : eT op = true := (by rw [show op = 3 from eq_of_beq e]; rfl)
   exact ⟨⟨(a, u), rfl, trivial, (a, v), rfl, trivial, ⟨a, u, _⟩, rfl, hu, ax.2 ⟨cd _ _, af.2 ⟨fun q => c1 hc q, fun q => ⟨⟨_, v, _⟩, rfl, hv, c2 hc q⟩⟩⟩⟩,
    ⟨(a, u), rfl, trivial, (a, v), rfl, trivial, ⟨a, u, _⟩, rfl, hu, ax.2 ⟨cd _ _, af.2 ⟨fun q => c1 hc q, fun q => ⟨⟨_, v, _⟩, rfl, hv, c2 hc q⟩⟩⟩⟩,
    ⟨(a, u), rfl, trivial, (a, v), rfl, trivial, ⟨a, u, _⟩, rfl, hu, ax.2 ⟨cd _ _, af.2 ⟨fun q => c1 hc q, fun q => ⟨⟨_, v, _⟩, rfl, hv, c2 hc q⟩⟩⟩⟩⟩, fun e3 => af.2 ⟨fun e => by
   have hc : eT op = true := (by rw [show op = 4 from eq_of_beq e]; rfl)
   exact ⟨⟨(a, u), rfl, trivial, (a, v), rfl, trivial, ⟨a, u, _⟩, rfl, hu, ax.2 ⟨cd _ _, af.2 ⟨fun q => c1 hc q, fun q => ⟨⟨_, v, _⟩, rfl, hv, c2 hc q⟩⟩⟩⟩,
    ⟨(a, u), rfl, trivial, (a, v), rfl, trivial, ⟨a, u, _⟩, rfl, hu, ax.2 ⟨cd _ _, af.2 ⟨fun q => c1 hc q, fun q => ⟨⟨_, v, _⟩, rfl, hv, c2 hc q⟩⟩⟩⟩,
    ⟨(a, u), rfl, trivial, (a, v), rfl, trivial, ⟨a, u, _⟩, rfl, hu, ax.2 ⟨cd _ _, af.2 ⟨fun q => c1 hc q, fun q => ⟨⟨_, v, _⟩, rfl, hv, c2 hc q⟩⟩⟩⟩⟩, fun e4 => af.2 ⟨fun e => by
   have hc : eT op = true := (by rw [show op = 5 from eq_of_beq e]; rfl)
   exact ⟨⟨(a, u), rfl, trivial, (a, v), rfl, trivial, ⟨a, u, _⟩, rfl, hu, ax.2 ⟨cd _ _, af.2 ⟨fun q => c1 hc q, fun q => ⟨⟨_, v, _⟩, rfl, hv, c2 hc q⟩⟩⟩⟩,
    ⟨(a, u), rfl, trivial, (a, v), rfl, trivial, ⟨a, u, _⟩, rfl, hu, ax.2 ⟨cd _ _, af.2 ⟨fun q => c1 hc q, fun q => ⟨⟨_, v, _⟩, rfl, hv, c2 hc q⟩⟩⟩⟩,
    ⟨(a, u), rfl, trivial, (a, v), rfl, trivial, ⟨a, u, _⟩, rfl, hu, ax.2 ⟨cd _ _, af.2 ⟨fun q => c1 hc q, fun q => ⟨⟨_, v, _⟩, rfl, hv, c2 hc q⟩⟩⟩⟩⟩, fun e5 => af.2 ⟨fun e => by
   have hc : eT op = true := (by rw [show op = 6 from eq_of_beq e]; rfl)
   exact ⟨⟨(a, u), rfl, trivial, (a, v), rfl, trivial, ⟨a, u, _⟩, rfl, hu, ax.2 ⟨cd _ _, af.2 ⟨fun q => c1 hc q, fun q => ⟨⟨_, v, _⟩, rfl, hv, c2 hc q⟩⟩⟩⟩,
    ⟨(a, u), rfl, trivial, (a, v), rfl, trivial, ⟨a, u, _⟩, rfl, hu, ax.2 ⟨cd _ _, af.2 ⟨fun q => c1 hc q, fun q => ⟨⟨_, v, _⟩, rfl, hv, c2 hc q⟩⟩⟩⟩,
    ⟨(a, u), rfl, trivial, (a, v), rfl, trivial, ⟨a, u, _⟩, rfl, hu, ax.2 ⟨cd _ _, af.2 ⟨fun q => c1 hc q, fun q => ⟨⟨_, v, _⟩, rfl, hv, c2 hc q⟩⟩⟩⟩⟩, fun e6 => ?_⟩⟩⟩⟩
 simp only [beq_eq_false_iff_ne] at e3 e4 e5 e6
 have hc : eT op = false := by
  unfold eT
  rw [Bool.and_eq_false_iff, aa2, aa2]; omega
 refine af.2 ⟨fun e => ⟨(a, rel, l), rfl, hat a rfl, ?_⟩, fun e1 => af.2 ⟨fun e => ⟨(a, rel, l), rfl, hat a rfl, ?_⟩, fun e2 => ?_⟩⟩
 ·rw [nc hc (by rw [show op = 1 by simpa using e]; rfl)] at ho; exact ho
 ·rw [nc hc (by rw [show op = 2 by simpa using e]; rfl)] at ho; exact ho
 simp only [beq_eq_false_iff_ne] at e1 e2
 have hL : bF ⟨a, op, rel, l, u, v⟩ = bif !decide ((cV a rel l).1 = 0) then cV a rel l
   else bif decide (op = 7) then (fI (aJ (dd a (cV a rel l).2) u 1).1, (aJ (dd a (cV a rel l).2) u 1).2)
   else js (aJ (dd a (cV a rel l).2) u 1) (v.tm.want getM fe 1) := by
  unfold bF jd
  rw [show (Co.lt ⟨a, op, rel, l, u, v⟩).op = op from rfl, hc, aa4 e1, aa4 e2]; rfl
 rw [hL] at ho
 refine ⟨(a, rel, l), rfl, hat a rfl, ax.2 ⟨cd _ _, ?_⟩⟩
 rw [hH]
 refine af.2 ⟨fun q => ?_, fun q => ?_⟩
 ·rw [q] at ho; exact ho
 ·rw [q, aa5] at ho
  refine ⟨⟨dd a (cV a rel l).2, u, 1⟩, rfl, by show u.tm.oi ≤ 100000; omega, ax.2 ⟨cd _ _, ?_⟩⟩
  rw [xJ]
  refine af.2 ⟨fun q1 => ?_, fun q1 => af.2 ⟨fun q7 => ?_, fun q7 => ⟨⟨dd (dd a (cV a rel l).2) (aJ (dd a (cV a rel l).2) u 1).2, v, 1⟩, rfl, by show v.tm.oi ≤ 100000; omega, ?_⟩⟩⟩
  ·have q1 : (aJ (dd a (cV a rel l).2) u 1).1 = true := q1
   unfold js at ho
   rw [q1] at ho
   simp only [q1]
   cases h7 : decide (op = 7) <;> rw [h7] at ho <;> exact ho
  ·rw [show decide (op = 7) = true by simpa using q7] at ho
   exact ho
  ·have q1 : (aJ (dd a (cV a rel l).2) u 1).1 = false := q1
   rw [show decide (op = 7) = false by simpa using q7, aa5] at ho
   unfold js at ho
   rw [q1] at ho
   exact ho
noncomputable def Ok (κ : Kp) : Env := (NB κ).au 134 (aW No Ha (KH κ))
theorem V2 (κ : Kp) : ay (Ok κ) := (Vj κ).au (SR κ) (Wl κ)
theorem Sh (κ : Kp) : ah (Ok κ) := (SR κ).au aH
end Go.Proofs.YtdpmikfheebicaaGreatDoor
