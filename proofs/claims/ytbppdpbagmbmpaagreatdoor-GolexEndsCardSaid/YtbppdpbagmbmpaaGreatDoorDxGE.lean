import Derived.Test.YtbppdpbagmbmpaaGreatDoorDxGD
namespace Go.Proofs.YtbppdpbagmbmpaaGreatDoor
open Go Go.Dn Go.Proofs
attribute [local irreducible] funA vc
set_option maxRecDepth 20000
def nlB : ByteArray := ⟨#[10]⟩
abbrev stSp0 (s : ByteArray) (xs : List AV) : S := sp 52 [(0, .yld 0), (1, .ptr 1 0 [] 0), (2, .ptr 2 0 [] 0), (3, .ptr 3 0 [] 0)] [.ext (some xs), .box 9 (.lit (.string nlB)), .box 9 (.lit (.string s)), .box 3 (.int 0)]
theorem xSp (κ : Kp) (s : ByteArray) (xs : List AV) (I : Nat → S → Prop) (n : Nat) (K : Exit → S → Prop) : (vc (BTk κ).E 12 49 none 4 (loopCode (Pr κ).toProgram 49 5) (stSp0 s xs) (loopK (BTk κ).E 49 5 4 I n K)) = (
  brn (decide (Lib.indexByte (bl s) (List.headD (bl nlB) (OfNat.ofNat 0)) < (0 : Int))) (K (Exit.exit 2) (sp 52 [(0, AV.yld 0), (2, AV.ptr 2 0 [] 0)] [Obj.ext
  (some xs), Obj.box 9 (AV.str nlB), Obj.box 9 (AV.str s), Obj.box 3 (AV.int 0)])) (cnd (true && decide ((0 : Int) ≤ IntKind.wrap IntKind.i64 (Lib.indexByte (bl
  s) (List.headD (bl nlB) (OfNat.ofNat 0)) + (0 : Int))) && decide (IntKind.wrap IntKind.i64 (Lib.indexByte (bl s) (List.headD (bl nlB) (OfNat.ofNat 0)) + (0 :
  Int)) ≤ (↑(ByteArray.size s) : Int))) (∃ (rest : List AV), xs = AV.tup [AV.str (ByteArray.extract s 0 (Int.toNat (IntKind.wrap IntKind.i64 (Lib.indexByte (bl
  s) (List.headD (bl nlB) (OfNat.ofNat 0)) + (0 : Int)))))] :: rest ∧ cnd (decide ((0 : Int) ≤ IntKind.wrap IntKind.i64 (Lib.indexByte (bl s) (List.headD (bl
  nlB) (OfNat.ofNat 0)) + (1 : Int))) && decide (IntKind.wrap IntKind.i64 (Lib.indexByte (bl s) (List.headD (bl nlB) (OfNat.ofNat 0)) + (1 : Int)) ≤
  (↑(ByteArray.size s) : Int)) && decide ((↑(ByteArray.size s) : Int) ≤ (↑(ByteArray.size s) : Int))) (∃ (m : Nat), m < n ∧ I m (sp 52 [(0, AV.yld 0), (1, AV.ptr
  1 0 [] 0), (2, AV.ptr 2 0 [] 0), (3, AV.ptr 3 0 [] 0)] [Obj.ext (some rest), Obj.box 9 (AV.str nlB), Obj.box 9 (AV.str (ByteArray.extract s (Int.toNat
  (IntKind.wrap IntKind.i64 (Lib.indexByte (bl s) (List.headD (bl nlB) (OfNat.ofNat 0)) + (1 : Int)))) (Int.toNat (↑(ByteArray.size s) : Int)))), Obj.box 3
  (AV.int 0)])) ∧ K Exit.ret (sp 52 [] [Obj.ext none, Obj.box 9 (AV.str nlB), Obj.box 9 (AV.str s), Obj.box 3 (AV.int 0)])))) := by kernel_rfl
def nlI (s : ByteArray) : Int := Lib.indexByte (bl s) 10
theorem nlI_rng (s : ByteArray) : -1 ≤ nlI s ∧ nlI s < max (s.size : Int) 1 := by
  have h := Lib.indexByte_ge (bl s) 10
  unfold nlI
  refine ⟨h, ?_⟩
  generalize hi : Lib.indexByte (bl s) 10 = i at h
  by_cases h0 : i < 0
  · omega
  · obtain ⟨o, rfl⟩ : ∃ o : Nat, i = o := ⟨i.toNat, by omega⟩
    obtain ⟨h1, _⟩ := Lib.indexByte_some hi
    obtain ⟨h2, _⟩ := List.getElem?_eq_some_iff.1 h1
    rw [bl_len] at h2
    omega
def linF : Nat → ByteArray → List ByteArray
  | 0, s => [s]
  | k + 1, s => bif decide (nlI s < 0) then [s] else s.extract 0 (nlI s).toNat :: linF k (s.extract (nlI s + 1).toNat s.size)
structure ASp where
  s : ByteArray
  k : Nat
  xs : List AV
def stSpl (x : ASp) : S := stSp0 x.s x.xs
def sideSpl (x : ASp) : Prop := x.s.size ≤ 1000000000 ∧ x.s.size ≤ x.k ∧ x.xs = itS (linF x.k x.s)
def outSpl (_ : ASp) : Out (Exit × S) := .all (fun _ : Bool × ByteArray => True) fun b => .brn b.1
  (.one (.exit 2, sp 52 [(0, .yld 0), (2, .ptr 2 0 [] 0)] [.ext (some (itS [b.2])), .box 9 (.lit (.string nlB)), .box 9 (.lit (.string b.2)), .box 3 (.int 0)])) (.one (.ret, sp 52 [] [.ext none, .box 9 (.lit (.string nlB)), .box 9 (.lit (.string b.2)), .box 3 (.int 0)]))
theorem linF_none : ∀ (k : Nat) (s : ByteArray), s.size ≤ k → nlI s < 0 → linF k s = [s]
  | 0, _, _, _ => rfl
  | k + 1, s, _, h => by rw [linF, decide_eq_true h]; rfl
theorem lSp (κ : Kp) : LoopOk (BTk κ).E 12 49 5 (loopE 4 stSpl sideSpl outSpl) := by
  refine loopE_ok (fun x => x.k) ?_
  rintro ⟨s, k, xs⟩ K ⟨h1, h2, h3⟩ ho
  simp only at h1 h2 h3
  rw [show (BTk κ).E.P = Pr κ from rfl]
  refine Eq.mpr (xSp κ s xs _ _ K) ?_
  have hex := fun t => (brn_iff.1 (ho (true, t) trivial)).1 rfl
  have hrt := fun t => (brn_iff.1 (ho (false, t) trivial)).2 rfl
  obtain ⟨r1, r2⟩ := nlI_rng s
  show brn (decide (nlI s < 0)) _ _
  rw [brn_iff]
  refine ⟨fun e => ?_, fun e => ?_⟩
  · rw [linF_none k s h2 (of_decide_eq_true e)] at h3
    subst h3
    exact hex s
  · have e' : ¬ nlI s < 0 := of_decide_eq_false e
    have hs0 : nlI s < s.size := by
      rcases Nat.eq_zero_or_pos s.size with h0 | h0
      · exfalso
        have : bl s = [] := List.eq_nil_of_length_eq_zero (by rw [bl_len]; exact h0)
        unfold nlI at e'
        rw [this] at e'
        exact e' (by decide)
      · omega
    obtain ⟨k', rfl⟩ : ∃ k', k = k' + 1 := ⟨k - 1, by omega⟩
    rw [linF, e, cond_false] at h3
    have w0 : IntKind.wrap .i64 (Lib.indexByte (bl s) (List.headD (bl nlB) 0) + 0) = nlI s :=
      (wrap_ok (show -9223372036854775808 ≤ nlI s + 0 by omega) (show nlI s + 0 ≤ 9223372036854775807 by omega)).trans (Int.add_zero _)
    have w1 : IntKind.wrap .i64 (Lib.indexByte (bl s) (List.headD (bl nlB) 0) + 1) = nlI s + 1 := wrap_ok (show -9223372036854775808 ≤ nlI s + 1 by omega) (show nlI s + 1 ≤ 9223372036854775807 by omega)
    simp only [w0, w1]
    refine cnd_iff.2 ⟨by simp; omega, _, h3, cnd_iff.2 ⟨by simp; omega, ?_⟩, hrt s⟩
    exact ⟨k', Nat.lt_succ_self _, ⟨s.extract (nlI s + 1).toNat s.size, k', _⟩, rfl, ⟨by simp only [ByteArray.size_extract]; omega, by simp only [ByteArray.size_extract]; omega, rfl⟩, rfl, ho⟩
noncomputable def BSl (κ : Kp) : EB := (BTk κ).loop (lSp κ)
theorem ySp (κ : Kp) (s : ByteArray) (xs : List AV) (K : AV → List Dn.Obj → Prop) : (funA (BSl κ).E 12 49 [.yld 0, .ptr 1 0 [] 0, .ptr 2 0 [] 0, .ptr 3 0 [] 0] [.ext (some xs), .box 9 (.lit (.string nlB)), .box 9 (.lit (.string s)), .box 3 (.int 0)] K) = (
  loopCode (Pg.toProgram (Env.P (EB.E (BTk κ)))) 49 5 = loopCode (Pg.toProgram (Env.P (EB.E (BTk κ)))) 49 5 ∧ ∃ (a : ASp), sp 52 [(0, AV.yld 0), (1, AV.ptr 1 0 []
  0), (2, AV.ptr 2 0 [] 0), (3, AV.ptr 3 0 [] 0)] [Obj.ext (some xs), Obj.box 9 (AV.str nlB), Obj.box 9 (AV.str s), Obj.box 3 (AV.int 0)] = stSpl a ∧ sideSpl a ∧
  ∀ (y : Bool × ByteArray), True → brn y.1 (∃ (rest : List AV), [AV.tup [AV.str y.2]] = AV.tup [AV.str y.2] :: rest ∧ K (AV.tup []) [Obj.ext (some rest), Obj.box
  9 (AV.str nlB), Obj.box 9 (AV.str y.2), Obj.box 3 (AV.int 0)] ∧ K (AV.tup []) [Obj.ext none, Obj.box 9 (AV.str nlB), Obj.box 9 (AV.str y.2), Obj.box 3 (AV.int
  0)]) (K (AV.tup []) [Obj.ext none, Obj.box 9 (AV.str nlB), Obj.box 9 (AV.str y.2), Obj.box 3 (AV.int 0)])) := by kernel_rfl
def stSpc (s : ByteArray) : List AV × List Dn.Obj := ([.yld 0, .ptr 1 0 [] 0, .ptr 2 0 [] 0, .ptr 3 0 [] 0], [.ext (some (itS (linF s.size s))), .box 9 (.lit (.string nlB)), .box 9 (.lit (.string s)), .box 3 (.int 0)])
def sideSpc (s : ByteArray) : Prop := s.size ≤ 1000000000
def outSpc (_ : ByteArray) : Out (AV × List Dn.Obj) := .all (fun st' => tdone st') fun st' => .one (.tup [], st')
theorem cSp (κ : Kp) : CallOk (BSl κ).E 12 49 (callE stSpc sideSpc outSpc) := by
  refine callE_ok ?_
  rintro s K h1 ho
  refine Eq.mpr (ySp κ s (itS (linF s.size s)) K) ?_
  exact ⟨rfl, ⟨s, s.size, itS (linF s.size s)⟩, rfl, ⟨h1, Nat.le_refl _, rfl⟩, fun y _ => brn_iff.2 ⟨fun _ => ⟨[], rfl, ho _ trivial, ho _ trivial⟩, fun _ => ho _ trivial⟩⟩
noncomputable def BSp (κ : Kp) : EB := (BSl κ).call (cSp κ)
end Go.Proofs.YtbppdpbagmbmpaaGreatDoor
namespace Go.Proofs.YtbppdpbagmbmpaaGreatDoor
open Go Go.Dn Go.Proofs
attribute [local irreducible] funA vc
set_option maxRecDepth 20000
abbrev frL (s : ByteArray) : List (Nat × AV) := [(0, .lit (.string s)), (2, .nil), (3, .int 0), (4, .int 0), (5, .ptr 0 0 [] 0), (6, .ptr 1 0 [] 0), (7, .ptr 2 0 [] 0), (12, .lit (.string s)), (13, .int (s.size : Int)), (14, .bool false), (15, .lit (.string s)), (16, .clo 49 [.ptr 4 0 [] 0, .ptr 3 0 [] 0, .ptr 5 0 [] 0])]
noncomputable abbrev lpL (κ : Kp) (s : ByteArray) (a : LoopState) (e : Option Code) : Dn.Obj := .loop (lpA (Pr κ).toProgram 10 7 a e (spR (junks 58) (frL s)))
noncomputable abbrev strL0 (κ : Kp) (s : ByteArray) : List Dn.Obj := [.box 24 .nil, .box 35 (.lit .nilIface), .box 3 (.int 0), .box 9 (.lit (.string s)), .box 9 (.lit (.string nlB)), .box 3 (.int 0), lpL κ s .ready none]
structure AIn where
  s : ByteArray
  l : ByteArray
  ln : Int
  toks : List AV
  t : ByteArray
  k : Int
  q : ByteArray
  z : Int
abbrev frI (s l : ByteArray) (l0 l1 : Int) : List (Nat × AV) := [(0, .lit (.string s)), (2, .nil), (3, .int 0), (4, .int 0), (5, .ptr 0 0 [] 0), (6, .ptr 1 0 [] 0), (7, .ptr 2 0 [] 0), (8, .lit (.string l)), (12, .lit (.string s)), (13, .int (s.size : Int)), (14, .bool false), (15, .lit (.string s)), (16, .clo 49 [.ptr 4 0 [] 0, .ptr 3 0 [] 0, .ptr 5 0 [] 0]),
  (17, .lit (.string l)), (18, .int l0), (19, .int l1), (20, .lit (.string l)), (21, .int l1), (22, .clo 28 [.ptr 8 0 [] 0, .ptr 9 0 [] 0])]
noncomputable abbrev lpI (κ : Kp) (s l : ByteArray) (l0 l1 : Int) (a : LoopState) (e : Option Code) : Dn.Obj := .loop (lpA (Pr κ).toProgram 10 10 a e (spR (junks 58) (frI s l l0 l1)))
noncomputable abbrev strI0 (κ : Kp) (s l : ByteArray) (l0 l1 : Int) (toks : List AV) (t : ByteArray) (k : Int) (q : ByteArray) (z : Int) : List Dn.Obj :=
  [.box 24 (.slc 7 0 toks.length), .box 35 (.lit .nilIface), .box 3 (.int l1), .dead, .dead, .dead, lpL κ s .busy none, .row 31 toks, .box 9 (.lit (.string t)), .box 3 (.int l1), lpI κ s l l0 l1 .ready none, .box 31 (.agg [.int k, .lit (.string q), .int z])]
noncomputable abbrev strI1 (κ : Kp) (s l : ByteArray) (l0 l1 : Int) (toks : List AV) (t : ByteArray) (k : Int) (q : ByteArray) (z : Int) : List Dn.Obj :=
  [.box 24 (.slc 11 0 toks.length), .box 35 (.lit .nilIface), .box 3 (.int l1), .dead, .dead, .dead, lpL κ s .busy none, .dead, .box 9 (.lit (.string t)), .box 3 (.int l1), lpI κ s l l0 l1 .ready none, .row 31 toks, .box 31 (.agg [.int k, .lit (.string q), .int z])]
noncomputable def stI0 (κ : Kp) (x : AIn) : S := sp 45 [(0, .yld 10), (1, .ptr 8 0 [] 0), (2, .ptr 9 0 [] 0), (4, .ptr 11 0 [] 0)] (strI0 κ x.s x.l x.ln (IntKind.wrap .i64 (x.ln + 1)) x.toks x.t x.k x.q x.z)
noncomputable def stI1 (κ : Kp) (x : AIn) : S := sp 45 [(0, .yld 10), (1, .ptr 8 0 [] 0), (2, .ptr 9 0 [] 0), (4, .ptr 12 0 [] 0)] (strI1 κ x.s x.l x.ln (IntKind.wrap .i64 (x.ln + 1)) x.toks x.t x.k x.q x.z)
end Go.Proofs.YtbppdpbagmbmpaaGreatDoor
namespace Go.Proofs.YtbppdpbagmbmpaaGreatDoor
open Go Go.Dn Go.Proofs Go.RowKit Go.Extern.Stop Go.Stop Go.Extern
abbrev valT (a : Addr) : Value := .agg #[.pointer (some ⟨13, 47, none⟩), .pointer (some a), .int .u64 150]
abbrev typW : Value := .iface 94 (.agg #[.pointer (some ⟨13, 42, none⟩)])
theorem as_nil (t : Value) (w : World) : Calls Tryz.prog 20 #[.nilIface, t] w fun e w' => e = .returned (.bool false) ∧ w' = w := by
  go_enter Tryz.func20, Tryz.ntmps20
  go_wp2
  go_ret
  exact ⟨rfl, rfl⟩
theorem asValueOfT (t : Addr) (w : World) : (ReflectliteValue.unpack (.iface 47 (.pointer (some t)))).run Tryz.prog w
    = .ok (.agg #[.pointer (some ⟨13, 47, none⟩), .pointer (some ⟨w.heap.size, 0, none⟩), .int .u64 150]) (w.alloc (.cells #[.pointer (some t)] 47)) := by kernel_rfl
theorem asTypeT (a : Addr) (w : World) : (ReflectliteValue.methodAny (ReflectliteValue.valueError "reflectlite.Value.Type" 0) (fun t _ _ _ => ReflectliteType.toType t) #[.agg #[.pointer (some ⟨13, 47, none⟩), .pointer (some a), .int .u64 150]]).run Tryz.prog w
    = .ok (.iface 94 (.agg #[.pointer (some ⟨13, 47, none⟩)])) w := by kernel_rfl
theorem asMethodKind (h : Value) (w : World) : (Go.method 316 94 (.agg #[h]) "Kind").run Tryz.prog w = .ok (142, h) w := by kernel_rfl
theorem asKindT (w : World) : ((ReflectliteType.abiMethod fun t => (fun a : Nat => Value.int IntKind.u8 (a : Int)) <$> Rtype.kind t) #[.pointer (some ⟨13, 47, none⟩)]).run Tryz.prog w = .ok (.int .u8 22) w := by kernel_rfl
theorem asKindW (w : World) : ((ReflectliteType.abiMethod fun t => (fun a : Nat => Value.int IntKind.u8 (a : Int)) <$> Rtype.kind t) #[.pointer (some ⟨13, 42, none⟩)]).run Tryz.prog w = .ok (.int .u8 22) w := by kernel_rfl
theorem rlmA (z : Sem Value) (f : TypeId → Addr → Nat → Nat → Sem Value) (v : Value) :
    ReflectliteValue.method z f #[v] = (do match ← ReflectliteValue.parts v with | none => z | some (t, a, fl) => f t a fl (fl % 32)) := rfl
theorem asPartsT (a : Addr) (w : World) : (ReflectliteValue.parts (.agg #[.pointer (some ⟨13, 47, none⟩), .pointer (some a), .int .u64 150])).run Tryz.prog w = .ok (some (47, a, 150)) w := by kernel_rfl
theorem asIsNilT (a p : Addr) (W : World) (ha : W.cell? a = some (.pointer (some p))) :
    (ReflectliteValue.method (ReflectliteValue.valueError "reflectlite.Value.IsNil" 0) ReflectliteValue.isNil #[.agg #[.pointer (some ⟨13, 47, none⟩), .pointer (some a), .int .u64 150]]).run Tryz.prog W = .ok (.bool false) W := by
  rw [rlmA]
  simp only [Sem.run_bind, asPartsT, Result.andThen]
  simp [ReflectliteValue.isNil, loadVar, isAgg, underlying, Tryz.underlying47, ha, Result.andThen]
theorem asMethodElem (h : Value) (w : World) : (Go.method 316 94 (.agg #[h]) "Elem").run Tryz.prog w = .ok (154, .agg #[h]) w := by kernel_rfl
theorem asMethodImpl (h : Value) (w : World) : (Go.method 316 94 (.agg #[h]) "Implements").run Tryz.prog w = .ok (155, .agg #[h]) w := by kernel_rfl
theorem asMethodAssign (h : Value) (w : World) : (Go.method 316 94 (.agg #[h]) "AssignableTo").run Tryz.prog w = .ok (152, .agg #[h]) w := by kernel_rfl
theorem asElemT (w : World) : (ReflectliteType.method ReflectliteType.elem #[.agg #[.pointer (some ⟨13, 47, none⟩)]]).run Tryz.prog w = .ok (.iface 94 (.agg #[.pointer (some ⟨13, 42, none⟩)])) w := by kernel_rfl
theorem asImplW (w : World) : (ReflectliteType.relation "Implements" ReflectliteType.implements_ #[.agg #[.pointer (some ⟨13, 42, none⟩)], .iface 94 (.agg #[.pointer (some ⟨13, 35, none⟩)])]).run Tryz.prog w = .ok (.bool true) w := by kernel_rfl
theorem asTypeOfW (v : Value) (w : World) : (ReflectliteType.typeOf #[.iface 42 v]).run Tryz.prog w = .ok (.iface 94 (.agg #[.pointer (some ⟨13, 42, none⟩)])) w := by kernel_rfl
theorem asTypeOfJ (v : Value) (w : World) : (ReflectliteType.typeOf #[.iface 60 v]).run Tryz.prog w = .ok (.iface 94 (.agg #[.pointer (some ⟨13, 60, none⟩)])) w := by kernel_rfl
theorem asAssignW (w : World) : (ReflectliteType.relation "AssignableTo" ReflectliteType.assignableTo #[.agg #[.pointer (some ⟨13, 42, none⟩)], .iface 94 (.agg #[.pointer (some ⟨13, 42, none⟩)])]).run Tryz.prog w = .ok (.bool true) w := by kernel_rfl
theorem asAssignJ (w : World) : (ReflectliteType.relation "AssignableTo" ReflectliteType.assignableTo #[.agg #[.pointer (some ⟨13, 60, none⟩)], .iface 94 (.agg #[.pointer (some ⟨13, 42, none⟩)])]).run Tryz.prog w = .ok (.bool false) w := by kernel_rfl
theorem asValueOfW (e : Addr) (w : World) : (ReflectliteValue.unpack (.iface 42 (.pointer (some e)))).run Tryz.prog w
    = .ok (.agg #[.pointer (some ⟨13, 42, none⟩), .pointer (some ⟨w.heap.size, 0, none⟩), .int .u64 150]) (w.alloc (.cells #[.pointer (some e)] 42)) := by kernel_rfl
theorem asElemOfT (w : World) : (Rtype.elem? 47).run Tryz.prog w = .ok (some 42) w := by kernel_rfl
theorem asMkW (p : Addr) (w : World) : (ReflectliteValue.mk 42 p ReflectliteValue.flagAddr).run Tryz.prog w = .ok (.agg #[.pointer (some ⟨13, 42, none⟩), .pointer (some p), .int .u64 406]) w := by kernel_rfl
theorem asElemVT (a p : Addr) (W : World) (ha : W.cell? a = some (.pointer (some p))) :
    (ReflectliteValue.method (ReflectliteValue.valueError "reflectlite.Value.Elem" 0) ReflectliteValue.elem #[.agg #[.pointer (some ⟨13, 47, none⟩), .pointer (some a), .int .u64 150]]).run Tryz.prog W
      = .ok (.agg #[.pointer (some ⟨13, 42, none⟩), .pointer (some p), .int .u64 406]) W := by
  rw [rlmA]
  simp only [Sem.run_bind, asPartsT, Result.andThen]
  simp [ReflectliteValue.elem, loadVar, isAgg, underlying, Tryz.underlying47, ha, Result.andThen, asElemOfT, asMkW]
theorem rlsA (v x : Value) : ReflectliteValue.set #[v, x] = (do
    let (some (dst, a, fl), some (src, b, _)) := (← ReflectliteValue.parts v, ← ReflectliteValue.parts x)
      | unsupported (.noEntry "extern/(internal/reflectlite.Value).Set.zeroValue")
    if fl / ReflectliteValue.flagAddr % 2 == 0 then unsupported (.noEntry "extern/(internal/reflectlite.Value).Set.unaddressable")
    let val ← loadVar src b
    if ← Rtype.directlyAssignable dst src then storeVar dst a val
    else if ← Rtype.implements dst src then
      if (← Rtype.kind src) == 20 then
        match val with
        | .nilIface => unsupported (.noEntry "extern/reflectlite: a nil value of one interface type handed on as a value of another")
        | _ => storeVar dst a val
      else storeVar dst a (.iface src val)
    else panicString ("reflectlite.Set: value of type " ++ (← Rtype.spelt src) ++ " is not assignable to type " ++ (← Rtype.spelt dst))
    pure (.tuple #[])) := rfl
theorem asPartsWa (a : Addr) (w : World) : (ReflectliteValue.parts (.agg #[.pointer (some ⟨13, 42, none⟩), .pointer (some a), .int .u64 406])).run Tryz.prog w = .ok (some (42, a, 406)) w := by kernel_rfl
theorem asPartsW (a : Addr) (w : World) : (ReflectliteValue.parts (.agg #[.pointer (some ⟨13, 42, none⟩), .pointer (some a), .int .u64 150])).run Tryz.prog w = .ok (some (42, a, 150)) w := by kernel_rfl
theorem asDirectW (w : World) : (Rtype.directlyAssignable 42 42).run Tryz.prog w = .ok true w := by kernel_rfl
theorem asSetW (ta b e : Addr) (old : Value) (W : World) (hb : W.cell? b = some (.pointer (some e))) (ht : W.cell? ta = some old) (hf : W.frozen? ta = false) :
    (ReflectliteValue.set #[.agg #[.pointer (some ⟨13, 42, none⟩), .pointer (some ta), .int .u64 406], .agg #[.pointer (some ⟨13, 42, none⟩), .pointer (some b), .int .u64 150]]).run Tryz.prog W
      = .ok (.tuple #[]) (W.setCell ta (.pointer (some e))) := by
  rw [rlsA]
  simp only [Sem.run_bind, asPartsWa, asPartsW, Result.andThen]
  simp [ReflectliteValue.flagAddr, loadVar, isAgg, underlying, Tryz.underlying42, hb, Result.andThen, asDirectW, storeVar, Value.cells, storeCells, Addr.add]
  rw [run_store Tryz.prog W ta _ _ (by rfl)]
  simp [ht, hf]
set_option maxHeartbeats 4000000 in
set_option maxRecDepth 100000 in
theorem as_in (a t e : Addr) (T1 old : Value) (w : World) (ha : w.cell? a = some (.pointer (some t))) (ht0 : w.cell? t = some old) (hf0 : w.frozen? t = false) :
    Calls Tryz.prog 35 #[.iface 42 (.pointer (some e)), T1, valT a, typW] w fun ev w' => ev = .returned (.bool true) ∧
      w' = ((w.alloc (.cells #[.pointer (some ⟨13, 47, none⟩), .pointer (some a), .int .u64 150] 66)).alloc (.cells #[.pointer (some e)] 42)).setCell t (.pointer (some e)) := by
  have h6 := @run_callFunc_extern Tryz.prog 32 _ (fun args => ReflectliteValue.unpack (args.getD 0 (.tuple #[]))) Tryz.func32 (by kernel_rfl) (by kernel_rfl) (by kernel_rfl) (by kernel_rfl)
  have h10 := @run_callFunc_extern Tryz.prog 64 _ ReflectliteType.typeOf Tryz.func64 (by kernel_rfl) (by kernel_rfl) (by kernel_rfl) (by kernel_rfl)
  have h35 := @run_callFunc_extern Tryz.prog 152 _ (ReflectliteType.relation "AssignableTo" ReflectliteType.assignableTo) Tryz.func152 (by kernel_rfl) (by kernel_rfl) (by kernel_rfl) (by kernel_rfl)
  have h11 := @run_callFunc_extern Tryz.prog 65 _ (ReflectliteValue.method (ReflectliteValue.valueError "reflectlite.Value.Elem" 0) ReflectliteValue.elem) Tryz.func65 (by kernel_rfl) (by kernel_rfl) (by kernel_rfl) (by kernel_rfl)
  have h12 := @run_callFunc_extern Tryz.prog 66 _ ReflectliteValue.set Tryz.func66 (by kernel_rfl) (by kernel_rfl) (by kernel_rfl) (by kernel_rfl)
  have tO := asTypeOfW
  have mA := asMethodAssign
  have a25 := asAssignW
  have v25 := asValueOfW
  have hal : a.block < w.heap.size := by
    rcases Nat.lt_or_ge a.block w.heap.size with h | h
    · exact h
    · simp [World.cell?, Array.getElem?_eq_none h] at ha
  have htl : t.block < w.heap.size := by
    rcases Nat.lt_or_ge t.block w.heap.size with h | h
    · exact h
    · simp [World.cell?, Array.getElem?_eq_none h] at ht0
  have el := asElemVT a t (w.alloc (.cells #[.pointer (some ⟨13, 47, none⟩), .pointer (some a), .int .u64 150] 66)) (by rw [World.cell?_alloc_lt _ _ a hal]; exact ha)
  have st := asSetW t ⟨w.heap.size + 1, 0, none⟩ e old ((w.alloc (.cells #[.pointer (some ⟨13, 47, none⟩), .pointer (some a), .int .u64 150] 66)).alloc (.cells #[.pointer (some e)] 42))
    (by rw [World.cell?_alloc_at _ _ _ _ (by simp)]; rfl)
    (by rw [World.cell?_alloc_lt _ _ t (by simp; omega), World.cell?_alloc_lt _ _ t htl]; exact ht0)
    (by rw [World.frozen?_alloc_old _ _ t (by simp; omega), World.frozen?_alloc_old _ _ t (Nat.ne_of_lt htl)]; exact hf0)
  go_enter Tryz.func35, Tryz.ntmps35
  go_wp2
  refine wp_loop_rounds 1 ?_
  rw [rounds_succ]
  go_wp2
  go_ret
  exact ⟨rfl, rfl⟩
end Go.Proofs.YtbppdpbagmbmpaaGreatDoor
