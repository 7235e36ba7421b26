import Derived.Test.YtbppdpbagmbmpaaGreatDoorDxGD
namespace Go.Proofs.YtbppdpbagmbmpaaGreatDoor
open Go Go.Dn Go.Proofs
attribute [local irreducible] funA vc
set_option maxRecDepth 20000
abbrev frL (s : ByteArray) : List (Nat × AV) := [(0, .lit (.string s)), (2, .nil), (3, .int 0), (4, .int 0), (5, .ptr 0 0 [] 0), (6, .ptr 1 0 [] 0), (7, .ptr 2 0 [] 0), (12, .lit (.string s)), (13, .int (s.size : Int)), (14, .bool false), (15, .lit (.string s)), (16, .clo 49 [.ptr 4 0 [] 0, .ptr 3 0 [] 0, .ptr 5 0 [] 0])]
noncomputable abbrev lpL (κ : Kp) (s : ByteArray) (a : LoopState) (e : Option Code) : Dn.Obj := .loop (lpA (Pr κ).toProgram 10 7 a e (spR (junks 58) (frL s)))
noncomputable abbrev strL0 (κ : Kp) (s : ByteArray) : List Dn.Obj := [.box 24 .nil, .box 35 (.lit .nilIface), .box 3 (.int 0), .box 9 (.lit (.string s)), .box 9 (.lit (.string nlB)), .box 3 (.int 0), lpL κ s .ready none]
structure AIn where
  s : ByteArray
  l : ByteArray
  ln : Int
  toks : List AV
  t : ByteArray
  k : Int
  q : ByteArray
  z : Int
abbrev frI (s l : ByteArray) (l0 l1 : Int) : List (Nat × AV) := [(0, .lit (.string s)), (2, .nil), (3, .int 0), (4, .int 0), (5, .ptr 0 0 [] 0), (6, .ptr 1 0 [] 0), (7, .ptr 2 0 [] 0), (8, .lit (.string l)), (12, .lit (.string s)), (13, .int (s.size : Int)), (14, .bool false), (15, .lit (.string s)), (16, .clo 49 [.ptr 4 0 [] 0, .ptr 3 0 [] 0, .ptr 5 0 [] 0]),
  (17, .lit (.string l)), (18, .int l0), (19, .int l1), (20, .lit (.string l)), (21, .int l1), (22, .clo 28 [.ptr 8 0 [] 0, .ptr 9 0 [] 0])]
noncomputable abbrev lpI (κ : Kp) (s l : ByteArray) (l0 l1 : Int) (a : LoopState) (e : Option Code) : Dn.Obj := .loop (lpA (Pr κ).toProgram 10 10 a e (spR (junks 58) (frI s l l0 l1)))
noncomputable abbrev strI0 (κ : Kp) (s l : ByteArray) (l0 l1 : Int) (toks : List AV) (t : ByteArray) (k : Int) (q : ByteArray) (z : Int) : List Dn.Obj :=
  [.box 24 (.slc 7 0 toks.length), .box 35 (.lit .nilIface), .box 3 (.int l1), .dead, .dead, .dead, lpL κ s .busy none, .row 31 toks, .box 9 (.lit (.string t)), .box 3 (.int l1), lpI κ s l l0 l1 .ready none, .box 31 (.agg [.int k, .lit (.string q), .int z])]
noncomputable abbrev strI1 (κ : Kp) (s l : ByteArray) (l0 l1 : Int) (toks : List AV) (t : ByteArray) (k : Int) (q : ByteArray) (z : Int) : List Dn.Obj :=
  [.box 24 (.slc 11 0 toks.length), .box 35 (.lit .nilIface), .box 3 (.int l1), .dead, .dead, .dead, lpL κ s .busy none, .dead, .box 9 (.lit (.string t)), .box 3 (.int l1), lpI κ s l l0 l1 .ready none, .row 31 toks, .box 31 (.agg [.int k, .lit (.string q), .int z])]
noncomputable def stI0 (κ : Kp) (x : AIn) : S := sp 45 [(0, .yld 10), (1, .ptr 8 0 [] 0), (2, .ptr 9 0 [] 0), (4, .ptr 11 0 [] 0)] (strI0 κ x.s x.l x.ln (IntKind.wrap .i64 (x.ln + 1)) x.toks x.t x.k x.q x.z)
noncomputable def stI1 (κ : Kp) (x : AIn) : S := sp 45 [(0, .yld 10), (1, .ptr 8 0 [] 0), (2, .ptr 9 0 [] 0), (4, .ptr 12 0 [] 0)] (strI1 κ x.s x.l x.ln (IntKind.wrap .i64 (x.ln + 1)) x.toks x.t x.k x.q x.z)
end Go.Proofs.YtbppdpbagmbmpaaGreatDoor
namespace Go.Proofs.YtbppdpbagmbmpaaGreatDoor
open Go Go.Dn Go.Proofs Go.RowKit Go.Extern.Stop Go.Stop Go.Extern
abbrev valT (a : Addr) : Value := .agg #[.pointer (some ⟨13, 47, none⟩), .pointer (some a), .int .u64 150]
abbrev typW : Value := .iface 94 (.agg #[.pointer (some ⟨13, 42, none⟩)])
theorem as_nil (t : Value) (w : World) : Calls Tryz.prog 20 #[.nilIface, t] w fun e w' => e = .returned (.bool false) ∧ w' = w := by
  go_enter Tryz.func20, Tryz.ntmps20
  go_wp2
  go_ret
  exact ⟨rfl, rfl⟩
theorem asValueOfT (t : Addr) (w : World) : (ReflectliteValue.unpack (.iface 47 (.pointer (some t)))).run Tryz.prog w
    = .ok (.agg #[.pointer (some ⟨13, 47, none⟩), .pointer (some ⟨w.heap.size, 0, none⟩), .int .u64 150]) (w.alloc (.cells #[.pointer (some t)] 47)) := by kernel_rfl
theorem asTypeT (a : Addr) (w : World) : (ReflectliteValue.methodAny (ReflectliteValue.valueError "reflectlite.Value.Type" 0) (fun t _ _ _ => ReflectliteType.toType t) #[.agg #[.pointer (some ⟨13, 47, none⟩), .pointer (some a), .int .u64 150]]).run Tryz.prog w
    = .ok (.iface 94 (.agg #[.pointer (some ⟨13, 47, none⟩)])) w := by kernel_rfl
theorem asMethodKind (h : Value) (w : World) : (Go.method 316 94 (.agg #[h]) "Kind").run Tryz.prog w = .ok (142, h) w := by kernel_rfl
theorem asKindT (w : World) : ((ReflectliteType.abiMethod fun t => (fun a : Nat => Value.int IntKind.u8 (a : Int)) <$> Rtype.kind t) #[.pointer (some ⟨13, 47, none⟩)]).run Tryz.prog w = .ok (.int .u8 22) w := by kernel_rfl
theorem asKindW (w : World) : ((ReflectliteType.abiMethod fun t => (fun a : Nat => Value.int IntKind.u8 (a : Int)) <$> Rtype.kind t) #[.pointer (some ⟨13, 42, none⟩)]).run Tryz.prog w = .ok (.int .u8 22) w := by kernel_rfl
theorem rlmA (z : Sem Value) (f : TypeId → Addr → Nat → Nat → Sem Value) (v : Value) :
    ReflectliteValue.method z f #[v] = (do match ← ReflectliteValue.parts v with | none => z | some (t, a, fl) => f t a fl (fl % 32)) := rfl
theorem asPartsT (a : Addr) (w : World) : (ReflectliteValue.parts (.agg #[.pointer (some ⟨13, 47, none⟩), .pointer (some a), .int .u64 150])).run Tryz.prog w = .ok (some (47, a, 150)) w := by kernel_rfl
theorem asIsNilT (a p : Addr) (W : World) (ha : W.cell? a = some (.pointer (some p))) :
    (ReflectliteValue.method (ReflectliteValue.valueError "reflectlite.Value.IsNil" 0) ReflectliteValue.isNil #[.agg #[.pointer (some ⟨13, 47, none⟩), .pointer (some a), .int .u64 150]]).run Tryz.prog W = .ok (.bool false) W := by
  rw [rlmA]
  simp only [Sem.run_bind, asPartsT, Result.andThen]
  simp [ReflectliteValue.isNil, loadVar, isAgg, underlying, Tryz.underlying47, ha, Result.andThen]
theorem asMethodElem (h : Value) (w : World) : (Go.method 316 94 (.agg #[h]) "Elem").run Tryz.prog w = .ok (154, .agg #[h]) w := by kernel_rfl
theorem asMethodImpl (h : Value) (w : World) : (Go.method 316 94 (.agg #[h]) "Implements").run Tryz.prog w = .ok (155, .agg #[h]) w := by kernel_rfl
theorem asMethodAssign (h : Value) (w : World) : (Go.method 316 94 (.agg #[h]) "AssignableTo").run Tryz.prog w = .ok (152, .agg #[h]) w := by kernel_rfl
theorem asElemT (w : World) : (ReflectliteType.method ReflectliteType.elem #[.agg #[.pointer (some ⟨13, 47, none⟩)]]).run Tryz.prog w = .ok (.iface 94 (.agg #[.pointer (some ⟨13, 42, none⟩)])) w := by kernel_rfl
theorem asImplW (w : World) : (ReflectliteType.relation "Implements" ReflectliteType.implements_ #[.agg #[.pointer (some ⟨13, 42, none⟩)], .iface 94 (.agg #[.pointer (some ⟨13, 35, none⟩)])]).run Tryz.prog w = .ok (.bool true) w := by kernel_rfl
theorem asTypeOfW (v : Value) (w : World) : (ReflectliteType.typeOf #[.iface 42 v]).run Tryz.prog w = .ok (.iface 94 (.agg #[.pointer (some ⟨13, 42, none⟩)])) w := by kernel_rfl
theorem asTypeOfJ (v : Value) (w : World) : (ReflectliteType.typeOf #[.iface 60 v]).run Tryz.prog w = .ok (.iface 94 (.agg #[.pointer (some ⟨13, 60, none⟩)])) w := by kernel_rfl
theorem asAssignW (w : World) : (ReflectliteType.relation "AssignableTo" ReflectliteType.assignableTo #[.agg #[.pointer (some ⟨13, 42, none⟩)], .iface 94 (.agg #[.pointer (some ⟨13, 42, none⟩)])]).run Tryz.prog w = .ok (.bool true) w := by kernel_rfl
theorem asAssignJ (w : World) : (ReflectliteType.relation "AssignableTo" ReflectliteType.assignableTo #[.agg #[.pointer (some ⟨13, 60, none⟩)], .iface 94 (.agg #[.pointer (some ⟨13, 42, none⟩)])]).run Tryz.prog w = .ok (.bool false) w := by kernel_rfl
theorem asValueOfW (e : Addr) (w : World) : (ReflectliteValue.unpack (.iface 42 (.pointer (some e)))).run Tryz.prog w
    = .ok (.agg #[.pointer (some ⟨13, 42, none⟩), .pointer (some ⟨w.heap.size, 0, none⟩), .int .u64 150]) (w.alloc (.cells #[.pointer (some e)] 42)) := by kernel_rfl
theorem asElemOfT (w : World) : (Rtype.elem? 47).run Tryz.prog w = .ok (some 42) w := by kernel_rfl
theorem asMkW (p : Addr) (w : World) : (ReflectliteValue.mk 42 p ReflectliteValue.flagAddr).run Tryz.prog w = .ok (.agg #[.pointer (some ⟨13, 42, none⟩), .pointer (some p), .int .u64 406]) w := by kernel_rfl
theorem asElemVT (a p : Addr) (W : World) (ha : W.cell? a = some (.pointer (some p))) :
    (ReflectliteValue.method (ReflectliteValue.valueError "reflectlite.Value.Elem" 0) ReflectliteValue.elem #[.agg #[.pointer (some ⟨13, 47, none⟩), .pointer (some a), .int .u64 150]]).run Tryz.prog W
      = .ok (.agg #[.pointer (some ⟨13, 42, none⟩), .pointer (some p), .int .u64 406]) W := by
  rw [rlmA]
  simp only [Sem.run_bind, asPartsT, Result.andThen]
  simp [ReflectliteValue.elem, loadVar, isAgg, underlying, Tryz.underlying47, ha, Result.andThen, asElemOfT, asMkW]
theorem rlsA (v x : Value) : ReflectliteValue.set #[v, x] = (do
    let (some (dst, a, fl), some (src, b, _)) := (← ReflectliteValue.parts v, ← ReflectliteValue.parts x)
      | unsupported (.noEntry "extern/(internal/reflectlite.Value).Set.zeroValue")
    if fl / ReflectliteValue.flagAddr % 2 == 0 then unsupported (.noEntry "extern/(internal/reflectlite.Value).Set.unaddressable")
    let val ← loadVar src b
    if ← Rtype.directlyAssignable dst src then storeVar dst a val
    else if ← Rtype.implements dst src then
      if (← Rtype.kind src) == 20 then
        match val with
        | .nilIface => unsupported (.noEntry "extern/reflectlite: a nil value of one interface type handed on as a value of another")
        | _ => storeVar dst a val
      else storeVar dst a (.iface src val)
    else panicString ("reflectlite.Set: value of type " ++ (← Rtype.spelt src) ++ " is not assignable to type " ++ (← Rtype.spelt dst))
    pure (.tuple #[])) := rfl
theorem asPartsWa (a : Addr) (w : World) : (ReflectliteValue.parts (.agg #[.pointer (some ⟨13, 42, none⟩), .pointer (some a), .int .u64 406])).run Tryz.prog w = .ok (some (42, a, 406)) w := by kernel_rfl
theorem asPartsW (a : Addr) (w : World) : (ReflectliteValue.parts (.agg #[.pointer (some ⟨13, 42, none⟩), .pointer (some a), .int .u64 150])).run Tryz.prog w = .ok (some (42, a, 150)) w := by kernel_rfl
theorem asDirectW (w : World) : (Rtype.directlyAssignable 42 42).run Tryz.prog w = .ok true w := by kernel_rfl
theorem asSetW (ta b e : Addr) (old : Value) (W : World) (hb : W.cell? b = some (.pointer (some e))) (ht : W.cell? ta = some old) (hf : W.frozen? ta = false) :
    (ReflectliteValue.set #[.agg #[.pointer (some ⟨13, 42, none⟩), .pointer (some ta), .int .u64 406], .agg #[.pointer (some ⟨13, 42, none⟩), .pointer (some b), .int .u64 150]]).run Tryz.prog W
      = .ok (.tuple #[]) (W.setCell ta (.pointer (some e))) := by
  rw [rlsA]
  simp only [Sem.run_bind, asPartsWa, asPartsW, Result.andThen]
  simp [ReflectliteValue.flagAddr, loadVar, isAgg, underlying, Tryz.underlying42, hb, Result.andThen, asDirectW, storeVar, Value.cells, storeCells, Addr.add]
  rw [run_store Tryz.prog W ta _ _ (by rfl)]
  simp [ht, hf]
set_option maxHeartbeats 4000000 in
set_option maxRecDepth 100000 in
theorem as_in (a t e : Addr) (T1 old : Value) (w : World) (ha : w.cell? a = some (.pointer (some t))) (ht0 : w.cell? t = some old) (hf0 : w.frozen? t = false) :
    Calls Tryz.prog 35 #[.iface 42 (.pointer (some e)), T1, valT a, typW] w fun ev w' => ev = .returned (.bool true) ∧
      w' = ((w.alloc (.cells #[.pointer (some ⟨13, 47, none⟩), .pointer (some a), .int .u64 150] 66)).alloc (.cells #[.pointer (some e)] 42)).setCell t (.pointer (some e)) := by
  have h6 := @run_callFunc_extern Tryz.prog 32 _ (fun args => ReflectliteValue.unpack (args.getD 0 (.tuple #[]))) Tryz.func32 (by kernel_rfl) (by kernel_rfl) (by kernel_rfl) (by kernel_rfl)
  have h10 := @run_callFunc_extern Tryz.prog 64 _ ReflectliteType.typeOf Tryz.func64 (by kernel_rfl) (by kernel_rfl) (by kernel_rfl) (by kernel_rfl)
  have h35 := @run_callFunc_extern Tryz.prog 152 _ (ReflectliteType.relation "AssignableTo" ReflectliteType.assignableTo) Tryz.func152 (by kernel_rfl) (by kernel_rfl) (by kernel_rfl) (by kernel_rfl)
  have h11 := @run_callFunc_extern Tryz.prog 65 _ (ReflectliteValue.method (ReflectliteValue.valueError "reflectlite.Value.Elem" 0) ReflectliteValue.elem) Tryz.func65 (by kernel_rfl) (by kernel_rfl) (by kernel_rfl) (by kernel_rfl)
  have h12 := @run_callFunc_extern Tryz.prog 66 _ ReflectliteValue.set Tryz.func66 (by kernel_rfl) (by kernel_rfl) (by kernel_rfl) (by kernel_rfl)
  have tO := asTypeOfW
  have mA := asMethodAssign
  have a25 := asAssignW
  have v25 := asValueOfW
  have hal : a.block < w.heap.size := by
    rcases Nat.lt_or_ge a.block w.heap.size with h | h
    · exact h
    · simp [World.cell?, Array.getElem?_eq_none h] at ha
  have htl : t.block < w.heap.size := by
    rcases Nat.lt_or_ge t.block w.heap.size with h | h
    · exact h
    · simp [World.cell?, Array.getElem?_eq_none h] at ht0
  have el := asElemVT a t (w.alloc (.cells #[.pointer (some ⟨13, 47, none⟩), .pointer (some a), .int .u64 150] 66)) (by rw [World.cell?_alloc_lt _ _ a hal]; exact ha)
  have st := asSetW t ⟨w.heap.size + 1, 0, none⟩ e old ((w.alloc (.cells #[.pointer (some ⟨13, 47, none⟩), .pointer (some a), .int .u64 150] 66)).alloc (.cells #[.pointer (some e)] 42))
    (by rw [World.cell?_alloc_at _ _ _ _ (by simp)]; rfl)
    (by rw [World.cell?_alloc_lt _ _ t (by simp; omega), World.cell?_alloc_lt _ _ t htl]; exact ht0)
    (by rw [World.frozen?_alloc_old _ _ t (by simp; omega), World.frozen?_alloc_old _ _ t (Nat.ne_of_lt htl)]; exact hf0)
  go_enter Tryz.func35, Tryz.ntmps35
  go_wp2
  refine wp_loop_rounds 1 ?_
  rw [rounds_succ]
  go_wp2
  go_ret
  exact ⟨rfl, rfl⟩
end Go.Proofs.YtbppdpbagmbmpaaGreatDoor
