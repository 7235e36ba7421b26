import Derived.Test.YtbppdpbagmbmpaaGreatDoorDxGE
namespace Go.Proofs.YtbppdpbagmbmpaaGreatDoor
open Go Go.Dn Go.Proofs Go.RowKit Go.Extern.Stop Go.Stop Go.Extern
theorem noAsJ (v : Value) (xT : TypeId) (w : World) : (Instr.typeAssert (.iface 60 v) xT 99 true).run Tryz.prog w = .ok (.tuple #[.nilIface, .bool false]) w := run_typeAssert_lacksB Tryz.underlying99 (by kernel_rfl) (by kernel_rfl) v xT w
theorem noUnwrapJ (v : Value) (xT : TypeId) (w : World) : (Instr.typeAssert (.iface 60 v) xT 102 true).run Tryz.prog w = .ok (.tuple #[.nilIface, .bool false]) w := run_typeAssert_lacksB Tryz.underlying102 (by kernel_rfl) (by kernel_rfl) v xT w
theorem hasUnwrapsJ (v : Value) (xT : TypeId) (w : World) : (Instr.typeAssert (.iface 60 v) xT 104 true).run Tryz.prog w = .ok (.tuple #[.iface 60 v, .bool true]) w := run_typeAssert_hasB Tryz.underlying104 (by kernel_rfl) v xT w
theorem methodUnwrapJ (v : Value) (w : World) : (Go.method 316 60 v "Unwrap").run Tryz.prog w = .ok (147, v) w := by kernel_rfl
abbrev asW1 (a : Addr) (w : World) : World := w.alloc (.cells #[.pointer (some ⟨13, 47, none⟩), .pointer (some a), .int .u64 150] 66)
abbrev asW2 (a t e : Addr) (w : World) : World := ((asW1 a w).alloc (.cells #[.pointer (some e)] 42)).setCell t (.pointer (some e))
set_option maxHeartbeats 4000000 in
set_option maxRecDepth 100000 in
theorem as_join (ja ra a t e : Addr) (cap : Nat) (T1 old : Value) (w : World) (ha : w.cell? a = some (.pointer (some t))) (ht0 : w.cell? t = some old) (hf0 : w.frozen? t = false)
    (h1 : w.cell? ja = some (.slice (some ra) 1 cap)) (h2 : w.cell? ra = some (.iface 42 (.pointer (some e)))) :
    Calls Tryz.prog 35 #[.iface 60 (.pointer (some ja)), T1, valT a, typW] w fun ev w' => ev = .returned (.bool true) ∧ w' = asW2 a t e (asW1 a w) := by
  have h10 := @run_callFunc_extern Tryz.prog 64 _ ReflectliteType.typeOf Tryz.func64 (by kernel_rfl) (by kernel_rfl) (by kernel_rfl) (by kernel_rfl)
  have h35 := @run_callFunc_extern Tryz.prog 152 _ (ReflectliteType.relation "AssignableTo" ReflectliteType.assignableTo) Tryz.func152 (by kernel_rfl) (by kernel_rfl) (by kernel_rfl) (by kernel_rfl)
  have tO := asTypeOfJ
  have mA := asMethodAssign
  have a25 := asAssignJ
  have n1 := noAsJ
  have n2 := noUnwrapJ
  have n3 := hasUnwrapsJ
  have mU := methodUnwrapJ
  have lt : ∀ x : Addr, ∀ v, w.cell? x = some v → x.block < w.heap.size := fun x v hx => by
    rcases Nat.lt_or_ge x.block w.heap.size with h | h
    · exact h
    · simp [World.cell?, Array.getElem?_eq_none h] at hx
  have ha' : (asW1 a w).cell? a = some (.pointer (some t)) := by rw [World.cell?_alloc_lt _ _ a (lt _ _ ha)]; exact ha
  have ht' : (asW1 a w).cell? t = some old := by rw [World.cell?_alloc_lt _ _ t (lt _ _ ht0)]; exact ht0
  have hf' : (asW1 a w).frozen? t = false := by rw [World.frozen?_alloc_old _ _ t (Nat.ne_of_lt (lt _ _ ht0))]; exact hf0
  have hj' : (asW1 a w).cell? ja = some (.slice (some ra) 1 cap) := by rw [World.cell?_alloc_lt _ _ ja (lt _ _ h1)]; exact h1
  have hr' : (asW1 a w).cell? ra = some (.iface 42 (.pointer (some e))) := by rw [World.cell?_alloc_lt _ _ ra (lt _ _ h2)]; exact h2
  go_enter Tryz.func35, Tryz.ntmps35
  go_wp2
  refine wp_loop_rounds 1 ?_
  rw [rounds_succ]
  go_wp2
  refine wp_loop_rounds 1 ?_
  rw [rounds_succ]
  go_wp2_with (first | (go_at_call 35; refine (as_in a t e _ old _ ha' ht' hf').mono ?_; rintro e w' ⟨rfl, rfl⟩))
  all_goals (go_ret; exact ⟨rfl, rfl⟩)
end Go.Proofs.YtbppdpbagmbmpaaGreatDoor
namespace Go.Proofs.YtbppdpbagmbmpaaGreatDoor
open Go Go.Dn Go.Proofs Go.RowKit Go.Extern.Stop Go.Stop Go.Extern
abbrev asW0 (t : Addr) (w : World) : World := asW1 ⟨w.heap.size, 0, none⟩ (w.alloc (.cells #[.pointer (some t)] 47))
set_option maxHeartbeats 4000000 in
set_option maxRecDepth 100000 in
theorem as_As (ja ra t e : Addr) (cap : Nat) (old : Value) (w : World) (hg : w.cell? ⟨0, 0, none⟩ = some (.iface 94 (.agg #[.pointer (some ⟨13, 35, none⟩)]))) (ht0 : w.cell? t = some old) (hf0 : w.frozen? t = false)
    (h1 : w.cell? ja = some (.slice (some ra) 1 cap)) (h2 : w.cell? ra = some (.iface 42 (.pointer (some e)))) :
    Calls Tryz.prog 20 #[.iface 60 (.pointer (some ja)), .iface 47 (.pointer (some t))] w fun ev w' => ev = .returned (.bool true) ∧
      w' = asW2 ⟨w.heap.size, 0, none⟩ t e (asW1 ⟨w.heap.size, 0, none⟩ (asW0 t w)) := by
  have h6 := @run_callFunc_extern Tryz.prog 32 _ (fun args => ReflectliteValue.unpack (args.getD 0 (.tuple #[]))) Tryz.func32 (by kernel_rfl) (by kernel_rfl) (by kernel_rfl) (by kernel_rfl)
  have h7 := @run_callFunc_extern Tryz.prog 33 _ (ReflectliteValue.methodAny (ReflectliteValue.valueError "reflectlite.Value.Type" 0) (fun t _ _ _ => ReflectliteType.toType t)) Tryz.func33 (by kernel_rfl) (by kernel_rfl) (by kernel_rfl) (by kernel_rfl)
  have h8 := @run_callFunc_extern Tryz.prog 34 _ (ReflectliteValue.method (ReflectliteValue.valueError "reflectlite.Value.IsNil" 0) ReflectliteValue.isNil) Tryz.func34 (by kernel_rfl) (by kernel_rfl) (by kernel_rfl) (by kernel_rfl)
  have h27 := @run_callFunc_extern Tryz.prog 142 _ (ReflectliteType.abiMethod fun t => do pure (.int .u8 (← Rtype.kind t))) Tryz.func142 (by kernel_rfl) (by kernel_rfl) (by kernel_rfl) (by kernel_rfl)
  have h37 := @run_callFunc_extern Tryz.prog 154 _ (ReflectliteType.method ReflectliteType.elem) Tryz.func154 (by kernel_rfl) (by kernel_rfl) (by kernel_rfl) (by kernel_rfl)
  have h38 := @run_callFunc_extern Tryz.prog 155 _ (ReflectliteType.relation "Implements" ReflectliteType.implements_) Tryz.func155 (by kernel_rfl) (by kernel_rfl) (by kernel_rfl) (by kernel_rfl)
  have f6 := asValueOfT
  have f7 := asTypeT
  have mK := asMethodKind
  have mE := asMethodElem
  have mI := asMethodImpl
  have k27 := asKindT
  have k25 := asKindW
  have e27 := asElemT
  have i25 := asImplW
  have lt : ∀ x : Addr, ∀ v, w.cell? x = some v → x.block < w.heap.size := fun x v hx => by
    rcases Nat.lt_or_ge x.block w.heap.size with h | h
    · exact h
    · simp [World.cell?, Array.getElem?_eq_none h] at hx
  have old2 : ∀ x : Addr, ∀ v, w.cell? x = some v → (asW0 t w).cell? x = some v := fun x v hx => by
    rw [World.cell?_alloc_lt _ _ x (by have := lt x v hx; simp; omega), World.cell?_alloc_lt _ _ x (lt x v hx)]; exact hx
  have n8 := asIsNilT ⟨w.heap.size, 0, none⟩ t (asW0 t w) (by rw [World.cell?_alloc_lt _ _ _ (by simp), World.cell?_alloc_at _ _ _ _ (by simp)]; rfl)
  have hg2 := old2 _ _ hg
  have hf' : (asW0 t w).frozen? t = false := by rw [World.frozen?_alloc_old _ _ t (by have := lt t _ ht0; simp; omega), World.frozen?_alloc_old _ _ t (Nat.ne_of_lt (lt _ _ ht0))]; exact hf0
  have ha' : (asW0 t w).cell? ⟨w.heap.size, 0, none⟩ = some (.pointer (some t)) := by rw [World.cell?_alloc_lt _ _ _ (by simp), World.cell?_alloc_at _ _ _ _ (by simp)]; rfl
  go_enter Tryz.func20, Tryz.ntmps20
  go_wp2_with (first | (go_at_call 35; refine (as_join ja ra ⟨w.heap.size, 0, none⟩ t e cap _ old _ ha' (old2 _ _ ht0) hf' (old2 _ _ h1) (old2 _ _ h2)).mono ?_; rintro e w' ⟨rfl, rfl⟩))
  all_goals (go_ret; exact ⟨rfl, rfl⟩)
end Go.Proofs.YtbppdpbagmbmpaaGreatDoor
