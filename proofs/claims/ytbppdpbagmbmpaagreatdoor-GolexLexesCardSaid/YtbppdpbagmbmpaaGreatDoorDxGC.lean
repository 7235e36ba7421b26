import Derived.Test.YtbppdpbagmbmpaaGreatDoorDxGB
import Derived.Shelf.RegionOpenPlain
import Derived.Lib.Strings
import Derived.Lib.Slices
import Derived.Lib.Walk
import Derived.Lib.Builder
import Derived.Lib.UnsafeStr
import Derived.WalkKit
import Derived.Laws.Externs
namespace Go.Proofs.YtbppdpbagmbmpaaGreatDoor
open Go Go.Dn Go.Proofs Go.RowKit
theorem sizeB : (Tryz.prog.info? 118).map (·.size) = some 2 := by kernel_rfl
theorem liesB : liesAt Tryz.prog Tryz.prog.depth 118 (2 / Tryz.prog.cellsOf 118) 0 118 1 = true := by kernel_rfl
set_option maxHeartbeats 1000000 in
set_option maxRecDepth 100000 in
theorem ck_used (b : Nat) (w : World) (h0 : w.cell? ⟨b, 0, none⟩ = some (.pointer (some ⟨b, 0, none⟩))) :
    Calls Tryz.prog 97 #[.pointer (some ⟨b, 0, none⟩)] w fun e w' => e = .returned (.tuple #[]) ∧ w' = w := by
  obtain ⟨j, hj, _⟩ := Option.map_eq_some_iff.1 sizeB
  go_enter Tryz.func97, Tryz.ntmps97
  go_wp2
  rw [Lib.run_neq_ptr_same w _ Tryz.underlying116 hj]
  go_wp2
  go_end0
  exact ⟨rfl, rfl⟩
set_option maxHeartbeats 1000000 in
set_option maxRecDepth 100000 in
theorem ck_fresh (b : Nat) (w : World) (h0 : w.cell? ⟨b, 0, none⟩ = some (.pointer none)) (hsh : w.shape? b = some (118, 2)) (hfz : w.frozen? ⟨b, 0, none⟩ = false) :
    Calls Tryz.prog 97 #[.pointer (some ⟨b, 0, none⟩)] w fun e w' => e = .returned (.tuple #[]) ∧ w' = w.setCell ⟨b, 0, none⟩ (.pointer (some ⟨b, 0, none⟩)) := by
  obtain ⟨j, hj, hjs⟩ := Option.map_eq_some_iff.1 sizeB
  go_enter Tryz.func97, Tryz.ntmps97
  go_wp2
  rw [Lib.run_to_unsafe w ⟨b, 0, none⟩ Tryz.underlying116 Tryz.underlying63 hj (by rw [hjs]; decide) hsh (Nat.zero_lt_succ 1)]
  simp only [Result.andThen]
  rw [Oper.upon_value]
  go_wp2
  rw [run_callFunc_extern Tryz.func110 (by kernel_rfl) (by kernel_rfl) (by kernel_rfl) (e := Extern.AbiNoEscape.same) (by kernel_rfl)]
  rw [Lib.run_noEscape]
  simp only [Result.andThen]
  rw [Oper.upon_value]
  go_wp2
  rw [Lib.run_from_unsafe w ⟨b, 0, none⟩ Tryz.underlying63 Tryz.underlying116 hj hsh liesB]
  simp only [Result.andThen]
  rw [Oper.upon_value]
  go_wp2
  go_end0
  exact ⟨rfl, rfl⟩
set_option maxHeartbeats 1000000 in
set_option maxRecDepth 100000 in
theorem str_row (b g cap : Nat) (p : Value) (l : List UInt8) (cur : Array Value) (w : World) (hbk : w.heap[b]? = some (.cells #[p, .slice (some ⟨g, 0, none⟩) l.length cap] 118 (0, 0))) (hg : w.heap[g]? = some (.cells cur 5 (0, 0)))
    (h0 : l ≠ []) (hnc : l.length ≤ cap) (hcs : l.length ≤ cur.size) (hcm : cap ≤ 9223372036854775807) (hcur : ∀ (j : Nat) (x : UInt8), l[j]? = some x → cur[j]? = some (Value.int .u8 x.toNat)) :
    Calls Tryz.prog 81 #[.pointer (some ⟨b, 0, none⟩)] w fun e w' => e = .returned (.string ⟨l.toArray⟩) ∧ w' = w.drew.freeze ⟨g, 0, none⟩ l.length := by
  have c1 : w.drew.cell? ⟨b, 1, none⟩ = some (.slice (some ⟨g, 0, none⟩) l.length cap) := by
    have : w.drew.heap[b]? = some (.cells #[p, .slice (some ⟨g, 0, none⟩) l.length cap] 118 (0, 0)) := hbk
    rw [Lib.cell_of_heap this]; rfl
  have hl0 : l.length ≠ 0 := by simpa using h0
  have hSD : (Builtin.unsafeSliceData_ #[110] 143 #[.slice (some ⟨g, 0, none⟩) l.length cap]).run Tryz.prog w.drew = .ok (.pointer (some ⟨g, 0, none⟩)) w.drew := Lib.run_unsafeSliceData_row _ _ _ _ _ _ (by omega)
  have hUS : (Builtin.unsafeString_ #[143, 3] 9 #[.pointer (some ⟨g, 0, none⟩), .int .i64 l.length]).run Tryz.prog w.drew = .ok (.string ⟨l.toArray⟩) (w.drew.freeze ⟨g, 0, none⟩ l.length) := by
    have hg' : w.drew.heap[g]? = some (.cells cur 5 (0, 0)) := hg
    refine Lib.run_unsafeString_row w.drew 143 3 9 5 Tryz.underlying143 (by kernel_rfl) g cur.size (by simp [World.shape?, hg']) l h0 (by omega) (by omega) ?_
    intro j x hx
    have := hcur j x hx
    rw [show (⟨g, 0, none⟩ : Addr).add j = ⟨g, 0 + j, none⟩ from Go.Dn.addr_add ..]
    simp only [World.cell?, hg', Nat.zero_add]
    exact this
  have mixed : Tryz.prog.follows Departure.mixedOrders = true := by kernel_rfl
  go_enter Tryz.func81, Tryz.ntmps81
  go_wp2
  go_region_o
  all_goals (go_wp2; go_ret; exact ⟨rfl, rfl⟩)
set_option maxHeartbeats 1000000 in
set_option maxRecDepth 100000 in
theorem str_nil (b : Nat) (p : Value) (w : World) (hbk : w.heap[b]? = some (.cells #[p, .slice none 0 0] 118 (0, 0))) :
    Calls Tryz.prog 81 #[.pointer (some ⟨b, 0, none⟩)] w fun e w' => e = .returned (.string ⟨#[]⟩) ∧ w' = w.drew := by
  have hUS : ∀ W, (Builtin.unsafeString_ #[143, 3] 9 #[.pointer none, .int .i64 0]).run Tryz.prog W = .ok (.string .empty) W := fun W => Lib.run_unsafeString_none (w := W) _ _ _ none
  have c1 : w.drew.cell? ⟨b, 1, none⟩ = some (.slice none 0 0) := by
    have : w.drew.heap[b]? = some (.cells #[p, .slice none 0 0] 118 (0, 0)) := hbk
    rw [Lib.cell_of_heap this]; rfl
  have hSD : (Builtin.unsafeSliceData_ #[110] 143 #[.slice none 0 0]).run Tryz.prog w.drew = .ok (.pointer none) w.drew := rfl
  have mixed : Tryz.prog.follows Departure.mixedOrders = true := by kernel_rfl
  go_enter Tryz.func81, Tryz.ntmps81
  go_wp2
  go_region_o
  all_goals (go_wp2; go_ret; exact ⟨rfl, rfl⟩)
attribute [local irreducible] funA vc
set_option maxRecDepth 20000
def u8L (l : List UInt8) : List AV := l.map fun b => .lit (.int .u8 (b.toNat : Nat))
theorem u8L_len (l : List UInt8) : (u8L l).length = l.length := by simp [u8L]
theorem u8L_app (a b : List UInt8) : u8L (a ++ b) = u8L a ++ u8L b := by simp [u8L]
abbrev bdN : Dn.Obj := .box 118 (.agg [.lit (.pointer none), .nil])
abbrev bdS : Dn.Obj := .box 118 (.agg [.ptr 0 0 [] 0, .nil])
abbrev bdU (n : Nat) : Dn.Obj := .box 118 (.agg [.ptr 0 0 [] 0, .slc 1 0 n])
def selC (sel : List Dn.Obj → Bool) (a b : CallSpec) : CallSpec := fun args st K => bif sel st then a args st K else b args st K
theorem selC_mono {sel : List Dn.Obj → Bool} {a b : CallSpec} (ha : a.Mono) (hb : b.Mono) : (selC sel a b).Mono := fun args st K K' hK h => by
  unfold selC at h ⊢
  cases hs : sel st <;> simp only [hs] at h ⊢
  · exact hb _ _ _ _ hK h
  · exact ha _ _ _ _ hK h
def sel1 (st : List Dn.Obj) : Bool := Nat.beq st.length 1
theorem MT_ptr1 {C : Ctx} {i k off : Nat} {p : List Nat} {vs : Array Value} (h : MT C [.ptr i k p off] vs.toList) : ∃ v, vs = #[v] ∧ i < C.st.length ∧ PtrOK C i k off v := by
  match e : vs.toList, h with
  | [], h => simp [MT] at h
  | [v], h =>
    simp only [MT, M] at h
    obtain ⟨h1, _, ⟨h3, u, h4, h5, h6⟩, _⟩ := h
    have ha : isAggV v = false := by simpa [isAggA] using h1
    have : u = v := by
      have hc : v.cells = #[v] := by cases v <;> simp_all [isAggV, Value.cells]
      rw [hc] at h4; simpa using h4.symm
    subst this
    exact ⟨u, by rw [← e], h3, h6⟩
  | _ :: _ :: _, h => simp [MT] at h
theorem simCk (κ : Kp) : ∀ args st K, selC sel1 (callE (fun _ : Unit => ([AV.ptr 0 0 [] 0], [bdN])) (fun _ => True) (fun _ => .one (.tup [], [bdS]))) (callE (fun xs : List AV => ([AV.ptr 0 0 [] 0], [bdU xs.length, .row 5 xs])) (fun _ => True) (fun xs => .one (.tup [], [bdU xs.length, .row 5 xs]))) args st K → SimCall (BEs κ).E.P 97 args st K := by
  rintro args st K h
  unfold selC at h
  cases hs : sel1 st with
  | true =>
    rw [hs, cond_true] at h
    obtain ⟨_, ha, _, hK⟩ := h
    simp only [Prod.mk.injEq] at ha
    obtain ⟨rfl, rfl⟩ := ha
    have hK : K (.tup []) [bdS] := hK
    refine ⟨⟨_, Tryz.func97, rfl⟩, fun C vs hC hI hst hm => ?_⟩
    obtain ⟨v, rfl, hi, hv⟩ := MT_ptr1 hm
    have hn : nthO C.st 0 = bdN := by rw [hst]; rfl
    obtain ⟨_, rfl⟩ := hv.2.1 _ _ hn
    have hob := hI.obj 0 hi
    rw [hn] at hob
    obtain ⟨g1, g2, c, e, g3, ⟨g4, g5, rfl⟩, g6⟩ := hob
    have g5 : c.size = 2 := g5
    simp only [M, ML, wid, cellAt, World.cell?, g3] at g6
    obtain ⟨⟨g7, _⟩, ⟨g8, _⟩, _⟩ := g6
    have g7 : c[0]? = some (.pointer none) := g7
    have g8 : c[1]? = some (.slice none 0 0) := g8
    have k0 : C.w.cell? ⟨(C.ι 0).block, 0, none⟩ = some (.pointer none) := by simp only [World.cell?, g3]; exact g7
    refine (callsIn_wide.2 (ck_fresh (C.ι 0).block C.w k0 (by simp [World.shape?, g3, g5]) (by simp [World.frozen?, g3]))).mono ?_
    rintro e w' ⟨rfl, rfl⟩
    have hh : (C.w.setCell ⟨(C.ι 0).block, 0, none⟩ (.pointer (some ⟨(C.ι 0).block, 0, none⟩))).heap[(C.ι 0).block]? = some (.cells (c.setIfInBounds 0 (.pointer (some ⟨(C.ι 0).block, 0, none⟩))) 118 (0, 0)) := by
      rw [Sort.setCell_eq]
      simp [Sort.mapBlock, Array.getElem?_modify, g3, Sort.onCells]
    have hold : ∀ b, b ≠ (C.ι 0).block → (C.w.setCell ⟨(C.ι 0).block, 0, none⟩ (.pointer (some ⟨(C.ι 0).block, 0, none⟩))).heap[b]? = C.w.heap[b]? := fun b hb => by
      rw [Sort.setCell_eq]
      have : (C.ι 0).block ≠ b := fun e => hb e.symm
      simp [Sort.mapBlock, Array.getElem?_modify, this]
    have hsz : (C.w.setCell ⟨(C.ι 0).block, 0, none⟩ (.pointer (some ⟨(C.ι 0).block, 0, none⟩))).heap.size = C.w.heap.size := by
      rw [Sort.setCell_eq]; simp [Sort.mapBlock]
    have hos : SameOs C.w (C.w.setCell ⟨(C.ι 0).block, 0, none⟩ (.pointer (some ⟨(C.ι 0).block, 0, none⟩))) := by
      rw [Sort.setCell_eq]; exact ⟨rfl, rfl, rfl⟩
    generalize C.w.setCell ⟨(C.ι 0).block, 0, none⟩ (.pointer (some ⟨(C.ι 0).block, 0, none⟩)) = w1 at *
    have hl : C.st.length = 1 := by rw [hst]; rfl
    obtain ⟨h1, h2⟩ := upd_ctx (o := bdS) hI hi (by rw [hn]; rfl) hsz hos hold (refs_atP_box hi hn _ _ rfl rfl) (by
      refine ⟨g1, rfl, _, _, hh, ⟨by rw [Array.size_setIfInBounds, g5]; exact Nat.le_refl 2, by rw [Array.size_setIfInBounds, g5]; rfl, rfl⟩, ?_⟩
      have hn' : nthO (setO C.st 0 bdS) 0 = bdS := nthO_setO_same _ _ _ hi
      simp only [M, ML, wid, cellAt, World.cell?, Ctx.upd, hh]
      refine ⟨⟨by rw [setO_length]; exact hi, .pointer (some ⟨(C.ι 0).block, 0, none⟩), by simp [g5], rfl, ?_⟩, ⟨?_, rfl⟩, trivial⟩
      · refine ⟨fun T xs hx => ?_, fun T a hx => ⟨rfl, rfl⟩, fun m n ks hx => ?_, fun s p hx => ?_, fun K' V ks vs met hx => ?_, fun T E ls pd hx => ?_⟩
        · rw [show nthO ({ C with st := setO C.st 0 bdS, w := w1 } : Ctx).st 0 = bdS from hn'] at hx; simp [elT] at hx
        · rfl
        · rfl
        · rfl
        · rw [show nthO ({ C with st := setO C.st 0 bdS, w := w1 } : Ctx).st 0 = bdS from hn'] at hx; cases hx
      · rw [Array.getElem?_setIfInBounds_ne (by decide)]; exact g8)
    exact ⟨_, .tup [], C.upd 0 bdS w1, rfl, rfl, rfl, h1, rel_tup_mk (by simp [MT]), by rw [← hst]; exact h2, by show K (.tup []) (setO C.st 0 bdS); rw [hst]; exact hK⟩
  | false =>
    rw [hs, cond_false] at h
    obtain ⟨xs, ha, _, hK⟩ := h
    simp only [Prod.mk.injEq] at ha
    obtain ⟨rfl, rfl⟩ := ha
    have hK : K (.tup []) [bdU xs.length, .row 5 xs] := hK
    refine ⟨⟨_, Tryz.func97, rfl⟩, fun C vs hC hI hst hm => ?_⟩
    obtain ⟨v, rfl, hi, hv⟩ := MT_ptr1 hm
    have hn : nthO C.st 0 = bdU xs.length := by rw [hst]; rfl
    obtain ⟨_, rfl⟩ := hv.2.1 _ _ hn
    have hob := hI.obj 0 hi
    rw [hn] at hob
    obtain ⟨g1, g2, c, e, g3, ⟨g4, g5, rfl⟩, g6⟩ := hob
    simp only [M, ML] at g6
    obtain ⟨⟨_, u, g7, _, g8⟩, _⟩ := g6
    obtain ⟨_, rfl⟩ := g8.2.1 _ _ hn
    refine (callsIn_wide.2 (ck_used (C.ι 0).block C.w g7)).mono ?_
    rintro e w' ⟨rfl, rfl⟩
    exact ⟨_, .tup [], C, rfl, rfl, rfl, hI, rel_tup_mk (by simp [MT]), Ext.refl _ (by rw [hst]; exact Nat.le_refl _), by rw [hst]; exact hK⟩
noncomputable def BCk (κ : Kp) : EB := (BEs κ).sim (selC_mono callE_mono callE_mono) (simCk κ)
end Go.Proofs.YtbppdpbagmbmpaaGreatDoor
namespace Go.Proofs.YtbppdpbagmbmpaaGreatDoor
open Go Go.Dn Go.Proofs
attribute [local irreducible] funA vc
set_option maxRecDepth 20000
theorem zBy (κ : Kp) (s : ByteArray) (xs : List AV) (I : Nat → S → Prop) (n : Nat) (K : Exit → S → Prop) : (vc (BCk κ).E 12 94 none 2 (loopCode (Pr κ).toProgram 94 0) (stBy0 s xs) (loopK (BCk κ).E 94 0 2 I n K)) = (
  brn (decide ((↑(ByteArray.size s) : Int) > (0 : Int))) (cnd (true && decide ((0 : Int) < (↑(ByteArray.size s) : Int))) (brn ((↑(byteAt s 0) : Int) == (92 : Int))
  (cnd (true && decide ((1 : Int) ≤ (↑(ByteArray.size s) : Int)) && decide ((↑(ByteArray.size s) : Int) ≤ (↑(ByteArray.size s) : Int))) (∃ (a : ByteArray),
  ([AV.str (ByteArray.extract s 1 (Int.toNat (↑(ByteArray.size s) : Int)))], []) = stEs a ∧ sideEs a ∧ brn (esO a) (∃ (rest : List AV), xs = AV.tup [AV.lit
  (Value.int IntKind.u8 (esC a)), AV.lit Value.nilIface] :: rest ∧ cnd (decide ((0 : Int) ≤ IntKind.wrap IntKind.i64 (esN a + (1 : Int))) && decide (IntKind.wrap
  IntKind.i64 (esN a + (1 : Int)) ≤ (↑(ByteArray.size s) : Int)) && decide ((↑(ByteArray.size s) : Int) ≤ (↑(ByteArray.size s) : Int))) (∃ (m : Nat), m < n ∧ I m
  (sp 38 [(0, AV.yld 0), (1, AV.ptr 1 0 [] 0)] [Obj.ext (some rest), Obj.box 9 (AV.str (ByteArray.extract s (Int.toNat (IntKind.wrap IntKind.i64 (esN a + (1 :
  Int)))) (Int.toNat (↑(ByteArray.size s) : Int))))])) ∧ K Exit.ret (sp 38 [] [Obj.ext none, Obj.box 9 (AV.str s)])) (∃ (rest : List AV), xs = AV.tup [AV.lit
  (Value.int IntKind.u8 (0 : Int)), AV.lit (Value.iface 179 (Value.pointer (some (Kp.form κ))))] :: rest ∧ K Exit.ret (sp 38 [] [Obj.ext (some rest), Obj.box 9
  (AV.str s)]) ∧ K Exit.ret (sp 38 [] [Obj.ext none, Obj.box 9 (AV.str s)])))) (brn (!isPl (↑(byteAt s 0) : Int)) (∃ (rest : List AV), xs = AV.tup [AV.lit
  (Value.int IntKind.u8 (↑(byteAt s 0) : Int)), AV.lit (Value.iface 179 (Value.pointer (some (Kp.form κ))))] :: rest ∧ K Exit.ret (sp 38 [] [Obj.ext (some rest),
  Obj.box 9 (AV.str s)]) ∧ K Exit.ret (sp 38 [] [Obj.ext none, Obj.box 9 (AV.str s)])) (∃ (rest : List AV), xs = AV.tup [AV.lit (Value.int IntKind.u8 (↑(byteAt s
  0) : Int)), AV.lit Value.nilIface] :: rest ∧ cnd (true && decide ((1 : Int) ≤ (↑(ByteArray.size s) : Int)) && decide ((↑(ByteArray.size s) : Int) ≤
  (↑(ByteArray.size s) : Int))) (∃ (m : Nat), m < n ∧ I m (sp 38 [(0, AV.yld 0), (1, AV.ptr 1 0 [] 0)] [Obj.ext (some rest), Obj.box 9 (AV.str (ByteArray.extract
  s 1 (Int.toNat (↑(ByteArray.size s) : Int))))])) ∧ K Exit.ret (sp 38 [] [Obj.ext none, Obj.box 9 (AV.str s)]))))) (K (Exit.exit 0) (sp 38 [] [Obj.ext (some
  xs), Obj.box 9 (AV.str s)]))) := by kernel_rfl
theorem esO_le {s : ByteArray} (h : esO s = true) : esN s ≤ s.size ∧ 1 ≤ esN s ∧ esN s ≤ 3 := by
  have h0 := empty_iff s
  unfold esO at h
  unfold esN
  cases h1 : (s.toList == (ByteArray.mk #[]).toList) with
  | true => rw [h1] at h; cases h
  | false =>
  rw [h1] at h h0
  have hs : s.size ≠ 0 := fun e => by rw [decide_eq_true e] at h0; cases h0
  rw [cond_false] at h
  generalize (((byteAt s 0 : Nat) : Int) == 92) = b2 at h ⊢
  cases b2 with
  | true => simp only [cond_true]; omega
  | false =>
  generalize (((byteAt s 0 : Nat) : Int) == 34) = b3 at h ⊢
  cases b3 with
  | true => simp only [cond_true, cond_false]; omega
  | false =>
  generalize (((byteAt s 0 : Nat) : Int) == 110) = b4 at h ⊢
  cases b4 with
  | true => simp only [cond_true, cond_false]; omega
  | false =>
  simp only [cond_false] at h ⊢
  generalize (((byteAt s 0 : Nat) : Int) == 120) = b5 at h
  cases b5 with
  | false => cases h
  | true =>
  rw [cond_true] at h
  cases h6 : decide ((s.size : Int) < 3) with
  | true => rw [h6] at h; cases h
  | false => rw [decide_eq_false_iff_not] at h6; omega
abbrev byI (κ : Kp) (c : Int) (e : Bool) : AV := .tup [.lit (.int .u8 c), .lit (bif e then errForm κ else .nilIface)]
def byF : Nat → ByteArray → List (Int × Bool)
  | 0, _ => []
  | k + 1, s => bif decide ((s.size : Int) > 0) then
      bif ((byteAt s 0 : Nat) : Int) == 92 then
        (bif esO (s.extract 1 s.size) then (esC (s.extract 1 s.size), false) :: byF k (s.extract (esN (s.extract 1 s.size) + 1).toNat s.size) else [(0, true)])
      else bif !isPl (byteAt s 0 : Nat) then [((byteAt s 0 : Nat), true)] else ((byteAt s 0 : Nat), false) :: byF k (s.extract 1 s.size)
    else []
def itB (κ : Kp) (l : List (Int × Bool)) : List AV := l.map fun x => byI κ x.1 x.2
structure ABy where
  s : ByteArray
  k : Nat
  xs : List AV
def stBl (x : ABy) : S := stBy0 x.s x.xs
def sideBl (κ : Kp) (x : ABy) : Prop := x.s.size ≤ 1000000000 ∧ x.s.size ≤ x.k ∧ x.xs = itB κ (byF x.k x.s)
def outBl (_ : ABy) : Out (Exit × S) := .all (fun _ : Bool × Bool × ByteArray => True) fun b => .brn b.1
  (.one (.exit 0, sp 38 [] [.ext (some []), .box 9 (.lit (.string b.2.2))])) (.brn b.2.1 (.one (.ret, sp 38 [] [.ext none, .box 9 (.lit (.string b.2.2))])) (.one (.ret, sp 38 [] [.ext (some []), .box 9 (.lit (.string b.2.2))])))
theorem exs (s : ByteArray) (a : Nat) : (s.extract a s.size).size = s.size - a := by rw [ByteArray.size_extract, Nat.min_self]
theorem lBl (κ : Kp) : LoopOk (BCk κ).E 12 94 0 (loopE 2 stBl (sideBl κ) outBl) := by
  refine loopE_ok (fun x => x.k) ?_
  rintro ⟨s, k, xs⟩ K ⟨h1, h2, h3⟩ ho
  simp only at h1 h2 h3
  rw [show (BCk κ).E.P = Pr κ from rfl]
  refine Eq.mpr (zBy κ s xs _ _ K) ?_
  have hex := fun t => (brn_iff.1 (ho (true, true, t) trivial)).1 rfl
  have hrn := fun t => (brn_iff.1 ((brn_iff.1 (ho (false, true, t) trivial)).2 rfl)).1 rfl
  have hrs := fun t => (brn_iff.1 ((brn_iff.1 (ho (false, false, t) trivial)).2 rfl)).2 rfl
  have next : ∀ (k' : Nat) (t : ByteArray) (ys : List AV), k = k' + 1 → (t.size ≤ k' ∧ t.size ≤ s.size) → ys = itB κ (byF k' t) → ∃ m, m < k ∧ invOf stBl (sideBl κ) outBl (fun x => x.k) K m (stBl ⟨t, k', ys⟩) := fun k' t ys e ht hy =>
    ⟨_, by simp only; omega, ⟨t, k', ys⟩, rfl, ⟨by simp only; omega, ht.1, hy⟩, rfl, ho⟩
  rw [brn_iff]
  refine ⟨fun h => ?_, fun h => ?_⟩
  · have hp : (s.size : Int) > 0 := of_decide_eq_true h
    obtain ⟨k', rfl⟩ : ∃ k', k = k' + 1 := ⟨k - 1, by omega⟩
    rw [byF, h, cond_true] at h3
    refine cnd_iff.2 ⟨by simp; omega, ?_⟩
    rw [brn_iff]
    refine ⟨fun e => ?_, fun e => ?_⟩
    · rw [e, cond_true] at h3
      refine cnd_iff.2 ⟨by simp; omega, s.extract 1 s.size, by rw [Int.toNat_natCast]; rfl, by unfold sideEs; rw [exs]; omega, ?_⟩
      rw [brn_iff]
      refine ⟨fun e2 => ?_, fun e2 => ?_⟩
      · rw [e2, cond_true] at h3
        obtain ⟨q1, q2, q3⟩ := esO_le e2
        have q4 : ((s.extract 1 s.size).size : Int) = s.size - 1 := by rw [exs]; omega
        rw [wrap_ok (n := esN (s.extract 1 s.size) + 1) (by omega) (by omega)]
        refine ⟨_, h3, cnd_iff.2 ⟨by simp; omega, ?_⟩, hrn _⟩
        rw [Int.toNat_natCast]
        exact next k' (s.extract (esN (s.extract 1 s.size) + 1).toNat s.size) _ rfl (by rw [exs]; omega) rfl
      · rw [e2, cond_false] at h3
        exact ⟨[], h3, hrs _, hrn _⟩
    · rw [e, cond_false] at h3
      rw [brn_iff]
      refine ⟨fun e2 => ?_, fun e2 => ?_⟩
      · rw [e2, cond_true] at h3
        exact ⟨[], h3, hrs _, hrn _⟩
      · rw [e2, cond_false] at h3
        refine ⟨_, h3, cnd_iff.2 ⟨by simp; omega, ?_⟩, hrn _⟩
        rw [Int.toNat_natCast]
        exact next k' (s.extract 1 s.size) _ rfl (by rw [exs]; omega) rfl
  · have : xs = [] := by
      subst h3
      cases k with
      | zero => rfl
      | succ k' => rw [byF, h]; rfl
    subst this
    exact hex _
noncomputable def BBl (κ : Kp) : EB := (BCk κ).loop (lBl κ)
theorem yBy (κ : Kp) (s : ByteArray) (xs : List AV) (K : AV → List Dn.Obj → Prop) : (funA (BBl κ).E 12 94 [.yld 0, .ptr 1 0 [] 0] [.ext (some xs), .box 9 (.lit (.string s))] K) = (
  loopCode (Pg.toProgram (Env.P (EB.E (BCk κ)))) 94 0 = loopCode (Pg.toProgram (Env.P (EB.E (BCk κ)))) 94 0 ∧ ∃ (a : ABy), sp 38 [(0, AV.yld 0), (1, AV.ptr 1 0 []
  0)] [Obj.ext (some xs), Obj.box 9 (AV.str s)] = stBl a ∧ sideBl κ a ∧ ∀ (y : Bool × Bool × ByteArray), True → brn y.1 (K (AV.tup []) [Obj.ext (some []),
  Obj.box 9 (AV.str y.2.2)]) (brn y.2.1 (K (AV.tup []) [Obj.ext none, Obj.box 9 (AV.str y.2.2)]) (K (AV.tup []) [Obj.ext (some []), Obj.box 9 (AV.str y.2.2)]))) := by kernel_rfl
def stBc (κ : Kp) (s : ByteArray) : List AV × List Dn.Obj := ([.yld 0, .ptr 1 0 [] 0], [.ext (some (itB κ (byF s.size s))), .box 9 (.lit (.string s))])
def sideBc (s : ByteArray) : Prop := s.size ≤ 1000000000
def outBc (_ : ByteArray) : Out (AV × List Dn.Obj) := .all (fun st' => tdone st') fun st' => .one (.tup [], st')
theorem cBy (κ : Kp) : CallOk (BBl κ).E 12 94 (callE (stBc κ) sideBc outBc) := by
  refine callE_ok ?_
  rintro s K h1 ho
  refine Eq.mpr (yBy κ s (itB κ (byF s.size s)) K) ?_
  exact ⟨rfl, ⟨s, s.size, itB κ (byF s.size s)⟩, rfl, ⟨h1, Nat.le_refl _, rfl⟩, fun y _ => brn_iff.2 ⟨fun _ => ho _ trivial, fun _ => brn_iff.2 ⟨fun _ => ho _ trivial, fun _ => ho _ trivial⟩⟩⟩
noncomputable def BBy (κ : Kp) : EB := (BBl κ).call (cBy κ)
end Go.Proofs.YtbppdpbagmbmpaaGreatDoor
namespace Go.Proofs.YtbppdpbagmbmpaaGreatDoor
open Go Go.Dn Go.Proofs
attribute [local irreducible] funA vc
set_option maxRecDepth 20000
theorem MR_u8 {C : Ctx} {s : Src} : ∀ (l : List UInt8) (o : Nat), MR C (u8L l) 1 s o → ∀ (j : Nat) (x : UInt8), l[j]? = some x → s (o + j) = some (Value.int .u8 x.toNat)
  | [], _, _, j, x, h => by simp at h
  | b :: l, o, h, 0, x, hx => by
    simp only [u8L, List.map_cons, MR, M] at h
    simp only [List.getElem?_cons_zero, Option.some.injEq] at hx
    subst hx
    exact h.1.1
  | b :: l, o, h, j + 1, x, hx => by
    have h2 : MR C (u8L l) 1 s (o + 1) := h.2
    rw [List.getElem?_cons_succ] at hx
    have := MR_u8 l (o + 1) h2 j x hx
    rwa [Nat.add_assoc, Nat.add_comm 1 j] at this
theorem arr2 {c : Array Value} {a b : Value} (h : c.size = 2) (h0 : c[0]? = some a) (h1 : c[1]? = some b) : c = #[a, b] := by
  apply Array.ext (by simpa using h)
  intro i hi hj
  have : i = 0 ∨ i = 1 := by simp at hj; omega
  rcases this with rfl | rfl
  · rw [Array.getElem?_eq_getElem (by omega)] at h0; simpa using h0
  · rw [Array.getElem?_eq_getElem (by omega)] at h1; simpa using h1
theorem frz_heap (w : World) (g n b : Nat) (h : b ≠ g) : (w.drew.freeze ⟨g, 0, none⟩ n).heap[b]? = w.heap[b]? := by
  unfold World.freeze
  split
  · rfl
  · have : g ≠ b := fun e => h e.symm
    simp [Array.getElem?_modify, this, drew_heap]
theorem frz_size (w : World) (g n : Nat) : (w.drew.freeze ⟨g, 0, none⟩ n).heap.size = w.heap.size := by
  unfold World.freeze
  split
  · rfl
  · simp [drew_heap]
theorem frz_os (w : World) (g n : Nat) : SameOs w (w.drew.freeze ⟨g, 0, none⟩ n) := by
  unfold World.freeze
  split <;> exact ⟨rfl, rfl, rfl⟩
theorem simSt (κ : Kp) : ∀ args st K, selC sel1 (callE (fun _ : Unit => ([AV.ptr 0 0 [] 0], [bdN])) (fun _ => True) (fun _ => .one (.lit (.string ⟨#[]⟩), [bdN]))) (callE (fun l : List UInt8 => ([AV.ptr 0 0 [] 0], [bdU l.length, .row 5 (u8L l)])) (fun l => l ≠ []) (fun l => .one (.lit (.string ⟨l.toArray⟩), [bdU l.length, .dead]))) args st K → SimCall (BBy κ).E.P 81 args st K := by
  rintro args st K h
  unfold selC at h
  cases hs : sel1 st with
  | true =>
    rw [hs, cond_true] at h
    obtain ⟨_, ha, _, hK⟩ := h
    simp only [Prod.mk.injEq] at ha
    obtain ⟨rfl, rfl⟩ := ha
    have hK : K (.lit (.string ⟨#[]⟩)) [bdN] := hK
    refine ⟨⟨_, Tryz.func81, rfl⟩, fun C vs hC hI hst hm => ?_⟩
    obtain ⟨v, rfl, hi, hv⟩ := MT_ptr1 hm
    have hn : nthO C.st 0 = bdN := by rw [hst]; rfl
    obtain ⟨_, rfl⟩ := hv.2.1 _ _ hn
    have hob := hI.obj 0 hi
    rw [hn] at hob
    obtain ⟨g1, g2, c, e, g3, ⟨g4, g5, rfl⟩, g6⟩ := hob
    have g5 : c.size = 2 := g5
    simp only [M, ML, wid, cellAt, World.cell?, g3] at g6
    obtain ⟨⟨g7, _⟩, ⟨g8, _⟩, _⟩ := g6
    have hc := arr2 g5 g7 g8
    subst hc
    refine (callsIn_wide.2 (str_nil (C.ι 0).block (.pointer none) C.w g3)).mono ?_
    rintro e w' ⟨rfl, rfl⟩
    obtain ⟨h1, h2⟩ := grow_ctx (w := C.w.drew) hI ⟨Nat.le_refl _, rfl, rfl, rfl, fun _ _ => rfl⟩
    exact ⟨_, .lit (.string ⟨#[]⟩), { C with w := C.w.drew }, rfl, rfl, rfl, h1, rel_lit rfl, by rw [← hst]; exact h2, by show K _ C.st; rw [hst]; exact hK⟩
  | false =>
    rw [hs, cond_false] at h
    obtain ⟨l, ha, hl0, hK⟩ := h
    simp only [Prod.mk.injEq] at ha
    obtain ⟨rfl, rfl⟩ := ha
    have hK : K (.lit (.string ⟨l.toArray⟩)) [bdU l.length, .dead] := hK
    refine ⟨⟨_, Tryz.func81, rfl⟩, fun C vs hC hI hst hm => ?_⟩
    obtain ⟨v, rfl, hi, hv⟩ := MT_ptr1 hm
    have hn : nthO C.st 0 = bdU l.length := by rw [hst]; rfl
    have hn1 : nthO C.st 1 = .row 5 (u8L l) := by rw [hst]; rfl
    have hi1 : 1 < C.st.length := by rw [hst]; exact Nat.le_refl 2
    obtain ⟨_, rfl⟩ := hv.2.1 _ _ hn
    have hob := hI.obj 0 hi
    rw [hn] at hob
    obtain ⟨g1, g2, c, e, g3, ⟨g4, g5, rfl⟩, g6⟩ := hob
    have g5 : c.size = 2 := g5
    simp only [M, ML, wid, cellAt, World.cell?, g3] at g6
    obtain ⟨⟨_, u, g7, _, _⟩, ⟨_, u2, g8, _, g9⟩, _⟩ := g6
    have hc := arr2 g5 g7 g8
    subst hc
    have hob1 := hI.obj 1 hi1
    rw [hn1] at hob1
    obtain ⟨_, ho⟩ := hob1
    have hne : u8L l ≠ [] := fun e => hl0 (by simpa [u8L] using e)
    have hz : C.P.cellsOf 5 = 1 := by rw [hC]; show Tryz.prog.cellsOf 5 = 1; kernel_rfl
    rcases ho with ⟨_, e⟩ | ⟨k1, k2, c1, k3, k4, k5, k6, k7⟩
    · exact absurd e hne
    rw [hz] at k6 k7
    obtain ⟨q1, q2⟩ := g9.1 _ _ (by rw [hn1]; rfl)
    rcases q2 with ⟨e, _⟩ | ⟨_, cap, q, rfl, q3, q4, q5⟩
    · rw [k1] at e; cases e
    have hq : q = ⟨(C.ι 1).block, 0, none⟩ := by
      rcases q3 with e | ⟨_, e⟩
      · rw [e, hz]
      · omega
    subst hq
    refine (callsIn_wide.2 (str_row (C.ι 0).block (C.ι 1).block cap u l c1 C.w g3 k3 hl0 q4 (by rw [u8L_len] at q1; omega) (by unfold maxLen at k5; omega) ?_)).mono ?_
    · intro j x hx
      have := MR_u8 l 0 k7 j x hx
      simpa [cellAt, World.cell?, k3] using this
    rintro e w' ⟨rfl, rfl⟩
    have hown : ownd (C.ι 1) (nthO C.st 1) = true := by rw [hn1]; simp [ownd, k1]
    obtain ⟨h1, h2⟩ := upd_ctx (o := .dead) (w := C.w.drew.freeze ⟨(C.ι 1).block, 0, none⟩ l.length) hI hi1 hown (frz_size _ _ _) (frz_os _ _ _) (fun b hb => frz_heap _ _ _ _ hb)
      (refs_dead (by show 1 < (setO C.st 1 .dead).length; rw [setO_length]; exact hi1) (nthO_setO_same _ _ _ hi1)) trivial
    exact ⟨_, .lit (.string ⟨l.toArray⟩), C.upd 1 .dead _, rfl, rfl, rfl, h1, rel_lit rfl, by rw [← hst]; exact h2, by show K _ (setO C.st 1 .dead); rw [hst]; exact hK⟩
abbrev bdV (i n : Nat) : Dn.Obj := .box 118 (.agg [.ptr 0 0 [] 0, .slc i 0 n])
def EB.callC (b : EB) {N f : Nat} {sp : CallSpec} (hm : sp.Mono) (h : CallOk b.E N f sp) : EB := ⟨b.E.addCall f sp, b.ok.addCall b.mono h, b.mono.addCall hm⟩
noncomputable def BSt (κ : Kp) : EB := (BBy κ).sim (selC_mono callE_mono callE_mono) (simSt κ)
theorem zWn (κ : Kp) (c : Int) (K : AV → List Dn.Obj → Prop) : (funA (BSt κ).E 12 79 [.ptr 0 0 [] 0, .lit (.int .u8 c)] [bdN] K) = (
  ∃ (a : Unit), ([AV.ptr 0 0 [] 0], [Obj.box 118 (AV.agg [AV.lit (Value.pointer none), AV.nil])]) = ([AV.ptr 0 0 [] 0], [Obj.box 118 (AV.agg [AV.lit (Value.pointer
  none), AV.nil])]) ∧ True ∧ K (AV.lit Value.nilIface) [Obj.box 118 (AV.agg [AV.ptr 0 0 [] 0, AV.slc 1 0 1]), Obj.row 5 [AV.lit (Value.int IntKind.u8 c)]]) := by kernel_rfl
theorem zWu (κ : Kp) (c : Int) (xs : List AV) (K : AV → List Dn.Obj → Prop) : (funA (BSt κ).E 12 79 [.ptr 0 0 [] 0, .lit (.int .u8 c)] [bdU xs.length, .row 5 xs] K) = (
  ∃ (a : List AV), ([AV.ptr 0 0 [] 0], [Obj.box 118 (AV.agg [AV.ptr 0 0 [] 0, AV.slc 1 0 xs.length]), Obj.row 5 xs]) = ([AV.ptr 0 0 [] 0], [Obj.box 118 (AV.agg
  [AV.ptr 0 0 [] 0, AV.slc 1 0 a.length]), Obj.row 5 a]) ∧ True ∧ cnd (decide ((a.length + 1 + 1) * 2 ≤ 70368744177664)) (K (AV.lit Value.nilIface) [Obj.box 118
  (AV.agg [AV.ptr 0 0 [] 0, AV.slc 2 0 (a.length + 1)]), Obj.dead, Obj.row 5 (List.take a.length a ++ [AV.lit (Value.int IntKind.u8 c)])])) := by kernel_rfl
def wbS : CallSpec := selC sel1 (callE (fun c : Int => ([AV.ptr 0 0 [] 0, .lit (.int .u8 c)], [bdN])) (fun _ => True) (fun c => .one (.lit .nilIface, [bdU 1, .row 5 [.lit (.int .u8 c)]])))
  (callE (fun x : Int × List AV => ([AV.ptr 0 0 [] 0, .lit (.int .u8 x.1)], [bdU x.2.length, .row 5 x.2])) (fun x => x.2.length ≤ 1000000000) (fun x => .one (.lit .nilIface, [bdV 2 (x.2.length + 1), .dead, .row 5 (x.2 ++ [.lit (.int .u8 x.1)])])))
theorem cWb (κ : Kp) : CallOk (BSt κ).E 12 79 wbS := by
  intro args st K h
  unfold wbS selC at h
  cases hs : sel1 st with
  | true =>
    rw [hs, cond_true] at h
    obtain ⟨c, ha, _, hK⟩ := h
    simp only [Prod.mk.injEq] at ha
    obtain ⟨rfl, rfl⟩ := ha
    exact Eq.mpr (zWn κ c K) ⟨(), rfl, trivial, hK⟩
  | false =>
    rw [hs, cond_false] at h
    obtain ⟨⟨c, xs⟩, ha, h1, hK⟩ := h
    simp only [Prod.mk.injEq] at ha h1
    obtain ⟨rfl, rfl⟩ := ha
    refine Eq.mpr (zWu κ c xs K) ⟨xs, rfl, trivial, cnd_iff.2 ⟨by rw [decide_eq_true_eq]; omega, ?_⟩⟩
    rw [List.take_length]
    exact hK
theorem wbS_mono : wbS.Mono := selC_mono callE_mono callE_mono
noncomputable def BWb (κ : Kp) : EB := EB.callC (BSt κ) wbS_mono (cWb κ)
end Go.Proofs.YtbppdpbagmbmpaaGreatDoor
