import Derived.Test.YtbppdpbagmbmpaaGreatDoorDnK
namespace Go.Dn
open Go
structure ProgOK (P : Program) : Prop where
  lay : LayOK P
  names : ∀ (f : Nat) (fn : Func), P.funcs[f]? = some fn → (fn.name == "runtime.NumGoroutine") = false
  mixed : P.follows .mixedOrders = true
structure Grows (w w' : World) : Prop where
  size : w.heap.size ≤ w'.heap.size
  os : w'.os = w.os
  tape : w'.tape = w.tape
  output : w'.output = w.output
  heap : ∀ b, b < w.heap.size → w'.heap[b]? = w.heap[b]?
theorem Grows.refl (w : World) : Grows w w := ⟨Nat.le_refl _, rfl, rfl, rfl, fun _ _ => rfl⟩
theorem Grows.trans {a b c : World} (h : Grows a b) (k : Grows b c) : Grows a c :=
  ⟨Nat.le_trans h.size k.size, k.os.trans h.os, k.tape.trans h.tape, k.output.trans h.output, fun i hi => (k.heap i (by have := h.size; omega)).trans (h.heap i hi)⟩
def litsB : List AV → Bool
  | [] => true
  | .lit v :: l => oneV v && litsB l
  | _ :: _ => false
def Ctx.bare (C : Ctx) : Ctx := { C with X := fun b => (C.P.kept b).isSome = true, st := [], ι := fun _ => ⟨0, 0, true⟩, cls := id }
theorem bare_inv {C : Ctx} (hI : Inv C) : Inv C.bare := by
  refine ⟨hI.lay, fun i hi => by simp [Ctx.bare] at hi, fun i j hi => by simp [Ctx.bare] at hi, fun b hb => ?_, fun i hi => by simp [Ctx.bare] at hi, fun b hb => absurd rfl hb, fun b o h => ?_⟩
  · obtain ⟨o, h⟩ := Option.isSome_iff_exists.1 hb
    exact hI.xs b (hI.kept b o h).1
  · exact ⟨by show (C.P.kept b).isSome = true; rw [show C.P.kept b = some o from h]; rfl, (hI.kept b o h).2⟩
theorem MT_lits {C C' : Ctx} : ∀ (l : List AV) (vs : List Value), litsB l = true → MT C l vs → MT C' l vs
  | [], vs, _, h => by simpa [MT] using h
  | .lit u :: l, [], _, h => by simp [MT] at h
  | .lit u :: l, v :: vs, hl, h => by
    simp only [litsB, Bool.and_eq_true] at hl
    simp only [MT, M] at h ⊢
    exact ⟨h.1, h.2.1, h.2.2.1, MT_lits l vs hl.2 h.2.2.2⟩
  | .junk :: _, _, hl, _ | .lst _ _ :: _, _, hl, _ | .agg _ :: _, _, hl, _ | .tup _ :: _, _, hl, _ | .slc _ _ _ :: _, _, hl, _ | .ptr _ _ _ _ :: _, _, hl, _ | .pim _ _ :: _, _, hl, _ | .mp _ :: _, _, hl, _
  | .yld _ :: _, _, hl, _ | .stp _ _ :: _, _, hl, _ | .clo _ _ :: _, _, hl, _ | .ifc _ _ :: _, _, hl, _ | .fmp _ _ _ _ :: _, _, hl, _ => by simp [litsB] at hl
def FreshTo (P : Program) (f : FuncId) (C : Ctx) (vs : Array Value) (x : AV) : Prop :=
  CallsIn Fence.wide 0 P f vs C.w (fun e w' => ∃ v C1, e = .returned v ∧ C1.w = w' ∧ C1.P = C.P ∧ Inv C1 ∧ Rel C1 x v ∧ Ext 0 C.bare C1)
def PcallOK (E : Env) : Prop :=
  ∀ f as x, E.pcall f as = some (true, x) → ∃ fn, E.P.funcs[f]? = some fn ∧ fn.body.isSome = true ∧
    ((∃ u, x = .lit u ∧ oneV u = true ∧
      ∀ (C : Ctx) (vs : Array Value), C.P = E.P → Inv C → MT C as vs.toList → CallsIn Fence.wide 0 E.P f vs C.w (fun e w' => e = .returned u ∧ Grows C.w w')) ∨
     (litsB as = true ∧ refs x = [] ∧ ∀ (C : Ctx) (vs : Array Value), C.P = E.P → Inv C → MT C as vs.toList → FreshTo E.P f C vs x))
theorem run_callFunc {P : Program} (hP : ProgOK P) {w : World} {f : FuncId} {fn : Func} (hf : P.funcs[f]? = some fn) (hb : fn.body.isSome = true) (args : Array Value) :
    (callFunc f args).run P w = .ok (.enter f args) w := by
  have hn := hP.names f fn hf
  have hn' : ¬ fn.name = "runtime.NumGoroutine" := by simpa using hn
  have hb' : ¬ fn.body = none := by intro e; simp [e] at hb
  simp [callFunc, hf, hn', hb']
theorem evL_rel {C : Ctx} {s : S} {a : Act} (hs : SRel C s a) : ∀ (l : List Operand), MT C (evL s l) (l.map a.eval)
  | [] => by simp [evL, MT]
  | x :: l => by
    simp only [evL, List.map_cons, MT]
    have := rel_ev hs x
    exact ⟨this.1, this.2.1, this.2.2, evL_rel hs l⟩
theorem pureR_rel {C : Ctx} (hI : Inv C) {a b : AV} {v : Value} (h : pureR C.st a = some b) (hr : Rel C a v) : Rel C.still b v := by
  have old : pureA C.st a = some b → Rel C.still b v := fun h1 => by
    obtain ⟨g1, g2, g3, g4⟩ := pureA_shape a b h1
    have hj : a ≠ .junk := by intro e; subst e; simp [pureA] at h1
    exact ⟨.inl (by rw [g1]; exact hr.1.resolve_right hj), .inl (by rw [g2]; exact hr.2.1.resolve_right hj), pureA_M hI (still_keeps hI) rfl a b _ _ h1 (fun i _ hi hl => lent_lt hI hi hl) hr.2.2⟩
  unfold pureR at h
  split at h
  · rename_i i k m
    split at h
    · rename_i T E ls pd hst
      simp only [Option.some.injEq] at h; subst h
      obtain ⟨hi, hs⟩ := rel_slc hr
      have hsub := (hs.2 _ _ _ _ hst).2
      have hob := hI.obj i hi
      rw [hst] at hob
      obtain ⟨_, _, hE, hty, _⟩ := hob
      obtain ⟨p, cap, rfl, h1, h2, h3, h4⟩ := sub_read hE (hty k) hsub
      refine ⟨.inl rfl, .inl rfl, ?_⟩
      simp only [M]
      refine ⟨h3, p, cap, by rw [h2]; rfl, by rw [h2]; exact h1, fun hne => ?_⟩
      obtain ⟨b, rfl, hlt, hm⟩ := h4 (by intro e; subst e; simp at hne)
      exact ⟨b, 0, rfl, hlt, MR_pure (still_keeps hI) hI.lay _ E _ _ _ _ h3 (fun _ _ => rfl) hm⟩
    · exact old h
  · exact old h
theorem pureArgs_MT {C : Ctx} (hI : Inv C) : ∀ (l m : List AV) (vs : List Value), pureArgs C.st l = some m → MT C l vs → MT C.still m vs
  | [], m, vs, h, hm => by simp only [pureArgs, Option.some.injEq] at h; subst h; simpa [MT] using hm
  | _ :: _, _, [], _, hm => by simp [MT] at hm
  | a :: l, m, v :: vs, h, hm => by
    simp only [pureArgs] at h
    split at h
    · rename_i b m' h1 h2
      simp only [Option.some.injEq] at h; subst h
      simp only [MT] at hm ⊢
      have := pureR_rel hI h1 ⟨hm.1, hm.2.1, hm.2.2.1⟩
      exact ⟨this.1, this.2.1, this.2.2, pureArgs_MT hI l m' vs h2 hm.2.2.2⟩
    · simp at h
theorem MT_nth {C : Ctx} : ∀ (l : List AV) (vs : List Value) (i : Nat), MT C l vs → i < l.length → ∃ v, vs[i]? = some v ∧ Rel C (nth l i) v
  | [], _, _, _, h => by simp at h
  | _ :: _, [], _, h, _ => by simp [MT] at h
  | a :: l, v :: vs, 0, h, _ => by simp only [MT] at h; exact ⟨v, rfl, h.1, h.2.1, h.2.2.1⟩
  | a :: l, v :: vs, i + 1, h, hi => by
    simp only [MT] at h
    simpa [nth] using MT_nth l vs i h.2.2.2 (by simpa using hi)
theorem MT_length {C : Ctx} : ∀ (l : List AV) (vs : List Value), MT C l vs → vs.length = l.length
  | [], vs, h => by simp only [MT] at h; simp [h]
  | _ :: _, [], h => by simp [MT] at h
  | a :: l, v :: vs, h => by simp only [MT] at h; simp [MT_length l vs h.2.2.2]
theorem slc_val {C : Ctx} {i lo n : Nat} {v : Value} (h : SlcOK C i lo n v) (hs : slcO (nthO C.st i) = true) : (v = .slice none 0 0 ∧ n = 0) ∨ ∃ q cap, v = .slice (some q) n cap := by
  have row : ∀ T xs, elT (nthO C.st i) = some (T, xs) → (v = .slice none 0 0 ∧ n = 0) ∨ ∃ q cap, v = .slice (some q) n cap := fun T xs hel => by
    rcases (h.1 T xs hel).2 with ⟨_, rfl, _, rfl⟩ | ⟨_, cap, q, rfl, _⟩
    · exact .inl ⟨rfl, rfl⟩
    · exact .inr ⟨_, _, rfl⟩
  cases hx : nthO C.st i <;> rw [hx] at hs <;> simp [slcO] at hs
  · exact row _ _ (by rw [hx]; rfl)
  · exact row _ _ (by rw [hx]; rfl)
  · have h2 := h.2 _ _ _ _ hx
    cases lo with
    | zero => obtain ⟨_, cap, rfl, _⟩ := h2; exact .inr ⟨_, _, rfl⟩
    | succ k =>
      rcases h2.2.2 with ⟨rfl, rfl⟩ | ⟨b, cap, c, rfl, _⟩
      · exact .inl ⟨rfl, rfl⟩
      · exact .inr ⟨_, _, rfl⟩
theorem len_sound {C : Ctx} (hI : Inv C) {T ty : TypeId} {ts : Array TypeId} (hts : ts[0]? = some T) {a x : AV} {va : Value} (h : lenA C.P C.st T a = some x) (hr : Rel C a va) :
    ∃ v, (Builtin.len_ ts ty #[va]).run C.P C.w = .ok v C.w ∧ Rel C x v := by
  unfold lenA at h
  split at h
  · rename_i hT
    simp only [Option.some.injEq] at h; subst h
    have := rel_lit_inv hr; subst this
    exact ⟨_, by simp [Builtin.len_, hts, run_underlying hT, goInt], rel_lit rfl⟩
  · rename_i hT
    simp only [Option.some.injEq] at h; subst h
    have := rel_lit_inv hr; subst this
    exact ⟨_, by simp [Builtin.len_, hts, run_underlying hT, goInt], rel_lit rfl⟩
  · rename_i i hT
    split at h
    · rename_i K V es hst
      simp only [Option.some.injEq] at h; subst h
      obtain ⟨hi, hmp⟩ := rel_mp hr
      have := hmp K V es hst; subst this
      obtain ⟨entries, clock, hh, hent, hmap⟩ := map_obj hI hi hst
      have hl : ∀ (es : List (Value × AV)) (ents : List MapEntry), EntOK C V es ents → es.length = ents.length := by
        intro es; induction es with
        | nil => intro ents h; cases ents <;> simp_all [EntOK]
        | cons x es ih => intro ents h; cases ents <;> simp_all [EntOK]; exact ih _ h.2.2.2
      have := hl es _ hent
      refine ⟨.int .i64 entries.size, by simp [Builtin.len_, hts, run_underlying hT, run_getObj_map hh, goInt], ?_⟩
      rw [this]; simpa using rel_lit rfl
    · simp at h
  · rename_i hT
    simp only [Option.some.injEq] at h; subst h
    have := rel_lit_inv hr; subst this
    exact ⟨_, by simp [Builtin.len_, hts, run_underlying hT, goInt], rel_lit rfl⟩
  · rename_i i lo n hT
    split at h
    · rename_i hel
      simp only [Option.some.injEq] at h; subst h
      rcases slc_val (rel_slc hr).2 hel with ⟨rfl, rfl⟩ | ⟨q, cap, rfl⟩
      · exact ⟨_, by simp [Builtin.len_, hts, run_underlying hT, goInt], rel_lit rfl⟩
      · exact ⟨_, by simp [Builtin.len_, hts, run_underlying hT, goInt], rel_lit rfl⟩
    · simp at h
  · rename_i K V ks vs hT
    simp only [Option.some.injEq] at h; subst h
    rcases rel_fmp hr with ⟨rfl, rfl, rfl⟩ | ⟨b, ents, clock, rfl, _, hh, hmap, rfl, hp, hmt⟩
    · exact ⟨_, by simp [Builtin.len_, hts, run_underlying hT, goInt], rel_lit rfl⟩
    · refine ⟨.int .i64 ents.size, by simp [Builtin.len_, hts, run_underlying hT, run_getObj_map hh, goInt], ?_⟩
      simpa using rel_lit rfl
  · rename_i T' l hT
    simp only [Option.some.injEq] at h; subst h
    obtain ⟨_, p, cap, rfl, _⟩ := rel_lst hr
    exact ⟨_, by simp [Builtin.len_, hts, run_underlying hT, goInt], rel_lit rfl⟩
  · simp at h
theorem form1_rel {C : Ctx} (hI : Inv C) {T : TypeId} {a : AV} {v : Value} (hr : Rel C a v) : Rel C (form1 C.P T a) v := by
  unfold form1
  split
  · split
    · split
      · rename_i h; exact (rel_expand hI (chk_ptyp _ _ _ _ h hr.2.2) hr).1
      · exact hr
    · exact hr
  · split
    · split
      · rename_i h; exact (rel_expand hI (chk_ptyp _ _ _ _ h hr.2.2) hr).1
      · exact hr
    · exact hr
  · exact hr
theorem form_MT {C : Ctx} (hI : Inv C) : ∀ (Ts : List TypeId) (l : List AV) (vs : List Value), MT C l vs → MT C (formL C.P Ts l) vs
  | [], l, vs, h => by cases l <;> exact h
  | _ :: _, [], vs, h => by simpa only [formL] using h
  | T :: Ts, a :: l, [], h => by simp [MT] at h
  | T :: Ts, a :: l, v :: vs, h => by
    simp only [MT] at h
    have := form1_rel hI (T := T) (a := a) (v := v) ⟨h.1, h.2.1, h.2.2.1⟩
    simp only [formL, MT]
    exact ⟨this.1, this.2.1, this.2.2, form_MT hI Ts l vs h.2.2.2⟩
def ReadsTo (P : Program) (C : Ctx) (act : Act) (o : Oper) (x : AV) : Prop :=
  (∃ v, (execOp act.eval o).run P C.w = .ok (.value v) C.w ∧ Rel C x v) ∨
  (∃ f args u, (execOp act.eval o).run P C.w = .ok (.enter f args) C.w ∧ x = .lit u ∧ oneV u = true ∧
    CallsIn Fence.wide 0 P f args C.w (fun e w' => e = .returned u ∧ Grows C.w w')) ∨
  (∃ f args, (execOp act.eval o).run P C.w = .ok (.enter f args) C.w ∧ refs x = [] ∧ FreshTo P f C args x)
theorem evL_one {s : S} {l : List Operand} {a : AV} (h : evL s l = [a]) : ∃ x, l = [x] ∧ ev s x = a := by
  match l, h with
  | [x], h => simp only [evL, List.cons.injEq, and_true] at h; exact ⟨x, rfl, h⟩
  | [], h => simp [evL] at h
  | _ :: _ :: _, h => simp [evL] at h
theorem evL_two {s : S} {l : List Operand} {a b : AV} (h : evL s l = [a, b]) : ∃ x y, l = [x, y] ∧ ev s x = a ∧ ev s y = b := by
  match l, h with
  | [x, y], h => simp only [evL, List.cons.injEq, and_true] at h; exact ⟨x, y, rfl, h.1, h.2⟩
  | [], h => simp [evL] at h
  | [_], h => simp [evL] at h
  | _ :: _ :: _ :: _, h => simp [evL] at h
theorem run_mapM_list {P : Program} {w : World} {α β : Type} {g : α → Sem β} {r : α → β} : ∀ (l : List α), (∀ x, x ∈ l → (g x).run P w = .ok (r x) w) → (l.mapM g).run P w = .ok (l.map r) w
  | [], _ => by simp
  | a :: l, h => by
    simp only [List.mapM_cons, Sem.run_bind, h a (by simp), Result.andThen_ok, run_mapM_list l (fun x hx => h x (by simp [hx])), Sem.run_pure, List.map_cons]
theorem run_mapM_array {P : Program} {w : World} {α β : Type} {g : α → Sem β} {r : α → β} (l : Array α) (h : ∀ x, x ∈ l → (g x).run P w = .ok (r x) w) : (l.mapM g).run P w = .ok (l.map r) w := by
  rw [Array.mapM_eq_mapM_toList, Sem.run_map, run_mapM_list l.toList (fun x hx => h x (by simpa using hx))]
  simp only [Result.andThen_ok]
  rw [← Array.toList_map, Array.toArray_toList]
theorem ptyp_under {P : Program} {a : AV} {T : TypeId} (h : ptyp P a T) : ∃ d, P.underlying T = some d := by
  cases hu : P.underlying T with
  | none => cases a <;> simp [ptyp, hu] at h
  | some d => exact ⟨d, rfl⟩
theorem ptypF_under {P : Program} : ∀ (l : List AV) (fs : List Field), ptypF P l fs → ∀ f, f ∈ fs → ∃ d, P.underlying f.type = some d
  | [], [], _, _, h => by simp at h
  | [], _ :: _, h, _, _ => by simp [ptypF] at h
  | _ :: _, [], h, _, _ => by simp [ptypF] at h
  | a :: l, g :: fs, h, f, hf => by
    simp only [ptypF] at h
    simp only [List.mem_cons] at hf
    rcases hf with rfl | hf
    · exact ptyp_under h.1
    · exact ptypF_under l fs h.2 f hf
theorem run_value {P : Program} {w : World} {x : Sem Value} {v : Value} (h : x.run P w = .ok v w) : (do pure (Next.value (← x)) : Sem Next).run P w = .ok (.value v) w := by
  simp [h]
theorem kept_sound {C : Ctx} (hI : Inv C) {T : TypeId} {a : AV} {u va : Value} (h : keptA C.P T a = some u) (hr : Rel C a va) : (Instr.loadAt T va).run C.P C.w = .ok u C.w ∧ oneV u = true := by
  unfold keptA at h
  split at h
  · rename_i g
    have hva := rel_lit_inv hr
    subst hva
    split at h
    · rename_i cs ty fz hk
      split at h
      · rename_i v hcs
        split at h
        · rename_i hc
          simp only [Option.some.injEq] at h
          subst h
          simp only [Bool.and_eq_true, Bool.not_eq_true'] at hc
          obtain ⟨⟨h1, h2⟩, h3⟩ := hc
          obtain ⟨d, hd⟩ := Option.isSome_iff_exists.1 h3
          obtain ⟨_, hh⟩ := hI.kept _ _ hk
          have hcell : C.w.cell? ⟨g, 0, none⟩ = some v := by
            have : cs[0]? = some v := by rw [← Array.getElem?_toList, hcs]; rfl
            simp only [World.cell?, hh]
            exact this
          refine ⟨?_, h1⟩
          simp only [Instr.loadAt, Instr.sureAddr, Sem.run_bind, Sem.run_pure, Result.andThen_ok, loadVar, run_isAgg hd, h2, Bool.false_eq_true, if_false]
          exact run_load_at hcell
        · cases h
      · cases h
    · cases h
  · cases h
theorem tab_sound {C : Ctx} (hI : Inv C) {T : TypeId} {a x : AV} {va : Value} (h : tabA C.P T a = some (true, x)) (hr : Rel C a va) : ∃ u, x = .lit u ∧ (Instr.loadAt T va).run C.P C.w = .ok u C.w ∧ oneV u = true := by
  unfold tabA at h
  split at h
  · rename_i g off
    have hva := rel_lit_inv hr
    subst hva
    split at h
    · rename_i cs ty fz hk
      split at h
      · split at h
        · rename_i hT
          split at h
          · rename_i hu
            simp only [Option.some.injEq, Prod.mk.injEq, decide_eq_true_eq] at h
            obtain ⟨hlt, rfl⟩ := h
            obtain ⟨_, hh⟩ := hI.kept _ _ hk
            have key : ∀ l : List Value, u8s l = true → ∀ v, v ∈ l → ∃ n, v = .int .u8 n := by
              intro l
              induction l with
              | nil => intro _ v hv; cases hv
              | cons b l ih =>
                intro hl v hv
                match b, hl with
                | .int .u8 m, hl =>
                  rcases List.mem_cons.1 hv with rfl | hv
                  · exact ⟨m, rfl⟩
                  · exact ih hl v hv
            obtain ⟨n, hn⟩ := key _ hu cs[off] (by simp)
            have hcell : C.w.cell? ⟨g, off, none⟩ = some (.int .u8 n) := by
              simp only [World.cell?, hh]
              rw [← hn]; simp [hlt]
            have ht : tabI C.P g off = n := by
              unfold tabI
              rw [hk]
              simp [hlt, hn]
            refine ⟨_, rfl, ?_, rfl⟩
            rw [ht]
            have hagg : isAggT C.P.toProgram T = false := by simp [isAggT, hT]
            simp only [Instr.loadAt, Instr.sureAddr, Sem.run_bind, Sem.run_pure, Result.andThen_ok, loadVar, run_isAgg hT, hagg, Bool.false_eq_true, if_false]
            exact run_load_at hcell
          · cases h
        · cases h
      · cases h
    · cases h
  · cases h
theorem read_sound {E : Env} (hE : ProgOK E.P) (hp : PcallOK E) {C : Ctx} (hC : C.P = E.P) (hI : Inv C) {s : S} {act : Act} (hs : SRel C s act) {o : Oper} {x : AV} (h : readA E s o.op = some (true, x)) : ReadsTo C.P C act o x := by
  obtain ⟨dst, op, type, pos, after, guard⟩ := o
  simp only at h
  have hE' : ProgOK C.P := hC ▸ hE
  unfold readA at h
  split at h
  ·
    rename_i y
    simp only [Option.some.injEq, Prod.mk.injEq, true_and] at h; subst h
    exact .inl ⟨_, rfl, rel_ev hs y⟩
  · rename_i y
    simp only [Option.some.injEq, Prod.mk.injEq, true_and] at h; subst h
    exact .inl ⟨_, rfl, rel_ev hs y⟩
  ·
    rename_i T y
    split at h
    · rename_i r hu
      simp only [Option.some.injEq] at h; subst h
      rw [← hC] at hu
      obtain ⟨u, rfl, h1, h2⟩ := tab_sound hI hu (rel_ev hs y)
      exact .inl ⟨u, run_value h1, rel_lit h2⟩
    split at h
    · rename_i u hu
      simp only [Option.some.injEq, Prod.mk.injEq, true_and] at h; subst h
      rw [← hC] at hu
      exact .inl ⟨u, run_value (kept_sound hI hu (rel_ev hs y)).1, rel_lit (kept_sound hI hu (rel_ev hs y)).2⟩
    · rw [← hC, ← hs.st] at h
      obtain ⟨v, h1, h2⟩ := load_sound hI h (rel_ev hs y)
      exact .inl ⟨v, run_value h1, h2⟩
  ·
    rename_i T y
    rw [← hC] at h
    have hr := rel_ev hs y
    unfold makeIfcA at h
    split at h
    · cases h
    · cases h
    · rename_i d hni hd
      have hrun : ∀ v, (Instr.makeInterface T v).run C.P C.w = .ok (.iface T v) C.w := fun v => by
        simp only [Instr.makeInterface, Sem.run_bind, run_underlying hd, Result.andThen_ok]
        cases d <;> first | rfl | exact absurd rfl (hni _)
      split at h
      · rename_i v hev
        cases h
        rw [hev] at hr
        have := rel_lit_inv hr
        exact .inl ⟨.iface T v, by rw [← this]; exact run_value (hrun _), rel_lit rfl⟩
      · cases h
      · rename_i hne1 hne2
        cases h
        refine .inl ⟨.iface T (act.eval y), run_value (hrun _), .inl rfl, .inl rfl, ?_⟩
        simp only [M]
        refine ⟨act.eval y, rfl, hr.1.resolve_right hne2, hr.2.1.resolve_right hne2, hr.2.2⟩
  ·
    rename_i S T y
    rw [← hC] at h
    have hr := rel_ev hs y
    unfold convS at h
    split at h
    · rename_i E hS hT
      split at h
      · rename_i hE
        split at h
        · rename_i hc
          have conv : ∀ p n cap, act.eval y = .slice p n cap → (convert S T (act.eval y)).run C.P C.w = (Conv.bytesToString (act.eval y)).run C.P C.w := fun p n cap hv => by
            rw [hv]; exact Go.run_convert_bytes_string C.w S T E p n cap hS hE hT
          split at h
          · rename_i hev
            cases h
            rw [hev] at hr
            have := rel_lit_inv hr
            refine .inl ⟨.string ⟨#[]⟩, run_value ?_, rel_lit rfl⟩
            rw [conv _ _ _ this, this]; rfl
          · rename_i E' l hev
            split at h
            · rename_i hEE
              subst hEE
              cases h
              rw [hev] at hr
              obtain ⟨_, p, cap, hv, _⟩ := rel_lst hr
              refine .inl ⟨.string (bytesOf l), run_value ?_, rel_lit rfl⟩
              rw [conv _ _ _ hv]
              exact bytes_run hE hc hr
            · cases h
          · rename_i i lo n hev
            split at h
            · rename_i E' l hel
              split at h
              · rename_i hEE
                subst hEE
                cases h
                rw [hev] at hr
                have hel' : elT (nthO C.st i) = some (E, l) := by rw [hs.st]; exact hel
                obtain ⟨h1, _⟩ := bytes_run_slc hI hE hc hel' hr
                refine .inl ⟨.string (bytesOf ((l.drop lo).take n)), run_value ?_, rel_lit rfl⟩
                obtain ⟨hi, hsl⟩ := rel_slc hr
                obtain ⟨_, ⟨_, hv, _⟩ | ⟨_, cap, q, hv, _⟩⟩ := hsl.1 E l hel'
                · rw [conv _ _ _ hv]; exact h1
                · rw [conv _ _ _ hv]; exact h1
              · cases h
            · cases h
          · cases h
        · cases h
      · cases h
    · unfold convA at h
      split at h
      · rename_i d k k' n hS hT hev
        cases h
        rw [hev] at hr
        have := rel_lit_inv hr
        refine .inl ⟨.int k (k.wrap n), run_value ?_, rel_lit rfl⟩
        rw [this]
        simp only [convert, Sem.run_bind, run_underlying hS, run_underlying hT, Result.andThen_ok]
        rfl
      · cases h
  ·
    rename_i y
    have hr := rel_ev hs y
    split at h
    · rename_i i k p off hev
      split at h
      · rename_i hl
        simp only [Option.some.injEq, Prod.mk.injEq, true_and] at h; subst h
        rw [hev] at hr
        obtain ⟨_, hp⟩ := rel_ptr hr
        obtain ⟨b, o, hv⟩ := ptr_addr (by rw [hs.st]; exact hl) hp
        rw [hv] at hr
        exact .inl ⟨_, by simp [execOp, hv], hr⟩
      · simp at h
    · rename_i T a hev
      simp only [Option.some.injEq, Prod.mk.injEq, true_and] at h; subst h
      rw [hev] at hr
      obtain ⟨b, o, hv, _⟩ := rel_pim hr
      rw [hv] at hr
      exact .inl ⟨_, by simp [execOp, hv], hr⟩
    · rename_i f caps hev
      simp only [Option.some.injEq, Prod.mk.injEq, true_and] at h; subst h
      rw [hev] at hr
      obtain ⟨vs, hv, _⟩ := rel_clo hr
      rw [hv] at hr
      exact .inl ⟨_, by simp [execOp, hv], hr⟩
    · simp at h
  ·
    rename_i op T y z T'
    split at h
    · rename_i r hb
      simp only [Option.some.injEq] at h
      subst h
      rw [← hC] at hb
      obtain ⟨v, h1, h2, rfl⟩ := ifc_sound (ox := y) hb (rel_ev hs y)
      exact .inl ⟨v, run_value h1, h2⟩
    · split at h
      · rename_i r hb
        simp only [Option.some.injEq] at h
        subst h
        obtain ⟨v, h1, h2⟩ := bool_sound (C := C) (T := T) (ox := y) (oy := z) (by first | exact hb | (rw [hC]; exact hb)) (rel_ev hs y) (rel_ev hs z)
        exact .inl ⟨v, run_value h1, h2⟩
      · obtain ⟨v, h1, h2⟩ := bin_sound (C := C) (T := T) (ox := y) (oy := z) h (rel_ev hs y) (rel_ev hs z)
        exact .inl ⟨v, run_value h1, h2⟩
  ·
    rename_i op T y
    have hr := rel_ev hs y
    split at h
    · rename_i b hev
      simp only [Option.some.injEq, Prod.mk.injEq, true_and] at h; subst h
      rw [hev] at hr
      have := rel_lit_inv hr
      exact .inl ⟨.bool !b, by simp [execOp, this, Op.unary], rel_lit rfl⟩
    · rename_i k n hev
      simp only [Option.some.injEq, Prod.mk.injEq, true_and] at h; subst h
      rw [hev] at hr
      have := rel_lit_inv hr
      exact .inl ⟨.int k (k.wrap (0 - n)), by simp [execOp, this, Op.unary, Op.intArith], rel_lit rfl⟩
    · simp at h
  ·
    rename_i T y lo hi
    rw [← hC] at h
    obtain ⟨v, h1, h2⟩ := slice_sound hI hs h (rel_ev hs y)
    exact .inl ⟨v, run_value h1, h2⟩
  ·
    rename_i T y lo hi m
    rw [← hC] at h
    obtain ⟨v, h1, h2⟩ := slice3_sound hI hs h (rel_ev hs y)
    exact .inl ⟨v, run_value h1, h2⟩
  ·
    rename_i T y f
    rw [← hC, ← hs.st] at h
    obtain ⟨v, h1, h2⟩ := fieldAddr_sound hI h (rel_ev hs y)
    exact .inl ⟨v, run_value h1, h2⟩
  ·
    rename_i T y f
    rw [← hC] at h
    obtain ⟨v, h1, h2⟩ := field_sound hI h (rel_ev hs y)
    exact .inl ⟨v, run_value h1, h2⟩
  ·
    rename_i T y i
    rw [← hC] at h
    obtain ⟨v, h1, h2⟩ := indexAddr_sound hI hs.st h (rel_ev hs y) (rel_ev hs i)
    exact .inl ⟨v, run_value h1, h2⟩
  ·
    rename_i T y i
    rw [← hC] at h
    obtain ⟨v, h1, h2⟩ := index_sound h (rel_ev hs y) (rel_ev hs i)
    exact .inl ⟨v, run_value h1, h2⟩
  ·
    rename_i T m k ok
    rw [← hC] at h
    obtain ⟨v, h1, h2⟩ := lookup_sound hI hs.st h (rel_ev hs m) (rel_ev hs k)
    exact .inl ⟨v, run_value h1, h2⟩
  ·
    rename_i y i
    have hr := rel_ev hs y
    split at h
    · rename_i l hev
      split at h
      · rename_i hi
        simp only [Option.some.injEq, Prod.mk.injEq, true_and] at h; subst h
        rw [hev] at hr
        obtain ⟨vs, hv, hm⟩ := rel_tup hr
        obtain ⟨v, h1, h2⟩ := MT_nth l vs.toList i hm hi
        have h1' : vs[i]? = some v := by simpa using h1
        exact .inl ⟨v, by simp [execOp, hv, Instr.extract, h1'], h2⟩
      · simp at h
    · simp at h
  ·
    rename_i f first caps
    split at h
    · rename_i hf
      simp only [Option.some.injEq, Prod.mk.injEq, true_and] at h; subst h
      have hf' : first = #[] := by simpa using hf
      subst hf'
      refine .inl ⟨.func (.func f) #[] (caps.map act.eval), by simp [execOp, Instr.makeFunc], .inl rfl, .inl rfl, ?_⟩
      simp only [M]
      exact ⟨caps.map act.eval, by simp [Value.cells], by simpa using evL_rel hs caps.toList⟩
    · simp at h
  ·
    rename_i T parts
    split at h
    · rename_i l hz
      split at h
      · rename_i a hb
        simp only [Option.some.injEq, Prod.mk.injEq, true_and] at h; subst h
        rw [← hC] at hz hb
        obtain ⟨i, zv, hi, hzv, hrz, _, hpz⟩ := zero_sound hI hz
        obtain ⟨cs, rfl, hsz, hm⟩ := rel_agg hrz
        simp only [ptyp] at hpz
        obtain ⟨fs, ⟨hfs, _⟩, hpf⟩ := hpz
        have hplace : ∀ (i : Nat) (fd : Field), fs[i]? = some fd → (fun j => ((fs.map fun f => (f.offset, C.P.cellsOf f.type)))[j]?) i = some (fd.offset, C.P.cellsOf fd.type) := by
          intro i fd h; simp [h]
        obtain ⟨cells', h1, h2⟩ := build_spec hI hs hfs hplace parts.toList l cs _ hb hm hsz
        have hmap := run_mapM_array (P := C.P) (w := C.w) (g := fun f : Field => do pure (f.offset, ← sizeOf f.type)) (r := fun f => (f.offset, C.P.cellsOf f.type)) fs (fun f hf => by
          obtain ⟨d, hd⟩ := ptypF_under _ _ hpf f (by simpa using hf)
          simp [run_sizeOf hd])
        have hparts : (parts.map fun x => (x.1, act.eval x.2)).toList = parts.toList.map fun p => (p.1, act.eval p.2) := by simp
        refine .inl ⟨.agg cells', run_value ?_, h2⟩
        unfold Instr.build
        simp only [Sem.run_bind, run_zero hi hzv, Result.andThen_ok, run_underlying hfs, Value.cells]
        rw [hmap]
        simp only [Result.andThen_ok]
        have h1' : Instr.fill (fun x => (Array.map (fun f : Field => (f.offset, C.P.cellsOf f.type)) fs)[x]?) cs (Array.map (fun x : Nat × Operand => (x.1, act.eval x.2)) parts).toList = some cells' := by rw [hparts]; exact h1
        simp only [h1', Sem.run_pure]
      · simp at h
    · simp at h
  ·
    rename_i args ts
    split at h
    · rename_i a T tl hev hts
      split at h
      · rename_i y hl
        simp only [Option.some.injEq, Prod.mk.injEq, true_and] at h; subst h
        obtain ⟨z, hz, rfl⟩ := evL_one hev
        have ha : args = #[z] := by rw [← Array.toArray_toList (xs := args), hz]
        subst ha
        have hts' : ts[0]? = some T := by rw [← Array.getElem?_toList, hts]; rfl
        rw [← hC, ← hs.st] at hl
        obtain ⟨v, h1, h2⟩ := len_sound hI (ty := type) hts' hl (rel_ev hs z)
        exact .inl ⟨v, by simp [execOp, resolve, invoke, builtin, h1], h2⟩
      · simp at h
    · simp at h
  ·
    rename_i args ts
    split at h
    · rename_i k n k' m hev
      split at h
      · rename_i hk
        subst hk
        simp only [Option.some.injEq, Prod.mk.injEq, true_and] at h; subst h
        obtain ⟨y, z, hz, h1, h2⟩ := evL_two hev
        have ha : args = #[y, z] := by rw [← Array.toArray_toList (xs := args), hz]
        subst ha
        have r1 := rel_ev hs y; rw [h1] at r1
        have r2 := rel_ev hs z; rw [h2] at r2
        have e1 := rel_lit_inv r1
        have e2 := rel_lit_inv r2
        exact .inl ⟨_, by simp [execOp, resolve, invoke, builtin, Builtin.min_, Builtin.min2, e1, e2], rel_lit rfl⟩
      · simp at h
    · simp at h
  ·
    rename_i args ts
    split at h
    · rename_i k n k' m hev
      split at h
      · rename_i hk
        subst hk
        simp only [Option.some.injEq, Prod.mk.injEq, true_and] at h; subst h
        obtain ⟨y, z, hz, h1, h2⟩ := evL_two hev
        have ha : args = #[y, z] := by rw [← Array.toArray_toList (xs := args), hz]
        subst ha
        have r1 := rel_ev hs y; rw [h1] at r1
        have r2 := rel_ev hs z; rw [h2] at r2
        have e1 := rel_lit_inv r1
        have e2 := rel_lit_inv r2
        exact .inl ⟨_, by simp [execOp, resolve, invoke, builtin, Builtin.max_, Builtin.max2, e1, e2], rel_lit rfl⟩
      · simp at h
    · simp at h
  ·
    rename_i f args ts
    split at h
    · rename_i as hpa
      rw [← hs.st] at hpa
      have hmt := pureArgs_MT hI _ as _ hpa (evL_rel hs args.toList)
      have hmt2 := form_MT (still_inv hI) (paramsOf E.P f) as _ hmt
      rw [show C.still.P = E.P from hC] at hmt2
      obtain ⟨fn, hf, hb, ⟨u, rfl, hu, hcall⟩ | ⟨hl, hx, hcall⟩⟩ := hp f _ x h
      · have hrun := hcall C.still (args.map act.eval) hC (still_inv hI) (by simpa using hmt2)
        rw [← hC] at hf hrun
        refine .inr (.inl ⟨f, args.map act.eval, u, ?_, rfl, hu, hrun⟩)
        simp [execOp, resolve, Deferred.ofValue, invoke, Act.eval, run_callFunc hE' hf hb]
      · have hmt3 := MT_lits (C' := C) _ _ hl hmt2
        have hrun := hcall C (args.map act.eval) hC hI (by simpa using hmt3)
        rw [← hC] at hf hrun
        refine .inr (.inr ⟨f, args.map act.eval, ?_, hx, hrun⟩)
        simp [execOp, resolve, Deferred.ofValue, invoke, Act.eval, run_callFunc hE' hf hb]
    · simp at h
  · simp at h
end Go.Dn
