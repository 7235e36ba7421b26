import Derived.Test.YtdpmikfheebicaaGreatDoorDnK
namespace Go.Dn
open Go
structure pD (P : Program) : Prop where
 lay : eQ P
 names : ∀ (f : Nat) (fn : Func), P.funcs[f]? = some fn → (fn.name == "runtime.NumGoroutine") = false
 mixed : P.follows .mixedOrders = true
structure gO (w w' : World) : Prop where
 size : w.heap.size ≤ w'.heap.size
 os : w'.os = w.os
 tape : w'.tape = w.tape
 output : w'.output = w.output
 heap : ∀ b, b < w.heap.size → w'.heap[b]? = w.heap[b]?
theorem gO.refl (w : World) : gO w w := ⟨Nat.le_refl _, rfl, rfl, rfl, fun _ _ => rfl⟩
theorem gO.trans {a b c : World} (h : gO a b) (k : gO b c) : gO a c :=
 ⟨Nat.le_trans h.size k.size, k.os.trans h.os, k.tape.trans h.tape, k.output.trans h.output, fun i hi => (k.heap i (by have := h.size; omega)).trans (h.heap i hi)⟩
def u7 : List AV → Bool
 | [] => true
 | .lit v :: l => ba v && u7 l
 | _ :: _ => false
def Ctx.bare (C : Ctx) : Ctx := { C with X := fun b => (C.P.kept b).isSome = true, st := [], ι := fun _ => ⟨0, 0, true⟩, cls := id }
theorem Jp {C : Ctx} (hI : Inv C) : Inv C.bare := by
 refine ⟨hI.lay, fun i hi => by simp [Ctx.bare] at hi, fun i j hi => by simp [Ctx.bare] at hi, fun b hb => ?_, fun i hi => by simp [Ctx.bare] at hi, fun b hb => absurd rfl hb, fun b o h => ?_⟩
 ·obtain ⟨o, h⟩ := Option.isSome_iff_exists.1 hb
  exact hI.xs b (hI.kept b o h).1
 ·exact ⟨by show (C.P.kept b).isSome = true; rw [show C.P.kept b = some o from h]; rfl, (hI.kept b o h).2⟩
theorem zp {C C' : Ctx} : ∀ (l : List AV) (vs : List Value), u7 l = true → MT C l vs → MT C' l vs
 | [], vs, _, h => by simpa [MT] using h
 | .lit u :: l, [], _, h => by simp [MT] at h
 | .lit u :: l, v :: vs, hl, h => by
  simp only [u7, aa1] at hl
  simp only [MT, M] at h ⊢
  exact ⟨h.1, h.2.1, h.2.2.1, zp l vs hl.2 h.2.2.2⟩
 | .cw :: _, _, hl, _ | .ae _ _ :: _, _, hl, _ | .agg _ :: _, _, hl, _ | .bR _ :: _, _, hl, _ | .a7 _ _ _ :: _, _, hl, _ | .ptr _ _ _ _ :: _, _, hl, _ | .jH _ _ :: _, _, hl, _ | .mp _ :: _, _, hl, _
 | .dv _ :: _, _, hl, _ | .kr _ _ :: _, _, hl, _ | .dq _ _ :: _, _, hl, _ | .jb _ _ :: _, _, hl, _ => by simp [u7] at hl
def D1 (P : Program) (f : FuncId) (C : Ctx) (vs : Array Value) (x : AV) : Prop :=
 CallsIn Fence.wide 0 P f vs C.w (fun e w' => ∃ v C1, e = .returned v ∧ C1.w = w' ∧ C1.P = C.P ∧ Inv C1 ∧ Rel C1 x v ∧ Ext 0 C.bare C1)
def DT (E : Env) : Prop :=
 ∀ f as x, E.jE f as = some (true, x) → ∃ fn, E.P.funcs[f]? = some fn ∧ fn.body.isSome = true ∧
  ((∃ u, x = .lit u ∧ ba u = true ∧
   ∀ (C : Ctx) (vs : Array Value), C.P = E.P → Inv C → MT C as vs.toList → CallsIn Fence.wide 0 E.P f vs C.w (fun e w' => e = .returned u ∧ gO C.w w')) ∨
   (u7 as = true ∧ refs x = [] ∧ ∀ (C : Ctx) (vs : Array Value), C.P = E.P → Inv C → MT C as vs.toList → D1 E.P f C vs x))
theorem jK {P : Program} (hP : pD P) {w : World} {f : FuncId} {fn : Func} (hf : P.funcs[f]? = some fn) (hb : fn.body.isSome = true) (args : Array Value) :
  (callFunc f args).run P w = .ok (.enter f args) w := by
 have hn := hP.names f fn hf
 have hn' : ¬ fn.name = "runtime.NumGoroutine" := by simpa using hn
 have hb' : ¬ fn.body = none := by intro e; simp [e] at hb
 simp [callFunc, hf, hn', hb']
theorem tk {C : Ctx} {s : S} {a : Act} (hs : dn C s a) : ∀ (l : List Operand), MT C (oR s l) (l.map a.eval)
 | [] => by simp [oR, MT]
 | x :: l => by
  simp only [oR, ac2, MT]
  have := bp hs x
  exact ⟨this.1, this.2.1, this.2.2, tk hs l⟩
theorem se {C C' : Ctx} (hI : Inv C) (hk : bL C C') (hw : C'.w = C.w) : ∀ (l m : List AV) (vs : List Value), fq C.st l = some m → (∀ i, i ∈ fy l → i < C.st.length → (C.ι i).isNil = false → C'.X (C.ι i).block) → MT C l vs → MT C' m vs
 | [], m, vs, h, _, hm => by simp only [fq, aa3] at h; subst h; simpa [MT] using hm
 | _ :: _, _, [], _, _, hm => by simp [MT] at hm
 | a :: l, m, v :: vs, h, hr, hm => by
  simp only [fq] at h
  split at h
  ·rename_i b m' h1 h2
   simp only [aa3] at h; subst h
   simp only [MT] at hm ⊢
   obtain ⟨g1, g2, g3, g4⟩ := hG a b h1
   have hj : a ≠ .cw := by intro e; subst e; simp [b7] at h1
   refine ⟨.inl (by rw [g1]; exact hm.1.resolve_right hj), .inl (by rw [g2]; exact hm.2.1.resolve_right hj), sZ hI hk hw a b _ _ h1 (fun i hi => hr i (by simp [fy, hi])) hm.2.2.1,
    se hI hk hw l m' vs h2 (fun i hi => hr i (by simp [fy, hi])) hm.2.2.2⟩
  ·simp at h
theorem uC {C : Ctx} (hI : Inv C) : ∀ {l m : List AV}, fq C.st l = some m → ∀ i, i ∈ fy l → i < C.st.length → (C.ι i).isNil = false → (C.ι i).block < C.w.heap.size := by
 intro h i hi hlt hn
 have : ∃ T xs, iE (aD C.st i) = some (T, xs) := goL _ _ h i hi
 obtain ⟨T, xs, hel⟩ := this
 obtain ⟨_, ⟨h0, _⟩ | ⟨_, h1, _⟩⟩ := uR hI hlt hel
 ·rw [hn] at h0; cases h0
 ·exact h1
where
 go {C : Ctx} : ∀ (a b : AV), b7 C.st a = some b → ∀ i, i ∈ rowsOf a → ∃ T xs, iE (aD C.st i) = some (T, xs)
  | .a7 j lo n, b, h, i, hi => by
   simp only [rowsOf, List.mem_singleton] at hi; subst hi
   simp only [b7] at h
   split at h
   ·exact ⟨_, _, ‹_›⟩
   ·simp at h
  | .agg l, b, h, i, hi => by
   simp only [b7, Option.map_eq_some_iff] at h
   obtain ⟨m, h1, _⟩ := h
   exact goF l m h1 i (by simpa [rowsOf] using hi)
  | .jb T a, b, h, i, hi => by
   simp only [b7, Option.map_eq_some_iff] at h
   obtain ⟨m, h1, _⟩ := h
   exact go a m h1 i (by simpa [rowsOf] using hi)
  | .cw, _, _, _, hi | .lit _, _, _, _, hi | .ae _ _, _, _, _, hi | .bR _, _, _, _, hi | .ptr _ _ _ _, _, _, _, hi | .jH _ _, _, _, _, hi | .mp _, _, _, _, hi | .dv _, _, _, _, hi
  | .kr _ _, _, _, _, hi | .dq _ _, _, _, _, hi => by simp [rowsOf] at hi
 goF {C : Ctx} : ∀ (l m : List AV), jC C.st l = some m → ∀ i, i ∈ fy l → ∃ T xs, iE (aD C.st i) = some (T, xs)
  | [], _, _, _, hi => by simp [fy] at hi
  | a :: l, m, h, i, hi => by
   simp only [jC] at h
   simp only [fy, List.mem_append] at hi
   split at h
   ·rename_i b m' h1 h2
    rcases hi with hi | hi
    ·exact go a b h1 i hi
    ·exact goF l m' h2 i hi
   ·simp at h
 goL {C : Ctx} : ∀ (l m : List AV), fq C.st l = some m → ∀ i, i ∈ fy l → ∃ T xs, iE (aD C.st i) = some (T, xs)
  | [], _, _, _, hi => by simp [fy] at hi
  | a :: l, m, h, i, hi => by
   simp only [fq] at h
   simp only [fy, List.mem_append] at hi
   split at h
   ·rename_i b m' h1 h2
    rcases hi with hi | hi
    ·exact go a b h1 i hi
    ·exact goL l m' h2 i hi
   ·simp at h
theorem B2 {C : Ctx} : ∀ (l : List AV) (vs : List Value) (i : Nat), MT C l vs → i < l.length → ∃ v, vs[i]? = some v ∧ Rel C (nth l i) v
 | [], _, _, _, h => by simp at h
 | _ :: _, [], _, h, _ => by simp [MT] at h
 | a :: l, v :: vs, 0, h, _ => by simp only [MT] at h; exact ⟨v, rfl, h.1, h.2.1, h.2.2.1⟩
 | a :: l, v :: vs, i + 1, h, hi => by
  simp only [MT] at h
  simpa [nth] using B2 l vs i h.2.2.2 (by simpa using hi)
theorem oc {C : Ctx} : ∀ (l : List AV) (vs : List Value), MT C l vs → vs.length = l.length
 | [], vs, h => by simp only [MT] at h; simp [h]
 | _ :: _, [], h => by simp [MT] at h
 | a :: l, v :: vs, h => by simp only [MT] at h; simp [oc l vs h.2.2.2]
theorem FW {C : Ctx} (hI : Inv C) {T ty : TypeId} {ts : Array TypeId} (hts : ts[0]? = some T) {a x : AV} {va : Value} (h : yn C.P C.st T a = some x) (hr : Rel C a va) :
  ∃ v, (Builtin.len_ ts ty #[va]).run C.P C.w = .ok v C.w ∧ Rel C x v := by
 unfold yn at h
 split at h
 ·rename_i hT
  simp only [aa3] at h; subst h
  have := aR hr; subst this
  exact ⟨_, by simp [Builtin.len_, hts, run_underlying hT, goInt], bc rfl⟩
 ·rename_i hT
  simp only [aa3] at h; subst h
  have := aR hr; subst this
  exact ⟨_, by simp [Builtin.len_, hts, run_underlying hT, goInt], bc rfl⟩
 ·rename_i i hT
  split at h
  ·rename_i K V es hst
   simp only [aa3] at h; subst h
   obtain ⟨hi, hmp⟩ := rL hr
   have := hmp K V es hst; subst this
   obtain ⟨entries, clock, hh, hent, hmap⟩ := mh hI hi hst
   have hl : ∀ (es : List (Value × AV)) (ents : List MapEntry), cn C V es ents → es.length = ents.length := by
    intro es; induction es with
    | nil => intro ents h; cases ents <;> simp_all [cn]
    | cons x es ih => intro ents h; cases ents <;> simp_all [cn]; exact ih _ h.2.2.2
   have := hl es _ hent
   refine ⟨.int .i64 entries.size, by simp [Builtin.len_, hts, run_underlying hT, run_getObj_map hh, goInt], ?_⟩
   rw [this]; simpa using bc rfl
  ·simp at h
 ·rename_i hT
  simp only [aa3] at h; subst h
  have := aR hr; subst this
  exact ⟨_, by simp [Builtin.len_, hts, run_underlying hT, goInt], bc rfl⟩
 ·rename_i i lo n hT
  split at h
  ·rename_i y hel
   obtain ⟨T', xs⟩ := y
   simp only [aa3] at h; subst h
   obtain ⟨hi, hs⟩ := mf hr
   obtain ⟨_, hv⟩ := hs T' xs hel
   rcases hv with ⟨_, rfl, _, rfl⟩ | ⟨_, cap, q, rfl, _⟩
   ·exact ⟨_, by simp [Builtin.len_, hts, run_underlying hT, goInt], bc rfl⟩
   ·exact ⟨_, by simp [Builtin.len_, hts, run_underlying hT, goInt], bc rfl⟩
  ·simp at h
 ·rename_i T' l hT
  simp only [aa3] at h; subst h
  obtain ⟨_, p, cap, rfl, _⟩ := qB hr
  exact ⟨_, by simp [Builtin.len_, hts, run_underlying hT, goInt], bc rfl⟩
 ·simp at h
theorem wJ {C : Ctx} (hI : Inv C) {T : TypeId} {a : AV} {v : Value} (hr : Rel C a v) : Rel C (DV C.P T a) v := by
 unfold DV
 split
 ·split
  ·split
   ·rename_i h; exact (fZ hI (ik _ _ _ _ h hr.2.2) hr).1
   ·exact hr
  ·exact hr
 ·split
  ·split
   ·rename_i h; exact (fZ hI (ik _ _ _ _ h hr.2.2) hr).1
   ·exact hr
  ·exact hr
 ·exact hr
theorem td {C : Ctx} (hI : Inv C) : ∀ (Ts : List TypeId) (l : List AV) (vs : List Value), MT C l vs → MT C (uf C.P Ts l) vs
 | [], l, vs, h => by cases l <;> exact h
 | _ :: _, [], vs, h => by simpa only [uf] using h
 | T :: Ts, a :: l, [], h => by simp [MT] at h
 | T :: Ts, a :: l, v :: vs, h => by
  simp only [MT] at h
  have := wJ hI (T := T) (a := a) (v := v) ⟨h.1, h.2.1, h.2.2.1⟩
  simp only [uf, MT]
  exact ⟨this.1, this.2.1, this.2.2, td hI Ts l vs h.2.2.2⟩
def Ko (P : Program) (C : Ctx) (act : Act) (o : Oper) (x : AV) : Prop :=
 (∃ v, (execOp act.eval o).run P C.w = .ok (.value v) C.w ∧ Rel C x v) ∨
 (∃ f args u, (execOp act.eval o).run P C.w = .ok (.enter f args) C.w ∧ x = .lit u ∧ ba u = true ∧
  CallsIn Fence.wide 0 P f args C.w (fun e w' => e = .returned u ∧ gO C.w w')) ∨
 (∃ f args, (execOp act.eval o).run P C.w = .ok (.enter f args) C.w ∧ refs x = [] ∧ D1 P f C args x)
theorem ER {s : S} {l : List Operand} {a : AV} (h : oR s l = [a]) : ∃ x, l = [x] ∧ ev s x = a := by
 match l, h with
 | [x], h => simp only [oR, List.cons.injEq, and_true] at h; exact ⟨x, rfl, h⟩
 | [], h => simp [oR] at h
 | _ :: _ :: _, h => simp [oR] at h
theorem zu {s : S} {l : List Operand} {a b : AV} (h : oR s l = [a, b]) : ∃ x y, l = [x, y] ∧ ev s x = a ∧ ev s y = b := by
 match l, h with
 | [x, y], h => simp only [oR, List.cons.injEq, and_true] at h; exact ⟨x, y, rfl, h.1, h.2⟩
 | [], h => simp [oR] at h
 | [_], h => simp [oR] at h
 | _ :: _ :: _ :: _, h => simp [oR] at h
theorem oC {P : Program} {w : World} {α β : Type} {g : α → Sem β} {r : α → β} : ∀ (l : List α), (∀ x, x ∈ l → (g x).run P w = .ok (r x) w) → (l.mapM g).run P w = .ok (l.map r) w
 | [], _ => by simp
 | a :: l, h => by
  simp only [List.mapM_cons, Sem.run_bind, h a (by simp), Result.andThen_ok, oC l (fun x hx => h x (by simp [hx])), Sem.run_pure, ac2]
theorem uU {P : Program} {w : World} {α β : Type} {g : α → Sem β} {r : α → β} (l : Array α) (h : ∀ x, x ∈ l → (g x).run P w = .ok (r x) w) : (l.mapM g).run P w = .ok (l.map r) w := by
 rw [Array.mapM_eq_mapM_toList, Sem.run_map, oC l.toList (fun x hx => h x (by simpa using hx))]
 simp only [Result.andThen_ok]
 rw [← Array.toList_map, Array.toArray_toList]
theorem ke {P : Program} {a : AV} {T : TypeId} (h : bE P a T) : ∃ d, P.underlying T = some d := by
 cases hu : P.underlying T with
 | none => cases a <;> simp [bE, hu] at h
 | some d => exact ⟨d, rfl⟩
theorem sa {P : Program} : ∀ (l : List AV) (fs : List Field), dk P l fs → ∀ f, f ∈ fs → ∃ d, P.underlying f.type = some d
 | [], [], _, _, h => by simp at h
 | [], _ :: _, h, _, _ => by simp [dk] at h
 | _ :: _, [], h, _, _ => by simp [dk] at h
 | a :: l, g :: fs, h, f, hf => by
  simp only [dk] at h
  simp only [List.mem_cons] at hf
  rcases hf with rfl | hf
  ·exact ke h.1
  ·exact sa l fs h.2 f hf
theorem c9 {P : Program} {w : World} {x : Sem Value} {v : Value} (h : x.run P w = .ok v w) : (do pure (Next.value (← x)) : Sem Next).run P w = .ok (.value v) w := by
 simp [h]
theorem uB {C : Ctx} (hI : Inv C) {T : TypeId} {a : AV} {u va : Value} (h : H3 C.P T a = some u) (hr : Rel C a va) : (Instr.loadAt T va).run C.P C.w = .ok u C.w ∧ ba u = true := by
 unfold H3 at h
 split at h
 ·rename_i g
  have hva := aR hr
  subst hva
  split at h
  ·rename_i cs ty fz hk
   split at h
   ·rename_i v hcs
    split at h
    ·rename_i hc
     simp only [aa3] at h
     subst h
     simp only [aa1, Bool.not_eq_true'] at hc
     obtain ⟨⟨h1, h2⟩, h3⟩ := hc
     obtain ⟨d, hd⟩ := Option.isSome_iff_exists.1 h3
     obtain ⟨_, hh⟩ := hI.kept _ _ hk
     have hcell : C.w.cell? ⟨g, 0, none⟩ = some v := by
      have : cs[0]? = some v := by rw [← Array.getElem?_toList, hcs]; rfl
      simp only [World.cell?, hh]
      exact this
     refine ⟨?_, h1⟩
     simp only [Instr.loadAt, Instr.sureAddr, Sem.run_bind, Sem.run_pure, Result.andThen_ok, loadVar, lk hd, h2, Bool.false_eq_true, if_false]
     exact nr hcell
    ·cases h
   ·cases h
  ·cases h
 ·cases h
theorem Ct {E : Env} (hE : pD E.P) (hp : DT E) {C : Ctx} (hC : C.P = E.P) (hI : Inv C) {s : S} {act : Act} (hs : dn C s act) {o : Oper} {x : AV} (h : bO E s o.op = some (true, x)) : Ko C.P C act o x := by
 obtain ⟨dst, op, type, pos, after, guard⟩ := o
 simp only at h
 have hE' : pD C.P := hC ▸ hE
 unfold bO at h
 split at h
 ·
  rename_i y
  simp only [aa3, aa9, true_and] at h; subst h
  exact .inl ⟨_, rfl, bp hs y⟩
 ·rename_i y
  simp only [aa3, aa9, true_and] at h; subst h
  exact .inl ⟨_, rfl, bp hs y⟩
 ·
  rename_i T y
  split at h
  ·rename_i u hu
   simp only [aa3, aa9, true_and] at h; subst h
   rw [← hC] at hu
   exact .inl ⟨u, c9 (uB hI hu (bp hs y)).1, bc (uB hI hu (bp hs y)).2⟩
  ·rw [← hC, ← hs.st] at h
   obtain ⟨v, h1, h2⟩ := uN hI h (bp hs y)
   exact .inl ⟨v, c9 h1, h2⟩
 ·
  rename_i T y
  rw [← hC] at h
  have hr := bp hs y
  unfold Bm at h
  split at h
  ·cases h
  ·cases h
  ·rename_i d hni hd
   have hrun : ∀ v, (Instr.makeInterface T v).run C.P C.w = .ok (.iface T v) C.w := fun v => by
    simp only [Instr.makeInterface, Sem.run_bind, run_underlying hd, Result.andThen_ok]
    cases d <;> first | rfl | exact absurd rfl (hni _)
   split at h
   ·rename_i v hev
    cases h
    rw [hev] at hr
    have := aR hr
    exact .inl ⟨.iface T v, by rw [← this]; exact c9 (hrun _), bc rfl⟩
   ·cases h
   ·rename_i hne1 hne2
    cases h
    refine .inl ⟨.iface T (act.eval y), c9 (hrun _), .inl rfl, .inl rfl, ?_⟩
    simp only [M]
    refine ⟨act.eval y, rfl, hr.1.resolve_right hne2, hr.2.1.resolve_right hne2, hr.2.2⟩
 ·
  rename_i S T y
  rw [← hC] at h
  have hr := bp hs y
  unfold LM at h
  split at h
  ·rename_i d k k' n hS hT hev
   cases h
   rw [hev] at hr
   have := aR hr
   refine .inl ⟨.int k (k.wrap n), c9 ?_, bc rfl⟩
   rw [this]
   simp only [convert, Sem.run_bind, run_underlying hS, run_underlying hT, Result.andThen_ok]
   rfl
  ·cases h
 ·
  rename_i y
  have hr := bp hs y
  split at h
  ·rename_i i k p off hev
   split at h
   ·rename_i hl
    simp only [aa3, aa9, true_and] at h; subst h
    rw [hev] at hr
    obtain ⟨_, hp⟩ := ml hr
    obtain ⟨b, o, hv⟩ := Aw (by rw [hs.st]; exact hl) hp
    rw [hv] at hr
    exact .inl ⟨_, by simp [execOp, hv], hr⟩
   ·simp at h
  ·rename_i T a hev
   simp only [aa3, aa9, true_and] at h; subst h
   rw [hev] at hr
   obtain ⟨b, o, hv, _⟩ := zx hr
   rw [hv] at hr
   exact .inl ⟨_, by simp [execOp, hv], hr⟩
  ·rename_i f caps hev
   simp only [aa3, aa9, true_and] at h; subst h
   rw [hev] at hr
   obtain ⟨vs, hv, _⟩ := sP hr
   rw [hv] at hr
   exact .inl ⟨_, by simp [execOp, hv], hr⟩
  ·simp at h
 ·
  rename_i op T y z T'
  split at h
  ·rename_i r hb
   simp only [aa3] at h
   subst h
   rw [← hC] at hb
   obtain ⟨v, h1, h2, rfl⟩ := Gh (ox := y) hb (bp hs y)
   exact .inl ⟨v, c9 h1, h2⟩
  ·split at h
   ·rename_i r hb
    simp only [aa3] at h
    subst h
    obtain ⟨v, h1, h2⟩ := Ch (C := C) (T := T) (ox := y) (oy := z) (by first | exact hb | (rw [hC]; exact hb)) (bp hs y) (bp hs z)
    exact .inl ⟨v, c9 h1, h2⟩
   ·obtain ⟨v, h1, h2⟩ := Gm (C := C) (T := T) (ox := y) (oy := z) h (bp hs y) (bp hs z)
    exact .inl ⟨v, c9 h1, h2⟩
 ·
  rename_i op T y
  have hr := bp hs y
  split at h
  ·rename_i b hev
   simp only [aa3, aa9, true_and] at h; subst h
   rw [hev] at hr
   have := aR hr
   exact .inl ⟨.bool !b, by simp [execOp, this, Op.unary], bc rfl⟩
  ·rename_i k n hev
   simp only [aa3, aa9, true_and] at h; subst h
   rw [hev] at hr
   have := aR hr
   exact .inl ⟨.int k (k.wrap (0 - n)), by simp [execOp, this, Op.unary, Op.intArith], bc rfl⟩
  ·simp at h
 ·
  rename_i T y lo hi
  rw [← hC] at h
  obtain ⟨v, h1, h2⟩ := BB hI hs h (bp hs y)
  exact .inl ⟨v, c9 h1, h2⟩
 ·
  rename_i T y f
  rw [← hC, ← hs.st] at h
  obtain ⟨v, h1, h2⟩ := sE hI h (bp hs y)
  exact .inl ⟨v, c9 h1, h2⟩
 ·
  rename_i T y f
  rw [← hC] at h
  obtain ⟨v, h1, h2⟩ := Ay hI h (bp hs y)
  exact .inl ⟨v, c9 h1, h2⟩
 ·
  rename_i T y i
  rw [← hC] at h
  obtain ⟨v, h1, h2⟩ := sJ hI hs.st h (bp hs y) (bp hs i)
  exact .inl ⟨v, c9 h1, h2⟩
 ·
  rename_i T y i
  rw [← hC] at h
  obtain ⟨v, h1, h2⟩ := zE h (bp hs y) (bp hs i)
  exact .inl ⟨v, c9 h1, h2⟩
 ·
  rename_i T m k ok
  rw [← hC] at h
  obtain ⟨v, h1, h2⟩ := yf hI hs.st h (bp hs m) (bp hs k)
  exact .inl ⟨v, c9 h1, h2⟩
 ·
  rename_i y i
  have hr := bp hs y
  split at h
  ·rename_i l hev
   split at h
   ·rename_i hi
    simp only [aa3, aa9, true_and] at h; subst h
    rw [hev] at hr
    obtain ⟨vs, hv, hm⟩ := y4 hr
    obtain ⟨v, h1, h2⟩ := B2 l vs.toList i hm hi
    have h1' : vs[i]? = some v := by simpa using h1
    exact .inl ⟨v, by simp [execOp, hv, Instr.extract, h1'], h2⟩
   ·simp at h
  ·simp at h
 ·
  rename_i f first caps
  split at h
  ·rename_i hf
   simp only [aa3, aa9, true_and] at h; subst h
   have hf' : first = #[] := by simpa using hf
   subst hf'
   refine .inl ⟨.func (.func f) #[] (caps.map act.eval), by simp [execOp, Instr.makeFunc], .inl rfl, .inl rfl, ?_⟩
   simp only [M]
   exact ⟨caps.map act.eval, by simp [Value.cells], by simpa using tk hs caps.toList⟩
  ·simp at h
 ·
  rename_i T parts
  split at h
  ·rename_i l hz
   split at h
   ·rename_i a hb
    simp only [aa3, aa9, true_and] at h; subst h
    rw [← hC] at hz hb
    obtain ⟨i, zv, hi, hzv, hrz, _, hpz⟩ := eP hI hz
    obtain ⟨cs, rfl, hsz, hm⟩ := Dh hrz
    simp only [bE] at hpz
    obtain ⟨fs, ⟨hfs, _⟩, hpf⟩ := hpz
    have hplace : ∀ (i : Nat) (fd : Field), fs[i]? = some fd → (fun j => ((fs.map fun f => (f.offset, C.P.cellsOf f.type)))[j]?) i = some (fd.offset, C.P.cellsOf fd.type) := by
     intro i fd h; simp [h]
    obtain ⟨cells', h1, h2⟩ := uu hI hs hfs hplace parts.toList l cs _ hb hm hsz
    have hmap := uU (P := C.P) (w := C.w) (g := fun f : Field => do pure (f.offset, ← sizeOf f.type)) (r := fun f => (f.offset, C.P.cellsOf f.type)) fs (fun f hf => by
     obtain ⟨d, hd⟩ := sa _ _ hpf f (by simpa using hf)
     simp [run_sizeOf hd])
    have hparts : (parts.map fun x => (x.1, act.eval x.2)).toList = parts.toList.map fun p => (p.1, act.eval p.2) := by simp
    refine .inl ⟨.agg cells', c9 ?_, h2⟩
    unfold Instr.build
    simp only [Sem.run_bind, jg hi hzv, Result.andThen_ok, run_underlying hfs, Value.cells]
    rw [hmap]
    simp only [Result.andThen_ok]
    have h1' : Instr.fill (fun x => (Array.map (fun f : Field => (f.offset, C.P.cellsOf f.type)) fs)[x]?) cs (Array.map (fun x : Nat × Operand => (x.1, act.eval x.2)) parts).toList = some cells' := by rw [hparts]; exact h1
    simp only [h1', Sem.run_pure]
   ·simp at h
  ·simp at h
 ·
  rename_i args ts
  split at h
  ·rename_i a T tl hev hts
   split at h
   ·rename_i y hl
    simp only [aa3, aa9, true_and] at h; subst h
    obtain ⟨z, hz, rfl⟩ := ER hev
    have ha : args = #[z] := by rw [← Array.toArray_toList (xs := args), hz]
    subst ha
    have hts' : ts[0]? = some T := by rw [← Array.getElem?_toList, hts]; rfl
    rw [← hC, ← hs.st] at hl
    obtain ⟨v, h1, h2⟩ := FW hI (ty := type) hts' hl (bp hs z)
    exact .inl ⟨v, by simp [execOp, resolve, invoke, builtin, h1], h2⟩
   ·simp at h
  ·simp at h
 ·
  rename_i args ts
  split at h
  ·rename_i k n k' m hev
   split at h
   ·rename_i hk
    subst hk
    simp only [aa3, aa9, true_and] at h; subst h
    obtain ⟨y, z, hz, h1, h2⟩ := zu hev
    have ha : args = #[y, z] := by rw [← Array.toArray_toList (xs := args), hz]
    subst ha
    have r1 := bp hs y; rw [h1] at r1
    have r2 := bp hs z; rw [h2] at r2
    have e1 := aR r1
    have e2 := aR r2
    exact .inl ⟨_, by simp [execOp, resolve, invoke, builtin, Builtin.min_, Builtin.min2, e1, e2], bc rfl⟩
   ·simp at h
  ·simp at h
 ·
  rename_i args ts
  split at h
  ·rename_i k n k' m hev
   split at h
   ·rename_i hk
    subst hk
    simp only [aa3, aa9, true_and] at h; subst h
    obtain ⟨y, z, hz, h1, h2⟩ := zu hev
    have ha : args = #[y, z] := by rw [← Array.toArray_toList (xs := args), hz]
    subst ha
    have r1 := bp hs y; rw [h1] at r1
    have r2 := bp hs z; rw [h2] at r2
    have e1 := aR r1
    have e2 := aR r2
    exact .inl ⟨_, by simp [execOp, resolve, invoke, builtin, Builtin.max_, Builtin.max2, e1, e2], bc rfl⟩
   ·simp at h
  ·simp at h
 ·
  rename_i f args ts
  split at h
  ·rename_i as hpa
   rw [← hs.st] at hpa
   have hmt := se hI (si hI) rfl _ as _ hpa (fun i hi hlt hn => uC hI hpa i hi hlt hn) (tk hs args.toList)
   have hmt2 := td (xm hI) (qe E.P f) as _ hmt
   rw [show C.still.P = E.P from hC] at hmt2
   obtain ⟨fn, hf, hb, ⟨u, rfl, hu, hcall⟩ | ⟨hl, hx, hcall⟩⟩ := hp f _ x h
   ·have hrun := hcall C.still (args.map act.eval) hC (xm hI) (by simpa using hmt2)
    rw [← hC] at hf hrun
    refine .inr (.inl ⟨f, args.map act.eval, u, ?_, rfl, hu, hrun⟩)
    simp [execOp, resolve, Deferred.ofValue, invoke, Act.eval, jK hE' hf hb]
   ·have hmt3 := zp (C' := C) _ _ hl hmt2
    have hrun := hcall C (args.map act.eval) hC hI (by simpa using hmt3)
    rw [← hC] at hf hrun
    refine .inr (.inr ⟨f, args.map act.eval, ?_, hx, hrun⟩)
    simp [execOp, resolve, Deferred.ofValue, invoke, Act.eval, jK hE' hf hb]
  ·simp at h
 ·simp at h
end Go.Dn
