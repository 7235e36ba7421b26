import Derived.Test.YtpjkphcfkpcfgaaDnT
import Derived.Maps.RangeRun
/-
  DnT2: ranges over maps: carried out.
-/
namespace Go.Dn
open Go
open Go.ChangeMaps (setBlock)

theorem EntOK.length {C : Ctx} {V : TypeId} : ∀ {es : List (Value × AV)} {ents : List MapEntry}, EntOK C V es ents → es.length = ents.length
  | [], [], _ => rfl
  | [], _ :: _, h => by simp [EntOK] at h
  | _ :: _, [], h => by simp [EntOK] at h
  | (k, a) :: es, e :: ents, h => by
    simp only [EntOK] at h
    simp [EntOK.length h.2.2.2]

theorem EntOK.mem {C : Ctx} {V : TypeId} : ∀ {es : List (Value × AV)} {ents : List MapEntry}, EntOK C V es ents → ∀ e, e ∈ ents → ∃ a, (e.key, a) ∈ es ∧ ptyp C.P a V ∧ Rel C a e.val
  | [], [], _, e, he => by simp at he
  | [], _ :: _, h, _, _ => by simp [EntOK] at h
  | _ :: _, [], h, _, _ => by simp [EntOK] at h
  | (k, a) :: es, e0 :: ents, h, e, he => by
    simp only [EntOK] at h
    rcases List.mem_cons.1 he with rfl | he
    · exact ⟨a, by rw [h.1]; simp, h.2.1, h.2.2.1⟩
    · obtain ⟨a', h1, h2⟩ := EntOK.mem h.2.2.2 e he
      exact ⟨a', by simp [h1], h2⟩

theorem EntOK.seen {C : Ctx} {V : TypeId} {ks : List Value} : ∀ {es : List (Value × AV)} {ents : List MapEntry}, EntOK C V es ents → (∀ e, e ∈ ents → hasV ks e.key = true) → allSeen ks es = true
  | [], [], _, _ => rfl
  | [], _ :: _, h, _ => by simp [EntOK] at h
  | _ :: _, [], h, _ => by simp [EntOK] at h
  | (k, a) :: es, e0 :: ents, h, hk => by
    simp only [EntOK] at h
    simp only [allSeen, Bool.and_eq_true]
    exact ⟨by have := hk e0 (by simp); rwa [h.1] at this, EntOK.seen h.2.2.2 (fun e he => hk e (by simp [he]))⟩

theorem bytes_comm (s u : ByteArray) : (s == u) = (u == s) := by
  cases s with | mk a => cases u with | mk b => exact (show (a == b) = (b == a) from Bool.eq_iff_iff.2 (by simp only [beq_iff_eq]; exact eq_comm))

theorem keyEq_comm (a b : Value) : keyEq a b = keyEq b a := by
  cases a <;> cases b <;> first
    | rfl
    | (simp only [keyEq]; exact bytes_comm _ _)
    | (simp only [keyEq]; rw [Bool.eq_iff_iff]; simp only [Bool.and_eq_true, beq_iff_eq]; exact ⟨fun h => ⟨h.1.symm, h.2.symm⟩, fun h => ⟨h.1.symm, h.2.symm⟩⟩)
    | (simp only [keyEq]; rw [Bool.eq_iff_iff]; simp only [beq_iff_eq]; exact eq_comm)

/-- An entry's number and its key tell the same. -/
theorem born_key {P : Program} {K : TypeId} {ents : List MapEntry} {clock : Nat} (h : MapOK P K ents clock) {e e' : MapEntry} (he : e ∈ ents) (he' : e' ∈ ents) : (e'.born == e.born) = keyEq e.key e'.key := by
  obtain ⟨i, hi⟩ := List.mem_iff_getElem?.1 he
  obtain ⟨j, hj⟩ := List.mem_iff_getElem?.1 he'
  obtain ⟨hil, hie⟩ := List.getElem?_eq_some_iff.1 hi
  obtain ⟨hjl, hje⟩ := List.getElem?_eq_some_iff.1 hj
  rcases Nat.lt_trichotomy i j with hlt | heq | hlt
  · have a := List.pairwise_iff_getElem.1 h.apart i j hil hjl hlt
    have b := List.pairwise_iff_getElem.1 h.born i j hil hjl hlt
    rw [hie, hje] at a b
    rw [keyEq_comm, a]
    simp; omega
  · subst heq
    rw [hie] at hje; subst hje
    rw [keyEq_refl (h.keys e he)]; simp
  · have a := List.pairwise_iff_getElem.1 h.apart j i hjl hil hlt
    have b := List.pairwise_iff_getElem.1 h.born j i hjl hil hlt
    rw [hie, hje] at a b
    rw [a]
    simp; omega

theorem range_run {C : Ctx} (hI : Inv C) {i : Nat} (hi : i < C.st.length) {K V T Kt Vt : TypeId} {es : List (Value × AV)} (hst : nthO C.st i = .map K V es) (hT : C.P.underlying T = some (.map Kt Vt)) :
    ∃ w', (Instr.range T (.map (some (C.ι i).block))).run C.P C.w = .ok (.pointer (some ⟨C.w.heap.size, 0, none⟩)) w' ∧ Inv (C.add (.iter i es.length []) ⟨C.w.heap.size, 0, false⟩ w') ∧ Ext C.st.length C (C.add (.iter i es.length []) ⟨C.w.heap.size, 0, false⟩ w') ∧
      Rel (C.add (.iter i es.length []) ⟨C.w.heap.size, 0, false⟩ w') (.ptr C.st.length 0 [] 0) (.pointer (some ⟨C.w.heap.size, 0, none⟩)) := by
  obtain ⟨entries, clock, hh, hent, hmap⟩ := map_obj hI hi hst
  have hlt := (Array.getElem?_eq_some_iff.1 hh).1
  have hold := alloc_heap_old C.w (.mapIter (some (C.ι i).block) clock #[] clock)
  have hlen := hent.length
  have h := add_ctx hI (o := .iter i es.length []) (g := ⟨C.w.heap.size, 0, false⟩) (w := C.w.alloc (.mapIter (some (C.ι i).block) clock #[] clock)) rfl (by rw [alloc_size]; omega) (alloc_os _ _) hold (by
    refine ⟨fun h => by have := hI.xs _ h; simp at this, by simp [Ctx.add]; omega, _, _, _, _, alloc_heap_new _ _, fun h => (by cases h), fun K' V' es' hx => ?_⟩
    rw [(add_old hi).1, hst] at hx
    cases hx
    rw [(add_old hi).2]
    refine ⟨rfl, entries, clock, (hold _ hlt).trans hh, ⟨by rw [hlen]; simp, Nat.le_refl _, Nat.le_refl _, fun e _ _ => by simp [hasV], fun k r hx => by cases hx⟩⟩)
  refine ⟨_, run_range_map C.w T Kt Vt _ entries clock hT hh, h.1, h.2, rel_mk rfl rfl ?_ h.1⟩
  simp only [M]
  exact ⟨by simp [Ctx.add], _, rfl, rfl, fun T0 xs hx => (by rw [add_new.1] at hx; simp [elT] at hx), fun T0 b hx => (by rw [add_new.1] at hx; cases hx), fun _ _ _ hx => (by rw [add_new.2])⟩

/-- A range over a map that is nil. -/
theorem range_nil {C : Ctx} (hI : Inv C) {T Kt Vt : TypeId} (hT : C.P.underlying T = some (.map Kt Vt)) :
    ∃ w', (Instr.range T (.map none)).run C.P C.w = .ok (.pointer (some ⟨C.w.heap.size, 0, none⟩)) w' ∧ Inv (C.add (.iter C.st.length 0 [.map none]) ⟨C.w.heap.size, 0, false⟩ w') ∧ Ext C.st.length C (C.add (.iter C.st.length 0 [.map none]) ⟨C.w.heap.size, 0, false⟩ w') ∧
      Rel (C.add (.iter C.st.length 0 [.map none]) ⟨C.w.heap.size, 0, false⟩ w') (.ptr C.st.length 0 [] 0) (.pointer (some ⟨C.w.heap.size, 0, none⟩)) := by
  have hold := alloc_heap_old C.w (.mapIter none 0 #[] 0)
  have h := add_ctx hI (o := .iter C.st.length 0 [.map none]) (g := ⟨C.w.heap.size, 0, false⟩) (w := C.w.alloc (.mapIter none 0 #[] 0)) rfl (by rw [alloc_size]; omega) (alloc_os _ _) hold (by
    refine ⟨fun h => by have := hI.xs _ h; simp at this, by simp [Ctx.add], _, _, _, _, alloc_heap_new _ _, fun _ => rfl, fun K' V' es' hx => ?_⟩
    rw [add_new.1] at hx
    cases hx)
  refine ⟨_, run_range_nilMap C.w T Kt Vt hT, h.1, h.2, rel_mk rfl rfl ?_ h.1⟩
  simp only [M]
  exact ⟨by simp [Ctx.add], _, rfl, rfl, fun T0 xs hx => (by rw [add_new.1] at hx; simp [elT] at hx), fun T0 b hx => (by rw [add_new.1] at hx; cases hx), fun _ _ _ hx => (by rw [add_new.2])⟩

theorem next_nil {C : Ctx} (hI : Inv C) {i j n : Nat} (hj : j < C.st.length) (hsj : nthO C.st j = .iter i n [.map none]) (ty : TypeId) :
    (Instr.next (.pointer (some ⟨(C.ι j).block, 0, none⟩)) false ty).run C.P C.w = .ok (.tuple #[.bool false]) C.w := by
  have hob := hI.obj j hj
  rw [hsj] at hob
  obtain ⟨hX, hi, m, since, seen, stepped, h1, h2⟩ := hob
  obtain rfl := h2.1 rfl
  simp [Instr.next, getObj, Sem.run, h1, Result.andThen]

theorem iter_obj {C : Ctx} (hI : Inv C) {i j n : Nat} (hj : j < C.st.length) {ks : List Value} (hsj : nthO C.st j = .iter i n ks) {K V : TypeId} {es : List (Value × AV)} (hst : nthO C.st i = .map K V es) (hn : es.length = n) :
    i < C.st.length ∧ ¬ C.X (C.ι j).block ∧ ∃ since seen entries clock, C.w.heap[(C.ι j).block]? = some (.mapIter (some (C.ι i).block) since seen clock) ∧ C.w.heap[(C.ι i).block]? = some (.map entries clock) ∧
      EntOK C V es entries.toList ∧ MapOK C.P K entries.toList clock ∧ ItP entries clock since seen clock n ks ∧ since = clock := by
  have hob := hI.obj j hj
  rw [hsj] at hob
  obtain ⟨hX, hi, m, since, seen, stepped, h1, h2⟩ := hob
  obtain ⟨rfl, entries, clock, hh, hp⟩ := h2.2 K V es hst
  obtain ⟨entries', clock', hh', hent, hmap⟩ := map_obj hI hi hst
  rw [hh] at hh'; cases hh'
  have hlen := hent.length
  have hsz := hp.size
  have h3 := hp.le1
  have h4 := hp.le2
  have hsz' : entries.size = n := by rw [← hn, hlen]; simp
  obtain rfl : since = clock := by omega
  obtain rfl : stepped = since := by omega
  exact ⟨hi, hX, _, seen, entries, _, h1, hh, hent, hmap, hp, rfl⟩

theorem next_run {C : Ctx} (hI : Inv C) {i j n : Nat} (hj : j < C.st.length) {ks : List Value} (hsj : nthO C.st j = .iter i n ks) {K V : TypeId} {es : List (Value × AV)} (hst : nthO C.st i = .map K V es) (hn : es.length = n) (ty : TypeId) :
    (allSeen ks es = true ∧ (Instr.next (.pointer (some ⟨(C.ι j).block, 0, none⟩)) false ty).run C.P C.w = .ok (.tuple #[.bool false]) C.w) ∨
    ∃ k a v w', (k, a) ∈ es ∧ hasV ks k = false ∧ plainKey C.P K k = true ∧ (Instr.next (.pointer (some ⟨(C.ι j).block, 0, none⟩)) false ty).run C.P C.w = .ok (.tuple #[.bool true, k, v]) w' ∧
      Inv (C.upd j (.iter i n (k :: ks)) w') ∧ Ext C.st.length C (C.upd j (.iter i n (k :: ks)) w') ∧ ptyp C.P a V ∧ Rel (C.upd j (.iter i n (k :: ks)) w') a v := by
  obtain ⟨hi, hX, since, seen, entries, clock, h1, hh, hent, hmap, hp, rfl⟩ := iter_obj hI hj hsj hst hn
  have hij : i ≠ j := by intro e; subst e; rw [hst] at hsj; cases hsj
  have hownj : ownd (C.ι j) (nthO C.st j) = true := by rw [hsj]; rfl
  have howni : ownd (C.ι i) (nthO C.st i) = true := by rw [hst]; rfl
  have hbne : (C.ι i).block ≠ (C.ι j).block := hI.dis i j hi hj hij howni hownj
  rcases run_next_at (P := C.P) C.w ty (C.ι j).block (C.ι i).block since since seen entries since h1 hh (fun x hx => hmap.clock x hx) (Nat.le_refl _) with ⟨h0, hr⟩ | ⟨e, he, w1, hw1, hr⟩
  · refine .inl ⟨hent.seen (fun e he => ?_), hr⟩
    have hm := hp.met e (by simpa using he) (hmap.clock e he)
    rw [← hm]
    cases hc : seen.contains e.born with
    | true => rfl
    | false =>
      have : e ∈ leftOf entries seen := by unfold leftOf; simp only [Array.mem_filter]; exact ⟨by simpa using he, by simp only [hc]; rfl⟩
      have hpos := Array.size_pos_of_mem this
      omega
  · have he' : e ∈ entries.toList ∧ seen.contains e.born = false := by
      have := he
      unfold leftOf at this
      simp only [Array.toList_filter, List.mem_filter, Bool.not_eq_true'] at this
      exact this
    obtain ⟨hem, hes⟩ := he'
    obtain ⟨a, ha, hpa, hra⟩ := hent.mem e hem
    have hm := hp.met e (by simpa using hem) (hmap.clock e hem)
    have hheap1 : w1.heap = C.w.heap := by rcases hw1 with rfl | rfl <;> rfl
    have hos1 : SameOs C.w w1 := by rcases hw1 with rfl | rfl <;> exact ⟨rfl, rfl, rfl⟩
    have hltj := (Array.getElem?_eq_some_iff.1 h1).1
    have hother : ∀ b, b ≠ (C.ι j).block → (setBlock w1 (C.ι j).block (.mapIter (some (C.ι i).block) since (seen.push e.born) since)).heap[b]? = C.w.heap[b]? := fun b hb => by
      rw [← hheap1]
      show (w1.heap.set! _ _)[b]? = _
      simp [Array.getElem?_setIfInBounds_ne (Ne.symm hb)]
    have hsame : (setBlock w1 (C.ι j).block (.mapIter (some (C.ι i).block) since (seen.push e.born) since)).heap[(C.ι j).block]? = some (.mapIter (some (C.ι i).block) since (seen.push e.born) since) := by
      show (w1.heap.set! _ _)[_]? = _
      rw [hheap1]
      simp [hltj]
    have hk : Keeps C (C.upd j (.iter i n (e.key :: ks)) (setBlock w1 (C.ι j).block (.mapIter (some (C.ι i).block) since (seen.push e.born) since))) := ⟨rfl, fun _ h => h, fun b hb => hother b (fun e => hX (e ▸ hb))⟩
    have hs : nthO (C.upd j (.iter i n (e.key :: ks)) (setBlock w1 (C.ι j).block (.mapIter (some (C.ι i).block) since (seen.push e.born) since))).st j = .iter i n (e.key :: ks) := nthO_setO_same _ _ _ hj
    have hup := upd_ctx hI hj (o := .iter i n (e.key :: ks)) (w := setBlock w1 (C.ι j).block (.mapIter (some (C.ι i).block) since (seen.push e.born) since)) hownj
      (by show (w1.heap.set! _ _).size = _; rw [hheap1]; simp) ⟨hos1.os, hos1.tape, hos1.output⟩ hother
      ⟨by simp only [Ctx.upd, setO_length]; exact hj, fun T xs hx => (by rw [hs] at hx; simp [elT] at hx), fun T b hx => (by rw [hs] at hx; cases hx), fun _ _ _ hx => (by rw [hs] at hx; cases hx), fun _ hx => (by rw [hs] at hx; cases hx),
        fun m n' ks' hx => (by rw [hs] at hx; cases hx; exact ⟨_, _, hsj, rfl⟩)⟩
      (by
        refine ⟨hX, by simp only [Ctx.upd, setO_length]; exact hi, _, _, _, _, hsame, fun h => (by
          have hpk := hmap.keys e hem
          simp only [List.cons.injEq] at h
          rw [h.1] at hpk; cases hpk), fun K' V' es' hx => ?_⟩
        have hold : nthO (C.upd j (.iter i n (e.key :: ks)) (setBlock w1 (C.ι j).block (.mapIter (some (C.ι i).block) since (seen.push e.born) since))).st i = nthO C.st i := nthO_setO_other _ _ _ _ (Ne.symm hij)
        refine ⟨rfl, entries, since, (hother _ hbne).trans hh, ⟨hp.size, hp.le1, hp.le2, fun e2 he2 hb2 => ?_, fun k r hx => ?_⟩⟩
        · simp only [hasV]
          rw [Array.contains_push, hp.met e2 he2 hb2, born_key hmap hem (by simpa using he2), Bool.or_comm]
        · cases hx
          exact ⟨e, seen, by simpa using hem, rfl, rfl⟩)
    exact .inr ⟨e.key, a, e.val, _, ha, by rw [← hm]; exact hes, hmap.keys e hem, hr, hup.1, hup.2, hpa, hra.pure hk hI.lay hpa⟩

theorem getK_mem {C : Ctx} {K V : TypeId} {k : Value} {z : AV} (hk : plainKey C.P K k = true) : ∀ {es : List (Value × AV)} {ents : List MapEntry}, EntOK C V es ents → ents.Pairwise (fun e e' => keyEq e'.key e.key = false) → ∀ e, e ∈ ents → e.key = k →
    ptyp C.P (getK es k z) V ∧ Rel C (getK es k z) e.val
  | [], [], _, _, e, he, _ => by simp at he
  | [], _ :: _, h, _, _, _, _ => by simp [EntOK] at h
  | _ :: _, [], h, _, _, _, _ => by simp [EntOK] at h
  | (k0, a) :: es, e0 :: ents, h, hp, e, he, hek => by
    simp only [EntOK] at h
    rw [List.pairwise_cons] at hp
    simp only [getK]
    rcases List.mem_cons.1 he with rfl | he
    · rw [← h.1, hek, keyEq_refl hk]; exact ⟨h.2.1, h.2.2.1⟩
    · have := hp.1 e he
      rw [hek, h.1] at this
      rw [this]
      exact getK_mem hk h.2.2.2 hp.2 e he hek

theorem entry_run {C : Ctx} (hI : Inv C) {i j n : Nat} (hj : j < C.st.length) {k : Value} {ks : List Value} (hsj : nthO C.st j = .iter i n (k :: ks)) {K V : TypeId} {es : List (Value × AV)} (hst : nthO C.st i = .map K V es) (hn : es.length = n) (z : AV) :
    ∃ v, (Instr.entry (.pointer (some ⟨(C.ι j).block, 0, none⟩))).run C.P C.w = .ok (.tuple #[k, v]) C.w ∧ plainKey C.P K k = true ∧ ptyp C.P (getK es k z) V ∧ Rel C (getK es k z) v := by
  obtain ⟨hi, hX, since, seen, entries, clock, h1, hh, hent, hmap, hp, rfl⟩ := iter_obj hI hj hsj hst hn
  obtain ⟨e, s', he, rfl, rfl⟩ := hp.last _ _ rfl
  have he' : e ∈ entries.toList := by simpa using he
  have hnd : (entries.toList.map (·.born)).Nodup := by
    rw [List.Nodup, List.pairwise_map]
    exact hmap.born.imp (fun h => by omega)
  refine ⟨e.val, run_entry_at C.w _ _ since s' entries since e h1 hh he' hnd, hmap.keys e he', ?_⟩
  exact getK_mem (hmap.keys e he') hent hmap.apart e he' rfl
end Go.Dn
