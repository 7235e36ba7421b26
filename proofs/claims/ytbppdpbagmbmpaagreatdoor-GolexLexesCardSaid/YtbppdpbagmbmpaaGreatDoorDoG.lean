import Derived.Test.YtbppdpbagmbmpaaGreatDoorDoF
import Derived.Deep.Slices
import Derived.Carry
import Derived.ChangeSame
namespace Go.Dn
open Go Go.ChangeShapes Go.WideShapes Go.RowKit
mutual
def good (P : Program) : AV → TypeId → Prop
  | .lit v, T =>
    match P.underlying T with
    | some (.int k) => ∃ n, v = .int k n ∧ (Lit.int k n).wf = true
    | some .bool => ∃ b, v = .bool b
    | some .string => ∃ s, v = .string s ∧ s.size ≤ maxLen
    | _ => False
  | .lst E l, T => P.underlying T = some (.slice E) ∧ l.length ≤ maxLen ∧ goodL P l E
  | .agg l, T => ∃ fs, (P.underlying T = some (.struct fs) ∧ T < P.types.size) ∧ goodF P l fs.toList
  | _, _ => False
def goodL (P : Program) : List AV → TypeId → Prop
  | [], _ => True
  | a :: l, T => good P a T ∧ goodL P l T
def goodF (P : Program) : List AV → List Field → Prop
  | [], [] => True
  | a :: l, f :: fs => good P a f.type ∧ goodF P l fs
  | _, _ => False
end
mutual
theorem good_ptyp {P : Program} : ∀ (a : AV) (T : TypeId), good P a T → ptyp P a T
  | .lit v, T, h => by
    simp only [good, ptyp] at h ⊢
    split at h
    · rename_i k e; simp only [e]; obtain ⟨n, h1, _⟩ := h; exact ⟨n, h1⟩
    · rename_i e; simp only [e]; exact h
    · rename_i e; simp only [e]; obtain ⟨s, h1, _⟩ := h; exact ⟨s, h1⟩
    · exact h.elim
  | .lst E l, T, h => by simp only [good, ptyp] at h ⊢; exact ⟨h.1, goodL_ptyp l E h.2.2⟩
  | .agg l, T, h => by simp only [good, ptyp] at h ⊢; obtain ⟨fs, h1, h2⟩ := h; exact ⟨fs, h1, goodF_ptyp l _ h2⟩
  | .junk, _, h => by simp [good] at h
  | .tup _, _, h => by simp [good] at h
  | .slc _ _ _, _, h => by simp [good] at h
  | .ptr _ _ _ _, _, h => by simp [good] at h
  | .pim _ _, _, h => by simp [good] at h
  | .mp _, _, h => by simp [good] at h
  | .yld _, _, h => by simp [good] at h
  | .stp _ _, _, h => by simp [good] at h
  | .clo _ _, _, h => by simp [good] at h
  | .ifc _ _, _, h => by simp [good] at h
theorem goodL_ptyp {P : Program} : ∀ (l : List AV) (T : TypeId), goodL P l T → ptypL P l T
  | [], _, _ => by simp [ptypL]
  | a :: l, T, h => by simp only [goodL, ptypL] at h ⊢; exact ⟨good_ptyp a T h.1, goodL_ptyp l T h.2⟩
theorem goodF_ptyp {P : Program} : ∀ (l : List AV) (fs : List Field), goodF P l fs → ptypF P l fs
  | [], [], _ => by simp [ptypF]
  | a :: l, f :: fs, h => by simp only [goodF, ptypF] at h ⊢; exact ⟨good_ptyp a _ h.1, goodF_ptyp l fs h.2⟩
  | [], _ :: _, h => by simp [goodF] at h
  | _ :: _, [], h => by simp [goodF] at h
end
mutual
def rdA {H : Type} : AV → DataW H → Prop
  | .lit (.int k n), d => d = .lit (.int k n)
  | .lit (.bool b), d => d = .lit (.bool b)
  | .lit (.string s), d => d = .lit (.string s.data.toList)
  | .lst _ l, d => (l = [] ∧ d = .nil) ∨ ∃ es sp, d = .slice es sp ∧ rdL l es
  | .agg l, d => ∃ es, d = .agg es ∧ rdL l es
  | _, _ => False
def rdL {H : Type} : List AV → List (DataW H) → Prop
  | [], es => es = []
  | a :: l, es => ∃ e r, es = e :: r ∧ rdA a e ∧ rdL l r
end
def tyOK (P : Program) (S : List TypeId) : Bool :=
  S.all fun T => Nat.blt T P.types.size && (match P.underlying T with
    | some (.int _) | some .bool | some .string => true
    | some (.slice E) => S.contains E && Nat.blt 0 (P.cellsOf E)
    | some (.struct fs) => fs.toList.all fun f => S.contains f.type
    | _ => false)
theorem rdL_of {H : Type} {n : Nat} {D : Nat → DataW H} {A : Nat → AV} (h : ∀ i, i < n → rdA (A i) (D i)) : ∀ k, k ≤ n → rdL ((List.range' k (n - k)).map A) ((List.range' k (n - k)).map D) := by
  intro k hk
  generalize hm : n - k = m
  induction m generalizing k with
  | zero => simp [rdL]
  | succ m ih =>
    simp only [List.range'_succ, List.map_cons, rdL]
    exact ⟨_, _, rfl, h k (by omega), ih (k + 1) (by omega) (by omega)⟩
theorem goodL_of {P : Program} {T : TypeId} {n : Nat} {A : Nat → AV} (h : ∀ i, i < n → good P (A i) T) : ∀ k, k ≤ n → goodL P ((List.range' k (n - k)).map A) T := by
  intro k hk
  generalize hm : n - k = m
  induction m generalizing k with
  | zero => simp [goodL]
  | succ m ih =>
    simp only [List.range'_succ, List.map_cons, goodL]
    exact ⟨h k (by omega), ih (k + 1) (by omega) (by omega)⟩
theorem MR_of {C : Ctx} {n z off : Nat} {s : Src} {A : Nat → AV} (h : ∀ i, i < n → M C (A i) s (off + i * z)) : ∀ k, k ≤ n → MR C ((List.range' k (n - k)).map A) z s (off + k * z) := by
  intro k hk
  generalize hm : n - k = m
  induction m generalizing k with
  | zero => simp [MR]
  | succ m ih =>
    simp only [List.range'_succ, List.map_cons, MR]
    refine ⟨h k (by omega), ?_⟩
    have := ih (k + 1) (by omega) (by omega)
    rw [show off + (k + 1) * z = off + k * z + z by rw [Nat.add_mul]; omega] at this
    exact this
theorem cells_at {w : World} {base : Nat} {a : Addr} {n : Nat} {cs : List Value} (h : w.cells? base a n = some cs) : cs.length = n ∧ ∀ j, j < n → w.cell? (a.add j) = cs[j]? := by
  unfold World.cells? at h
  split at h
  · refine ⟨by simpa using mapM_some_length h, fun j hj => ?_⟩
    exact mapM_some_get h j j (by simp [hj])
  · cases h
theorem read_trod {P : Program} (hL : LayOK P) {S : List TypeId} (hS : tyOK P S = true) {H : Type} {enc : TypeId × Value → H} {C : Ctx} (hC : C.P = P) (hX : ∀ b, b < C.w.heap.size → C.X b) {sp : Nat → Bool} {hd : Bool} : ∀ (fuel : Nat) (T : TypeId), S.contains T = true → ∀ cs d ps, DataW.trod enc P C.w 0 sp hd fuel T cs = some (d, ps) →
    ∃ a, good P a T ∧ M C a (fun j => cs[j]?) 0 ∧ cs.length = wid a ∧ rdA a d ∧ ((∃ fs, P.underlying T = some (.struct fs)) ↔ isAggA a = true) := by
  intro fuel
  induction fuel with
  | zero => intro T _ cs d ps h; simp [DataW.trod] at h
  | succ fuel ih =>
    intro T hT cs d ps h
    have hty := List.all_eq_true.1 hS T (by simpa using hT)
    rw [Bool.and_eq_true] at hty
    obtain ⟨hlt, hty⟩ := hty
    cases hu : P.underlying T with
    | none => rw [hu] at hty; cases hty
    | some D =>
      rw [hu] at hty
      cases D <;> try (cases hty; done)
      case bool =>
        obtain ⟨b, rfl, hx⟩ := DataW.trod_bool hu h
        cases hx
        exact ⟨.lit (.bool b), by simp only [good, hu]; exact ⟨b, rfl⟩, by simp [M, oneV], by simp [wid], by simp [rdA], by simp [isAggA]⟩
      case int k =>
        obtain ⟨n, rfl, hx, hw⟩ := DataW.trod_int hu h
        cases hx
        exact ⟨.lit (.int k n), by simp only [good, hu]; exact ⟨n, rfl, hw⟩, by simp [M, oneV], by simp [wid], by simp [rdA], by simp [isAggA]⟩
      case string =>
        obtain ⟨s, rfl, hx, hw⟩ := DataW.trod_string hu h
        cases hx
        exact ⟨.lit (.string s), by simp only [good, hu]; exact ⟨s, rfl, hw⟩, by simp [M, oneV], by simp [wid], by simp [rdA], by simp [isAggA]⟩
      case slice E =>
        simp only [Bool.and_eq_true] at hty
        obtain ⟨hE, hz⟩ := hty
        have hz : 0 < P.cellsOf E := Nat.le_of_ble_eq_true hz
        rcases DataW.trod_slice hu h with ⟨rfl, hx⟩ | ⟨a, len, cap, elems, rest, n, hn, rfl, hx, hb, hl, hm, hlen, hel, _, _⟩
        · cases hx
          exact ⟨.lst E [], by simp [good, hu, goodL], by simp [M, ptypL], by simp [wid], by simp [rdA], by simp [isAggA]⟩
        · cases hx
          obtain rfl : fuel = n := by omega
          have hsp : 0 < len → a.spot = none ∧ a.block < C.w.heap.size := by
            intro hpos
            have h1 := hel 0 hpos
            rw [List.getElem?_eq_getElem (by omega)] at h1
            obtain ⟨cs', h2, _⟩ := Option.bind_eq_some_iff.1 h1
            obtain ⟨k1, k2⟩ := cells_at h2
            have := k2 0 hz
            rw [List.getElem?_eq_getElem (by omega)] at this
            simp only [Nat.zero_mul, Addr.add, if_true] at this
            unfold World.cell? at this
            split at this
            · rename_i hh
              refine ⟨?_, (Array.getElem?_eq_some_iff.1 hh).1⟩
              cases hq : a.spot with
              | none => rfl
              | some q => rw [hq] at this; simp at this
            · cases this
          have hall : ∀ i, i < len → ∃ av, good P av E ∧ M C av (cellAt C.w a.block) (a.off + i * P.cellsOf E) ∧ (∀ x, elems[i]? = some x → rdA av x.1) ∧ a.spot = none ∧ a.block < C.w.heap.size := by
            intro i hi
            have h1 := hel i hi
            rw [List.getElem?_eq_getElem (by omega)] at h1
            obtain ⟨cs', h2, h3⟩ := Option.bind_eq_some_iff.1 h1
            obtain ⟨k1, k2⟩ := cells_at h2
            obtain ⟨av, g1, g2, g3, g4, _⟩ := ih E hE cs' _ _ h3
            obtain ⟨hs1, hs2⟩ := hsp (by omega)
            refine ⟨av, g1, ?_, ?_, hs1, hs2⟩
            · have hw := ptyp_wid hL av E (good_ptyp _ _ g1)
              refine M_pure (C := C) (C' := C) (Keeps.refl C) (by rw [hC]; exact hL) av E _ _ 0 _ (by rw [hC]; exact good_ptyp _ _ g1) (fun j hj => ?_) g2
              have := k2 j (by omega)
              simp only [Nat.zero_add]
              rw [← this, Deep.add_add]
              unfold cellAt
              congr 1
              obtain ⟨ab, ao, as⟩ := a
              simp only at hs1
              subst hs1
              unfold Addr.add
              split
              · rename_i h0; simp [show i * P.cellsOf E = 0 by omega, show j = 0 by omega]
              · simp
            · intro x hx
              rw [List.getElem?_eq_getElem (by omega)] at hx
              simp only [Option.some.injEq] at hx
              subst hx
              exact g4
          obtain ⟨A, hA⟩ := Deep.choose_lt (α := AV) hall
          have e0 : len - 0 = len := rfl
          have hel2 : elems.map (·.1) = (List.range' 0 (len - 0)).map fun i => (elems.getD i (.nil, [])).1 := by
            apply List.ext_getElem?
            intro i
            by_cases hi : i < len
            · simp [hi, hlen, List.getD]
            · simp [hi, hlen]
          refine ⟨.lst E ((List.range' 0 (len - 0)).map A), ?_, ?_, by simp [wid], ?_, by simp [isAggA]⟩
          · simp only [good]
            exact ⟨hu, by simp; omega, goodL_of (fun i hi => (hA i hi).1) 0 (by omega)⟩
          · simp only [M]
            refine ⟨by rw [hC]; exact goodL_ptyp _ _ (goodL_of (fun i hi => (hA i hi).1) 0 (by omega)), some a, cap, by simp, by simpa using hl, fun hne => ?_⟩
            have hpos : 0 < len := by
              rcases Nat.eq_zero_or_pos len with h0 | h0
              · subst h0; simp at hne
              · exact h0
            obtain ⟨_, _, _, hs1, hs2⟩ := hA 0 hpos
            obtain ⟨ab, ao, as⟩ := a
            simp only at hs1
            subst hs1
            refine ⟨ab, ao, rfl, hX _ hs2, ?_⟩
            have := MR_of (C := C) (z := P.cellsOf E) (off := ao) (s := cellAt C.w ab) (A := A) (n := len) (fun i hi => (hA i hi).2.1) 0 (by omega)
            rw [hC]
            show MR C _ _ (cellAt C.w ab) ao
            simpa using this
          · simp only [rdA]
            refine .inr ⟨_, _, rfl, ?_⟩
            rw [hel2]
            refine rdL_of (fun i hi => ?_) 0 (by omega)
            have := (hA i hi).2.2.1 (elems[i]'(by omega)) (List.getElem?_eq_getElem _)
            simpa [List.getD, List.getElem?_eq_getElem (show i < elems.length by omega)] using this
      case struct fs =>
        obtain ⟨xs, n, hn, hx, hcl, hxl, hel⟩ := DataW.trod_struct hu h
        cases hx
        obtain rfl : fuel = n := by omega
        have hlay := hL T
        simp only [LayT, hu] at hlay
        have hlay := hlay (Nat.le_of_ble_eq_true hlt)
        have hfs := List.all_eq_true.1 hty
        have key : ∀ (l : List Field) (ys : List (DataW H × List MemPlace)) (o : Nat), layF P l o (P.cellsOf T) → (∀ f, f ∈ l → S.contains f.type = true) →
            ys.length = l.length → (∀ (i : Nat) (f : Field), l[i]? = some f → DataW.trod enc P C.w 0 sp hd fuel f.type ((cs.drop f.offset).take (P.cellsOf f.type)) = ys[i]?) →
            ∃ as, goodF P as l ∧ ML C as (fun j => cs[j]?) o ∧ o + widL as = P.cellsOf T ∧ rdL as (ys.map (·.1)) := by
          intro l
          induction l with
          | nil =>
            intro ys o hy _ hl _
            simp only [layF] at hy
            have : ys = [] := by cases ys with | nil => rfl | cons _ _ => simp at hl
            subst this
            exact ⟨[], by simp [goodF], by simp [ML], by simp [widL, hy], by simp [rdL]⟩
          | cons f l ihl =>
            intro ys o hy hS' hl hat
            cases ys with
            | nil => simp at hl
            | cons y ys =>
              simp only [layF] at hy
              have h0 := hat 0 f rfl
              simp only [List.getElem?_cons_zero] at h0
              obtain ⟨a, g1, g2, g3, g4, _⟩ := ih f.type (hS' f (by simp)) _ _ _ h0
              obtain ⟨as, k1, k2, k3, k4⟩ := ihl ys (o + P.cellsOf f.type) hy.2 (fun f' hf' => hS' f' (by simp [hf'])) (by simpa using hl)
                (fun i f' hi => by have := hat (i + 1) f' (by simpa using hi); simpa using this)
              have hw := ptyp_wid hL a f.type (good_ptyp _ _ g1)
              refine ⟨a :: as, by simp only [goodF]; exact ⟨g1, k1⟩, ?_, by simp only [widL]; omega, by simp only [rdL, List.map_cons]; exact ⟨_, _, rfl, g4, k4⟩⟩
              simp only [ML]
              refine ⟨?_, by rw [hw]; exact k2⟩
              refine M_pure (C := C) (C' := C) (Keeps.refl C) (by rw [hC]; exact hL) a f.type _ _ 0 _ (by rw [hC]; exact good_ptyp _ _ g1) (fun j hj => ?_) g2
              simp only [Nat.zero_add, List.getElem?_take, List.getElem?_drop, hy.1]
              rw [if_pos (by omega)]
        obtain ⟨as, k1, k2, k3, k4⟩ := key fs.toList xs 0 hlay hfs (by simpa using hxl) (fun i f hi => hel i f (by simpa using hi))
        refine ⟨.agg as, by simp only [good]; exact ⟨fs, ⟨hu, Nat.le_of_ble_eq_true hlt⟩, k1⟩, by simp only [M]; exact k2, by simp only [wid]; omega, by simp only [rdA]; exact ⟨_, rfl, k4⟩, by simp [isAggA]⟩
def goodAs (P : Program) : List TypeId → List AV → Prop
  | [], [] => True
  | T :: ts, a :: as => good P a T ∧ goodAs P ts as
  | _, _ => False
theorem okWide_agg {P : Program} {w : World} {base : Nat} {T : TypeId} {v : Value} (h : Value.okWide P w .any base T v) : isAggV v = true ↔ (∃ fs, P.underlying T = some (.struct fs)) ∨ ∃ n e, P.underlying T = some (.array n e) := by
  unfold Value.okWide at h
  split at h
  · rename_i fs hu; obtain ⟨cs, rfl, _⟩ := h; simp [isAggV, hu]
  · rename_i n e hu; obtain ⟨cs, rfl, _⟩ := h; simp [isAggV, hu]
  · rename_i h1 h2
    constructor
    · intro hv
      cases v <;> simp [isAggV] at hv
      unfold Cell.okWide at h
      unfold Cell.ok at h
      split at h <;> simp_all
    · rintro (⟨fs, hu⟩ | ⟨n, e, hu⟩)
      · exact absurd hu (by simpa using h1 fs)
      · exact absurd hu (by simpa using h2 n e)
theorem read_all {P : Program} (hL : LayOK P) {S : List TypeId} (hS : tyOK P S = true) {H : Type} {enc : TypeId × Value → H} {C : Ctx} (hC : C.P = P) (hX : ∀ b, b < C.w.heap.size → C.X b) {sp : Nat → Bool} {hd : Bool} {base : Nat} : ∀ (ts : List TypeId) (vs : List Value) (ds : List (DataW H)) (ps : List MemPlace),
    (∀ t, t ∈ ts → S.contains t = true) → (∀ (j : Nat) t v, ts[j]? = some t → vs[j]? = some v → Value.okWide P C.w .any base t v) → DataW.TrodAll enc P C.w 0 sp hd ts vs ds ps →
    ∃ as, goodAs P ts as ∧ MT C as vs ∧ rdL as ds
  | [], vs, ds, ps, _, _, h => by
    obtain ⟨rfl, rfl, rfl⟩ := trodAll_nil h
    exact ⟨[], by simp [goodAs], by simp [MT], by simp [rdL]⟩
  | T :: ts, vs, ds, ps, ht, hv, h => by
    obtain ⟨v, vs1, d, ds1, a, b, rfl, rfl, rfl, h1, h2⟩ := trodAll_cons h
    obtain ⟨as, g1, g2, g3⟩ := read_all hL hS hC hX ts vs1 ds1 b (fun t h => ht t (by simp [h])) (fun j t v h1 h2 => hv (j + 1) t v (by simpa using h1) (by simpa using h2)) h2
    obtain ⟨fuel, h1⟩ := h1
    obtain ⟨a, k1, k2, k3, k4, k5⟩ := read_trod hL hS hC hX fuel T (ht T (by simp)) _ _ _ h1
    have hag := okWide_agg (hv 0 T v rfl rfl)
    refine ⟨a :: as, by simp only [goodAs]; exact ⟨k1, g1⟩, ?_, by simp only [rdL]; exact ⟨_, _, rfl, k4, g3⟩⟩
    simp only [MT]
    refine ⟨.inl ?_, .inl (by simpa using k3), by simpa using k2, g2⟩
    rw [Bool.eq_iff_iff, hag, ← k5]
    constructor
    · rintro (h | ⟨n, e, h⟩)
      · exact h
      · have hty := List.all_eq_true.1 hS T (by simpa using ht T (by simp))
        rw [h] at hty; simp at hty
    · exact .inl
section
variable {H : Type} {enc : TypeId × Value → H} {P : Program}
theorem post_of_below {f : Func} {s : ChangeSpec} {apart fresh handsOn again : Bool} {W W' : World} {args : Array Value} {v : Value} {ds gs : List (DataW H)} {before pa pv : List MemPlace}
    (hW : DataW.Whole enc P f.params.toList s.vars apart W args.toList ds gs before)
    (hres : ∀ (b : Nat) (sp : Nat → Bool) (hd : Bool), DataW.TrodAll enc P W' b sp hd f.resultTypes.toList (v.resultList f.resultTypes.size) (s.fn H (ds ++ gs)).results [])
    (hargs : ∀ sp : Nat → Bool, (∀ p ∈ before, sp p.block = true) → DataW.TrodAll enc P W' 0 sp true f.params.toList args.toList (s.fn H (ds ++ gs)).args pa)
    (hvars : ∀ sp : Nat → Bool, (∀ p ∈ before, sp p.block = true) → DataW.TrodVars enc P W' sp s.vars (s.fn H (ds ++ gs)).vars pv)
    (hps : before = pa ++ pv) (hb : Below W.heap.size W W')
    (hok : ∀ (j : Nat) (t : TypeId) (r : Value), f.resultTypes[j]? = some t → (v.resultList f.resultTypes.size)[j]? = some r → Value.okWide P W' .any 0 t r) :
    s.post enc P f apart fresh handsOn again W args v W' := by
  have hlt : ∀ p ∈ before, p.block < W.heap.size := fun p hp => hW.lt p hp
  have hold : ∀ p ∈ before, (fun b => decide (b < W.heap.size)) p.block = true := fun p hp => by simpa using hlt p hp
  refine ⟨ds, gs, before, [], pa, pv, hW, hres _ _ _, hargs _ hold, hvars _ hold, World.keptBut_mono (fun p hp => ⟨hp, ?_⟩) (hb.frame (· ∈ before)), fun _ => ?_⟩
  · rw [hps, List.mem_append] at hp
    exact Or.inr hp
  · obtain ⟨_, _, _, _, _, hz, hn⟩ := hW
    refine ⟨hok, _, _, ([] ++ pa) ++ pv, ⟨[] ++ pa, pv, trodAll_append (hargs _ (fun _ _ => rfl)) (hres _ _ _), hvars _ (fun _ _ => rfl), rfl, ?_, ?_⟩, ?_⟩
    · intro b off hp
      have hin : MemPlace.cell b off ∈ before := by rw [hps]; simpa using hp
      rw [hb.frozen (hlt _ hin)]
      exact hz b off hin
    · intro ha
      have := hn ha
      rw [hps] at this
      simpa using this
    · intro p hp _
      rw [hps]
      simpa using hp
theorem stay_all (hl : laidOutB P = true) {W W' : World} (hb : Below W.heap.size W W') {sp : Nat → Bool} : ∀ {ts : List TypeId} {vs : List Value} {ds : List (DataW H)} {ps : List MemPlace},
    (∀ t, t ∈ ts → P.readableRec t = true ∧ t < P.types.size) → (∀ p, p ∈ ps → p.block < W.heap.size) → (∀ p, p ∈ ps → sp p.block = true) →
    DataW.TrodAll enc P W 0 (fun _ => true) true ts vs ds ps → DataW.TrodAll enc P W' 0 sp true ts vs ds ps
  | [], vs, ds, ps, _, _, _, h => by
    obtain ⟨rfl, rfl, rfl⟩ := trodAll_nil h
    exact rfl
  | t :: ts, vs, ds, ps, ht, hlt, hsp, h => by
    obtain ⟨v, vs1, d, ds1, a, b, rfl, rfl, rfl, h1, h2⟩ := trodAll_cons h
    refine ⟨a, b, WideElems.Trod_stays hl (ht t (by simp)).1 (ht t (by simp)).2 h1 (fun x hx => hb.same (hlt x (by simp [hx]))) (fun x hx => hsp x (by simp [hx])), ?_, rfl⟩
    exact stay_all hl hb (fun t h => ht t (by simp [h])) (fun p hp => hlt p (by simp [hp])) (fun p hp => hsp p (by simp [hp])) h2
theorem law_contract (hL : LayOK P) (hl : laidOutB P = true) {S : List TypeId} (hS : tyOK P S = true) {f : FuncId} {fn : Func} {s : ChangeSpec} {B : TypeId}
    (hres : fn.resultTypes = #[B]) (hB : P.underlying B = some .bool) (hts : fn.params.toList.all (fun t => S.contains t && P.readableRec t) = true) (hvars : s.vars = [])
    {apart fresh handsOn again : Bool} {W : World} {base : Nat} {args : Array Value} {ds gs : List (DataW H)} {before : List MemPlace}
    (hval : ∀ (j : Nat) t v, fn.params[j]? = some t → args[j]? = some v → Value.okWide P W .any base t v)
    (hW : DataW.Whole enc P fn.params.toList s.vars apart W args.toList ds gs before)
    (spec : ∀ d : List (DataW H), d.length = fn.params.size → s.fn H d = { results := [.lit (.bool true)], args := d })
    {kept : Nat → Option Go.Obj} {imm : TypeId → Bool} (hkept : ∀ b o, kept b = some o → W.heap[b]? = some o)
    (sim : ∀ as, goodAs P fn.params.toList as → rdL as ds → SimCall ⟨P, kept, imm⟩ f as [] fun r _ => r = .bool true) :
    Calls P f args W fun e W' => ∃ v, e = .returned v ∧ s.post enc P fn apart fresh handsOn again W args v W' := by
  have hW0 := hW
  obtain ⟨p, q, hA, hV, rfl, hfz, hnd⟩ := hW
  have hg : gs = [] ∧ q = [] := by
    rw [hvars] at hV
    cases gs with
    | nil => exact ⟨rfl, hV⟩
    | cons _ _ => exact hV.elim
  obtain ⟨rfl, rfl⟩ := hg
  have hts' : ∀ t, t ∈ fn.params.toList → S.contains t = true ∧ P.readableRec t = true := fun t ht => by
    have := List.all_eq_true.1 hts t ht
    rwa [Bool.and_eq_true] at this
  have hlt : ∀ t, t ∈ fn.params.toList → t < P.types.size := fun t ht => by
    have := List.all_eq_true.1 hS t (by simpa using (hts' t ht).1)
    rw [Bool.and_eq_true] at this
    exact Nat.le_of_ble_eq_true this.1
  let C : Ctx := { P := ⟨P, kept, imm⟩, X := fun b => b < W.heap.size, ι := fun _ => ⟨0, 0, true⟩, st := [], w := W }
  have hI : Inv C := ⟨hL, fun i hi => by simp [C] at hi, fun i j hi => by simp [C] at hi, fun b hb => hb, fun i hi => by simp [C] at hi, fun b hb => absurd rfl hb, fun b o h => ⟨(Array.getElem?_eq_some_iff.1 (hkept b o h)).1, hkept b o h⟩⟩
  obtain ⟨as, g1, g2, g3⟩ := read_all (C := C) (sp := fun _ => true) (hd := true) hL hS rfl (fun b hb => hb) fn.params.toList args.toList ds p (fun t ht => (hts' t ht).1)
    (fun j t v h1 h2 => hval j t v (by simpa using h1) (by simpa using h2)) hA
  have hlen : ds.length = fn.params.size := by
    have : ∀ (ts : List TypeId) (vs : List Value) (ds : List (DataW H)) (p : List MemPlace), DataW.TrodAll enc P W 0 (fun _ => true) true ts vs ds p → ds.length = ts.length := by
      intro ts
      induction ts with
      | nil => intro vs ds p h; obtain ⟨rfl, rfl, rfl⟩ := trodAll_nil h; rfl
      | cons t ts ih =>
        intro vs ds p h
        obtain ⟨v, vs1, d, ds1, a, b, rfl, rfl, rfl, h1, h2⟩ := trodAll_cons h
        simp [ih _ _ _ h2]
    simpa using this _ _ _ _ hA
  obtain ⟨_, hs⟩ := sim as g1 g3
  refine (callsIn_wide.1 (hs C args rfl hI rfl g2)).mono ?_
  rintro e W' ⟨v, r, C', rfl, rfl, hP, hI', hr, he, rfl⟩
  have hv := rel_lit_inv hr
  subst hv
  have hb : Below W.heap.size W C'.w := ⟨he.os, he.tape, he.output, he.size, fun k hk => he.frame k hk (fun ⟨i, hi, _⟩ => by simp [C] at hi)⟩
  have hsp := spec (ds ++ []) (by simpa using hlen)
  refine ⟨_, rfl, post_of_below (pa := p) (pv := []) hW0 ?_ ?_ ?_ rfl hb ?_⟩
  · intro b sp hd
    rw [hsp, hres]
    exact trodAll_mk1 (shut_bool hB true)
  · intro sp hsp'
    rw [hsp]
    simp only [List.append_nil]
    exact stay_all hl hb (fun t ht => ⟨(hts' t ht).2, hlt t ht⟩) (fun x hx => hW0.lt x (by simp [hx])) (fun x hx => hsp' x (by simp [hx])) hA
  · intro sp _
    rw [hsp, hvars]
    exact rfl
  · exact ok_one hres rfl (okWide_bool_mk hB true)
end
end Go.Dn
