import Derived.Test.YtbppdpbagmbmpaaGreatDoorDxGG
namespace Go.Proofs.YtbppdpbagmbmpaaGreatDoor
open Go Go.Dn Go.Proofs
attribute [local irreducible] funA vc
set_option maxRecDepth 20000
structure ALn where
  s : ByteArray
  l : ByteArray
  ln : Int
  tk : List TK
  t : ByteArray
  la : TK
  k : Nat
  f : Bool
abbrev l1L (ln : Int) : Int := IntKind.wrap .i64 (ln + 1)
noncomputable def stLn (κ : Kp) (x : ALn) : S := match x.f with
  | false => stI0 κ ⟨x.s, x.l, x.ln, x.tk.map avT, x.t, x.la.1, x.la.2.1, x.la.2.2⟩
  | true => stI1 κ ⟨x.s, x.l, x.ln, x.tk.map avT, x.t, x.la.1, x.la.2.1, x.la.2.2⟩
def sideLn (x : ALn) : Prop := x.t.size < x.k ∧ x.t.size ≤ 1000000000 ∧ x.tk.length ≤ 300000
noncomputable abbrev errL0 (κ : Kp) (s l : ByteArray) (l0 l1 : Int) (toks : List AV) (t : ByteArray) (c : Int) : List Dn.Obj :=
  [.box 24 (.slc 7 0 toks.length), .box 35 (.ifc 60 (.ptr 11 0 [] 0)), .box 3 (.int l1), .dead, .dead, .dead, lpL κ s .busy none, .row 31 toks, .box 9 (.lit (.string t)), .box 3 (.int l1), lpI κ s l l0 l1 .done (some (.exit 0)), .box 62 (.agg [.slc 12 0 1]), .row 35 [wrA l1 c]]
noncomputable abbrev errL1 (κ : Kp) (s l : ByteArray) (l0 l1 : Int) (toks : List AV) (t : ByteArray) (c : Int) : List Dn.Obj :=
  [.box 24 (.slc 11 0 toks.length), .box 35 (.ifc 60 (.ptr 12 0 [] 0)), .box 3 (.int l1), .dead, .dead, .dead, lpL κ s .busy none, .dead, .box 9 (.lit (.string t)), .box 3 (.int l1), lpI κ s l l0 l1 .done (some (.exit 0)), .row 31 toks, .box 62 (.agg [.slc 13 0 1]), .row 35 [wrA l1 c]]
def ln1 (n : Nat) (t : ByteArray) : Bool :=
  bif (trB t).toList == (ByteArray.mk #[]).toList then false else bif hasP (trB t) slB then false else bif (tk1 (trB t)).2.2 == 0 then false else bif ((n : Nat) : Int) == 300000 then false else true
noncomputable def outLn (κ : Kp) (x : ALn) : Out (Exit × S) := .all (fun _ : ByteArray => True) fun t => .brn (x.f || ln1 x.tk.length x.t)
  (.brn (lnF (l1L x.ln) x.k x.t x.tk x.la).2.2.isNone
    (.one (.exit 0, sp 45 [(0, .yld 10), (2, .ptr 9 0 [] 0), (4, .ptr 12 0 [] 0)] (strI1 κ x.s x.l x.ln (l1L x.ln) ((lnF (l1L x.ln) x.k x.t x.tk x.la).1.map avT) t (lnF (l1L x.ln) x.k x.t x.tk x.la).2.1.1 (lnF (l1L x.ln) x.k x.t x.tk x.la).2.1.2.1 (lnF (l1L x.ln) x.k x.t x.tk x.la).2.1.2.2)))
    (.one (.ret, sp 45 [] (errL1 κ x.s x.l x.ln (l1L x.ln) ((lnF (l1L x.ln) x.k x.t x.tk x.la).1.map avT) t ((lnF (l1L x.ln) x.k x.t x.tk x.la).2.2.getD 0)))))
  (.brn (lnF (l1L x.ln) x.k x.t x.tk x.la).2.2.isNone
    (.one (.exit 0, sp 45 [(0, .yld 10), (2, .ptr 9 0 [] 0), (4, .ptr 11 0 [] 0)] (strI0 κ x.s x.l x.ln (l1L x.ln) (x.tk.map avT) t x.la.1 x.la.2.1 x.la.2.2)))
    (.one (.ret, sp 45 [] (errL0 κ x.s x.l x.ln (l1L x.ln) (x.tk.map avT) t ((lnF (l1L x.ln) x.k x.t x.tk x.la).2.2.getD 0)))))
theorem lLn (κ : Kp) : LoopOk (BGe κ).E 12 28 1 (loopE 11 (stLn κ) sideLn (outLn κ)) := by
  refine loopE_ok (fun x => x.k) ?_
  rintro ⟨s, l, ln, tk, t, la, k, f⟩ K ⟨h1, h2, h3⟩ ho
  simp only at h1 h2 h3
  obtain ⟨k', rfl⟩ : ∃ k', k = k' + 1 := ⟨k - 1, by omega⟩
  rw [show (BGe κ).E.P = Pr κ from rfl]
  have hoB : ∀ (R : List TK × TK × Option Int) (g : Bool), lnF (l1L ln) (k' + 1) t tk la = R → (f || ln1 tk.length t) = g → ∀ t', brn g (brn R.2.2.isNone (K (.exit 0) (sp 45 [(0, .yld 10), (2, .ptr 9 0 [] 0), (4, .ptr 12 0 [] 0)] (strI1 κ s l ln (l1L ln) (R.1.map avT) t' R.2.1.1 R.2.1.2.1 R.2.1.2.2)))
      (K .ret (sp 45 [] (errL1 κ s l ln (l1L ln) (R.1.map avT) t' (R.2.2.getD 0))))) (brn R.2.2.isNone (K (.exit 0) (sp 45 [(0, .yld 10), (2, .ptr 9 0 [] 0), (4, .ptr 11 0 [] 0)] (strI0 κ s l ln (l1L ln) (tk.map avT) t' la.1 la.2.1 la.2.2)))
      (K .ret (sp 45 [] (errL0 κ s l ln (l1L ln) (tk.map avT) t' (R.2.2.getD 0))))) := by
    rintro R g rfl rfl t'; exact ho t' trivial
  have hz := trB_le t
  have hst : stLn κ ⟨s, l, ln, tk ++ [((tk1 (trB t)).1, (tk1 (trB t)).2.1, l1L ln)], (trB t).extract (tk1 (trB t)).2.2.toNat (trB t).size, ((tk1 (trB t)).1, (tk1 (trB t)).2.1, l1L ln), k', true⟩ = sp 45 [(0, .yld 10), (1, .ptr 8 0 [] 0), (2, .ptr 9 0 [] 0), (4, .ptr 12 0 [] 0)]
      [.box 24 (.slc 11 0 ((tk.map avT).length + 1)), .box 35 (.lit .nilIface), .box 3 (.int (l1L ln)), .dead, .dead, .dead, lpL κ s .busy none, .dead, .box 9 (.lit (.string ((trB t).extract (tk1 (trB t)).2.2.toNat (trB t).size))), .box 3 (.int (l1L ln)), lpI κ s l ln (l1L ln) .ready none, .row 31 ((tk.map avT).take (tk.map avT).length ++ [tkA (tk1 (trB t)).1 (tk1 (trB t)).2.1 (l1L ln)]), .box 31 (tkA (tk1 (trB t)).1 (tk1 (trB t)).2.1 (l1L ln))] := by
    unfold stLn stI1
    simp only [strI1, List.map_append, List.map_cons, List.map_nil, List.length_append, List.length_singleton, List.take_length]
  have next : ∀ (e1 : ((trB t).toList == (ByteArray.mk #[]).toList) = false) (e2 : hasP (trB t) slB = false) (e3 : ((tk1 (trB t)).2.2 == 0) = false) (e4 : (((tk.length : Nat) : Int) == 300000) = false), (0 ≤ (tk1 (trB t)).2.2 ∧ (tk1 (trB t)).2.2 ≤ (trB t).size) →
      invOf (stLn κ) sideLn (outLn κ) (fun x => x.k) K k' (stLn κ ⟨s, l, ln, tk ++ [((tk1 (trB t)).1, (tk1 (trB t)).2.1, l1L ln)], (trB t).extract (tk1 (trB t)).2.2.toNat (trB t).size, ((tk1 (trB t)).1, (tk1 (trB t)).2.1, l1L ln), k', true⟩) := fun e1 e2 e3 e4 hr =>
    ⟨_, rfl, ⟨by
      have hn : (tk1 (trB t)).2.2 ≠ 0 := fun e => by rw [e] at e3; cases e3
      simp only [exs]; omega, by simp only [exs]; omega, by
      simp only [List.length_append, List.length_singleton]
      have : ((tk.length : Nat) : Int) ≠ 300000 := fun e => by rw [e] at e4; cases e4
      omega⟩, rfl, fun t' _ => by
        have h := hoB (lnF (l1L ln) k' ((trB t).extract (tk1 (trB t)).2.2.toNat (trB t).size) (tk ++ [((tk1 (trB t)).1, (tk1 (trB t)).2.1, l1L ln)]) ((tk1 (trB t)).1, (tk1 (trB t)).2.1, l1L ln)) true (by rw [lnF, e1, e2, e3, e4]; rfl) (by unfold ln1; rw [e1, e2, e3, e4]; cases f <;> rfl) t'
        exact brn_iff.2 ⟨fun _ => (brn_iff.1 h).1 rfl, fun e => absurd (show true = false from e) (by decide)⟩⟩
  rw [hst] at next
  cases f with
  | false =>
    refine Eq.mpr (zI0 κ ⟨s, l, ln, tk.map avT, t, la.1, la.2.1, la.2.2⟩ _ _ K) ?_
    show brn ((trB t).toList == (ByteArray.mk #[]).toList) _ _
    rw [brn_iff]
    refine ⟨fun e1 => (brn_iff.1 ((brn_iff.1 (hoB (tk, la, none) false (by rw [lnF, e1]; rfl) (by unfold ln1; rw [e1]; rfl) (trB t))).2 rfl)).1 rfl, fun e1 => ?_⟩
    have h0 : (trB t).size ≠ 0 := fun e => by
      have := empty_iff (trB t)
      rw [e1, decide_eq_true e] at this; cases this
    show brn (hasP (trB t) slB) _ _
    rw [brn_iff]
    refine ⟨fun e2 => (brn_iff.1 ((brn_iff.1 (hoB (tk, la, none) false (by rw [lnF, e1, e2]; rfl) (by unfold ln1; rw [e1, e2]; rfl) (trB t))).2 rfl)).1 rfl, fun e2 => ?_⟩
    refine ⟨trB t, rfl, ⟨by omega, by omega⟩, ?_⟩
    rw [brn_iff]
    refine ⟨fun e3 => ⟨(l1L ln, 160), rfl, trivial, (brn_iff.1 ((brn_iff.1 (hoB (tk, la, some 160) false (by rw [lnF, e1, e2, e3]; rfl) (by unfold ln1; rw [e1, e2, e3]; rfl) (trB t))).2 rfl)).2 rfl⟩, fun e3 => ?_⟩
    show brn ((((tk.map avT).length : Nat) : Int) == 300000) _ _
    rw [brn_iff]
    refine ⟨fun e4 => ⟨(l1L ln, 21), rfl, trivial, (brn_iff.1 ((brn_iff.1 (hoB (tk, la, some 21) false (by rw [List.length_map] at e4; rw [lnF, e1, e2, e3, e4]; rfl) (by rw [List.length_map] at e4; unfold ln1; rw [e1, e2, e3, e4]; rfl) (trB t))).2 rfl)).2 rfl⟩, fun e4 => ?_⟩
    rw [List.length_map] at e4
    have hr := tk1_rng (s := trB t) (by omega)
    have next := next e1 e2 e3 e4 hr
    have hb : (decide (0 ≤ (tk1 (trB t)).2.2) && decide ((tk1 (trB t)).2.2 ≤ ((trB t).size : Int)) && decide (((trB t).size : Int) ≤ ((trB t).size : Int))) = true := by simp; omega
    refine cnd_iff.2 ⟨by rw [decide_eq_true_eq]; simp only [List.length_map]; omega, ?_⟩
    clear hst hoB ho e1 e2 e3 e4
    repeat' first
      | exact cnd_iff.2 ⟨hb, k', Nat.lt_succ_self _, next⟩
      | refine And.intro ?_ ?_
  | true =>
    refine Eq.mpr (zI1 κ ⟨s, l, ln, tk.map avT, t, la.1, la.2.1, la.2.2⟩ _ _ K) ?_
    show brn ((trB t).toList == (ByteArray.mk #[]).toList) _ _
    rw [brn_iff]
    refine ⟨fun e1 => (brn_iff.1 ((brn_iff.1 (hoB (tk, la, none) true (by rw [lnF, e1]; rfl) (by unfold ln1; rw [e1]; rfl) (trB t))).1 rfl)).1 rfl, fun e1 => ?_⟩
    have h0 : (trB t).size ≠ 0 := fun e => by
      have := empty_iff (trB t)
      rw [e1, decide_eq_true e] at this; cases this
    show brn (hasP (trB t) slB) _ _
    rw [brn_iff]
    refine ⟨fun e2 => (brn_iff.1 ((brn_iff.1 (hoB (tk, la, none) true (by rw [lnF, e1, e2]; rfl) (by unfold ln1; rw [e1, e2]; rfl) (trB t))).1 rfl)).1 rfl, fun e2 => ?_⟩
    refine ⟨trB t, rfl, ⟨by omega, by omega⟩, ?_⟩
    rw [brn_iff]
    refine ⟨fun e3 => ⟨(l1L ln, 160), rfl, trivial, (brn_iff.1 ((brn_iff.1 (hoB (tk, la, some 160) true (by rw [lnF, e1, e2, e3]; rfl) (by unfold ln1; rw [e1, e2, e3]; rfl) (trB t))).1 rfl)).2 rfl⟩, fun e3 => ?_⟩
    show brn ((((tk.map avT).length : Nat) : Int) == 300000) _ _
    rw [brn_iff]
    refine ⟨fun e4 => ⟨(l1L ln, 21), rfl, trivial, (brn_iff.1 ((brn_iff.1 (hoB (tk, la, some 21) true (by rw [List.length_map] at e4; rw [lnF, e1, e2, e3, e4]; rfl) (by rw [List.length_map] at e4; unfold ln1; rw [e1, e2, e3, e4]; rfl) (trB t))).1 rfl)).2 rfl⟩, fun e4 => ?_⟩
    rw [List.length_map] at e4
    have hr := tk1_rng (s := trB t) (by omega)
    have next := next e1 e2 e3 e4 hr
    have hb : (decide (0 ≤ (tk1 (trB t)).2.2) && decide ((tk1 (trB t)).2.2 ≤ ((trB t).size : Int)) && decide (((trB t).size : Int) ≤ ((trB t).size : Int))) = true := by simp; omega
    refine cnd_iff.2 ⟨by rw [decide_eq_true_eq]; simp only [List.length_map]; omega, ?_⟩
    clear hst hoB ho e1 e2 e3 e4
    repeat' first
      | exact cnd_iff.2 ⟨hb, k', Nat.lt_succ_self _, next⟩
      | refine And.intro ?_ ?_
noncomputable def BLn (κ : Kp) : EB := (BGe κ).loop (lLn κ)
noncomputable abbrev strLr (κ : Kp) (s : ByteArray) (ln : Int) (toks : List AV) : List Dn.Obj := [.box 24 (.slc 7 0 toks.length), .box 35 (.lit .nilIface), .box 3 (.int ln), .dead, .dead, .dead, lpL κ s .ready none, .row 31 toks]
theorem sLx (κ : Kp) (s : ByteArray) (Q : List Dn.Obj → Prop) : (tidy (Pr κ).toProgram 7 (setDead (strL0 κ s) (capIds (strL0 κ s) [.ptr 4 0 [] 0, .ptr 3 0 [] 0, .ptr 5 0 [] 0])) Q) = (
  Q [Obj.box 24 (AV.slc 7 0 0), Obj.box 35 (AV.lit Value.nilIface), Obj.box 3 (AV.int 0), Obj.dead, Obj.dead, Obj.dead, Dn.Obj.loop (lpA Tryz.prog 10 7
  LoopState.ready none (spR (junks 58) [(0, AV.str s), (2, AV.nil), (3, AV.int 0), (4, AV.int 0), (5, AV.ptr 0 0 [] 0), (6, AV.ptr 1 0 [] 0), (7, AV.ptr 2 0 []
  0), (12, AV.str s), (13, AV.int (↑(ByteArray.size s) : Int)), (14, AV.bool false), (15, AV.str s), (16, AV.clo 49 [AV.ptr 4 0 [] 0, AV.ptr 3 0 [] 0, AV.ptr 5 0
  [] 0])])), Obj.row 31 []]) := by kernel_rfl
theorem rLx (κ : Kp) (s l : ByteArray) (ln : Int) (toks : List AV) (Q : List Dn.Obj → Prop) (K2 : List Dn.Obj → Prop) : (roundA (vc (BLn κ).E 12) 6 [.lit (.string l)] (strLr κ s ln toks) (fun r st'' => match r with | .lit (.bool true) => tidy (Pr κ).toProgram 7 st'' Q | .lit (.bool false) => K2 st'' | _ => False)) = (
  loopCode (Pg.toProgram (Env.P (EB.E (BGe κ)))) 28 1 = loopCode (Pg.toProgram (Env.P (EB.E (BGe κ)))) 28 1 ∧ ∃ (a : ALn), sp 45 [(0, AV.yld 10), (1, AV.ptr 8 0 []
  0), (2, AV.ptr 9 0 [] 0), (4, AV.ptr 11 0 [] 0)] [Obj.box 24 (AV.slc 7 0 toks.length), Obj.box 35 (AV.lit Value.nilIface), Obj.box 3 (AV.int (IntKind.wrap
  IntKind.i64 (ln + (1 : Int)))), Obj.dead, Obj.dead, Obj.dead, Dn.Obj.loop (lpA Tryz.prog 10 7 LoopState.busy none (spR (junks 58) [(0, AV.str s), (2, AV.nil),
  (3, AV.int 0), (4, AV.int 0), (5, AV.ptr 0 0 [] 0), (6, AV.ptr 1 0 [] 0), (7, AV.ptr 2 0 [] 0), (12, AV.str s), (13, AV.int (↑(ByteArray.size s) : Int)), (14,
  AV.bool false), (15, AV.str s), (16, AV.clo 49 [AV.ptr 4 0 [] 0, AV.ptr 3 0 [] 0, AV.ptr 5 0 [] 0])])), Obj.row 31 toks, Obj.box 9 (AV.str l), Obj.box 3
  (AV.int (IntKind.wrap IntKind.i64 (ln + (1 : Int)))), Dn.Obj.loop (lpA Tryz.prog 10 10 LoopState.ready none (spR (junks 58) [(0, AV.str s), (2, AV.nil), (3,
  AV.int 0), (4, AV.int 0), (5, AV.ptr 0 0 [] 0), (6, AV.ptr 1 0 [] 0), (7, AV.ptr 2 0 [] 0), (8, AV.str l), (12, AV.str s), (13, AV.int (↑(ByteArray.size s) :
  Int)), (14, AV.bool false), (15, AV.str s), (16, AV.clo 49 [AV.ptr 4 0 [] 0, AV.ptr 3 0 [] 0, AV.ptr 5 0 [] 0]), (17, AV.str l), (18, AV.int ln), (19, AV.int
  (IntKind.wrap IntKind.i64 (ln + (1 : Int)))), (20, AV.str l), (21, AV.int (IntKind.wrap IntKind.i64 (ln + (1 : Int)))), (22, AV.clo 28 [AV.ptr 8 0 [] 0, AV.ptr
  9 0 [] 0])])), Obj.box 31 (AV.agg [AV.int 0, AV.str { data := #[] }, AV.int 0])] = stLn κ a ∧ sideLn a ∧ ∀ (y : ByteArray), True → brn (a.f || ln1 a.tk.length
  a.t) (brn (Option.isNone (Prod.snd (Prod.snd (lnF (l1L a.ln) a.k a.t a.tk a.la)))) (brn (endT (Prod.fst (Prod.fst (Prod.snd (lnF (l1L a.ln) a.k a.t a.tk
  a.la)))) (Prod.fst (Prod.snd (Prod.fst (Prod.snd (lnF (l1L a.ln) a.k a.t a.tk a.la)))))) (brn ((↑(List.length (List.map avT (Prod.fst (lnF (l1L a.ln) a.k a.t
  a.tk a.la)))) : Int) == (300000 : Int)) (∃ (a_2 : Int × Int), ([AV.lst 35 [AV.ifc 42 (AV.pim 44 (AV.agg [AV.int (l1L a.ln), AV.int 21]))]], nilO) = ([AV.lst 35
  [AV.ifc 42 (AV.pim 44 (AV.agg [AV.int a_2.1, AV.int a_2.2]))]], nilO) ∧ True ∧ K2 [Obj.box 24 (AV.slc 11 0 (List.length (List.map avT (Prod.fst (lnF (l1L a.ln)
  a.k a.t a.tk a.la))))), Obj.box 35 (AV.ifc 60 (AV.ptr 16 0 [] 0)), Obj.box 3 (AV.int (l1L a.ln)), Obj.dead, Obj.dead, Obj.dead, Dn.Obj.loop (lpA Tryz.prog 10 7
  LoopState.done (some (Code.exit 0)) (spR (junks 58) [(0, AV.str a.s), (2, AV.nil), (3, AV.int 0), (4, AV.int 0), (5, AV.ptr 0 0 [] 0), (6, AV.ptr 1 0 [] 0),
  (7, AV.ptr 2 0 [] 0), (12, AV.str a.s), (13, AV.int (↑(ByteArray.size a.s) : Int)), (14, AV.bool false), (15, AV.str a.s), (16, AV.clo 49 [AV.ptr 4 0 [] 0,
  AV.ptr 3 0 [] 0, AV.ptr 5 0 [] 0])])), Obj.dead, Obj.box 9 (AV.str y), Obj.box 3 (AV.int (l1L a.ln)), Obj.dead, Obj.row 31 (List.map avT (Prod.fst (lnF (l1L
  a.ln) a.k a.t a.tk a.la))), Obj.box 31 (AV.agg [AV.lit (Value.int IntKind.i64 (Prod.fst (Prod.fst (Prod.snd (lnF (l1L a.ln) a.k a.t a.tk a.la))))), AV.lit
  (Value.string (Prod.fst (Prod.snd (Prod.fst (Prod.snd (lnF (l1L a.ln) a.k a.t a.tk a.la)))))), AV.lit (Value.int IntKind.i64 (Prod.snd (Prod.snd (Prod.fst
  (Prod.snd (lnF (l1L a.ln) a.k a.t a.tk a.la))))))]), Obj.box 31 (AV.agg [AV.int 4, AV.str { data := #[OfNat.ofNat 59] }, AV.int (l1L a.ln)]), Obj.dead, Obj.frz
  35 [AV.ifc 42 (AV.pim 44 (AV.agg [AV.int (l1L a.ln), AV.int 21]))], Obj.box 62 (AV.agg [AV.slc 17 0 1]), Obj.row 35 [AV.ifc 42 (AV.pim 44 (AV.agg [AV.int
  a_2.1, AV.int a_2.2]))]]) (cnd (decide ((List.length (List.map avT (Prod.fst (lnF (l1L a.ln) a.k a.t a.tk a.la))) + 1 + 1) * 33 ≤ 70368744177664)) (Q [Obj.box
  24 (AV.slc 7 0 (List.length (List.map avT (Prod.fst (lnF (l1L a.ln) a.k a.t a.tk a.la))) + 1)), Obj.box 35 (AV.lit Value.nilIface), Obj.box 3 (AV.int (l1L
  a.ln)), Obj.dead, Obj.dead, Obj.dead, Dn.Obj.loop (lpA Tryz.prog 10 7 LoopState.ready none (spR (junks 58) [(0, AV.str a.s), (2, AV.nil), (3, AV.int 0), (4,
  AV.int 0), (5, AV.ptr 0 0 [] 0), (6, AV.ptr 1 0 [] 0), (7, AV.ptr 2 0 [] 0), (12, AV.str a.s), (13, AV.int (↑(ByteArray.size a.s) : Int)), (14, AV.bool false),
  (15, AV.str a.s), (16, AV.clo 49 [AV.ptr 4 0 [] 0, AV.ptr 3 0 [] 0, AV.ptr 5 0 [] 0])])), Obj.row 31 (List.take (List.length (List.map avT (Prod.fst (lnF (l1L
  a.ln) a.k a.t a.tk a.la)))) (List.map avT (Prod.fst (lnF (l1L a.ln) a.k a.t a.tk a.la))) ++ [AV.agg [AV.int 4, AV.str { data := #[OfNat.ofNat 59] }, AV.int
  (l1L a.ln)]])]))) (Q [Obj.box 24 (AV.slc 7 0 (List.length (List.map avT (Prod.fst (lnF (l1L a.ln) a.k a.t a.tk a.la))))), Obj.box 35 (AV.lit Value.nilIface),
  Obj.box 3 (AV.int (l1L a.ln)), Obj.dead, Obj.dead, Obj.dead, Dn.Obj.loop (lpA Tryz.prog 10 7 LoopState.ready none (spR (junks 58) [(0, AV.str a.s), (2,
  AV.nil), (3, AV.int 0), (4, AV.int 0), (5, AV.ptr 0 0 [] 0), (6, AV.ptr 1 0 [] 0), (7, AV.ptr 2 0 [] 0), (12, AV.str a.s), (13, AV.int (↑(ByteArray.size a.s) :
  Int)), (14, AV.bool false), (15, AV.str a.s), (16, AV.clo 49 [AV.ptr 4 0 [] 0, AV.ptr 3 0 [] 0, AV.ptr 5 0 [] 0])])), Obj.row 31 (List.map avT (Prod.fst (lnF
  (l1L a.ln) a.k a.t a.tk a.la)))])) (K2 [Obj.box 24 (AV.slc 11 0 (List.length (List.map avT (Prod.fst (lnF (l1L a.ln) a.k a.t a.tk a.la))))), Obj.box 35 (AV.ifc
  60 (AV.ptr 12 0 [] 0)), Obj.box 3 (AV.int (l1L a.ln)), Obj.dead, Obj.dead, Obj.dead, Dn.Obj.loop (lpA Tryz.prog 10 7 LoopState.done (some (Code.exit 0)) (spR
  (junks 58) [(0, AV.str a.s), (2, AV.nil), (3, AV.int 0), (4, AV.int 0), (5, AV.ptr 0 0 [] 0), (6, AV.ptr 1 0 [] 0), (7, AV.ptr 2 0 [] 0), (12, AV.str a.s),
  (13, AV.int (↑(ByteArray.size a.s) : Int)), (14, AV.bool false), (15, AV.str a.s), (16, AV.clo 49 [AV.ptr 4 0 [] 0, AV.ptr 3 0 [] 0, AV.ptr 5 0 [] 0])])),
  Obj.dead, Obj.box 9 (AV.str y), Obj.box 3 (AV.int (l1L a.ln)), Obj.dead, Obj.row 31 (List.map avT (Prod.fst (lnF (l1L a.ln) a.k a.t a.tk a.la))), Obj.box 62
  (AV.agg [AV.slc 13 0 1]), Obj.row 35 [AV.ifc 42 (AV.pim 44 (AV.agg [AV.int (l1L a.ln), AV.lit (Value.int IntKind.i64 (Option.getD (Prod.snd (Prod.snd (lnF (l1L
  a.ln) a.k a.t a.tk a.la))) (0 : Int)))]))]])) (brn (Option.isNone (Prod.snd (Prod.snd (lnF (l1L a.ln) a.k a.t a.tk a.la)))) (brn (endT a.la.1 a.la.2.1) (brn
  ((↑(List.length (List.map avT a.tk)) : Int) == (300000 : Int)) (∃ (a_2 : Int × Int), ([AV.lst 35 [AV.ifc 42 (AV.pim 44 (AV.agg [AV.int (l1L a.ln), AV.int
  21]))]], nilO) = ([AV.lst 35 [AV.ifc 42 (AV.pim 44 (AV.agg [AV.int a_2.1, AV.int a_2.2]))]], nilO) ∧ True ∧ K2 [Obj.box 24 (AV.slc 7 0 (List.length (List.map
  avT a.tk))), Obj.box 35 (AV.ifc 60 (AV.ptr 15 0 [] 0)), Obj.box 3 (AV.int (l1L a.ln)), Obj.dead, Obj.dead, Obj.dead, Dn.Obj.loop (lpA Tryz.prog 10 7
  LoopState.done (some (Code.exit 0)) (spR (junks 58) [(0, AV.str a.s), (2, AV.nil), (3, AV.int 0), (4, AV.int 0), (5, AV.ptr 0 0 [] 0), (6, AV.ptr 1 0 [] 0),
  (7, AV.ptr 2 0 [] 0), (12, AV.str a.s), (13, AV.int (↑(ByteArray.size a.s) : Int)), (14, AV.bool false), (15, AV.str a.s), (16, AV.clo 49 [AV.ptr 4 0 [] 0,
  AV.ptr 3 0 [] 0, AV.ptr 5 0 [] 0])])), Obj.row 31 (List.map avT a.tk), Obj.box 9 (AV.str y), Obj.box 3 (AV.int (l1L a.ln)), Obj.dead, Obj.box 31 (AV.agg
  [AV.int a.la.1, AV.str a.la.2.1, AV.int a.la.2.2]), Obj.box 31 (AV.agg [AV.int 4, AV.str { data := #[OfNat.ofNat 59] }, AV.int (l1L a.ln)]), Obj.dead, Obj.frz
  35 [AV.ifc 42 (AV.pim 44 (AV.agg [AV.int (l1L a.ln), AV.int 21]))], Obj.box 62 (AV.agg [AV.slc 16 0 1]), Obj.row 35 [AV.ifc 42 (AV.pim 44 (AV.agg [AV.int
  a_2.1, AV.int a_2.2]))]]) (cnd (decide ((List.length (List.map avT a.tk) + 1 + 1) * 33 ≤ 70368744177664)) (Q [Obj.box 24 (AV.slc 7 0 (List.length (List.map avT
  a.tk) + 1)), Obj.box 35 (AV.lit Value.nilIface), Obj.box 3 (AV.int (l1L a.ln)), Obj.dead, Obj.dead, Obj.dead, Dn.Obj.loop (lpA Tryz.prog 10 7 LoopState.ready
  none (spR (junks 58) [(0, AV.str a.s), (2, AV.nil), (3, AV.int 0), (4, AV.int 0), (5, AV.ptr 0 0 [] 0), (6, AV.ptr 1 0 [] 0), (7, AV.ptr 2 0 [] 0), (12, AV.str
  a.s), (13, AV.int (↑(ByteArray.size a.s) : Int)), (14, AV.bool false), (15, AV.str a.s), (16, AV.clo 49 [AV.ptr 4 0 [] 0, AV.ptr 3 0 [] 0, AV.ptr 5 0 []
  0])])), Obj.row 31 (List.take (List.length (List.map avT a.tk)) (List.map avT a.tk) ++ [AV.agg [AV.int 4, AV.str { data := #[OfNat.ofNat 59] }, AV.int (l1L
  a.ln)]])]))) (Q [Obj.box 24 (AV.slc 7 0 (List.length (List.map avT a.tk))), Obj.box 35 (AV.lit Value.nilIface), Obj.box 3 (AV.int (l1L a.ln)), Obj.dead,
  Obj.dead, Obj.dead, Dn.Obj.loop (lpA Tryz.prog 10 7 LoopState.ready none (spR (junks 58) [(0, AV.str a.s), (2, AV.nil), (3, AV.int 0), (4, AV.int 0), (5,
  AV.ptr 0 0 [] 0), (6, AV.ptr 1 0 [] 0), (7, AV.ptr 2 0 [] 0), (12, AV.str a.s), (13, AV.int (↑(ByteArray.size a.s) : Int)), (14, AV.bool false), (15, AV.str
  a.s), (16, AV.clo 49 [AV.ptr 4 0 [] 0, AV.ptr 3 0 [] 0, AV.ptr 5 0 [] 0])])), Obj.row 31 (List.map avT a.tk)])) (K2 [Obj.box 24 (AV.slc 7 0 (List.length
  (List.map avT a.tk))), Obj.box 35 (AV.ifc 60 (AV.ptr 11 0 [] 0)), Obj.box 3 (AV.int (l1L a.ln)), Obj.dead, Obj.dead, Obj.dead, Dn.Obj.loop (lpA Tryz.prog 10 7
  LoopState.done (some (Code.exit 0)) (spR (junks 58) [(0, AV.str a.s), (2, AV.nil), (3, AV.int 0), (4, AV.int 0), (5, AV.ptr 0 0 [] 0), (6, AV.ptr 1 0 [] 0),
  (7, AV.ptr 2 0 [] 0), (12, AV.str a.s), (13, AV.int (↑(ByteArray.size a.s) : Int)), (14, AV.bool false), (15, AV.str a.s), (16, AV.clo 49 [AV.ptr 4 0 [] 0,
  AV.ptr 3 0 [] 0, AV.ptr 5 0 [] 0])])), Obj.row 31 (List.map avT a.tk), Obj.box 9 (AV.str y), Obj.box 3 (AV.int (l1L a.ln)), Obj.dead, Obj.box 62 (AV.agg
  [AV.slc 12 0 1]), Obj.row 35 [AV.ifc 42 (AV.pim 44 (AV.agg [AV.int (l1L a.ln), AV.lit (Value.int IntKind.i64 (Option.getD (Prod.snd (Prod.snd (lnF (l1L a.ln)
  a.k a.t a.tk a.la))) (0 : Int)))]))]]))) := by kernel_rfl
end Go.Proofs.YtbppdpbagmbmpaaGreatDoor
namespace Go.Proofs.YtbppdpbagmbmpaaGreatDoor
open Go Go.Dn Go.Proofs
attribute [local irreducible] funA vc
set_option maxRecDepth 20000
def semB : ByteArray := ⟨#[59]⟩
abbrev zT : TK := (0, ⟨#[]⟩, 0)
def lexF : List ByteArray → Int → List TK → List TK × Int × Option Int
  | [], ln, acc => (acc, ln, none)
  | l :: ls, ln, acc => match lnF (l1L ln) (l.size + 1) l acc zT with
    | (a, _, some c) => (a, l1L ln, some c)
    | (a, la, none) => bif endT la.1 la.2.1 then (bif ((a.length : Nat) : Int) == 300000 then (a, l1L ln, some 21) else lexF ls (l1L ln) (a ++ [(4, semB, l1L ln)])) else lexF ls (l1L ln) a
theorem lnF_len (l1 : Int) : ∀ (k : Nat) (t : ByteArray) (acc : List TK) (la : TK), acc.length ≤ 300000 → (lnF l1 k t acc la).1.length ≤ 300000
  | 0, _, _, _, h => h
  | k + 1, t, acc, la, h => by
    rw [lnF]
    cases (trB t).toList == (ByteArray.mk #[]).toList with
    | true => exact h
    | false =>
    cases hasP (trB t) slB with
    | true => exact h
    | false =>
    cases (tk1 (trB t)).2.2 == 0 with
    | true => exact h
    | false =>
    cases e : ((acc.length : Nat) : Int) == 300000 with
    | true => exact h
    | false =>
      have : ((acc.length : Nat) : Int) ≠ 300000 := fun e' => by rw [e'] at e; cases e
      exact lnF_len l1 k _ _ _ (by rw [List.length_append, List.length_singleton]; omega)
theorem ln1_no {l1 : Int} {k : Nat} {t : ByteArray} {acc : List TK} {la : TK} (h : ln1 acc.length t = false) : (lnF l1 (k + 1) t acc la).1 = acc ∧ (lnF l1 (k + 1) t acc la).2.1 = la := by
  unfold ln1 at h
  rw [lnF]
  cases e1 : (trB t).toList == (ByteArray.mk #[]).toList with
  | true => exact ⟨rfl, rfl⟩
  | false =>
  cases e2 : hasP (trB t) slB with
  | true => exact ⟨rfl, rfl⟩
  | false =>
  cases e3 : (tk1 (trB t)).2.2 == 0 with
  | true => exact ⟨rfl, rfl⟩
  | false =>
  cases e4 : ((acc.length : Nat) : Int) == 300000 with
  | true => exact ⟨rfl, rfl⟩
  | false => rw [e1, e2, e3, e4] at h; cases h
noncomputable abbrev eLx1 (κ : Kp) (s : ByteArray) (l1 : Int) (toks : List AV) (y : ByteArray) (la : TK) (c : Int) : List Dn.Obj :=
  [.box 24 (.slc 11 0 toks.length), .box 35 (.ifc 60 (.ptr 16 0 [] 0)), .box 3 (.int l1), .dead, .dead, .dead, lpL κ s .done (some (.exit 0)), .dead, .box 9 (.lit (.string y)), .box 3 (.int l1), .dead, .row 31 toks, .box 31 (avT la), .box 31 (tkA 4 semB l1), .dead, .frz 35 [wrA l1 c], .box 62 (.agg [.slc 17 0 1]), .row 35 [wrA l1 c]]
noncomputable abbrev eLx2 (κ : Kp) (s : ByteArray) (l1 : Int) (toks : List AV) (y : ByteArray) (c : Int) : List Dn.Obj :=
  [.box 24 (.slc 11 0 toks.length), .box 35 (.ifc 60 (.ptr 12 0 [] 0)), .box 3 (.int l1), .dead, .dead, .dead, lpL κ s .done (some (.exit 0)), .dead, .box 9 (.lit (.string y)), .box 3 (.int l1), .dead, .row 31 toks, .box 62 (.agg [.slc 13 0 1]), .row 35 [wrA l1 c]]
noncomputable abbrev eLx3 (κ : Kp) (s : ByteArray) (l1 : Int) (toks : List AV) (y : ByteArray) (c : Int) : List Dn.Obj :=
  [.box 24 (.slc 7 0 toks.length), .box 35 (.ifc 60 (.ptr 11 0 [] 0)), .box 3 (.int l1), .dead, .dead, .dead, lpL κ s .done (some (.exit 0)), .row 31 toks, .box 9 (.lit (.string y)), .box 3 (.int l1), .dead, .box 62 (.agg [.slc 12 0 1]), .row 35 [wrA l1 c]]
abbrev capsL : List AV := [.ptr 4 0 [] 0, .ptr 3 0 [] 0, .ptr 5 0 [] 0]
abbrev lexR (s : ByteArray) : List TK × Int × Option Int := lexF (linF s.size s) 0 []
noncomputable def spLx (κ : Kp) : RangeSpec := fun caps st K => ∃ s, (caps, st) = (capsL, strL0 κ s) ∧ s.size ≤ 1000000000 ∧
  brn (lexR s).2.2.isNone (K (strLr κ s (lexR s).2.1 ((lexR s).1.map avT)))
    (∀ (toks : List AV) (y : ByteArray) (la : TK), K (eLx1 κ s (lexR s).2.1 toks y la ((lexR s).2.2.getD 0)) ∧ K (eLx2 κ s (lexR s).2.1 toks y ((lexR s).2.2.getD 0)) ∧ K (eLx3 κ s (lexR s).2.1 toks y ((lexR s).2.2.getD 0)))
theorem spLx_mono (κ : Kp) : (spLx κ).Mono := by
  rintro caps st K K' hK ⟨s, h1, h0, h2⟩
  refine ⟨s, h1, h0, ?_⟩
  rw [brn_iff] at h2 ⊢
  exact ⟨fun e => hK _ (h2.1 e), fun e toks y la => ⟨hK _ (h2.2 e toks y la).1, hK _ (h2.2 e toks y la).2.1, hK _ (h2.2 e toks y la).2.2⟩⟩
theorem kLx (κ : Kp) (s : ByteArray) (xs : List AV) : (AV.yld 0 :: renL (idxS (capIds (strL0 κ s) capsL)) capsL, Obj.ext (some xs) :: renSt (idxS (capIds (strL0 κ s) capsL)) (getSt (strL0 κ s) (capIds (strL0 κ s) capsL))) = ([.yld 0, .ptr 1 0 [] 0, .ptr 2 0 [] 0, .ptr 3 0 [] 0], [.ext (some xs), .box 9 (.lit (.string nlB)), .box 9 (.lit (.string s)), .box 3 (.int 0)]) := by kernel_rfl
theorem oLx (κ : Kp) (s : ByteArray) : genOk (strL0 κ s) capsL = true := by kernel_rfl
theorem callSp (κ : Kp) (args : List AV) (st : List Dn.Obj) (K : AV → List Dn.Obj → Prop) (h : callE stSpc sideSpc outSpc args st K) : (BLn κ).E.call 49 args st K := h
theorem linF_size : ∀ (k : Nat) (s l : ByteArray), l ∈ linF k s → l.size ≤ s.size
  | 0, s, l, h => by rw [linF, List.mem_singleton] at h; rw [h]; exact Nat.le_refl _
  | k + 1, s, l, h => by
    rw [linF] at h
    cases e : decide (nlI s < 0) with
    | true => rw [e, cond_true, List.mem_singleton] at h; rw [h]; exact Nat.le_refl _
    | false =>
      rw [e, cond_false] at h
      rcases List.mem_cons.1 h with rfl | h
      · rw [ByteArray.size_extract]; omega
      · have := linF_size k _ l h
        rw [exs] at this; omega
theorem gLx (κ : Kp) : RangeOk (BLn κ).E 12 49 (spLx κ) := by
  rintro caps st K ⟨s, h1, h0, h5⟩
  obtain ⟨rfl, rfl⟩ := Prod.mk.inj h1
  have hsz : ∀ l ∈ linF s.size s, l.size ≤ 1000000000 := fun l hl => Nat.le_trans (linF_size _ _ _ hl) h0
  have hc : ∀ L, linF s.size s = L → (BLn κ).E.call 49 [.yld 0, .ptr 1 0 [] 0, .ptr 2 0 [] 0, .ptr 3 0 [] 0] [.ext (some (itS L)), .box 9 (.lit (.string nlB)), .box 9 (.lit (.string s)), .box 3 (.int 0)] fun _ st' => tdone st' := fun L hL => by
    subst hL
    exact callSp κ _ _ _ ⟨s, rfl, h0, fun st' h => h⟩
  unfold lexR at h5
  generalize hL : linF s.size s = L at h5 hsz
  have hc := hc L hL
  refine ⟨itS L, fun items st' => ∃ E2 ln acc, items = itS E2 ∧ st' = strLr κ s ln (acc.map avT) ∧ lexF E2 ln acc = lexF L 0 [] ∧ acc.length ≤ 300000 ∧ ∀ l ∈ E2, l.size ≤ 1000000000, ⟨oLx κ s, ?_, ?_, ?_, ?_⟩⟩
  · rw [(Prod.mk.inj (kLx κ s (itS L))).1, (Prod.mk.inj (kLx κ s (itS L))).2]
    exact hc
  · rw [show (BLn κ).E.P = Pr κ from rfl, show (strL0 κ s).length = 7 from rfl, sLx]
    exact ⟨L, 0, [], rfl, rfl, rfl, Nat.zero_le _, hsz⟩
  · rintro us rest st' ⟨E2, ln, acc, e1, rfl, e3, e4, e5⟩
    cases E2 with
    | nil => cases e1
    | cons l E2 =>
      obtain ⟨hu, rfl⟩ := List.cons.inj e1
      obtain rfl := AV.tup.inj hu
      rw [show (BLn κ).E.P = Pr κ from rfl, show (strL0 κ s).length = 7 from rfl, show (7 : Nat) - 1 = 6 from rfl]
      have hl := e5 l (List.mem_cons_self ..)
      have e5 := fun x hx => e5 x (List.mem_cons_of_mem _ hx)
      refine Eq.mpr (rLx κ s l ln (acc.map avT) _ K) ⟨rfl, ⟨s, l, ln, acc, l, zT, l.size + 1, false⟩, rfl, ⟨Nat.lt_succ_self _, hl, e4⟩, fun y _ => ?_⟩
      dsimp only
      rw [lexF] at e3
      have hlen := lnF_len (l1L ln) (l.size + 1) l acc zT e4
      have hno := @ln1_no (l1L ln) l.size l acc zT
      generalize lnF (l1L ln) (l.size + 1) l acc zT = R at hlen hno e3 ⊢
      obtain ⟨a, la, w⟩ := R
      simp only at hlen hno e3 ⊢
      rw [Bool.false_or]
      have q0 : ∀ c a', lexF L 0 [] = (a', l1L ln, some c) → (∀ (toks : List AV) (y : ByteArray) (la : TK), K (eLx1 κ s (l1L ln) toks y la c) ∧ K (eLx2 κ s (l1L ln) toks y c) ∧ K (eLx3 κ s (l1L ln) toks y c)) := fun c a' hw => by
        rw [hw] at h5
        exact (brn_iff.1 h5).2 rfl
      have next : ∀ acc' : List TK, lexF E2 (l1L ln) acc' = lexF L 0 [] → acc'.length ≤ 300000 → ∃ E' ln' acc'', itS E2 = itS E' ∧ strLr κ s (l1L ln) (acc'.map avT) = strLr κ s ln' (acc''.map avT) ∧ lexF E' ln' acc'' = lexF L 0 [] ∧ acc''.length ≤ 300000 ∧ ∀ l ∈ E', l.size ≤ 1000000000 :=
        fun acc' h hn => ⟨E2, l1L ln, acc', rfl, rfl, h, hn, e5⟩
      clear h5 hc
      cases w with
      | some c =>
        have q := q0 c a e3.symm
        exact brn_iff.2 ⟨fun _ => brn_iff.2 ⟨fun e => (by cases e), fun _ => (q (a.map avT) y zT).2.1⟩, fun _ => brn_iff.2 ⟨fun e => (by cases e), fun _ => (q (acc.map avT) y zT).2.2⟩⟩
      | none =>
        refine brn_iff.2 ⟨fun _ => brn_iff.2 ⟨fun _ => brn_iff.2 ⟨fun e6 => ?_, fun e6 => ?_⟩, fun e => (by cases e)⟩, fun e7 => brn_iff.2 ⟨fun _ => ?_, fun e => (by cases e)⟩⟩
        · simp only [e6, cond_true] at e3
          refine brn_iff.2 ⟨fun e8 => ?_, fun e8 => cnd_iff.2 ⟨by rw [decide_eq_true_eq, List.length_map]; omega, ?_⟩⟩
          · rw [List.length_map] at e8
            rw [e8, cond_true] at e3
            exact ⟨(l1L ln, 21), rfl, trivial, (q0 21 a e3.symm (a.map avT) y la).1⟩
          · rw [List.length_map] at e8
            rw [e8, cond_false] at e3
            have hne : ((a.length : Nat) : Int) ≠ 300000 := fun e => by rw [e] at e8; cases e8
            have h9 := next _ e3 (by rw [List.length_append, List.length_singleton]; omega)
            simp only [strLr, List.map_append, List.map_cons, List.map_nil, List.length_append, List.length_singleton] at h9
            rw [List.take_length]
            exact h9
        · simp only [e6, cond_false] at e3
          exact next _ e3 hlen
        · obtain ⟨rfl, rfl⟩ := hno e7
          have e6 : endT (zT).1 (zT).2.1 = false := rfl
          simp only [e6, cond_false] at e3
          exact brn_iff.2 ⟨fun e => absurd (e6.symm.trans e) (by decide), fun _ => next _ e3 e4⟩
  · rintro st' ⟨E2, ln, acc, e1, rfl, e3, e4, e5⟩
    obtain rfl : E2 = [] := by cases E2 with | nil => rfl | cons _ _ => cases e1
    rw [← e3, lexF] at h5
    exact (brn_iff.1 h5).1 rfl
noncomputable def BLr (κ : Kp) : EB := (BLn κ).range 10 7 (spLx_mono κ) (gLx κ) (fun f => memN f [49])
theorem yLx (κ : Kp) (s : ByteArray) (K : AV → List Dn.Obj → Prop) : (funA (BLr κ).E 12 10 [.lit (.string s)] [] K) = (
  brn (decide ((↑(ByteArray.size s) : Int) > (1048576 : Int))) (K (AV.tup [AV.nil, AV.int 0, AV.int 21]) []) (∃ (s_1 : ByteArray), ([AV.ptr 4 0 [] 0, AV.ptr 3 0 []
  0, AV.ptr 5 0 [] 0], [Obj.box 24 AV.nil, Obj.box 35 (AV.lit Value.nilIface), Obj.box 3 (AV.int 0), Obj.box 9 (AV.str s), Obj.box 9 (AV.str
  { data := #[OfNat.ofNat 10] }), Obj.box 3 (AV.int 0), Dn.Obj.loop (lpA Tryz.prog 10 7 LoopState.ready none (spR (junks 58) [(0, AV.str s), (2, AV.nil), (3,
  AV.int 0), (4, AV.int 0), (5, AV.ptr 0 0 [] 0), (6, AV.ptr 1 0 [] 0), (7, AV.ptr 2 0 [] 0), (12, AV.str s), (13, AV.int (↑(ByteArray.size s) : Int)), (14,
  AV.bool false), (15, AV.str s), (16, AV.clo 49 [AV.ptr 4 0 [] 0, AV.ptr 3 0 [] 0, AV.ptr 5 0 [] 0])]))]) = ([AV.ptr 4 0 [] 0, AV.ptr 3 0 [] 0, AV.ptr 5 0 []
  0], [Obj.box 24 AV.nil, Obj.box 35 (AV.lit Value.nilIface), Obj.box 3 (AV.int 0), Obj.box 9 (AV.str s_1), Obj.box 9 (AV.str nlB), Obj.box 3 (AV.int 0),
  Dn.Obj.loop (lpA Tryz.prog 10 7 LoopState.ready none (spR (junks 58) [(0, AV.str s_1), (2, AV.nil), (3, AV.int 0), (4, AV.int 0), (5, AV.ptr 0 0 [] 0), (6,
  AV.ptr 1 0 [] 0), (7, AV.ptr 2 0 [] 0), (12, AV.str s_1), (13, AV.int (↑(ByteArray.size s_1) : Int)), (14, AV.bool false), (15, AV.str s_1), (16, AV.clo 49
  [AV.ptr 4 0 [] 0, AV.ptr 3 0 [] 0, AV.ptr 5 0 [] 0])]))]) ∧ ByteArray.size s_1 ≤ 1000000000 ∧ brn (Option.isNone (Prod.snd (Prod.snd (lexR s_1)))) (∃ (a :
  Unit), ([AV.lit Value.nilIface, AV.ifc 47 (AV.ptr 0 0 [] 0)], [Obj.box 42 (AV.lit (Value.pointer none))]) = ([AV.lit Value.nilIface, AV.ifc 47 (AV.ptr 0 0 []
  0)], [Obj.box 42 (AV.lit (Value.pointer none))]) ∧ True ∧ K (AV.tup [AV.slc 0 0 (List.length (List.map avT (Prod.fst (lexR s_1)))), AV.int 0, AV.int 0])
  [Obj.row 31 (List.map avT (Prod.fst (lexR s_1)))]) (∀ (toks : List AV) (y : ByteArray) (la : TK), (∃ (a : Int × Int), ([AV.ifc 60 (AV.ptr 0 0 [] 0), AV.ifc 47
  (AV.ptr 2 0 [] 0)], [Obj.box 62 (AV.agg [AV.slc 1 0 1]), Obj.row 35 [AV.ifc 42 (AV.pim 44 (AV.agg [AV.int (Prod.fst (Prod.snd (lexR s_1))), AV.lit (Value.int
  IntKind.i64 (Option.getD (Prod.snd (Prod.snd (lexR s_1))) (0 : Int)))]))], Obj.box 42 (AV.lit (Value.pointer none))]) = ([AV.ifc 60 (AV.ptr 0 0 [] 0), AV.ifc
  47 (AV.ptr 2 0 [] 0)], [Obj.box 62 (AV.agg [AV.slc 1 0 1]), Obj.row 35 [AV.ifc 42 (AV.pim 44 (AV.agg [AV.int a.1, AV.int a.2]))], Obj.box 42 (AV.lit
  (Value.pointer none))]) ∧ True ∧ K (AV.tup [AV.nil, AV.int a.1, AV.int a.2]) []) ∧ (∃ (a : Int × Int), ([AV.ifc 60 (AV.ptr 0 0 [] 0), AV.ifc 47 (AV.ptr 2 0 []
  0)], [Obj.box 62 (AV.agg [AV.slc 1 0 1]), Obj.row 35 [AV.ifc 42 (AV.pim 44 (AV.agg [AV.int (Prod.fst (Prod.snd (lexR s_1))), AV.lit (Value.int IntKind.i64
  (Option.getD (Prod.snd (Prod.snd (lexR s_1))) (0 : Int)))]))], Obj.box 42 (AV.lit (Value.pointer none))]) = ([AV.ifc 60 (AV.ptr 0 0 [] 0), AV.ifc 47 (AV.ptr 2
  0 [] 0)], [Obj.box 62 (AV.agg [AV.slc 1 0 1]), Obj.row 35 [AV.ifc 42 (AV.pim 44 (AV.agg [AV.int a.1, AV.int a.2]))], Obj.box 42 (AV.lit (Value.pointer none))])
  ∧ True ∧ K (AV.tup [AV.nil, AV.int a.1, AV.int a.2]) []) ∧ ∃ (a : Int × Int), ([AV.ifc 60 (AV.ptr 0 0 [] 0), AV.ifc 47 (AV.ptr 2 0 [] 0)], [Obj.box 62 (AV.agg
  [AV.slc 1 0 1]), Obj.row 35 [AV.ifc 42 (AV.pim 44 (AV.agg [AV.int (Prod.fst (Prod.snd (lexR s_1))), AV.lit (Value.int IntKind.i64 (Option.getD (Prod.snd
  (Prod.snd (lexR s_1))) (0 : Int)))]))], Obj.box 42 (AV.lit (Value.pointer none))]) = ([AV.ifc 60 (AV.ptr 0 0 [] 0), AV.ifc 47 (AV.ptr 2 0 [] 0)], [Obj.box 62
  (AV.agg [AV.slc 1 0 1]), Obj.row 35 [AV.ifc 42 (AV.pim 44 (AV.agg [AV.int a.1, AV.int a.2]))], Obj.box 42 (AV.lit (Value.pointer none))]) ∧ True ∧ K (AV.tup
  [AV.nil, AV.int a.1, AV.int a.2]) []))) := by kernel_rfl
end Go.Proofs.YtbppdpbagmbmpaaGreatDoor
