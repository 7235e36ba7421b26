import Derived.Test.YtbppdpbagmbmpaaGreatDoorDxGG
namespace Go.Proofs.YtbppdpbagmbmpaaGreatDoor
open Go Go.Dn Go.Proofs
attribute [local irreducible] funA vc
set_option maxRecDepth 20000
def semB : ByteArray := ⟨#[59]⟩
abbrev zT : TK := (0, ⟨#[]⟩, 0)
def lexF : List ByteArray → Int → List TK → List TK × Int × Option Int
  | [], ln, acc => (acc, ln, none)
  | l :: ls, ln, acc => match lnF (l1L ln) (l.size + 1) l acc zT with
    | (a, _, some c) => (a, l1L ln, some c)
    | (a, la, none) => bif endT la.1 la.2.1 then (bif ((a.length : Nat) : Int) == 300000 then (a, l1L ln, some 21) else lexF ls (l1L ln) (a ++ [(4, semB, l1L ln)])) else lexF ls (l1L ln) a
theorem lnF_len (l1 : Int) : ∀ (k : Nat) (t : ByteArray) (acc : List TK) (la : TK), acc.length ≤ 300000 → (lnF l1 k t acc la).1.length ≤ 300000
  | 0, _, _, _, h => h
  | k + 1, t, acc, la, h => by
    rw [lnF]
    cases (trB t).toList == (ByteArray.mk #[]).toList with
    | true => exact h
    | false =>
    cases hasP (trB t) slB with
    | true => exact h
    | false =>
    cases (tk1 (trB t)).2.2 == 0 with
    | true => exact h
    | false =>
    cases e : ((acc.length : Nat) : Int) == 300000 with
    | true => exact h
    | false =>
      have : ((acc.length : Nat) : Int) ≠ 300000 := fun e' => by rw [e'] at e; cases e
      exact lnF_len l1 k _ _ _ (by rw [List.length_append, List.length_singleton]; omega)
theorem ln1_no {l1 : Int} {k : Nat} {t : ByteArray} {acc : List TK} {la : TK} (h : ln1 acc.length t = false) : (lnF l1 (k + 1) t acc la).1 = acc ∧ (lnF l1 (k + 1) t acc la).2.1 = la := by
  unfold ln1 at h
  rw [lnF]
  cases e1 : (trB t).toList == (ByteArray.mk #[]).toList with
  | true => exact ⟨rfl, rfl⟩
  | false =>
  cases e2 : hasP (trB t) slB with
  | true => exact ⟨rfl, rfl⟩
  | false =>
  cases e3 : (tk1 (trB t)).2.2 == 0 with
  | true => exact ⟨rfl, rfl⟩
  | false =>
  cases e4 : ((acc.length : Nat) : Int) == 300000 with
  | true => exact ⟨rfl, rfl⟩
  | false => rw [e1, e2, e3, e4] at h; cases h
noncomputable abbrev eLx1 (κ : Kp) (s : ByteArray) (l1 : Int) (toks : List AV) (y : ByteArray) (la : TK) (c : Int) : List Dn.Obj :=
  [.box 24 (.slc 11 0 toks.length), .box 35 (.ifc 60 (.ptr 16 0 [] 0)), .box 3 (.int l1), .dead, .dead, .dead, lpL κ s .done (some (.exit 0)), .dead, .box 9 (.lit (.string y)), .box 3 (.int l1), .dead, .row 31 toks, .box 31 (avT la), .box 31 (tkA 4 semB l1), .dead, .frz 35 [wrA l1 c], .box 62 (.agg [.slc 17 0 1]), .row 35 [wrA l1 c]]
noncomputable abbrev eLx2 (κ : Kp) (s : ByteArray) (l1 : Int) (toks : List AV) (y : ByteArray) (c : Int) : List Dn.Obj :=
  [.box 24 (.slc 11 0 toks.length), .box 35 (.ifc 60 (.ptr 12 0 [] 0)), .box 3 (.int l1), .dead, .dead, .dead, lpL κ s .done (some (.exit 0)), .dead, .box 9 (.lit (.string y)), .box 3 (.int l1), .dead, .row 31 toks, .box 62 (.agg [.slc 13 0 1]), .row 35 [wrA l1 c]]
noncomputable abbrev eLx3 (κ : Kp) (s : ByteArray) (l1 : Int) (toks : List AV) (y : ByteArray) (c : Int) : List Dn.Obj :=
  [.box 24 (.slc 7 0 toks.length), .box 35 (.ifc 60 (.ptr 11 0 [] 0)), .box 3 (.int l1), .dead, .dead, .dead, lpL κ s .done (some (.exit 0)), .row 31 toks, .box 9 (.lit (.string y)), .box 3 (.int l1), .dead, .box 62 (.agg [.slc 12 0 1]), .row 35 [wrA l1 c]]
abbrev capsL : List AV := [.ptr 4 0 [] 0, .ptr 3 0 [] 0, .ptr 5 0 [] 0]
abbrev lexR (s : ByteArray) : List TK × Int × Option Int := lexF (linF s.size s) 0 []
noncomputable def spLx (κ : Kp) : RangeSpec := fun caps st K => ∃ s, (caps, st) = (capsL, strL0 κ s) ∧ s.size ≤ 1000000000 ∧
  brn (lexR s).2.2.isNone (K (strLr κ s (lexR s).2.1 ((lexR s).1.map avT)))
    (∀ (toks : List AV) (y : ByteArray) (la : TK), K (eLx1 κ s (lexR s).2.1 toks y la ((lexR s).2.2.getD 0)) ∧ K (eLx2 κ s (lexR s).2.1 toks y ((lexR s).2.2.getD 0)) ∧ K (eLx3 κ s (lexR s).2.1 toks y ((lexR s).2.2.getD 0)))
theorem spLx_mono (κ : Kp) : (spLx κ).Mono := by
  rintro caps st K K' hK ⟨s, h1, h0, h2⟩
  refine ⟨s, h1, h0, ?_⟩
  rw [brn_iff] at h2 ⊢
  exact ⟨fun e => hK _ (h2.1 e), fun e toks y la => ⟨hK _ (h2.2 e toks y la).1, hK _ (h2.2 e toks y la).2.1, hK _ (h2.2 e toks y la).2.2⟩⟩
theorem kLx (κ : Kp) (s : ByteArray) (xs : List AV) : (AV.yld 0 :: renL (idxS (capIds (strL0 κ s) capsL)) capsL, Obj.ext (some xs) :: renSt (idxS (capIds (strL0 κ s) capsL)) (getSt (strL0 κ s) (capIds (strL0 κ s) capsL))) = ([.yld 0, .ptr 1 0 [] 0, .ptr 2 0 [] 0, .ptr 3 0 [] 0], [.ext (some xs), .box 9 (.lit (.string nlB)), .box 9 (.lit (.string s)), .box 3 (.int 0)]) := by kernel_rfl
theorem oLx (κ : Kp) (s : ByteArray) : genOk (strL0 κ s) capsL = true := by kernel_rfl
theorem callSp (κ : Kp) (args : List AV) (st : List Dn.Obj) (K : AV → List Dn.Obj → Prop) (h : callE stSpc sideSpc outSpc args st K) : (BLn κ).E.call 49 args st K := h
theorem linF_size : ∀ (k : Nat) (s l : ByteArray), l ∈ linF k s → l.size ≤ s.size
  | 0, s, l, h => by rw [linF, List.mem_singleton] at h; rw [h]; exact Nat.le_refl _
  | k + 1, s, l, h => by
    rw [linF] at h
    cases e : decide (nlI s < 0) with
    | true => rw [e, cond_true, List.mem_singleton] at h; rw [h]; exact Nat.le_refl _
    | false =>
      rw [e, cond_false] at h
      rcases List.mem_cons.1 h with rfl | h
      · rw [ByteArray.size_extract]; omega
      · have := linF_size k _ l h
        rw [exs] at this; omega
theorem gLx (κ : Kp) : RangeOk (BLn κ).E 12 49 (spLx κ) := by
  rintro caps st K ⟨s, h1, h0, h5⟩
  obtain ⟨rfl, rfl⟩ := Prod.mk.inj h1
  have hsz : ∀ l ∈ linF s.size s, l.size ≤ 1000000000 := fun l hl => Nat.le_trans (linF_size _ _ _ hl) h0
  have hc : ∀ L, linF s.size s = L → (BLn κ).E.call 49 [.yld 0, .ptr 1 0 [] 0, .ptr 2 0 [] 0, .ptr 3 0 [] 0] [.ext (some (itS L)), .box 9 (.lit (.string nlB)), .box 9 (.lit (.string s)), .box 3 (.int 0)] fun _ st' => tdone st' := fun L hL => by
    subst hL
    exact callSp κ _ _ _ ⟨s, rfl, h0, fun st' h => h⟩
  unfold lexR at h5
  generalize hL : linF s.size s = L at h5 hsz
  have hc := hc L hL
  refine ⟨itS L, fun items st' => ∃ E2 ln acc, items = itS E2 ∧ st' = strLr κ s ln (acc.map avT) ∧ lexF E2 ln acc = lexF L 0 [] ∧ acc.length ≤ 300000 ∧ ∀ l ∈ E2, l.size ≤ 1000000000, ⟨oLx κ s, ?_, ?_, ?_, ?_⟩⟩
  · rw [(Prod.mk.inj (kLx κ s (itS L))).1, (Prod.mk.inj (kLx κ s (itS L))).2]
    exact hc
  · rw [show (BLn κ).E.P = Pr κ from rfl, show (strL0 κ s).length = 7 from rfl, sLx]
    exact ⟨L, 0, [], rfl, rfl, rfl, Nat.zero_le _, hsz⟩
  · rintro us rest st' ⟨E2, ln, acc, e1, rfl, e3, e4, e5⟩
    cases E2 with
    | nil => cases e1
    | cons l E2 =>
      obtain ⟨hu, rfl⟩ := List.cons.inj e1
      obtain rfl := AV.tup.inj hu
      rw [show (BLn κ).E.P = Pr κ from rfl, show (strL0 κ s).length = 7 from rfl, show (7 : Nat) - 1 = 6 from rfl]
      have hl := e5 l (List.mem_cons_self ..)
      have e5 := fun x hx => e5 x (List.mem_cons_of_mem _ hx)
      refine Eq.mpr (rLx κ s l ln (acc.map avT) _ K) ⟨rfl, ⟨s, l, ln, acc, l, zT, l.size + 1, false⟩, rfl, ⟨Nat.lt_succ_self _, hl, e4⟩, fun y _ => ?_⟩
      dsimp only
      rw [lexF] at e3
      have hlen := lnF_len (l1L ln) (l.size + 1) l acc zT e4
      have hno := @ln1_no (l1L ln) l.size l acc zT
      generalize lnF (l1L ln) (l.size + 1) l acc zT = R at hlen hno e3 ⊢
      obtain ⟨a, la, w⟩ := R
      simp only at hlen hno e3 ⊢
      rw [Bool.false_or]
      have q0 : ∀ c a', lexF L 0 [] = (a', l1L ln, some c) → (∀ (toks : List AV) (y : ByteArray) (la : TK), K (eLx1 κ s (l1L ln) toks y la c) ∧ K (eLx2 κ s (l1L ln) toks y c) ∧ K (eLx3 κ s (l1L ln) toks y c)) := fun c a' hw => by
        rw [hw] at h5
        exact (brn_iff.1 h5).2 rfl
      have next : ∀ acc' : List TK, lexF E2 (l1L ln) acc' = lexF L 0 [] → acc'.length ≤ 300000 → ∃ E' ln' acc'', itS E2 = itS E' ∧ strLr κ s (l1L ln) (acc'.map avT) = strLr κ s ln' (acc''.map avT) ∧ lexF E' ln' acc'' = lexF L 0 [] ∧ acc''.length ≤ 300000 ∧ ∀ l ∈ E', l.size ≤ 1000000000 :=
        fun acc' h hn => ⟨E2, l1L ln, acc', rfl, rfl, h, hn, e5⟩
      clear h5 hc
      cases w with
      | some c =>
        have q := q0 c a e3.symm
        exact brn_iff.2 ⟨fun _ => brn_iff.2 ⟨fun e => (by cases e), fun _ => (q (a.map avT) y zT).2.1⟩, fun _ => brn_iff.2 ⟨fun e => (by cases e), fun _ => (q (acc.map avT) y zT).2.2⟩⟩
      | none =>
        refine brn_iff.2 ⟨fun _ => brn_iff.2 ⟨fun _ => brn_iff.2 ⟨fun e6 => ?_, fun e6 => ?_⟩, fun e => (by cases e)⟩, fun e7 => brn_iff.2 ⟨fun _ => ?_, fun e => (by cases e)⟩⟩
        · simp only [e6, cond_true] at e3
          refine brn_iff.2 ⟨fun e8 => ?_, fun e8 => cnd_iff.2 ⟨by rw [decide_eq_true_eq, List.length_map]; omega, ?_⟩⟩
          · rw [List.length_map] at e8
            rw [e8, cond_true] at e3
            exact ⟨(l1L ln, 21), rfl, trivial, (q0 21 a e3.symm (a.map avT) y la).1⟩
          · rw [List.length_map] at e8
            rw [e8, cond_false] at e3
            have hne : ((a.length : Nat) : Int) ≠ 300000 := fun e => by rw [e] at e8; cases e8
            have h9 := next _ e3 (by rw [List.length_append, List.length_singleton]; omega)
            simp only [strLr, List.map_append, List.map_cons, List.map_nil, List.length_append, List.length_singleton] at h9
            rw [List.take_length]
            exact h9
        · simp only [e6, cond_false] at e3
          exact next _ e3 hlen
        · obtain ⟨rfl, rfl⟩ := hno e7
          have e6 : endT (zT).1 (zT).2.1 = false := rfl
          simp only [e6, cond_false] at e3
          exact brn_iff.2 ⟨fun e => absurd (e6.symm.trans e) (by decide), fun _ => next _ e3 e4⟩
  · rintro st' ⟨E2, ln, acc, e1, rfl, e3, e4, e5⟩
    obtain rfl : E2 = [] := by cases E2 with | nil => rfl | cons _ _ => cases e1
    rw [← e3, lexF] at h5
    exact (brn_iff.1 h5).1 rfl
noncomputable def BLr (κ : Kp) : EB := (BLn κ).range 10 7 (spLx_mono κ) (gLx κ) (fun f => memN f [49])
theorem yLx (κ : Kp) (s : ByteArray) (K : AV → List Dn.Obj → Prop) : (funA (BLr κ).E 12 10 [.lit (.string s)] [] K) = (
  brn (decide ((↑(ByteArray.size s) : Int) > (1048576 : Int))) (K (AV.tup [AV.nil, AV.int 0, AV.int 21]) []) (∃ (s_1 : ByteArray), ([AV.ptr 4 0 [] 0, AV.ptr 3 0 []
  0, AV.ptr 5 0 [] 0], [Obj.box 24 AV.nil, Obj.box 35 (AV.lit Value.nilIface), Obj.box 3 (AV.int 0), Obj.box 9 (AV.str s), Obj.box 9 (AV.str
  { data := #[OfNat.ofNat 10] }), Obj.box 3 (AV.int 0), Dn.Obj.loop (lpA Tryz.prog 10 7 LoopState.ready none (spR (junks 58) [(0, AV.str s), (2, AV.nil), (3,
  AV.int 0), (4, AV.int 0), (5, AV.ptr 0 0 [] 0), (6, AV.ptr 1 0 [] 0), (7, AV.ptr 2 0 [] 0), (12, AV.str s), (13, AV.int (↑(ByteArray.size s) : Int)), (14,
  AV.bool false), (15, AV.str s), (16, AV.clo 49 [AV.ptr 4 0 [] 0, AV.ptr 3 0 [] 0, AV.ptr 5 0 [] 0])]))]) = ([AV.ptr 4 0 [] 0, AV.ptr 3 0 [] 0, AV.ptr 5 0 []
  0], [Obj.box 24 AV.nil, Obj.box 35 (AV.lit Value.nilIface), Obj.box 3 (AV.int 0), Obj.box 9 (AV.str s_1), Obj.box 9 (AV.str nlB), Obj.box 3 (AV.int 0),
  Dn.Obj.loop (lpA Tryz.prog 10 7 LoopState.ready none (spR (junks 58) [(0, AV.str s_1), (2, AV.nil), (3, AV.int 0), (4, AV.int 0), (5, AV.ptr 0 0 [] 0), (6,
  AV.ptr 1 0 [] 0), (7, AV.ptr 2 0 [] 0), (12, AV.str s_1), (13, AV.int (↑(ByteArray.size s_1) : Int)), (14, AV.bool false), (15, AV.str s_1), (16, AV.clo 49
  [AV.ptr 4 0 [] 0, AV.ptr 3 0 [] 0, AV.ptr 5 0 [] 0])]))]) ∧ ByteArray.size s_1 ≤ 1000000000 ∧ brn (Option.isNone (Prod.snd (Prod.snd (lexR s_1)))) (∃ (a :
  Unit), ([AV.lit Value.nilIface, AV.ifc 47 (AV.ptr 0 0 [] 0)], [Obj.box 42 (AV.lit (Value.pointer none))]) = ([AV.lit Value.nilIface, AV.ifc 47 (AV.ptr 0 0 []
  0)], [Obj.box 42 (AV.lit (Value.pointer none))]) ∧ True ∧ K (AV.tup [AV.slc 0 0 (List.length (List.map avT (Prod.fst (lexR s_1)))), AV.int 0, AV.int 0])
  [Obj.row 31 (List.map avT (Prod.fst (lexR s_1)))]) (∀ (toks : List AV) (y : ByteArray) (la : TK), (∃ (a : Int × Int), ([AV.ifc 60 (AV.ptr 0 0 [] 0), AV.ifc 47
  (AV.ptr 2 0 [] 0)], [Obj.box 62 (AV.agg [AV.slc 1 0 1]), Obj.row 35 [AV.ifc 42 (AV.pim 44 (AV.agg [AV.int (Prod.fst (Prod.snd (lexR s_1))), AV.lit (Value.int
  IntKind.i64 (Option.getD (Prod.snd (Prod.snd (lexR s_1))) (0 : Int)))]))], Obj.box 42 (AV.lit (Value.pointer none))]) = ([AV.ifc 60 (AV.ptr 0 0 [] 0), AV.ifc
  47 (AV.ptr 2 0 [] 0)], [Obj.box 62 (AV.agg [AV.slc 1 0 1]), Obj.row 35 [AV.ifc 42 (AV.pim 44 (AV.agg [AV.int a.1, AV.int a.2]))], Obj.box 42 (AV.lit
  (Value.pointer none))]) ∧ True ∧ K (AV.tup [AV.nil, AV.int a.1, AV.int a.2]) []) ∧ (∃ (a : Int × Int), ([AV.ifc 60 (AV.ptr 0 0 [] 0), AV.ifc 47 (AV.ptr 2 0 []
  0)], [Obj.box 62 (AV.agg [AV.slc 1 0 1]), Obj.row 35 [AV.ifc 42 (AV.pim 44 (AV.agg [AV.int (Prod.fst (Prod.snd (lexR s_1))), AV.lit (Value.int IntKind.i64
  (Option.getD (Prod.snd (Prod.snd (lexR s_1))) (0 : Int)))]))], Obj.box 42 (AV.lit (Value.pointer none))]) = ([AV.ifc 60 (AV.ptr 0 0 [] 0), AV.ifc 47 (AV.ptr 2
  0 [] 0)], [Obj.box 62 (AV.agg [AV.slc 1 0 1]), Obj.row 35 [AV.ifc 42 (AV.pim 44 (AV.agg [AV.int a.1, AV.int a.2]))], Obj.box 42 (AV.lit (Value.pointer none))])
  ∧ True ∧ K (AV.tup [AV.nil, AV.int a.1, AV.int a.2]) []) ∧ ∃ (a : Int × Int), ([AV.ifc 60 (AV.ptr 0 0 [] 0), AV.ifc 47 (AV.ptr 2 0 [] 0)], [Obj.box 62 (AV.agg
  [AV.slc 1 0 1]), Obj.row 35 [AV.ifc 42 (AV.pim 44 (AV.agg [AV.int (Prod.fst (Prod.snd (lexR s_1))), AV.lit (Value.int IntKind.i64 (Option.getD (Prod.snd
  (Prod.snd (lexR s_1))) (0 : Int)))]))], Obj.box 42 (AV.lit (Value.pointer none))]) = ([AV.ifc 60 (AV.ptr 0 0 [] 0), AV.ifc 47 (AV.ptr 2 0 [] 0)], [Obj.box 62
  (AV.agg [AV.slc 1 0 1]), Obj.row 35 [AV.ifc 42 (AV.pim 44 (AV.agg [AV.int a.1, AV.int a.2]))], Obj.box 42 (AV.lit (Value.pointer none))]) ∧ True ∧ K (AV.tup
  [AV.nil, AV.int a.1, AV.int a.2]) []))) := by kernel_rfl
end Go.Proofs.YtbppdpbagmbmpaaGreatDoor
namespace Go.Proofs.YtbppdpbagmbmpaaGreatDoor
open Go Go.Dn Go.Proofs
attribute [local irreducible] funA vc
set_option maxRecDepth 20000
def stLx (s : ByteArray) : List AV × List Dn.Obj := ([.lit (.string s)], [])
def sideLx (_ : ByteArray) : Prop := True
def lexA (s : ByteArray) : List TK × Int × Option Int := bif decide ((s.size : Int) > 1048576) then ([], 0, some 21) else lexR s
abbrev tkR (l : List TK) : AV := .slc 0 0 (l.map avT).length
def outLx (s : ByteArray) : Out (AV × List Dn.Obj) := .brn (lexA s).2.2.isNone (.one (.tup [tkR (lexA s).1, .int 0, .int 0], [.row 31 ((lexA s).1.map avT)])) (.one (.tup [.nil, .int (lexA s).2.1, .int ((lexA s).2.2.getD 0)], []))
theorem cLx (κ : Kp) : CallOk (BLr κ).E 12 10 (callE stLx sideLx outLx) := by
  refine callE_ok ?_
  rintro s K _ ho
  have ho : brn (lexA s).2.2.isNone (K (.tup [tkR (lexA s).1, .int 0, .int 0]) [.row 31 ((lexA s).1.map avT)]) (K (.tup [.nil, .int (lexA s).2.1, .int ((lexA s).2.2.getD 0)]) []) := ho
  refine Eq.mpr (yLx κ s K) ?_
  unfold lexA at ho
  rw [brn_iff]
  refine ⟨fun e => ?_, fun e => ?_⟩
  · rw [e] at ho
    exact (brn_iff.1 ho).2 rfl
  · rw [e, cond_false] at ho
    refine ⟨s, rfl, by have := of_decide_eq_false e; omega, ?_⟩
    generalize lexR s = R at ho ⊢
    rw [brn_iff] at ho ⊢
    refine ⟨fun e2 => ⟨(), rfl, trivial, ho.1 e2⟩, fun e2 toks y la => ⟨⟨(R.2.1, R.2.2.getD 0), rfl, trivial, ho.2 e2⟩, ⟨(R.2.1, R.2.2.getD 0), rfl, trivial, ho.2 e2⟩, ⟨(R.2.1, R.2.2.getD 0), rfl, trivial, ho.2 e2⟩⟩⟩
noncomputable def BLx (κ : Kp) : EB := (BLr κ).call (cLx κ)
end Go.Proofs.YtbppdpbagmbmpaaGreatDoor
namespace Go.Proofs.YtbppdpbagmbmpaaGreatDoor
open Go Go.Dn Go.Proofs
attribute [local irreducible] funA vc
set_option maxRecDepth 20000
theorem ySh (κ : Kp) (K : AV → List Dn.Obj → Prop) : (funA (BLx κ).E 12 8 [] [] K) = (
  ∃ (a : ByteArray), ([AV.lit (Value.string
  { data := #[OfNat.ofNat 120, OfNat.ofNat 32, OfNat.ofNat 58, OfNat.ofNat 61, OfNat.ofNat 32, OfNat.ofNat 49, OfNat.ofNat 10, OfNat.ofNat 125] })], []) = stLx a
  ∧ sideLx a ∧ brn (Option.isNone (Prod.snd (Prod.snd (lexA a)))) (∃ (a_1 : ByteArray), ([AV.lit (Value.string
  { data := #[OfNat.ofNat 120, OfNat.ofNat 10, OfNat.ofNat 49, OfNat.ofNat 46, OfNat.ofNat 53] })], []) = stLx a_1 ∧ sideLx a_1 ∧ brn (Option.isNone (Prod.snd
  (Prod.snd (lexA a_1)))) (brn ((↑(List.length (List.map avT (Prod.fst (lexA a)))) : Int) == (6 : Int)) (cnd (true && decide ((1 : Int) < (↑(List.length
  (List.map avT (Prod.fst (lexA a)))) : Int))) (brn (ByteArray.toList (toStr (fld (nth (List.map avT (Prod.fst (lexA a))) 1) 1)) == ByteArray.toList
  { data := #[OfNat.ofNat 58, OfNat.ofNat 61] }) (cnd (true && decide ((3 : Int) < (↑(List.length (List.map avT (Prod.fst (lexA a)))) : Int))) (brn
  (ByteArray.toList (toStr (fld (nth (List.map avT (Prod.fst (lexA a))) 3) 1)) == ByteArray.toList { data := #[OfNat.ofNat 59] }) (cnd (true && decide ((5 : Int)
  < (↑(List.length (List.map avT (Prod.fst (lexA a)))) : Int))) (brn (ByteArray.toList (toStr (fld (nth (List.map avT (Prod.fst (lexA a))) 5) 1)) ==
  ByteArray.toList { data := #[OfNat.ofNat 59] }) (K (AV.bool false) []) (K (AV.bool false) []))) (K (AV.bool false) []))) (K (AV.bool false) []))) (K (AV.bool
  false) [])) (brn ((↑(List.length (List.map avT (Prod.fst (lexA a)))) : Int) == (6 : Int)) (cnd (true && decide ((1 : Int) < (↑(List.length (List.map avT
  (Prod.fst (lexA a)))) : Int))) (brn (ByteArray.toList (toStr (fld (nth (List.map avT (Prod.fst (lexA a))) 1) 1)) == ByteArray.toList
  { data := #[OfNat.ofNat 58, OfNat.ofNat 61] }) (cnd (true && decide ((3 : Int) < (↑(List.length (List.map avT (Prod.fst (lexA a)))) : Int))) (brn
  (ByteArray.toList (toStr (fld (nth (List.map avT (Prod.fst (lexA a))) 3) 1)) == ByteArray.toList { data := #[OfNat.ofNat 59] }) (cnd (true && decide ((5 : Int)
  < (↑(List.length (List.map avT (Prod.fst (lexA a)))) : Int))) (brn (ByteArray.toList (toStr (fld (nth (List.map avT (Prod.fst (lexA a))) 5) 1)) ==
  ByteArray.toList { data := #[OfNat.ofNat 59] }) (brn (Option.getD (Prod.snd (Prod.snd (lexA a_1))) (0 : Int) == (160 : Int)) (K (AV.bool (Prod.fst (Prod.snd
  (lexA a_1)) == (2 : Int))) []) (K (AV.bool false) [])) (K (AV.bool false) []))) (K (AV.bool false) []))) (K (AV.bool false) []))) (K (AV.bool false) []))) (∃
  (a_1 : ByteArray), ([AV.lit (Value.string { data := #[OfNat.ofNat 120, OfNat.ofNat 10, OfNat.ofNat 49, OfNat.ofNat 46, OfNat.ofNat 53] })], []) = stLx a_1 ∧
  sideLx a_1 ∧ brn (Option.isNone (Prod.snd (Prod.snd (lexA a_1)))) (brn (Option.getD (Prod.snd (Prod.snd (lexA a))) (0 : Int) == (0 : Int)) (K (AV.bool false)
  []) (K (AV.bool false) [])) (brn (Option.getD (Prod.snd (Prod.snd (lexA a))) (0 : Int) == (0 : Int)) (K (AV.bool false) []) (K (AV.bool false) [])))) := by kernel_rfl
def shA : ByteArray := ⟨#[120, 32, 58, 61, 32, 49, 10, 125]⟩
def shB : ByteArray := ⟨#[120, 10, 49, 46, 53]⟩
def gSh : List AV → Option (Bool × AV)
  | [] => some (true, .bool true)
  | _ => none
theorem pSh (κ : Kp) : PureOk (BLx κ).E 12 8 gSh := by
  intro args x hh
  unfold gSh at hh
  split at hh
  · simp only [Option.some.injEq, Prod.mk.injEq, true_and] at hh
    subst hh
    refine ⟨_, rfl, rfl, Eq.mpr (ySh κ _) ⟨shA, rfl, trivial, ?_⟩⟩
    refine brn_iff.2 ⟨fun _ => ⟨shB, rfl, trivial, ?_⟩, fun e => absurd e (by decide +kernel)⟩
    refine brn_iff.2 ⟨fun e => absurd e (by decide +kernel), fun _ => ?_⟩
    refine brn_iff.2 ⟨fun _ => ?_, fun e => absurd e (by decide +kernel)⟩
    refine cnd_iff.2 ⟨by decide +kernel, ?_⟩
    refine brn_iff.2 ⟨fun _ => ?_, fun e => absurd e (by decide +kernel)⟩
    refine cnd_iff.2 ⟨by decide +kernel, ?_⟩
    refine brn_iff.2 ⟨fun _ => ?_, fun e => absurd e (by decide +kernel)⟩
    refine cnd_iff.2 ⟨by decide +kernel, ?_⟩
    refine brn_iff.2 ⟨fun _ => ?_, fun e => absurd e (by decide +kernel)⟩
    refine brn_iff.2 ⟨fun _ => ?_, fun e => absurd e (by decide +kernel)⟩
    have h : ((lexA shB).2.1 == (2 : Int)) = true := by decide +kernel
    rw [h]
  · cases hh
noncomputable def BSh (κ : Kp) : EB := (BLx κ).pure (pSh κ)
theorem yKw (κ : Kp) (s : ByteArray) (K : AV → List Dn.Obj → Prop) : (funA (BSh κ).E 12 24 [.lit (.string s)] [] K) = (
  brn (ByteArray.toList s == ByteArray.toList
  { data := #[OfNat.ofNat 112, OfNat.ofNat 97, OfNat.ofNat 99, OfNat.ofNat 107, OfNat.ofNat 97, OfNat.ofNat 103, OfNat.ofNat 101] }) (K (AV.bool true) []) (brn
  (ByteArray.toList s == ByteArray.toList { data := #[OfNat.ofNat 116, OfNat.ofNat 121, OfNat.ofNat 112, OfNat.ofNat 101] }) (K (AV.bool true) []) (brn
  (ByteArray.toList s == ByteArray.toList { data := #[OfNat.ofNat 115, OfNat.ofNat 116, OfNat.ofNat 114, OfNat.ofNat 117, OfNat.ofNat 99, OfNat.ofNat 116] }) (K
  (AV.bool true) []) (brn (ByteArray.toList s == ByteArray.toList { data := #[OfNat.ofNat 102, OfNat.ofNat 117, OfNat.ofNat 110, OfNat.ofNat 99] }) (K (AV.bool
  true) []) (brn (ByteArray.toList s == ByteArray.toList { data := #[OfNat.ofNat 118, OfNat.ofNat 97, OfNat.ofNat 114] }) (K (AV.bool true) []) (brn
  (ByteArray.toList s == ByteArray.toList { data := #[OfNat.ofNat 105, OfNat.ofNat 102] }) (K (AV.bool true) []) (brn (ByteArray.toList s == ByteArray.toList
  { data := #[OfNat.ofNat 101, OfNat.ofNat 108, OfNat.ofNat 115, OfNat.ofNat 101] }) (K (AV.bool true) []) (brn (ByteArray.toList s == ByteArray.toList
  { data := #[OfNat.ofNat 102, OfNat.ofNat 111, OfNat.ofNat 114] }) (K (AV.bool true) []) (brn (ByteArray.toList s == ByteArray.toList
  { data := #[OfNat.ofNat 99, OfNat.ofNat 97, OfNat.ofNat 115, OfNat.ofNat 101] }) (K (AV.bool true) []) (brn (ByteArray.toList s == ByteArray.toList
  { data := #[OfNat.ofNat 99, OfNat.ofNat 104, OfNat.ofNat 97, OfNat.ofNat 110] }) (K (AV.bool true) []) (brn (ByteArray.toList s == ByteArray.toList
  { data := #[OfNat.ofNat 99, OfNat.ofNat 111, OfNat.ofNat 110, OfNat.ofNat 115, OfNat.ofNat 116] }) (K (AV.bool true) []) (brn (ByteArray.toList s ==
  ByteArray.toList { data := #[OfNat.ofNat 100, OfNat.ofNat 101, OfNat.ofNat 102, OfNat.ofNat 97, OfNat.ofNat 117, OfNat.ofNat 108, OfNat.ofNat 116] }) (K
  (AV.bool true) []) (brn (ByteArray.toList s == ByteArray.toList
  { data := #[OfNat.ofNat 100, OfNat.ofNat 101, OfNat.ofNat 102, OfNat.ofNat 101, OfNat.ofNat 114] }) (K (AV.bool true) []) (brn (ByteArray.toList s ==
  ByteArray.toList { data := #[OfNat.ofNat 103, OfNat.ofNat 111] }) (K (AV.bool true) []) (brn (ByteArray.toList s == ByteArray.toList
  { data := #[OfNat.ofNat 103, OfNat.ofNat 111, OfNat.ofNat 116, OfNat.ofNat 111] }) (K (AV.bool true) []) (brn (ByteArray.toList s == ByteArray.toList
  { data := #[OfNat.ofNat 105, OfNat.ofNat 109, OfNat.ofNat 112, OfNat.ofNat 111, OfNat.ofNat 114, OfNat.ofNat 116] }) (K (AV.bool true) []) (brn
  (ByteArray.toList s == ByteArray.toList
  { data := #[OfNat.ofNat 105, OfNat.ofNat 110, OfNat.ofNat 116, OfNat.ofNat 101, OfNat.ofNat 114, OfNat.ofNat 102, OfNat.ofNat 97, OfNat.ofNat 99, OfNat.ofNat 101] })
  (K (AV.bool true) []) (brn (ByteArray.toList s == ByteArray.toList { data := #[OfNat.ofNat 109, OfNat.ofNat 97, OfNat.ofNat 112] }) (K (AV.bool true) []) (brn
  (ByteArray.toList s == ByteArray.toList { data := #[OfNat.ofNat 114, OfNat.ofNat 97, OfNat.ofNat 110, OfNat.ofNat 103, OfNat.ofNat 101] }) (K (AV.bool true)
  []) (brn (ByteArray.toList s == ByteArray.toList
  { data := #[OfNat.ofNat 115, OfNat.ofNat 101, OfNat.ofNat 108, OfNat.ofNat 101, OfNat.ofNat 99, OfNat.ofNat 116] }) (K (AV.bool true) []) (brn
  (ByteArray.toList s == ByteArray.toList { data := #[OfNat.ofNat 115, OfNat.ofNat 119, OfNat.ofNat 105, OfNat.ofNat 116, OfNat.ofNat 99, OfNat.ofNat 104] }) (K
  (AV.bool true) []) (K (AV.bool false) [])))))))))))))))))))))) := by kernel_rfl
end Go.Proofs.YtbppdpbagmbmpaaGreatDoor
namespace Go.Proofs.YtbppdpbagmbmpaaGreatDoor
open Go Go.Dn Go.Proofs
attribute [local irreducible] funA vc
set_option maxRecDepth 20000
def kwL : List ByteArray := [⟨#[112, 97, 99, 107, 97, 103, 101]⟩, ⟨#[116, 121, 112, 101]⟩, ⟨#[115, 116, 114, 117, 99, 116]⟩, ⟨#[102, 117, 110, 99]⟩, ⟨#[118, 97, 114]⟩, ⟨#[105, 102]⟩, ⟨#[101, 108, 115, 101]⟩, ⟨#[102, 111, 114]⟩, ⟨#[99, 97, 115, 101]⟩, ⟨#[99, 104, 97, 110]⟩, ⟨#[99, 111, 110, 115, 116]⟩, ⟨#[100, 101, 102, 97, 117, 108, 116]⟩, ⟨#[100, 101, 102, 101, 114]⟩, ⟨#[103, 111]⟩, ⟨#[103, 111, 116, 111]⟩, ⟨#[105, 109, 112, 111, 114, 116]⟩, ⟨#[105, 110, 116, 101, 114, 102, 97, 99, 101]⟩, ⟨#[109, 97, 112]⟩, ⟨#[114, 97, 110, 103, 101]⟩, ⟨#[115, 101, 108, 101, 99, 116]⟩, ⟨#[115, 119, 105, 116, 99, 104]⟩]
def kwR (s : ByteArray) : Bool := kwL.any fun t => s.toList == t.toList
def chainK (s : ByteArray) (x : AV) : List ByteArray → Prop
  | [] => AV.bool false = x
  | t :: l => brn (s.toList == t.toList) (AV.bool true = x) (chainK s x l)
theorem chainK_of (s : ByteArray) : ∀ (l : List ByteArray), chainK s (.bool (l.any fun t => s.toList == t.toList)) l
  | [] => rfl
  | t :: l => by
    rw [chainK, List.any_cons]
    cases s.toList == t.toList with
    | true => exact brn_iff.2 ⟨fun _ => rfl, fun e => (by cases e)⟩
    | false => exact brn_iff.2 ⟨fun e => (by cases e), fun _ => chainK_of s l⟩
def gKw : List AV → Option (Bool × AV)
  | [.lit (.string s)] => some (true, .bool (kwR s))
  | _ => none
theorem pKw (κ : Kp) : PureOk (BSh κ).E 12 24 gKw := by
  intro args x hh
  unfold gKw at hh
  split at hh
  · rename_i s
    simp only [Option.some.injEq, Prod.mk.injEq, true_and] at hh
    subst hh
    refine ⟨_, rfl, rfl, Eq.mpr (yKw κ s _) ?_⟩
    exact chainK_of s kwL
  · cases hh
noncomputable def BKw (κ : Kp) : EB := (BSh κ).pure (pKw κ)
theorem beq_list (s t : ByteArray) : (s.toList == t.toList) = decide (t = s) := by
  rw [Bool.eq_iff_iff, beq_iff_eq, decide_eq_true_eq, ByteArray.toList_eq, ByteArray.toList_eq]
  refine ⟨fun h => ?_, fun h => by rw [h]⟩
  cases s; cases t
  congr 1
  exact Array.toList_inj.1 h.symm
theorem ba_beq (s t : ByteArray) : (s == t) = decide (s = t) := by
  obtain ⟨a⟩ := s
  obtain ⟨b⟩ := t
  have h : ((ByteArray.mk a == ByteArray.mk b) = true) ↔ a = b := by
    show ((a == b) = true) ↔ a = b
    exact beq_iff_eq
  rw [Bool.eq_iff_iff, h, decide_eq_true_eq]
  exact ⟨fun e => by rw [e], fun e => ByteArray.mk.inj e⟩
theorem getK_any (s : ByteArray) : ∀ l : List ByteArray, Dn.toBool (getK (l.map fun t => (Value.string t, AV.lit (.bool true))) (.string s) (.bool false)) = l.any fun t => s.toList == t.toList
  | [] => rfl
  | t :: l => by
    rw [List.any_cons, List.map_cons, beq_list]
    have := getK_any s l
    rw [getK, show keyEq (.string s) (.string t) = (s == t) from rfl, ba_beq]
    by_cases h : s = t
    · rw [decide_eq_true h, decide_eq_true h.symm]; rfl
    · rw [decide_eq_false h, decide_eq_false (fun e => h e.symm), cond_false, Bool.false_or]; exact this
theorem isKw_eq (s : ByteArray) : isKw s = kwR s := by
  unfold isKw kwR
  rw [← getK_any]
  congr 2
theorem yRe (κ : Kp) (k l : Int) (s : ByteArray) (K : AV → List Dn.Obj → Prop) : (funA (BKw κ).E 12 14 [tkA k s l] [] K) = (
  brn (k == (1 : Int)) (K (AV.lit (Value.bool !kwR s)) []) (brn (k == (2 : Int)) (K (AV.bool true) []) (brn (k == (3 : Int)) (K (AV.bool true) []) (brn (k == (4 :
  Int)) (brn (ByteArray.toList s == ByteArray.toList { data := #[OfNat.ofNat 41] }) (K (AV.bool true) []) (brn (ByteArray.toList s == ByteArray.toList
  { data := #[OfNat.ofNat 93] }) (K (AV.bool true) []) (K (AV.bool (ByteArray.toList s == ByteArray.toList { data := #[OfNat.ofNat 125] })) []))) (K (AV.bool
  false) []))))) := by kernel_rfl
def gRe : List AV → Option (Bool × AV)
  | [.agg [.lit (.int .i64 k), .lit (.string s), .lit (.int .i64 _)]] => some (true, .bool (endT k s))
  | _ => none
theorem pRe (κ : Kp) : PureOk (BKw κ).E 12 14 gRe := by
  intro args x hh
  unfold gRe at hh
  split at hh
  · rename_i k s l
    simp only [Option.some.injEq, Prod.mk.injEq, true_and] at hh
    subst hh
    refine ⟨_, rfl, rfl, Eq.mpr (yRe κ k l s _) ?_⟩
    unfold endT
    rw [isKw_eq]
    cases k == 1 with
    | true => exact rfl
    | false =>
    cases k == 2 with
    | true => exact rfl
    | false =>
    cases k == 3 with
    | true => exact rfl
    | false =>
    cases k == 4 with
    | true =>
      show brn (s.toList == (ByteArray.mk #[41]).toList) (AV.bool true = AV.bool (bif s.toList == (ByteArray.mk #[41]).toList then true else bif s.toList == (ByteArray.mk #[93]).toList then true else s.toList == (ByteArray.mk #[125]).toList)) (brn (s.toList == (ByteArray.mk #[93]).toList) (AV.bool true = AV.bool (bif s.toList == (ByteArray.mk #[41]).toList then true else bif s.toList == (ByteArray.mk #[93]).toList then true else s.toList == (ByteArray.mk #[125]).toList)) (AV.bool (s.toList == (ByteArray.mk #[125]).toList) = AV.bool (bif s.toList == (ByteArray.mk #[41]).toList then true else bif s.toList == (ByteArray.mk #[93]).toList then true else s.toList == (ByteArray.mk #[125]).toList)))
      generalize (s.toList == (ByteArray.mk #[41]).toList) = b1
      generalize (s.toList == (ByteArray.mk #[93]).toList) = b2
      cases b1 <;> cases b2 <;> exact rfl
    | false => exact rfl
  · cases hh
noncomputable def BRe0 (κ : Kp) : EB := (BKw κ).pure (pRe κ)
def EB.hush (b : EB) (l : List Nat) : EB := ⟨{ b.E with quiet := fun f => memN f l || b.E.quiet f }, ⟨b.ok.prog, b.ok.pcall, b.ok.call, b.ok.rng, b.ok.loop⟩, ⟨b.mono.call, b.mono.loop, b.mono.rng⟩⟩
noncomputable def BRe (κ : Kp) : EB := EB.hush (BRe0 κ) [8, 14]
end Go.Proofs.YtbppdpbagmbmpaaGreatDoor
