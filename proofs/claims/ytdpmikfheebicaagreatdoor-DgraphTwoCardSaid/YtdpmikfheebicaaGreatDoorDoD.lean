import Derived.Test.YtdpmikfheebicaaGreatDoorDoC
import Derived.Sort.LoopGhostIn
namespace Go.Dn
open Go
def jc (k : Nat) : Exit → Nat
 | .exit id => 1000 * (k + 1) + 2 + id
 | _ => 1000 * (k + 1) + 1
def bK (E : Env) (f k base : Nat) (I : Nat → S → Prop) (n : Nat) (K : Exit → S → Prop) : Exit → S → Prop
 | .normal, s => bg (ib E.P (E.live f k) base s) (zW (canon E.P (E.live f k) base s) fun s' => ∃ m, m < n ∧ I m s')
 | e, s => bg (ib E.P (E.live f (jc k e)) base s) (zW (canon E.P (E.live f (jc k e)) base s) fun s' => K e s')
def Fs (E : Env) (f k base : Nat) (I : Nat → S → Prop) (n : Nat) (K : Exit → S → Prop) : Exit → S → Prop
 | .normal, s => bg (ib E.P (E.live f k) base s) (∃ m, m < n ∧ I m (canon E.P (E.live f k) base s))
 | e, s => bg (ib E.P (E.live f (jc k e)) base s) (K e (canon E.P (E.live f (jc k e)) base s))
theorem Hn {E : Env} {f k base : Nat} {I : Nat → S → Prop} {n : Nat} {K : Exit → S → Prop} : bK E f k base I n K = Fs E f k base I n K := by
 funext e s
 cases e <;> simp only [bK, Fs, lv]
theorem AJ {E : Env} (hE : ay E) (hM : ah E) {N f k : Nat} {c : Code} {rd : Option Nat} {base : Nat} {s : S} {K : Exit → S → Prop} (I : Nat → S → Prop) (n0 : Nat) (h0 : I n0 s)
  (h : ∀ n s', I n s' → vc E N f rd base c s' (bK E f k base I n K)) : Sound E.P rd base (.loop c) s K := by
 simp only [Hn] at h
 intro C a F n lo hC hI hs hd hlo hb hF
 refine wpIn_loop_ghost (fun m a w => ∃ C' s', C'.w = w ∧ C'.P = C.P ∧ Inv C' ∧ cQ C' s' a ∧ fQ lo C' a.defers ∧ base ≤ s'.st.length ∧ Ext base C C' ∧ I m s') n0
  ⟨C, s, rfl, rfl, hI, hs, hd, hb, Ext.refl C (by rw [hs.st]; exact hb), h0⟩ ?_
 rintro m a w ⟨C', s', rfl, hP', hI', hs', hd', hb', he', hm⟩
 refine wpIn_mono (uW hE hM N _ _ _ _ _ _ (h m s' hm) C' a F n lo (hP'.trans hC) hI' hs' hd' (Nat.le_trans hlo he'.size) hb' (hF.ext he')) ?_
 intro e a2 w2 hp
 have out : ∀ {e : Exit}, dQ lo base C' (fun e s => bg (ib E.P (E.live f (jc k e)) base s) (K e (canon E.P (E.live f (jc k e)) base s))) e a2 w2 → dQ lo base C K e a2 w2 := by
  rintro e ⟨C2, s2, rfl, hP2, hI2, hs2, hd2, hb2, he2, hk⟩
  obtain ⟨hk1, hk2⟩ := ax.1 hk
  obtain ⟨C3, k1, k2, k3, k4, k5⟩ := rX E.P (E.live f (jc k e)) hI2 hs2 hb2 hk1
  exact ⟨C3, _, k1, k4.P.trans (hP2.trans hP'), k2, k3, hd2.ext k4, k5, (he'.trans he2 (Nat.le_refl _)).trans k4 (Nat.le_refl _), hk2⟩
 cases e with
 | normal =>
  obtain ⟨C2, s2, rfl, hP2, hI2, hs2, hd2, hb2, he2, hk⟩ := hp
  obtain ⟨hk1, m', hlt, hi⟩ := ax.1 hk
  obtain ⟨C3, k1, k2, k3, k4, k5⟩ := rX E.P (E.live f k) hI2 hs2 hb2 hk1
  exact ⟨m', hlt, C3, _, k1, k4.P.trans (hP2.trans hP'), k2, k3, hd2.ext k4, k5, (he'.trans he2 (Nat.le_refl _)).trans k4 (Nat.le_refl _), hi⟩
 | exit id => exact out hp
 | goto l => exact out hp
 | ret => exact out hp
 | panic ch => exact out hp
 | outgrown => exact out hp
def wz : Option Code → Option Code → Option Code
 | some c, _ => some c
 | none, d => d
def fS (k : Nat) : Code → Option Code
 | .loop c => (match j4 c with | some n => (bif Nat.beq n k then some c else fS k c) | none => fS k c)
 | .seq a b => wz (fS k a) (fS k b)
 | .cond _ a b => wz (fS k a) (fS k b)
 | .block _ c | .scope c => fS k c
 | .rangeFunc _ _ a b => wz (fS k a) (fS k b)
 | _ => none
def ag (P : Program) (f k : Nat) : Code :=
 match P.funcs[f]? with
 | some fn => (match fn.body with | some c => (match fS k c with | some d => d | none => .skip) | none => .skip)
 | none => .skip
abbrev eW := Option Nat → Nat → S → (Exit → S → Prop) → Prop
abbrev cK := List AV → List Obj → (AV → List Obj → Prop) → Prop
def eW.jb (sp : eW) : Prop := ∀ rd base s (K K' : Exit → S → Prop), (∀ e s, K e s → K' e s) → sp rd base s K → sp rd base s K'
def cK.jb (sp : cK) : Prop := ∀ args st (K K' : AV → List Obj → Prop), (∀ a st, K a st → K' a st) → sp args st K → sp args st K'
def bq (E : Env) (N f k : Nat) (sp : eW) : Prop :=
 ∀ rd base s K, sp rd base s K → ∃ (I : Nat → S → Prop) (n0 : Nat), I n0 s ∧ ∀ n s', I n s' → vc E N f rd base (ag E.P f k) s' (bK E f k base I n K)
def Env.aj (E : Env) (f k : Nat) (sp : eW) : Env :=
 {E with loop := fun g j c rd base s K => bif Nat.beq g f && Nat.beq j k then c = ag E.P f k ∧ sp rd base s K else E.loop g j c rd base s K }
theorem ah.aj {E : Env} (hM : ah E) {f k : Nat} {sp : eW} (hs : sp.jb) : ah (E.aj f k sp) := by
 refine ⟨hM.call, fun g j c rd base s K K' hK h => ?_, hM.lb⟩
 simp only [Env.aj] at h ⊢
 cases hb : (Nat.beq g f && Nat.beq j k) with
 | true => rw [hb] at h; exact ⟨h.1, hs _ _ _ _ _ hK h.2⟩
 | false => rw [hb] at h; exact hM.loop _ _ _ _ _ _ _ _ hK h
theorem ay.aj {E : Env} (hE : ay E) (hM : ah E) {N f k : Nat} {sp : eW} (h : bq E N f k sp) : ay (E.aj f k sp) := by
 refine ⟨hE.prog, hE.gD, hE.call, hE.lb, fun g j c rd base s K hh => ?_⟩
 simp only [Env.aj] at hh
 cases hb : (Nat.beq g f && Nat.beq j k) with
 | true =>
  rw [hb] at hh
  obtain ⟨rfl, hsp⟩ := hh
  obtain ⟨I, n0, h0, hI⟩ := h _ _ _ _ hsp
  exact AJ hE hM I n0 h0 hI
 | false => rw [hb] at hh; exact hE.loop _ _ _ _ _ _ _ hh
def Ch (n : Nat) (r : AV) (st : List Obj) (K : AV → List Obj → Prop) : Prop :=
 bg (nF n st (refs r) (fO n st (refs r))) (sk (j3 (fun i => iy i (fO n st (refs r)) 0) r) fun r' => tf (gn (fun i => iy i (fO n st (refs r)) 0) (gq st (fO n st (refs r)))) fun st' => K r' st')
def Ng (P : Program) (Ts : List TypeId) (n : Nat) (r : AV) (st : List Obj) (K : AV → List Obj → Prop) : Prop :=
 match bO st r with
 | some r' => Ch n (F7 P Ts r') (cI st (rowsOf r)) K
 | none => Ch n r st K
def JM (P : Program) (own : Bool) (Ts : List TypeId) (n : Nat) (r : AV) (st : List Obj) (K : AV → List Obj → Prop) : Prop :=
 match own with
 | true => Ch n r st K
 | false => Ng P Ts n r st K
def bh (E : Env) (N : Nat) (f : FuncId) (args : List AV) (st : List Obj) (K : AV → List Obj → Prop) : Prop :=
 match E.P.funcs[f]? with
 | some fn =>
  (match fn.body with
   | some c =>
    vc E N f none st.length c { a5 := args ++ bG (fn.ntmps - args.length), st } fun e s =>
     match e with
     | .normal | .ret => (match rS E.P s fn.results.toList with | some l => JM E.P (E.fresh f) fn.resultTypes.toList st.length (kW l) s.st K | none => False)
     | _ => False
   | none => False)
 | none => False
theorem qs {C C' : Ctx} {n : Nat} {r : AV} {v : Value} {K : AV → List Obj → Prop} (hI : Inv C') (hP : C'.P = C.P) (he : Ext n C C') (hr : Rel C' r v) (h : Ch n r C'.st K) : dK C n K (.returned v) C'.w := by
 obtain ⟨h1, h2⟩ := ax.1 h
 simp only [mQ, kK] at h2
 obtain ⟨g1, g2, g3⟩ := rU hI h1
 refine ⟨v, _, C'.by (fO n C'.st (refs r)), rfl, rfl, hP, g1, hr.move g2.keeps hI.lay _ (fun i hi _ => ?_), he.trans g2 (Nat.le_refl _), h2⟩
 obtain ⟨j, hj⟩ := g3 i hi
 exact ⟨j, hj, kk hj⟩
theorem Iy {C : Ctx} {n : Nat} {P : Pg} (hPC : C.P = P) {own : Bool} {Ts : List TypeId} {K : AV → List Obj → Prop} {e : Ending} {w : World} (h : dK C n (fun r st => JM P own Ts n r st K) e w) : dK C n K e w := by
 obtain ⟨v, r, C', rfl, rfl, hP, hI, hr, he, hK⟩ := h
 unfold JM at hK
 cases own with
 | true => exact qs hI hP he hr hK
 | false =>
 unfold Ng at hK
 simp only at hK
 split at hK
 ·rename_i r' hp
  obtain ⟨C1, f1, f2, f3, f4, f5, f6, f7⟩ := mX hI hp hr
  rw [← f1] at hK
  have f6 := Et f4 (Ts := Ts) f6
  rw [(f5.P.trans hP).trans hPC] at f6
  have := qs f4 (f5.P.trans hP) (he.trans (f5.mono he.len) (Nat.le_refl _)) f6 hK
  rw [f2] at this; exact this
 ·exact qs hI hP he hr hK
theorem jf {E : Env} (hE : ay E) (hM : ah E) {N : Nat} {f : FuncId} {args : List AV} {st : List Obj} {K : AV → List Obj → Prop} (h : bh E N f args st K) : dF E.P f args st K := by
 unfold bh at h
 split at h <;> try exact h.elim
 rename_i fn hf
 split at h <;> try exact h.elim
 rename_i c hc
 refine ⟨⟨fn, hf, by rw [hc]; rfl⟩, fun C vs hC hI hst hm => ?_⟩
 subst hst
 have := ug (K := fun r st => JM E.P (E.fresh f) fn.resultTypes.toList C.st.length r st K) hf hc hC hI hm (uW hE hM N _ _ _ _ _ _ h) 0
 exact this.mono (fun e w' he => Iy hC he)
def bu (E : Env) (N f : Nat) (sp : cK) : Prop := ∀ args st K, sp args st K → bh E N f args st K
def Env.au (E : Env) (f : Nat) (sp : cK) : Env :=
 {E with call := fun g args st K => bif Nat.beq g f then sp args st K else E.call g args st K }
theorem ah.au {E : Env} (hM : ah E) {f : Nat} {sp : cK} (hs : sp.jb) : ah (E.au f sp) := by
 refine ⟨fun g args st K K' hK h => ?_, hM.loop, hM.lb⟩
 simp only [Env.au] at h ⊢
 cases hb : Nat.beq g f with
 | true => rw [hb] at h; exact hs _ _ _ _ hK h
 | false => rw [hb] at h; exact hM.call _ _ _ _ _ hK h
theorem ay.lC {E : Env} (hE : ay E) {f : Nat} {sp : cK} (h : ∀ args st K, sp args st K → dF E.P f args st K) : ay (E.au f sp) := by
 refine ⟨hE.prog, hE.gD, fun g args st K hh => ?_, hE.lb, hE.loop⟩
 simp only [Env.au] at hh
 cases hb : Nat.beq g f with
 | true =>
  rw [hb] at hh
  obtain rfl := Nat.eq_of_beq_eq_true hb
  exact h _ _ _ hh
 | false => rw [hb] at hh; exact hE.call _ _ _ _ hh
theorem ay.au {E : Env} (hE : ay E) (hM : ah E) {N f : Nat} {sp : cK} (h : bu E N f sp) : ay (E.au f sp) :=
 hE.lC fun _ _ _ hh => jf hE hM (h _ _ _ hh)
def wD (l : List AV) : Bool := match cw l with | [] => true | _ => false
def Env.aE (E : Env) (f : Nat) (g : List AV → Option (Bool × AV)) : Env :=
 {E with gD := fun h as => bif Nat.beq h f then (bif wD as then g as else none) else E.gD h as }
def cx (E : Env) (N f : Nat) (g : List AV → Option (Bool × AV)) : Prop :=
 ∀ as x, g as = some (true, x) → ∃ u, x = .lit u ∧ aZ u = true ∧ bh E N f as [] (fun r _ => r = .lit u)
theorem ah.aE {E : Env} (hM : ah E) {f : Nat} {g : List AV → Option (Bool × AV)} : ah (E.aE f g) := ⟨hM.call, hM.loop, hM.lb⟩
def fX (P : Pg) (f : Nat) (g : List AV → Option (Bool × AV)) : Prop :=
 ∀ as x, wD as = true → g as = some (true, x) → ∃ fn u, P.funcs[f]? = some fn ∧ fn.body.isSome = true ∧ x = .lit u ∧ aZ u = true ∧
  ∀ (C : Ctx) (vs : Array Value), C.P = P → Inv C → MT C as vs.toList → CallsIn Fence.wide 0 P f vs C.w (fun e w' => e = .returned u ∧ fK C.w w')
theorem l7 {E : Env} (hE : ay E) (hM : ah E) {N f : Nat} {g : List AV → Option (Bool × AV)} (h : cx E N f g) : fX E.P f g := by
 intro as x hn hh
 obtain ⟨u, rfl, hu, hf⟩ := h as x hh
 obtain ⟨⟨fn, k1, k2⟩, k3⟩ := jf hE hM hf
 refine ⟨fn, u, k1, k2, rfl, hu, fun C vs hC hI hm => ?_⟩
 have hrefs : cw as = [] := by
  unfold wD at hn
  split at hn
  ·assumption
  ·cases hn
 have hk : bD C { C with st := [] } := ⟨rfl, fun _ h => h, fun _ _ => rfl⟩
 have hI0 : Inv { C with st := [] } := ⟨hI.lay, fun i hi => by simp at hi, fun i j hi => by simp at hi, hI.xs, fun i hi => by simp at hi, hI.nq, hI.kept⟩
 have hm0 := kM (C' := { C with st := [] }) hk hI.lay some as vs.toList (fun i hi => by rw [hrefs] at hi; simp at hi) hm
 rw [gi] at hm0
 refine (k3 { C with st := [] } vs hC hI0 rfl hm0).mono ?_
 rintro e w' ⟨v, r, C', rfl, rfl, hP, hI', hr, he, rfl⟩
 have := aK hr
 subst this
 exact ⟨rfl, he.size, he.os, he.tape, he.output, fun b hb => he.frame b hb (fun ⟨i, hi, _⟩ => by simp at hi)⟩
theorem ay.eg {E : Env} (hE : ay E) {f : Nat} {g : List AV → Option (Bool × AV)} (h : fX E.P f g) : ay (E.aE f g) := by
 refine ⟨hE.prog, fun k as x hh => ?_, hE.call, hE.lb, hE.loop⟩
 simp only [Env.aE] at hh
 cases hb : Nat.beq k f with
 | false => rw [hb] at hh; exact hE.gD k as x hh
 | true =>
  obtain rfl := Nat.eq_of_beq_eq_true hb
  rw [hb] at hh
  cases hn : wD as with
  | false => rw [hn] at hh; simp at hh
  | true =>
   rw [hn] at hh
   obtain ⟨fn, u, h1, h2, h3, h4, h5⟩ := h as x hn hh
   exact ⟨fn, h1, h2, .inl ⟨u, h3, h4, h5⟩⟩
def Env.dX (E : Env) (f : Nat) (g : List AV → Option (Bool × AV)) : Env :=
 {E with gD := fun h as => bif Nat.beq h f then (bif tg as then g as else none) else E.gD h as }
def rE (E : Env) (N f : Nat) (g : List AV → Option (Bool × AV)) : Prop :=
 ∀ as x, g as = some (true, x) → refs x = [] ∧ bh E N f as [] (fun r _ => r = x)
theorem ah.dX {E : Env} (hM : ah E) {f : Nat} {g : List AV → Option (Bool × AV)} : ah (E.dX f g) := ⟨hM.call, hM.loop, hM.lb⟩
theorem ay.dX {E : Env} (hE : ay E) (hM : ah E) {N f : Nat} {g : List AV → Option (Bool × AV)} (h : rE E N f g) : ay (E.dX f g) := by
 refine ⟨hE.prog, fun k as x hh => ?_, hE.call, hE.lb, hE.loop⟩
 simp only [Env.dX] at hh
 cases hb : Nat.beq k f with
 | false => rw [hb] at hh; exact hE.gD k as x hh
 | true =>
  obtain rfl := Nat.eq_of_beq_eq_true hb
  rw [hb] at hh
  cases hn : tg as with
  | false => rw [hn] at hh; simp at hh
  | true =>
   rw [hn] at hh
   obtain ⟨hx, hf⟩ := h as x hh
   obtain ⟨⟨fn, k1, k2⟩, k3⟩ := jf hE hM hf
   refine ⟨fn, k1, k2, .inr ⟨rfl, hx, fun C vs hC hI hm => ?_⟩⟩
   refine (k3 C.bare vs hC (Gi hI) rfl (wv _ _ hn hm)).mono ?_
   rintro e w' ⟨v, r, C', rfl, rfl, hP, hI', hr, he, rfl⟩
   exact ⟨v, C', rfl, rfl, hP, hI', hr, he⟩
theorem ay.aE {E : Env} (hE : ay E) (hM : ah E) {N f : Nat} {g : List AV → Option (Bool × AV)} (h : cx E N f g) : ay (E.aE f g) :=
 hE.eg (l7 hE hM h)
def below (g : List AV → Option (Bool × AV)) (μ : List AV → Nat) (n : Nat) (as : List AV) : Option (Bool × AV) :=
 match g as with
 | some (c, x) => some (c && Nat.blt (μ as) n, x)
 | none => none
theorem ay.te {P : Pg} {f : Nat} (g : List AV → Option (Bool × AV)) (μ : List AV → Nat) {N : Nat} (ext : Nat → Env)
  (hext : ∀ n, fX P f (below g μ n) → ay (ext n) ∧ ah (ext n) ∧ (ext n).P = P) (h : ∀ n, cx (ext n) N f (fun as => bif Nat.beq (μ as) n then g as else none)) : fX P f g := by
 have key : ∀ n, fX P f (fun as => bif Nat.beq (μ as) n then g as else none) := by
  intro n
  induction n using Nat.strongRecOn with
  | _ n ih =>
   have hb : fX P f (below g μ n) := by
    intro as x hn hh
    unfold below at hh
    split at hh
    ·rename_i c y hg
     simp only [aa3, aa9, aa1] at hh
     obtain ⟨⟨rfl, hlt⟩, rfl⟩ := hh
     refine ih (μ as) (by simpa [Nat.blt_eq] using hlt) as _ hn ?_
     simp only
     rw [show Nat.beq (μ as) (μ as) = true from Nat.beq_refl _]
     exact hg
    ·cases hh
   obtain ⟨h1, h2, h3⟩ := hext n hb
   have := l7 h1 h2 (h n)
   rwa [h3] at this
 intro as x hn hh
 refine key (μ as) as x hn ?_
 simp only
 rw [show Nat.beq (μ as) (μ as) = true from Nat.beq_refl _]
 exact hh
def Env.none (P : Pg) (live : FuncId → Nat → List (Nat × Option TypeId)) (inl own quiet : FuncId → Bool) : Env :=
 {P, call := fun _ _ _ _ => False, gD := fun _ _ => Option.none, loop := fun _ _ _ _ _ _ _ => False, lb := fun _ _ _ _ _ _ => False, gen := fun _ => false, inl, live, own, quiet }
def Env.gZ (E : Env) (fresh : FuncId → Bool) : Env := { E with fresh := fresh }
def Env.jC (E : Env) (calm : FuncId → Bool) : Env := { E with calm := calm }
theorem ay.jC {E : Env} (hE : ay E) (calm : FuncId → Bool) : ay (E.jC calm) := ⟨hE.prog, hE.gD, hE.call, hE.lb, hE.loop⟩
theorem ah.jC {E : Env} (hM : ah E) (calm : FuncId → Bool) : ah (E.jC calm) := ⟨hM.call, hM.loop, hM.lb⟩
theorem ay.gZ {E : Env} (hE : ay E) (fresh : FuncId → Bool) : ay (E.gZ fresh) := ⟨hE.prog, hE.gD, hE.call, hE.lb, hE.loop⟩
theorem ah.gZ {E : Env} (hM : ah E) (fresh : FuncId → Bool) : ah (E.gZ fresh) := ⟨hM.call, hM.loop, hM.lb⟩
theorem ay.none {P : Pg} (hP : n8 P) {live : FuncId → Nat → List (Nat × Option TypeId)} {inl own quiet : FuncId → Bool} : ay (Env.none P live inl own quiet) :=
 ⟨hP, fun _ _ _ h => by simp [Env.none] at h, fun _ _ _ _ h => h.elim, fun _ _ _ _ _ _ h => h.elim, fun _ _ _ _ _ _ _ h => h.elim⟩
theorem ah.none {P : Pg} {live : FuncId → Nat → List (Nat × Option TypeId)} {inl own quiet : FuncId → Bool} : ah (Env.none P live inl own quiet) :=
 ⟨fun _ _ _ _ _ _ h => h, fun _ _ _ _ _ _ _ _ _ h => h, fun _ _ _ _ _ _ _ _ h => h⟩
end Go.Dn
