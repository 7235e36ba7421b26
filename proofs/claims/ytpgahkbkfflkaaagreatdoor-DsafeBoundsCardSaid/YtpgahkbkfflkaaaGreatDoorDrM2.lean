import Derived.Test.YtpgahkbkfflkaaaGreatDoorDrM1
import Derived.Test.YtpgahkbkfflkaaaGreatDoorProg
import Derived.Test.YtpgahkbkfflkaaaGreatDoorChecked
import Derived.WalkKit
import Derived.LaidEql
import Derived.Stop.Asserts
import Derived.RowKitTokens
namespace Go.Proofs.YtpgahkbkfflkaaaGreatDoor
open Go Go.Dn Go.Rl Go.Proofs
attribute [local irreducible] funA vc
set_option maxRecDepth 20000
def liveT : List (Nat × List (Nat × List (Nat × Option Nat))) := [
  (10, [(5, [(1, none), (4, none), (6, none)]), (6002, []), (6001, [(2, none), (3, none)])]),
  (11, [(4, [(0, none), (1, none), (5, none)]), (5002, []), (5001, [(4, none)])]),
  (12, [(8, [(2, none), (8, none), (32, none), (33, none), (34, none)]), (9003, [(2, none), (8, none)])]),
  (13, [(10, [(9, none), (11, some 9), (12, none), (13, none)]), (11002, [(11, none)])]),
  (16, [(4, [(0, none), (1, none), (5, none)]), (5002, []), (5001, [(4, none)])]),
  (19, [(8, [(1, none), (3, none), (5, none)]), (9004, [(1, none), (3, none)]), (3, [(1, none), (3, none), (4, none)]), (4002, [(1, none), (3, none)]), (4001, [(2, none)])]),
  (23, [(11, [(1, none), (6, none)]), (12004, []), (12001, [(2, none)]), (5, [(1, none), (4, none)]), (6002, [(1, none)]), (6001, [(2, none)])]),
  (24, [(4, [(1, none), (2, none), (7, none), (8, some 3), (9, some 1000000009)]), (5002, [(8, none), (9, none)]), (5001, [(4, none), (5, none), (6, none)])]),
  (25, [(2, [(0, none), (1, none), (5, none)]), (3002, []), (3001, [(4, none)])]),
  (26, [(3, [(1, none), (3, some 1000000009), (4, none)]), (4002, [(3, none)])]),
  (31, [(1, [(0, none), (6, none), (7, none), (8, none)]), (2002, [])]),
  (33, [(5, [(0, none), (1, none), (5, none), (6, none)]), (6002, [(0, none), (5, none)])]),
  (36, [(6, [(1, none), (4, some 1000000009), (5, none)]), (7002, [(4, none)])]),
  (38, [(4, [(1, none), (2, none), (5, none), (17, none), (18, none), (19, none)]), (5002, [(1, none), (2, none), (5, none)])]),
  (39, [(6, [(5, some 9), (6, none), (7, none), (8, none), (9, none)]), (7002, [(5, none)])]),
  (40, [(2, [(0, none), (3, none)]), (3002, []), (3001, [(2, none)])]),
  (41, [(3, [(1, none), (2, none), (5, none)]), (4002, [(1, none)])]),
  (44, [(3, [(3, some 9), (6, none), (7, none), (8, none)]), (4002, [(3, none)])]),
  (45, [(12, [(6, none), (26, none), (27, none), (28, none)]), (13004, [(6, none)]), (3, [(0, none), (3, none), (9, none), (10, none), (11, none)]), (4002, [(0, none), (3, none)])]),
  (47, [(17, [(1, none), (2, none), (43, none), (44, none), (45, none)]), (18005, []), (18001, [(6, none)]), (1, [(0, none), (1, none), (2, none)]), (2001, [(6, none)])]),
  (48, [(5, [(1, none), (4, none)]), (6002, []), (6001, [(2, none)])]),
  (51, [(5, [(1, none), (2, none), (3, none), (7, none), (8, none)]), (6004, [(1, none), (2, none), (3, none), (7, none)]), (6001, [(6, none)]), (2, [(1, none), (2, none), (3, none), (7, none)]), (3002, []), (3001, [(6, none)])]),
  (52, [(3, [(1, none), (5, some 9), (6, none)]), (4002, [(5, none)])]),
  (54, [(3, [(1, none), (5, some 9), (6, none)]), (4002, [(5, none)])]),
  (55, [(5, [(1, none), (3, some 1000000009), (4, none)]), (6002, [(3, none)])]),
  (56, [(3, [(0, none), (1, none), (3, none), (4, none), (13, none), (14, none)]), (4002, []), (4001, [])]),
  (57, [(3, [(1, none), (2, none), (3, none), (7, none), (11, none), (12, none), (13, none)]), (4002, [(7, none)]), (4001, [(6, none)])]),
  (59, [(2, [(0, none), (1, none), (7, none), (8, none)]), (3002, []), (3001, [(4, none)])]),
  (62, [(2, [(0, none), (1, none), (5, none)]), (3002, []), (3001, [(4, none)])]),
  (64, [(3, [(1, none), (2, none), (5, some 1000000009), (6, none)]), (4002, [(5, none)])]),
  (65, [(4, [(1, none), (2, none), (5, none)]), (5002, [(1, none)])]),
  (66, [(5, [(1, none), (2, none), (5, none)]), (6002, [(1, none)])]),
  (67, [(7, [(0, none), (57, none), (58, none), (59, none)]), (8004, []), (8001, []), (2, [(0, none), (1, none), (25, none), (26, none), (27, none)]), (3002, [(0, none), (1, none)]), (3001, [])]),
  (68, [(4, [(24, none), (25, none), (26, none)]), (5002, []), (5001, [(2, none)])]),
  (74, [(4, [(0, none), (3, none)]), (5002, []), (5001, [(2, none)])]),
  (75, [(8, [(1, none), (2, none), (5, none)]), (9002, []), (9001, [(4, none)])]),
  (80, [(8, [(2, none), (32, none), (33, none), (34, none)]), (9004, []), (9001, []), (3, [(2, none), (3, some 43), (14, none), (15, none), (16, none)]), (4002, [(2, none), (3, none)])]),
  (83, [(4, [(18, none)]), (5002, []), (5001, [(2, none)])]),
  (84, [(10, [(1, none), (49, none), (50, none), (51, none)]), (11003, []), (11001, [(4, none)])]),
  (85, [(2, [(5, none), (6, none), (7, none)]), (3002, []), (3001, [(2, none)])]),
  (91, [(3, [(1, none), (3, some 1000000009), (4, none)]), (4002, [(3, none)])]),
  (92, [(3, [(3, some 9), (7, none), (8, none), (9, none)]), (4002, [(3, none)])]),
  (94, [(3, [(2, none), (11, none), (12, none), (13, none)]), (4002, []), (4001, [])]),
  (96, [(2, [(0, none), (1, none), (7, none), (8, none)]), (3002, []), (3001, [(4, none)])])
  ]
def lk2 (k : Nat) : List (Nat × List (Nat × Option Nat)) → List (Nat × Option Nat)
  | [] => []
  | (j, l) :: r => bif Nat.beq j k then l else lk2 k r
def lk1 (f k : Nat) : List (Nat × List (Nat × List (Nat × Option Nat))) → List (Nat × Option Nat)
  | [] => []
  | (g, l) :: r => bif Nat.beq g f then lk2 k l else lk1 f k r
def live (f k : Nat) : List (Nat × Option TypeId) := lk1 f k liveT
structure Kp where
  tree : Addr
  stuck : Addr
  T1 : TypeId
  T2 : TypeId
  z1 : Nat × Nat
  z2 : Nat × Nat
def errTree (κ : Kp) : Value := .iface 129 (.pointer (some κ.tree))
def errStuck (κ : Kp) : Value := .iface 129 (.pointer (some κ.stuck))
def keptO (κ : Kp) (b : Nat) : Option Go.Obj :=
  bif Nat.beq b 1 then some (.cells #[.iface 129 (.pointer (some κ.tree))] κ.T1 κ.z1)
  else bif Nat.beq b 0 then some (.cells #[.iface 129 (.pointer (some κ.stuck))] κ.T2 κ.z2)
  else none
def errV (κ : Kp) (ok : Bool) : Value := bif ok then .nilIface else .iface 129 (.pointer (some κ.tree))
theorem isIfc_errV (κ : Kp) (b : Bool) : isIfcV (errV κ b) = true := by cases b <;> rfl
theorem isNil_errV (κ : Kp) (b : Bool) : isNilV (errV κ b) = b := by cases b <;> rfl
theorem one_errV (κ : Kp) (b : Bool) : oneV (errV κ b) = true := by cases b <;> rfl
noncomputable abbrev Pr (κ : Kp) : Pg := { toProgram := Tryz.prog, kept := keptO κ }
theorem prog_fine : ProgOK Tryz.prog := prog_ok (by kernel_rfl)
def inlT : List Nat := [42, 72, 59, 73, 82, 60, 81, 27, 63, 35]
def ownT : List Nat := [33, 57, 51]
def quietT : List Nat := [70, 83, 95, 86, 87, 69, 84, 68, 71, 85, 20, 93, 96, 29, 37, 62, 11, 19, 66, 65, 41, 40, 6, 17, 18, 88, 89, 74, 49, 90, 75, 48, 76, 77, 50, 23, 16, 25, 30, 78]
def freshT : List Nat := [44, 92, 58, 34]
noncomputable def E0 (κ : Kp) : Env := (Env.none (Pr κ) live (fun f => memN f inlT) (fun f => memN f ownT) (fun f => memN f quietT)).withFresh (fun f => memN f freshT)
theorem e0 (κ : Kp) : EnvOK (E0 κ) := (EnvOK.none prog_fine).withFresh _
theorem m0 (κ : Kp) : EnvMono (E0 κ) := EnvMono.none.withFresh _
end Go.Proofs.YtpgahkbkfflkaaaGreatDoor
namespace Go.Proofs.YtpgahkbkfflkaaaGreatDoor
open Go Go.Dn Go.Rl Go.Proofs
attribute [local irreducible] funA vc
set_option maxRecDepth 20000
theorem y48 (κ : Kp) (op : Int) (K : AV → List Dn.Obj → Prop) : (funA (E0 κ) 12 70 [.int op] [] K) = (
  brn (op == (5 : Int)) (K (AV.bool true) []) (brn (op == (6 : Int)) (K (AV.bool true) []) (K (AV.bool (op == (7 : Int))) []))) := by kernel_rfl
def g48 : List AV → Option (Bool × AV)
  | [.lit (.int .i64 op)] => some (true, .bool (isTwo op))
  | _ => none
theorem p48 (κ : Kp) : PureOk (E0 κ) 12 70 g48 := by
  intro args x h
  unfold g48 at h
  split at h
  · rename_i op
    simp only [Option.some.injEq, Prod.mk.injEq, true_and] at h
    subst h
    refine ⟨_, rfl, rfl, ?_⟩
    rw [y48]
    unfold isTwo
    by_cases h1 : op = 5 <;> by_cases h2 : op = 6 <;> by_cases h3 : op = 7 <;> simp [brn_iff, h1, h2, h3] <;> omega
  · cases h
noncomputable def E48 (κ : Kp) : Env := (E0 κ).addPure 70 g48
theorem e48 (κ : Kp) : EnvOK (E48 κ) := (e0 κ).addPure (m0 κ) (p48 κ)
theorem m48 (κ : Kp) : EnvMono (E48 κ) := (m0 κ).addPure
theorem x57 (κ : Kp) (s : ByteArray) (p : Nat) (I : Nat → S → Prop) (n : Nat) (K : Exit → S → Prop) : (vc (E48 κ) 12 83 none 0 (loopCode (Pr κ).toProgram 83 4) (sp 55 [(18, .ptr 0 0 [] 0)] [.siter s p]) (loopK (E48 κ) 83 4 0 I n K)) = (
  brn (Nat.blt p (ByteArray.size s)) (brn (decide ((↑(Prod.fst (Utf8.decode s p)) : Int) ≥ (97 : Int))) (brn (decide ((↑(Prod.fst (Utf8.decode s p)) : Int) ≤ (122
  : Int))) (∃ (m : Nat), m < n ∧ I m (sp 55 [(18, AV.ptr 0 0 [] 0)] [Obj.siter s (p + Prod.snd (Utf8.decode s p))])) (brn (decide ((↑(Prod.fst (Utf8.decode s p))
  : Int) ≥ (65 : Int))) (brn (decide ((↑(Prod.fst (Utf8.decode s p)) : Int) ≤ (90 : Int))) (∃ (m : Nat), m < n ∧ I m (sp 55 [(18, AV.ptr 0 0 [] 0)] [Obj.siter s
  (p + Prod.snd (Utf8.decode s p))])) (brn (!(↑(Prod.fst (Utf8.decode s p)) : Int) == (95 : Int)) (brn ((↑p : Int) == (0 : Int)) (K Exit.ret (sp 55 [(2, AV.bool
  false)] [])) (brn (decide ((↑(Prod.fst (Utf8.decode s p)) : Int) < (48 : Int))) (K Exit.ret (sp 55 [(2, AV.bool false)] [])) (brn (decide ((↑(Prod.fst
  (Utf8.decode s p)) : Int) > (57 : Int))) (K Exit.ret (sp 55 [(2, AV.bool false)] [])) (∃ (m : Nat), m < n ∧ I m (sp 55 [(18, AV.ptr 0 0 [] 0)] [Obj.siter s (p
  + Prod.snd (Utf8.decode s p))]))))) (∃ (m : Nat), m < n ∧ I m (sp 55 [(18, AV.ptr 0 0 [] 0)] [Obj.siter s (p + Prod.snd (Utf8.decode s p))])))) (brn
  (!(↑(Prod.fst (Utf8.decode s p)) : Int) == (95 : Int)) (brn ((↑p : Int) == (0 : Int)) (K Exit.ret (sp 55 [(2, AV.bool false)] [])) (brn (decide ((↑(Prod.fst
  (Utf8.decode s p)) : Int) < (48 : Int))) (K Exit.ret (sp 55 [(2, AV.bool false)] [])) (brn (decide ((↑(Prod.fst (Utf8.decode s p)) : Int) > (57 : Int))) (K
  Exit.ret (sp 55 [(2, AV.bool false)] [])) (∃ (m : Nat), m < n ∧ I m (sp 55 [(18, AV.ptr 0 0 [] 0)] [Obj.siter s (p + Prod.snd (Utf8.decode s p))]))))) (∃ (m :
  Nat), m < n ∧ I m (sp 55 [(18, AV.ptr 0 0 [] 0)] [Obj.siter s (p + Prod.snd (Utf8.decode s p))]))))) (brn (decide ((↑(Prod.fst (Utf8.decode s p)) : Int) ≥ (65
  : Int))) (brn (decide ((↑(Prod.fst (Utf8.decode s p)) : Int) ≤ (90 : Int))) (∃ (m : Nat), m < n ∧ I m (sp 55 [(18, AV.ptr 0 0 [] 0)] [Obj.siter s (p + Prod.snd
  (Utf8.decode s p))])) (brn (!(↑(Prod.fst (Utf8.decode s p)) : Int) == (95 : Int)) (brn ((↑p : Int) == (0 : Int)) (K Exit.ret (sp 55 [(2, AV.bool false)] []))
  (brn (decide ((↑(Prod.fst (Utf8.decode s p)) : Int) < (48 : Int))) (K Exit.ret (sp 55 [(2, AV.bool false)] [])) (brn (decide ((↑(Prod.fst (Utf8.decode s p)) :
  Int) > (57 : Int))) (K Exit.ret (sp 55 [(2, AV.bool false)] [])) (∃ (m : Nat), m < n ∧ I m (sp 55 [(18, AV.ptr 0 0 [] 0)] [Obj.siter s (p + Prod.snd
  (Utf8.decode s p))]))))) (∃ (m : Nat), m < n ∧ I m (sp 55 [(18, AV.ptr 0 0 [] 0)] [Obj.siter s (p + Prod.snd (Utf8.decode s p))])))) (brn (!(↑(Prod.fst
  (Utf8.decode s p)) : Int) == (95 : Int)) (brn ((↑p : Int) == (0 : Int)) (K Exit.ret (sp 55 [(2, AV.bool false)] [])) (brn (decide ((↑(Prod.fst (Utf8.decode s
  p)) : Int) < (48 : Int))) (K Exit.ret (sp 55 [(2, AV.bool false)] [])) (brn (decide ((↑(Prod.fst (Utf8.decode s p)) : Int) > (57 : Int))) (K Exit.ret (sp 55
  [(2, AV.bool false)] [])) (∃ (m : Nat), m < n ∧ I m (sp 55 [(18, AV.ptr 0 0 [] 0)] [Obj.siter s (p + Prod.snd (Utf8.decode s p))]))))) (∃ (m : Nat), m < n ∧ I
  m (sp 55 [(18, AV.ptr 0 0 [] 0)] [Obj.siter s (p + Prod.snd (Utf8.decode s p))]))))) (K (Exit.exit 0) (sp 55 [] []))) := by kernel_rfl
abbrev st57 (a : ByteArray × Nat) : S := sp 55 [(18, .ptr 0 0 [] 0)] [.siter a.1 a.2]
noncomputable def out57 (a : ByteArray × Nat) : Out (Exit × S) :=
  .brn (nameAt a.1 a.2) (.one (.exit 0, sp 55 [] [])) (.one (.ret, sp 55 [(2, .bool false)] []))
theorem l57 (κ : Kp) : LoopOk (E48 κ) 12 83 4 (loopE 0 st57 (fun _ => True) out57) := by
  refine loopE_ok (fun a => a.1.size - a.2) ?_
  rintro ⟨s, p⟩ K - ho
  rw [show (E48 κ).P = Pr κ from rfl, x57]
  simp only [out57, Out.run, brn_iff] at ho
  have hgo : ∀ c : Int, c = (Utf8.decode s p).1 → p < s.size → (letter c || (!(decide ((p : Int) = 0) || decide (c < 48) || decide ((57 : Int) < c)))) = true →
      ∃ m, m < s.size - p ∧ invOf st57 (fun _ => True) out57 (fun a => a.1.size - a.2) K m (sp 55 [(18, .ptr 0 0 [] 0)] [.siter s (p + (Utf8.decode s p).2)]) := by
    rintro c rfl hp hc
    have := width_pos s p
    refine ⟨s.size - (p + (Utf8.decode s p).2), by omega, (s, p + (Utf8.decode s p).2), rfl, trivial, rfl, ?_⟩
    rw [nameAt, dif_pos hp, hc, Bool.true_and] at ho
    simpa only [out57, Out.run, brn_iff] using ho
  have hno : ∀ c : Int, c = (Utf8.decode s p).1 → p < s.size → (letter c || (!(decide ((p : Int) = 0) || decide (c < 48) || decide ((57 : Int) < c)))) = false → K Exit.ret (sp 55 [(2, .bool false)] []) := by
    rintro c rfl hp hc
    rw [nameAt, dif_pos hp, hc, Bool.false_and] at ho
    exact ho.2 rfl
  have hgo := hgo _ rfl
  have hno := hno _ rfl
  generalize ((Utf8.decode s p).1 : Int) = c at *
  simp only [brn_iff, Nat.blt_eq, decide_eq_true_eq, decide_eq_false_iff_not, beq_iff_eq, beq_eq_false_iff_ne, Bool.not_eq_true', Bool.not_eq_false', bne_iff_ne]
  refine ⟨fun hp => ?_, fun hp => ho.1 ?_⟩
  · have hgo := hgo hp
    have hno := hno hp
    simp only [letter, Bool.or_eq_true, Bool.and_eq_true, Bool.not_eq_true', Bool.or_eq_false_iff, Bool.and_eq_false_iff, Bool.not_eq_false', decide_eq_true_eq, decide_eq_false_iff_not] at hgo hno
    repeat' (first | apply And.intro | intro _)
    all_goals first | (refine hgo ?_; omega) | (refine hno ?_; omega)
  · have hp : ¬ p < s.size := fun h => by rw [show Nat.blt p s.size = true from by rw [Nat.blt_eq]; exact h] at hp; cases hp
    rw [nameAt, dif_neg hp]
noncomputable def E57l (κ : Kp) : Env := (E48 κ).addLoop 83 4 (loopE 0 st57 (fun _ => True) out57)
theorem e57l (κ : Kp) : EnvOK (E57l κ) := (e48 κ).addLoop (m48 κ) (l57 κ)
theorem m57l (κ : Kp) : EnvMono (E57l κ) := (m48 κ).addLoop loopE_mono
theorem y57 (κ : Kp) (s : ByteArray) (K : AV → List Dn.Obj → Prop) : (funA (E57l κ) 12 83 [.lit (.string s)] [] K) = (
  brn (ByteArray.toList s == ByteArray.toList { data := #[] }) (K (AV.bool false) []) (brn (ByteArray.toList s == ByteArray.toList { data := #[OfNat.ofNat 95] })
  (K (AV.bool false) []) (brn (decide ((↑(ByteArray.size s) : Int) > (40 : Int))) (K (AV.bool false) []) (loopCode (Pg.toProgram (Env.P (E48 κ))) 83 4 = loopCode
  (Pg.toProgram (Env.P (E48 κ))) 83 4 ∧ ∃ (a : ByteArray × Nat), sp 55 [(18, AV.ptr 0 0 [] 0)] [Obj.siter s 0] = sp 55 [(18, AV.ptr 0 0 [] 0)] [Obj.siter
  (Prod.fst a) (Prod.snd a)] ∧ True ∧ brn (nameAt (Prod.fst a) (Prod.snd a)) (K (AV.bool true) []) (K (AV.bool false) []))))) := by kernel_rfl
def g57 : List AV → Option (Bool × AV)
  | [.lit (.string s)] => some (true, .bool (isName s))
  | _ => none
theorem p57 (κ : Kp) : PureOk (E57l κ) 12 83 g57 := by
  intro args x h
  unfold g57 at h
  split at h
  · rename_i s
    simp only [Option.some.injEq, Prod.mk.injEq, true_and] at h
    subst h
    refine ⟨_, rfl, rfl, ?_⟩
    rw [y57]
    unfold isName eqS
    simp only [brn_iff, decide_eq_true_eq, decide_eq_false_iff_not]
    refine ⟨fun h1 => by rw [h1]; rfl, fun h1 => ⟨fun h2 => by rw [h1, h2]; rfl, fun h2 => ⟨fun h3 => ?_, fun h3 => ⟨trivial, ⟨s, 0⟩, rfl, trivial, fun h4 => ?_, fun h4 => ?_⟩⟩⟩⟩
    · rw [h1, h2, decide_eq_true (show (40 : Int) < s.size from h3)]; rfl
    · rw [h1, h2, decide_eq_false (show ¬ (40 : Int) < s.size from h3), h4]; rfl
    · rw [h1, h2, decide_eq_false (show ¬ (40 : Int) < s.size from h3), h4]; rfl
  · cases h
noncomputable def E57 (κ : Kp) : Env := (E57l κ).addPure 83 g57
theorem e57 (κ : Kp) : EnvOK (E57 κ) := (e57l κ).addPure (m57l κ) (p57 κ)
theorem m57 (κ : Kp) : EnvMono (E57 κ) := (m57l κ).addPure
theorem y64 (κ : Kp) (op : Int) (s : ByteArray) (n : Int) (l : List AV) (K : AV → List Dn.Obj → Prop) : (funA (E57 κ) 12 95 [.agg [.int op, .lit (.string s), .int n, .lst 43 l]] [] K) = (
  brn (op == (1 : Int)) (brn (isName s) (K (AV.bool (n == (0 : Int))) []) (K (AV.bool false) [])) (brn (op == (2 : Int)) (K (AV.bool (ByteArray.toList s ==
  ByteArray.toList { data := #[] })) []) (brn (op == (3 : Int)) (K (AV.bool (n == (0 : Int))) []) (brn (op == (4 : Int)) (brn (ByteArray.toList s ==
  ByteArray.toList { data := #[] }) (K (AV.bool (n == (0 : Int))) []) (K (AV.bool false) [])) (brn (op == (0 : Int)) (brn (ByteArray.toList s == ByteArray.toList
  { data := #[] }) (K (AV.bool (n == (0 : Int))) []) (K (AV.bool false) [])) (K (AV.bool false) [])))))) := by kernel_rfl
def g64 : List AV → Option (Bool × AV)
  | [.agg [.lit (.int .i64 op), .lit (.string s), .lit (.int .i64 n), .lst 43 _]] => some (true, .bool (bare op s n))
  | _ => none
theorem p64 (κ : Kp) : PureOk (E57 κ) 12 95 g64 := by
  intro args x h
  unfold g64 at h
  split at h
  · rename_i op s n l
    simp only [Option.some.injEq, Prod.mk.injEq, true_and] at h
    subst h
    refine ⟨_, rfl, rfl, ?_⟩
    rw [y64]
    have e : ∀ k : Int, (op == k) = decide (op = k) := fun k => by by_cases h : op = k <;> simp [h]
    simp only [e]
    cases h5 : isName s <;> cases h6 : (ByteArray.toList s == ByteArray.toList (ByteArray.mk #[])) <;>
    by_cases h1 : op = 1 <;> by_cases h2 : op = 2 <;> by_cases h3 : op = 3 <;> by_cases h4 : op = 4 <;> by_cases h0 : op = 0 <;>
    first | omega | (simp only [brn, bare, eqS, h5, h6, h1, h2, h3, h4, h0]; rfl) | (simp [brn, bare, eqS, h5, h6, h1, h2, h3, h4, h0]; done) | (simp [brn, bare, eqS, h5, h6, h1, h2, h3, h4, h0]; rfl) | skip
  · cases h
noncomputable def E64 (κ : Kp) : Env := (E57 κ).addPure 95 g64
theorem e64 (κ : Kp) : EnvOK (E64 κ) := (e57 κ).addPure (m57 κ) (p64 κ)
theorem m64 (κ : Kp) : EnvMono (E64 κ) := (m57 κ).addPure
theorem len0 (l : List AV) : ((l.length : Int) == 0) = decide ((l.length : Int) = 0) := by
  cases h : decide ((l.length : Int) = 0) with
  | true => rw [decide_eq_true_eq] at h; rw [h]; rfl
  | false => rw [decide_eq_false_iff_not] at h; exact beq_eq_false_iff_ne.2 h
theorem y60 (κ : Kp) (op : Int) (s : ByteArray) (n : Int) (l : List AV) (K : AV → List Dn.Obj → Prop) : (funA (E64 κ) 12 86 [.agg [.int op, .lit (.string s), .int n, .lst 43 l]] [] K) = (
  brn (op == (0 : Int)) (brn (bare op s n) (K (AV.bool ((↑(List.length l) : Int) == (0 : Int))) []) (K (AV.bool false) [])) (K (AV.bool false) [])) := by kernel_rfl
theorem y61 (κ : Kp) (s : ByteArray) (l : List AV) (K : AV → List Dn.Obj → Prop) : (funA (E64 κ) 12 87 [.agg [.lit (.string s), .lst 43 l]] [] K) = (
  brn (ByteArray.toList s == ByteArray.toList { data := #[] }) (K (AV.bool ((↑(List.length l) : Int) == (0 : Int))) []) (K (AV.bool false) [])) := by kernel_rfl
theorem y47 (κ : Kp) (b : Bool) (K : AV → List Dn.Obj → Prop) : (funA (E64 κ) 12 69 [.bool b] [] K) = (
  brn b (K (AV.lit Value.nilIface) []) (K (AV.lit (Value.iface 129 (Value.pointer (some (Kp.tree κ))))) [])) := by kernel_rfl
def g60 : List AV → Option (Bool × AV)
  | [.agg [.lit (.int .i64 op), .lit (.string s), .lit (.int .i64 n), .lst 43 l]] => some (true, .bool (decide (op = 0) && bare op s n && decide ((l.length : Int) = 0)))
  | _ => none
theorem p60 (κ : Kp) : PureOk (E64 κ) 12 86 g60 := by
  intro args x h
  unfold g60 at h
  split at h
  · rename_i op s n l
    simp only [Option.some.injEq, Prod.mk.injEq, true_and] at h
    subst h
    refine ⟨_, rfl, rfl, ?_⟩
    rw [y60]
    rw [len0]
    cases h5 : bare op s n <;> by_cases h0 : op = 0 <;> simp [brn_iff, h5, h0] <;> first | rfl | skip
  · cases h
def g61 : List AV → Option (Bool × AV)
  | [.agg [.lit (.string s), .lst 43 l]] => some (true, .bool (eqS s (ByteArray.mk #[]) && decide ((l.length : Int) = 0)))
  | _ => none
theorem p61 (κ : Kp) : PureOk (E64 κ) 12 87 g61 := by
  intro args x h
  unfold g61 at h
  split at h
  · rename_i s l
    simp only [Option.some.injEq, Prod.mk.injEq, true_and] at h
    subst h
    refine ⟨_, rfl, rfl, ?_⟩
    rw [y61]
    unfold eqS
    rw [len0]
    cases h5 : (ByteArray.toList s == ByteArray.toList (ByteArray.mk #[])) <;> simp [brn_iff] <;> first | rfl | skip
  · cases h
def g47 (κ : Kp) : List AV → Option (Bool × AV)
  | [.lit (.bool b)] => some (true, .lit (errV κ b))
  | _ => none
theorem p47 (κ : Kp) : PureOk (E64 κ) 12 69 (g47 κ) := by
  intro args x h
  unfold g47 at h
  split at h
  · rename_i b
    simp only [Option.some.injEq, Prod.mk.injEq, true_and] at h
    subst h
    refine ⟨_, rfl, one_errV κ b, ?_⟩
    rw [y47]
    cases b <;> rfl
  · cases h
noncomputable def E47 (κ : Kp) : Env := (((E64 κ).addPure 86 g60).addPure 87 g61).addPure 69 (g47 κ)
theorem e47 (κ : Kp) : EnvOK (E47 κ) := (((e64 κ).addPureSim (pure_sim (e64 κ) (m64 κ) (p60 κ))).addPureSim (pure_sim (e64 κ) (m64 κ) (p61 κ))).addPureSim (pure_sim (e64 κ) (m64 κ) (p47 κ))
theorem m47 (κ : Kp) : EnvMono (E47 κ) := (((m64 κ).addPure).addPure).addPure
end Go.Proofs.YtpgahkbkfflkaaaGreatDoor
namespace Go.Proofs.YtpgahkbkfflkaaaGreatDoor
open Go Go.Dn Go.Rl Go.Proofs
attribute [local irreducible] funA vc
set_option maxRecDepth 20000
def g58 (κ : Kp) : List AV → Option (Bool × AV)
  | [.agg [.lit (.int .i64 op), .lit (.string s), .lit (.int .i64 n), .lst 43 l], .lit (.int .i64 h)] => some (decide (0 ≤ h) && decide (h ≤ 1000), .lit (errV κ (rightT h.toNat (.mk op s n (tmsOf l)))))
  | _ => none
def μ58 : List AV → Nat
  | [_, .lit (.int .i64 h)] => h.toNat
  | _ => 0
noncomputable def E58p (κ : Kp) (n : Nat) : Env := (E47 κ).addPure 84 (below (g58 κ) μ58 n)
theorem x58 (κ : Kp) (r : Nat) (h : Int) (l : List AV) (i : Int) (I : Nat → S → Prop) (n : Nat) (K : Exit → S → Prop) : (vc (E58p κ r) 12 84 none 0 (loopCode (Pr κ).toProgram 84 10) (sp 72 [(1, .int h), (49, .lst 43 l), (50, .int l.length), (51, .int i)] []) (loopK (E58p κ r) 84 10 0 I n K)) = (
  brn (decide (i < (↑(List.length l) : Int))) (cnd (decide ((0 : Int) ≤ i) && decide (i < (↑(List.length l) : Int))) (brn (toInt (fld (nth l (Int.toNat i)) 0) ==
  (3 : Int)) (K Exit.ret (sp 72 [(4, AV.lit (Value.iface 129 (Value.pointer (some (Kp.tree κ)))))] [])) (brn (toInt (fld (nth l (Int.toNat i)) 0) == (4 : Int))
  (K Exit.ret (sp 72 [(4, AV.lit (Value.iface 129 (Value.pointer (some (Kp.tree κ)))))] [])) (cnd (decide ((0 : Int) ≤ IntKind.wrap IntKind.i64 (h - (1 : Int)))
  && decide (IntKind.wrap IntKind.i64 (h - (1 : Int)) ≤ (1000 : Int)) && Nat.blt (μ58 [AV.agg [AV.int (toInt (fld (nth l (Int.toNat i)) 0)), AV.str (toStr (fld
  (nth l (Int.toNat i)) 1)), AV.int (toInt (fld (nth l (Int.toNat i)) 2)), AV.lst 43 (toLst (fld (nth l (Int.toNat i)) 3))], AV.int (IntKind.wrap IntKind.i64 (h
  - (1 : Int)))]) r) (cnd (isIfcV (errV κ (rightT (Int.toNat (IntKind.wrap IntKind.i64 (h - (1 : Int)))) (Tm.mk (toInt (fld (nth l (Int.toNat i)) 0)) (toStr (fld
  (nth l (Int.toNat i)) 1)) (toInt (fld (nth l (Int.toNat i)) 2)) (tmsOf (toLst (fld (nth l (Int.toNat i)) 3))))))) (brn (!isNilV (errV κ (rightT (Int.toNat
  (IntKind.wrap IntKind.i64 (h - (1 : Int)))) (Tm.mk (toInt (fld (nth l (Int.toNat i)) 0)) (toStr (fld (nth l (Int.toNat i)) 1)) (toInt (fld (nth l (Int.toNat
  i)) 2)) (tmsOf (toLst (fld (nth l (Int.toNat i)) 3))))))) (K Exit.ret (sp 72 [(4, AV.lit (errV κ (rightT (Int.toNat (IntKind.wrap IntKind.i64 (h - (1 : Int))))
  (Tm.mk (toInt (fld (nth l (Int.toNat i)) 0)) (toStr (fld (nth l (Int.toNat i)) 1)) (toInt (fld (nth l (Int.toNat i)) 2)) (tmsOf (toLst (fld (nth l (Int.toNat
  i)) 3)))))))] [])) (∃ (m : Nat), m < n ∧ I m (sp 72 [(1, AV.int h), (49, AV.lst 43 l), (50, AV.int (↑(List.length l) : Int)), (51, AV.int (IntKind.wrap
  IntKind.i64 (i + (1 : Int))))] [])))))))) (K (Exit.exit 1) (sp 72 [] []))) := by kernel_rfl
abbrev st58 (a : Int × List AV × Int) : S := sp 72 [(1, .int a.1), (49, .lst 43 a.2.1), (50, .int a.2.1.length), (51, .int a.2.2)] []
def side58 (r : Nat) (a : Int × List AV × Int) : Prop := 1 ≤ a.1 ∧ a.1 ≤ 1000 ∧ a.1.toNat ≤ r ∧ a.2.1.length ≤ maxI ∧ 0 ≤ a.2.2 ∧ a.2.2 ≤ a.2.1.length
noncomputable def out58 (κ : Kp) (a : Int × List AV × Int) : Out (Exit × S) :=
  .brn (rightLs (a.1 - 1).toNat (tmsOf (a.2.1.drop a.2.2.toNat))) (.one (.exit 1, sp 72 [] [])) (.one (.ret, sp 72 [(4, .lit (errV κ false))] []))
theorem l58 (κ : Kp) (r : Nat) : LoopOk (E58p κ r) 12 84 10 (loopE 0 st58 (side58 r) (out58 κ)) := by
  refine loopE_ok (fun a => a.2.1.length - a.2.2.toNat) ?_
  rintro ⟨h, l, i⟩ K ⟨h1, h2, h3, h4, h5, h6⟩ ho
  simp only at h1 h2 h3 h4 h5 h6
  rw [show (E58p κ r).P = Pr κ from rfl, x58]
  simp only [out58, Out.run, brn_iff] at ho
  rw [wrap_ok (n := h - 1) (by omega) (by omega)]
  simp only [maxI] at h4
  simp only [isIfc_errV, isNil_errV]
  simp only [← tmOf_eq]
  simp only [brn_iff, cnd_iff, decide_eq_true_eq, decide_eq_false_iff_not, Bool.and_eq_true, beq_iff_eq, beq_eq_false_iff_ne, Bool.not_eq_true', Bool.not_eq_false', μ58, Nat.blt_eq]
  refine ⟨fun hi => ⟨⟨h5, hi⟩, ?_⟩, fun hi => ho.1 ?_⟩
  · have e := tms_drop l i.toNat (by omega)
    rw [e] at ho
    have hop : (tmOf (nth l i.toNat)).op = toInt (fld (nth l i.toNat) 0) := by rw [tmOf_eq]; rfl
    simp only [rightLs, List.all_cons, hop] at ho
    refine ⟨fun ha => ho.2 (by simp [ha]), fun ha => ⟨fun hb => ho.2 (by simp [hb]), fun hb => ⟨⟨⟨by omega, by omega⟩, by omega⟩, trivial, fun hc => ?_, fun hc => ?_⟩⟩⟩
    · rw [hc]; exact ho.2 (by rw [hc]; simp)
    · rw [wrap_ok (n := i + 1) (by omega) (by omega)]
      refine ⟨_, ?_, (h, l, i + 1), rfl, ⟨h1, h2, h3, by simpa [maxI] using h4, by simp only; omega, by simp only; omega⟩, rfl, ?_⟩
      · simp only; omega
      · rw [hc] at ho
        simp only [out58, Out.run, brn_iff, rightLs]
        rw [show (i + 1).toNat = i.toNat + 1 by omega]
        simpa [ha, hb] using ho
  · rw [List.drop_eq_nil_of_le (by omega)]; rfl
noncomputable def E58r (κ : Kp) (r : Nat) : Env := (E58p κ r).addLoop 84 10 (loopE 0 st58 (side58 r) (out58 κ))
theorem y58 (κ : Kp) (r : Nat) (op : Int) (s : ByteArray) (n : Int) (l : List AV) (h : Int) (K : AV → List Dn.Obj → Prop) : (funA (E58r κ r) 12 84 [.agg [.int op, .lit (.string s), .int n, .lst 43 l], .int h] [] K) = (
  brn (h == (0 : Int)) (K (AV.lit (Value.iface 129 (Value.pointer (some (Kp.tree κ))))) []) (brn (op == (0 : Int)) (K (AV.lit (Value.iface 129 (Value.pointer (some
  (Kp.tree κ))))) []) (brn (!isTwo op) (brn (!bare op s n) (K (AV.lit (Value.iface 129 (Value.pointer (some (Kp.tree κ))))) []) (brn (decide ((↑(List.length l) :
  Int) > (0 : Int))) (K (AV.lit (Value.iface 129 (Value.pointer (some (Kp.tree κ))))) []) (K (AV.lit Value.nilIface) []))) (brn (!ByteArray.toList s ==
  ByteArray.toList { data := #[] }) (K (AV.lit (Value.iface 129 (Value.pointer (some (Kp.tree κ))))) []) (brn (n != (0 : Int)) (K (AV.lit (Value.iface 129
  (Value.pointer (some (Kp.tree κ))))) []) (brn ((↑(List.length l) : Int) != (2 : Int)) (K (AV.lit (Value.iface 129 (Value.pointer (some (Kp.tree κ))))) [])
  (loopCode (Pg.toProgram (Env.P (E58p κ r))) 84 10 = loopCode (Pg.toProgram (Env.P (E58p κ r))) 84 10 ∧ ∃ (a : Int × List AV × Int), sp 72 [(1, AV.int h), (49,
  AV.lst 43 l), (50, AV.int (↑(List.length l) : Int)), (51, AV.int 0)] [] = sp 72 [(1, AV.int (Prod.fst a)), (49, AV.lst 43 (Prod.fst (Prod.snd a))), (50, AV.int
  (↑(List.length (Prod.fst (Prod.snd a))) : Int)), (51, AV.int (Prod.snd (Prod.snd a)))] [] ∧ ((1 : Int) ≤ Prod.fst a ∧ Prod.fst a ≤ (1000 : Int) ∧ Int.toNat
  (Prod.fst a) ≤ r ∧ List.length (Prod.fst (Prod.snd a)) ≤ 9223372036854775807 ∧ (0 : Int) ≤ Prod.snd (Prod.snd a) ∧ Prod.snd (Prod.snd a) ≤ (↑(List.length
  (Prod.fst (Prod.snd a))) : Int)) ∧ brn (rightLs (Int.toNat (Prod.fst a - (1 : Int))) (tmsOf (List.drop (Int.toNat (Prod.snd (Prod.snd a))) (Prod.fst (Prod.snd
  a))))) (K (AV.lit Value.nilIface) []) (K (AV.lit (Value.iface 129 (Value.pointer (some (Kp.tree κ))))) [])))))))) := by kernel_rfl
theorem e58r (κ : Kp) (r : Nat) (hp : PureSim (Pr κ) 84 (below (g58 κ) μ58 r)) : EnvOK (E58r κ r) ∧ EnvMono (E58r κ r) ∧ (E58r κ r).P = Pr κ :=
  have h : EnvOK (E58p κ r) := (e47 κ).addPureSim hp
  have hm : EnvMono (E58p κ r) := (m47 κ).addPure
  ⟨h.addLoop hm (l58 κ r), hm.addLoop loopE_mono, rfl⟩
theorem p58 (κ : Kp) (r : Nat) : PureOk (E58r κ r) 12 84 (fun xs => bif Nat.beq (μ58 xs) r then g58 κ xs else none) := by
  intro args x hh
  cases hb : Nat.beq (μ58 args) r with
  | false => simp only [hb] at hh; cases hh
  | true =>
    simp only [hb, cond_true] at hh
    unfold g58 at hh
    split at hh
    · rename_i op s n l h
      simp only [Option.some.injEq, Prod.mk.injEq, Bool.and_eq_true, decide_eq_true_eq] at hh
      obtain ⟨⟨h1, h2⟩, rfl⟩ := hh
      have hr : h.toNat = r := Nat.eq_of_beq_eq_true hb
      refine ⟨_, rfl, one_errV κ _, ?_⟩
      rw [y58]
      have ef : AV.lit (.iface 129 (.pointer (some κ.tree))) = .lit (errV κ false) := rfl
      have et : AV.lit .nilIface = .lit (errV κ true) := rfl
      rw [ef, et]
      by_cases h0 : h = 0
      · subst h0; rfl
      · obtain ⟨m, hm⟩ : ∃ m, h.toNat = m + 1 := ⟨h.toNat - 1, by omega⟩
        rw [hm, rightT_mk, tms_len]
        unfold eqS
        generalize (ByteArray.toList s == ByteArray.toList (ByteArray.mk #[])) = z
        simp only [brn_iff, beq_iff_eq, beq_eq_false_iff_ne, Bool.not_eq_true', Bool.not_eq_false', decide_eq_true_eq, decide_eq_false_iff_not, bne_iff_ne, bne_eq_false_iff_eq]
        refine ⟨fun e => absurd e h0, fun _ => ⟨fun e => by rw [decide_eq_true e]; rfl, fun e => ?_⟩⟩
        rw [decide_eq_false e, cond_false]
        refine ⟨fun e2 => ?_, fun e2 => ?_⟩
        · rw [e2, cond_false]
          refine ⟨fun e3 => by rw [e3]; rfl, fun e3 => ⟨fun e4 => ?_, fun e4 => ?_⟩⟩
          · rw [decide_eq_false (show ¬ l.length = 0 by omega), Bool.and_false]
          · rw [e3, decide_eq_true (show l.length = 0 by omega)]; rfl
        · rw [e2, cond_true]
          refine ⟨fun e3 => by rw [e3]; rfl, fun e3 => ⟨fun e4 => by rw [e3, decide_eq_false e4]; rfl, fun e4 => ⟨fun e5 => ?_, fun e5 => ?_⟩⟩⟩
          · rw [decide_eq_false (show ¬ l.length = 2 by omega)]; simp
          · refine ⟨trivial, (h, l, 0), rfl, ⟨by simp only; omega, h2, by simp only; omega, by simp only; omega, by simp only; omega, by simp only; omega⟩, ?_⟩
            rw [e3, decide_eq_true e4, decide_eq_true (show l.length = 2 by omega)]
            simp only [show (h - 1).toNat = m by omega, Int.toNat_zero, List.drop_zero, Bool.true_and]
            exact ⟨fun e => by rw [e], fun e => by rw [e]⟩
    · cases hh
theorem q58 (κ : Kp) : PureSim (Pr κ) 84 (g58 κ) := EnvOK.addPureRec (g58 κ) μ58 (E58r κ) (e58r κ) (p58 κ)
noncomputable def E58 (κ : Kp) : Env := (E47 κ).addPure 84 (g58 κ)
theorem e58 (κ : Kp) : EnvOK (E58 κ) := (e47 κ).addPureSim (q58 κ)
theorem m58 (κ : Kp) : EnvMono (E58 κ) := (m47 κ).addPure
end Go.Proofs.YtpgahkbkfflkaaaGreatDoor
namespace Go.Proofs.YtpgahkbkfflkaaaGreatDoor
open Go Go.Dn Go.Rl Go.Proofs
attribute [local irreducible] funA vc
set_option maxRecDepth 20000
theorem x46 (κ : Kp) (l : List AV) (i : Int) (I : Nat → S → Prop) (n : Nat) (K : Exit → S → Prop) : (vc (E58 κ) 12 68 none 0 (loopCode (Pr κ).toProgram 68 4) (sp 36 [(24, .lst 43 l), (25, .int l.length), (26, .int i)] []) (loopK (E58 κ) 68 4 0 I n K)) = (
  brn (decide (i < (↑(List.length l) : Int))) (cnd (decide ((0 : Int) ≤ i) && decide (i < (↑(List.length l) : Int))) (cnd (isIfcV (errV κ (rightT 20 (Tm.mk (toInt
  (fld (nth l (Int.toNat i)) 0)) (toStr (fld (nth l (Int.toNat i)) 1)) (toInt (fld (nth l (Int.toNat i)) 2)) (tmsOf (toLst (fld (nth l (Int.toNat i)) 3)))))))
  (brn (!isNilV (errV κ (rightT 20 (Tm.mk (toInt (fld (nth l (Int.toNat i)) 0)) (toStr (fld (nth l (Int.toNat i)) 1)) (toInt (fld (nth l (Int.toNat i)) 2))
  (tmsOf (toLst (fld (nth l (Int.toNat i)) 3))))))) (K Exit.ret (sp 36 [(2, AV.lit (errV κ (rightT 20 (Tm.mk (toInt (fld (nth l (Int.toNat i)) 0)) (toStr (fld
  (nth l (Int.toNat i)) 1)) (toInt (fld (nth l (Int.toNat i)) 2)) (tmsOf (toLst (fld (nth l (Int.toNat i)) 3)))))))] [])) (∃ (m : Nat), m < n ∧ I m (sp 36 [(24,
  AV.lst 43 l), (25, AV.int (↑(List.length l) : Int)), (26, AV.int (IntKind.wrap IntKind.i64 (i + (1 : Int))))] []))))) (K (Exit.exit 0) (sp 36 [] []))) := by kernel_rfl
abbrev st46 (a : List AV × Int) : S := sp 36 [(24, .lst 43 a.1), (25, .int a.1.length), (26, .int a.2)] []
def side46 (a : List AV × Int) : Prop := a.1.length ≤ maxI ∧ 0 ≤ a.2 ∧ a.2 ≤ a.1.length
noncomputable def out46 (κ : Kp) (a : List AV × Int) : Out (Exit × S) :=
  .brn ((tmsOf (a.1.drop a.2.toNat)).all (rightT 20)) (.one (.exit 0, sp 36 [] [])) (.one (.ret, sp 36 [(2, .lit (errV κ false))] []))
theorem l46 (κ : Kp) : LoopOk (E58 κ) 12 68 4 (loopE 0 st46 side46 (out46 κ)) := by
  refine loopE_ok (fun a => a.1.length - a.2.toNat) ?_
  rintro ⟨l, i⟩ K ⟨h4, h5, h6⟩ ho
  simp only at h4 h5 h6
  rw [show (E58 κ).P = Pr κ from rfl, x46]
  simp only [out46, Out.run, brn_iff] at ho
  simp only [maxI] at h4
  simp only [isIfc_errV, isNil_errV, ← tmOf_eq]
  simp only [brn_iff, cnd_iff, decide_eq_true_eq, decide_eq_false_iff_not, Bool.and_eq_true, beq_iff_eq, beq_eq_false_iff_ne, Bool.not_eq_true', Bool.not_eq_false']
  refine ⟨fun hi => ⟨⟨h5, hi⟩, trivial, fun hc => ?_, fun hc => ?_⟩, fun hi => ho.1 ?_⟩
  · rw [hc]
    rw [tms_drop l i.toNat (by omega), List.all_cons, hc, Bool.false_and] at ho
    exact ho.2 rfl
  · rw [wrap_ok (n := i + 1) (by omega) (by omega)]
    refine ⟨_, ?_, (l, i + 1), rfl, ⟨by simpa [maxI] using h4, by simp only; omega, by simp only; omega⟩, rfl, ?_⟩
    · simp only; omega
    · rw [tms_drop l i.toNat (by omega), List.all_cons, hc, Bool.true_and] at ho
      simp only [out46, Out.run, brn_iff, show (i + 1).toNat = i.toNat + 1 by omega]
      exact ho
  · rw [List.drop_eq_nil_of_le (by omega)]; rfl
noncomputable def E46l (κ : Kp) : Env := (E58 κ).addLoop 68 4 (loopE 0 st46 side46 (out46 κ))
theorem e46l (κ : Kp) : EnvOK (E46l κ) := (e58 κ).addLoop (m58 κ) (l46 κ)
theorem m46l (κ : Kp) : EnvMono (E46l κ) := (m58 κ).addLoop loopE_mono
theorem y46 (κ : Kp) (s : ByteArray) (l : List AV) (K : AV → List Dn.Obj → Prop) : (funA (E46l κ) 12 68 [.agg [.lit (.string s), .lst 43 l]] [] K) = (
  brn (!isName s) (K (AV.lit (Value.iface 129 (Value.pointer (some (Kp.tree κ))))) []) (brn ((↑(List.length l) : Int) == (0 : Int)) (K (AV.lit (Value.iface 129
  (Value.pointer (some (Kp.tree κ))))) []) (brn (decide ((↑(List.length l) : Int) > (8 : Int))) (K (AV.lit (Value.iface 129 (Value.pointer (some (Kp.tree κ)))))
  []) (loopCode (Pg.toProgram (Env.P (E58 κ))) 68 4 = loopCode (Pg.toProgram (Env.P (E58 κ))) 68 4 ∧ ∃ (a : List AV × Int), sp 36 [(24, AV.lst 43 l), (25, AV.int
  (↑(List.length l) : Int)), (26, AV.int 0)] [] = sp 36 [(24, AV.lst 43 (Prod.fst a)), (25, AV.int (↑(List.length (Prod.fst a)) : Int)), (26, AV.int (Prod.snd
  a))] [] ∧ (List.length (Prod.fst a) ≤ 9223372036854775807 ∧ (0 : Int) ≤ Prod.snd a ∧ Prod.snd a ≤ (↑(List.length (Prod.fst a)) : Int)) ∧ brn (List.all (tmsOf
  (List.drop (Int.toNat (Prod.snd a)) (Prod.fst a))) (rightT 20)) (K (AV.lit Value.nilIface) []) (K (AV.lit (Value.iface 129 (Value.pointer (some (Kp.tree κ)))))
  []))))) := by kernel_rfl
def g46 (κ : Kp) : List AV → Option (Bool × AV)
  | [.agg [.lit (.string s), .lst 43 l]] => some (true, .lit (errV κ (rightA ⟨s, tmsOf l⟩)))
  | _ => none
theorem p46 (κ : Kp) : PureOk (E46l κ) 12 68 (g46 κ) := by
  intro args x hh
  unfold g46 at hh
  split at hh
  · rename_i s l
    simp only [Option.some.injEq, Prod.mk.injEq, true_and] at hh
    subst hh
    refine ⟨_, rfl, one_errV κ _, ?_⟩
    rw [y46]
    have ef : AV.lit (.iface 129 (.pointer (some κ.tree))) = .lit (errV κ false) := rfl
    have et : AV.lit .nilIface = .lit (errV κ true) := rfl
    rw [ef, et]
    simp only [rightA, tms_len]
    simp only [brn_iff, beq_iff_eq, beq_eq_false_iff_ne, Bool.not_eq_true', Bool.not_eq_false', decide_eq_true_eq, decide_eq_false_iff_not]
    refine ⟨fun e => by rw [e]; rfl, fun e => ⟨fun e1 => by rw [decide_eq_true (show l.length = 0 by omega)]; simp, fun e1 => ⟨fun e2 => by rw [decide_eq_false (show ¬ l.length ≤ 8 by omega)]; simp, fun e2 => ⟨trivial, (l, 0), rfl, ⟨by simp only; omega, by simp only; omega, by simp only; omega⟩, ?_⟩⟩⟩⟩
    rw [e, decide_eq_false (show ¬ l.length = 0 by omega), decide_eq_true (show l.length ≤ 8 by omega)]
    simp only [Int.toNat_zero, List.drop_zero, Bool.true_and, Bool.not_false]
    exact ⟨fun e => by rw [e], fun e => by rw [e]⟩
  · cases hh
noncomputable def E46 (κ : Kp) : Env := (E46l κ).addPure 68 (g46 κ)
theorem e46 (κ : Kp) : EnvOK (E46 κ) := (e46l κ).addPure (m46l κ) (p46 κ)
theorem m46 (κ : Kp) : EnvMono (E46 κ) := (m46l κ).addPure
noncomputable def E59l (κ : Kp) : Env := (E46 κ).addLoop 85 2 (unrollSp (E46 κ) 12 85 2 5)
theorem e59l (κ : Kp) : EnvOK (E59l κ) := (e46 κ).addLoop (m46 κ) (unroll_ok (m46 κ) 5)
theorem m59l (κ : Kp) : EnvMono (E59l κ) := (m46 κ).addLoop (unroll_mono (m46 κ) 5)
theorem y59a (κ : Kp) (u1 u2 : Value) (K : AV → List Dn.Obj → Prop) : (funA (E59l κ) 12 85 [.lst 54 [.lit u1, .lit u2]] [] K) = (
  loopCode (Pg.toProgram (Env.P (E46 κ))) 85 2 = loopCode (Pg.toProgram (Env.P (E46 κ))) 85 2 ∧ cnd (isIfcV u1) (brn (!isNilV u1) (K (AV.lit u1) []) (cnd (isIfcV
  u2) (brn (!isNilV u2) (K (AV.lit u2) []) (K (AV.lit Value.nilIface) []))))) := by kernel_rfl
theorem y59b (κ : Kp) (u1 u2 u3 : Value) (K : AV → List Dn.Obj → Prop) : (funA (E59l κ) 12 85 [.lst 54 [.lit u1, .lit u2, .lit u3]] [] K) = (
  loopCode (Pg.toProgram (Env.P (E46 κ))) 85 2 = loopCode (Pg.toProgram (Env.P (E46 κ))) 85 2 ∧ cnd (isIfcV u1) (brn (!isNilV u1) (K (AV.lit u1) []) (cnd (isIfcV
  u2) (brn (!isNilV u2) (K (AV.lit u2) []) (cnd (isIfcV u3) (brn (!isNilV u3) (K (AV.lit u3) []) (K (AV.lit Value.nilIface) []))))))) := by kernel_rfl
theorem y59c (κ : Kp) (u1 u2 u3 u4 : Value) (K : AV → List Dn.Obj → Prop) : (funA (E59l κ) 12 85 [.lst 54 [.lit u1, .lit u2, .lit u3, .lit u4]] [] K) = (
  loopCode (Pg.toProgram (Env.P (E46 κ))) 85 2 = loopCode (Pg.toProgram (Env.P (E46 κ))) 85 2 ∧ cnd (isIfcV u1) (brn (!isNilV u1) (K (AV.lit u1) []) (cnd (isIfcV
  u2) (brn (!isNilV u2) (K (AV.lit u2) []) (cnd (isIfcV u3) (brn (!isNilV u3) (K (AV.lit u3) []) (cnd (isIfcV u4) (brn (!isNilV u4) (K (AV.lit u4) []) (K (AV.lit
  Value.nilIface) []))))))))) := by kernel_rfl
def firstV (u v : Value) : Value := bif isNilV u then v else u
theorem firstV_err (κ : Kp) (a b : Bool) : firstV (errV κ a) (errV κ b) = errV κ (a && b) := by cases a <;> rfl
theorem nil_of {u : Value} (h : isIfcV u = true) (h2 : isNilV u = true) : u = .nilIface := by cases u <;> simp_all [isNilV, isIfcV]
def g59 : List AV → Option (Bool × AV)
  | [.lst 54 [.lit u1, .lit u2]] => some ((isIfcV u1 && isIfcV u2) && (oneV u1 && oneV u2), .lit (firstV u1 u2))
  | [.lst 54 [.lit u1, .lit u2, .lit u3]] => some ((isIfcV u1 && (isIfcV u2 && isIfcV u3)) && (oneV u1 && (oneV u2 && oneV u3)), .lit (firstV u1 (firstV u2 u3)))
  | [.lst 54 [.lit u1, .lit u2, .lit u3, .lit u4]] => some ((isIfcV u1 && (isIfcV u2 && (isIfcV u3 && isIfcV u4))) && (oneV u1 && (oneV u2 && (oneV u3 && oneV u4))), .lit (firstV u1 (firstV u2 (firstV u3 u4))))
  | _ => none
theorem p59 (κ : Kp) : PureOk (E59l κ) 12 85 g59 := by
  intro args x hh
  unfold g59 at hh
  split at hh
  · rename_i u1 u2
    simp only [Option.some.injEq, Prod.mk.injEq, Bool.and_eq_true] at hh
    obtain ⟨⟨⟨h1, h2⟩, h3, h4⟩, rfl⟩ := hh
    refine ⟨_, rfl, by unfold firstV; cases isNilV u1 <;> assumption, ?_⟩
    rw [y59a, h1, h2]
    refine ⟨rfl, ?_⟩
    unfold firstV
    cases e1 : isNilV u1
    · rfl
    · cases e2 : isNilV u2
      · rfl
      · rw [nil_of h2 e2]; rfl
  · rename_i u1 u2 u3
    simp only [Option.some.injEq, Prod.mk.injEq, Bool.and_eq_true] at hh
    obtain ⟨⟨⟨h1, h2, h3⟩, h4, h5, h6⟩, rfl⟩ := hh
    refine ⟨_, rfl, by unfold firstV; cases isNilV u1 <;> cases isNilV u2 <;> assumption, ?_⟩
    rw [y59b, h1, h2, h3]
    refine ⟨rfl, ?_⟩
    unfold firstV
    cases e1 : isNilV u1
    · rfl
    · cases e2 : isNilV u2
      · rfl
      · cases e3 : isNilV u3
        · rfl
        · rw [nil_of h3 e3]; rfl
  · rename_i u1 u2 u3 u4
    simp only [Option.some.injEq, Prod.mk.injEq, Bool.and_eq_true] at hh
    obtain ⟨⟨⟨h1, h2, h3, k1⟩, h4, h5, h6, k2⟩, rfl⟩ := hh
    refine ⟨_, rfl, by unfold firstV; cases isNilV u1 <;> cases isNilV u2 <;> cases isNilV u3 <;> assumption, ?_⟩
    rw [y59c, h1, h2, h3, k1]
    refine ⟨rfl, ?_⟩
    unfold firstV
    cases e1 : isNilV u1
    · rfl
    · cases e2 : isNilV u2
      · rfl
      · cases e3 : isNilV u3
        · rfl
        · cases e4 : isNilV u4
          · rfl
          · rw [nil_of k1 e4]; rfl
  · cases hh
noncomputable def E59 (κ : Kp) : Env := (E59l κ).addPure 85 g59
theorem e59 (κ : Kp) : EnvOK (E59 κ) := (e59l κ).addPure (m59l κ) (p59 κ)
theorem m59 (κ : Kp) : EnvMono (E59 κ) := (m59l κ).addPure
theorem y49 (κ : Kp) (op : Int) (s : ByteArray) (l : List AV) (o1 : Int) (s1 : ByteArray) (n1 : Int) (l1 : List AV) (o2 : Int) (s2 : ByteArray) (n2 : Int) (l2 : List AV) (K : AV → List Dn.Obj → Prop) : (funA (E59 κ) 12 71 [.agg [.int op, .agg [.lit (.string s), .lst 43 l], .agg [.int o1, .lit (.string s1), .int n1, .lst 43 l1], .agg [.int o2, .lit (.string s2), .int n2, .lst 43 l2]]] [] K) = (
  brn (o1 == (1 : Int)) (brn (op == (1 : Int)) (brn (decide (o1 = (0 : Int)) && bare o1 s1 n1 && decide ((↑(List.length l1) : Int) = (0 : Int))) (cnd (isIfcV (errV
  κ (rightA { rel := s, l := tmsOf l })) && isIfcV (errV κ (decide (o2 = (0 : Int)) && bare o2 s2 n2 && decide ((↑(List.length l2) : Int) = (0 : Int)))) && (oneV
  (errV κ (rightA { rel := s, l := tmsOf l })) && oneV (errV κ (decide (o2 = (0 : Int)) && bare o2 s2 n2 && decide ((↑(List.length l2) : Int) = (0 : Int)))))) (K
  (AV.lit (firstV (errV κ (rightA { rel := s, l := tmsOf l })) (errV κ (decide (o2 = (0 : Int)) && bare o2 s2 n2 && decide ((↑(List.length l2) : Int) = (0 :
  Int)))))) [])) (cnd (isIfcV (errV κ (rightA { rel := s, l := tmsOf l })) && true && (oneV (errV κ (rightA { rel := s, l := tmsOf l })) && true)) (K (AV.lit
  (firstV (errV κ (rightA { rel := s, l := tmsOf l })) (Value.iface 129 (Value.pointer (some (Kp.tree κ)))))) []))) (brn (op == (2 : Int)) (brn (decide (o1 = (0
  : Int)) && bare o1 s1 n1 && decide ((↑(List.length l1) : Int) = (0 : Int))) (cnd (isIfcV (errV κ (rightA { rel := s, l := tmsOf l })) && isIfcV (errV κ (decide
  (o2 = (0 : Int)) && bare o2 s2 n2 && decide ((↑(List.length l2) : Int) = (0 : Int)))) && (oneV (errV κ (rightA { rel := s, l := tmsOf l })) && oneV (errV κ
  (decide (o2 = (0 : Int)) && bare o2 s2 n2 && decide ((↑(List.length l2) : Int) = (0 : Int)))))) (K (AV.lit (firstV (errV κ (rightA { rel := s, l := tmsOf l }))
  (errV κ (decide (o2 = (0 : Int)) && bare o2 s2 n2 && decide ((↑(List.length l2) : Int) = (0 : Int)))))) [])) (cnd (isIfcV (errV κ (rightA
  { rel := s, l := tmsOf l })) && true && (oneV (errV κ (rightA { rel := s, l := tmsOf l })) && true)) (K (AV.lit (firstV (errV κ (rightA
  { rel := s, l := tmsOf l })) (Value.iface 129 (Value.pointer (some (Kp.tree κ)))))) []))) (brn (op == (3 : Int)) (brn (eqS s { data := #[] } && decide
  ((↑(List.length l) : Int) = (0 : Int))) (brn (o1 != (4 : Int)) (cnd (isIfcV (errV κ (o2 != (4 : Int))) && (isIfcV (errV κ (rightT 20 (Tm.mk o1 s1 n1 (tmsOf
  l1)))) && isIfcV (errV κ (rightT 20 (Tm.mk o2 s2 n2 (tmsOf l2))))) && (oneV (errV κ (o2 != (4 : Int))) && (oneV (errV κ (rightT 20 (Tm.mk o1 s1 n1 (tmsOf
  l1)))) && oneV (errV κ (rightT 20 (Tm.mk o2 s2 n2 (tmsOf l2))))))) (K (AV.lit (firstV (errV κ (o2 != (4 : Int))) (firstV (errV κ (rightT 20 (Tm.mk o1 s1 n1
  (tmsOf l1)))) (errV κ (rightT 20 (Tm.mk o2 s2 n2 (tmsOf l2))))))) [])) (cnd (true && (isIfcV (errV κ (rightT 20 (Tm.mk o1 s1 n1 (tmsOf l1)))) && isIfcV (errV κ
  (rightT 20 (Tm.mk o2 s2 n2 (tmsOf l2))))) && (true && (oneV (errV κ (rightT 20 (Tm.mk o1 s1 n1 (tmsOf l1)))) && oneV (errV κ (rightT 20 (Tm.mk o2 s2 n2 (tmsOf
  l2))))))) (K (AV.lit (Value.iface 129 (Value.pointer (some (Kp.tree κ))))) []))) (cnd (true && (isIfcV (errV κ (rightT 20 (Tm.mk o1 s1 n1 (tmsOf l1)))) &&
  isIfcV (errV κ (rightT 20 (Tm.mk o2 s2 n2 (tmsOf l2))))) && (true && (oneV (errV κ (rightT 20 (Tm.mk o1 s1 n1 (tmsOf l1)))) && oneV (errV κ (rightT 20 (Tm.mk
  o2 s2 n2 (tmsOf l2))))))) (K (AV.lit (Value.iface 129 (Value.pointer (some (Kp.tree κ))))) []))) (brn (op == (4 : Int)) (brn (eqS s { data := #[] } && decide
  ((↑(List.length l) : Int) = (0 : Int))) (brn (o1 != (4 : Int)) (cnd (isIfcV (errV κ (o2 != (4 : Int))) && (isIfcV (errV κ (rightT 20 (Tm.mk o1 s1 n1 (tmsOf
  l1)))) && isIfcV (errV κ (rightT 20 (Tm.mk o2 s2 n2 (tmsOf l2))))) && (oneV (errV κ (o2 != (4 : Int))) && (oneV (errV κ (rightT 20 (Tm.mk o1 s1 n1 (tmsOf
  l1)))) && oneV (errV κ (rightT 20 (Tm.mk o2 s2 n2 (tmsOf l2))))))) (K (AV.lit (firstV (errV κ (o2 != (4 : Int))) (firstV (errV κ (rightT 20 (Tm.mk o1 s1 n1
  (tmsOf l1)))) (errV κ (rightT 20 (Tm.mk o2 s2 n2 (tmsOf l2))))))) [])) (cnd (true && (isIfcV (errV κ (rightT 20 (Tm.mk o1 s1 n1 (tmsOf l1)))) && isIfcV (errV κ
  (rightT 20 (Tm.mk o2 s2 n2 (tmsOf l2))))) && (true && (oneV (errV κ (rightT 20 (Tm.mk o1 s1 n1 (tmsOf l1)))) && oneV (errV κ (rightT 20 (Tm.mk o2 s2 n2 (tmsOf
  l2))))))) (K (AV.lit (Value.iface 129 (Value.pointer (some (Kp.tree κ))))) []))) (cnd (true && (isIfcV (errV κ (rightT 20 (Tm.mk o1 s1 n1 (tmsOf l1)))) &&
  isIfcV (errV κ (rightT 20 (Tm.mk o2 s2 n2 (tmsOf l2))))) && (true && (oneV (errV κ (rightT 20 (Tm.mk o1 s1 n1 (tmsOf l1)))) && oneV (errV κ (rightT 20 (Tm.mk
  o2 s2 n2 (tmsOf l2))))))) (K (AV.lit (Value.iface 129 (Value.pointer (some (Kp.tree κ))))) []))) (brn (op == (5 : Int)) (brn (eqS s { data := #[] } && decide
  ((↑(List.length l) : Int) = (0 : Int))) (brn (o1 != (4 : Int)) (cnd (isIfcV (errV κ (o2 != (4 : Int))) && (isIfcV (errV κ (rightT 20 (Tm.mk o1 s1 n1 (tmsOf
  l1)))) && isIfcV (errV κ (rightT 20 (Tm.mk o2 s2 n2 (tmsOf l2))))) && (oneV (errV κ (o2 != (4 : Int))) && (oneV (errV κ (rightT 20 (Tm.mk o1 s1 n1 (tmsOf
  l1)))) && oneV (errV κ (rightT 20 (Tm.mk o2 s2 n2 (tmsOf l2))))))) (K (AV.lit (firstV (errV κ (o2 != (4 : Int))) (firstV (errV κ (rightT 20 (Tm.mk o1 s1 n1
  (tmsOf l1)))) (errV κ (rightT 20 (Tm.mk o2 s2 n2 (tmsOf l2))))))) [])) (cnd (true && (isIfcV (errV κ (rightT 20 (Tm.mk o1 s1 n1 (tmsOf l1)))) && isIfcV (errV κ
  (rightT 20 (Tm.mk o2 s2 n2 (tmsOf l2))))) && (true && (oneV (errV κ (rightT 20 (Tm.mk o1 s1 n1 (tmsOf l1)))) && oneV (errV κ (rightT 20 (Tm.mk o2 s2 n2 (tmsOf
  l2))))))) (K (AV.lit (Value.iface 129 (Value.pointer (some (Kp.tree κ))))) []))) (cnd (true && (isIfcV (errV κ (rightT 20 (Tm.mk o1 s1 n1 (tmsOf l1)))) &&
  isIfcV (errV κ (rightT 20 (Tm.mk o2 s2 n2 (tmsOf l2))))) && (true && (oneV (errV κ (rightT 20 (Tm.mk o1 s1 n1 (tmsOf l1)))) && oneV (errV κ (rightT 20 (Tm.mk
  o2 s2 n2 (tmsOf l2))))))) (K (AV.lit (Value.iface 129 (Value.pointer (some (Kp.tree κ))))) []))) (brn (op == (6 : Int)) (brn (eqS s { data := #[] } && decide
  ((↑(List.length l) : Int) = (0 : Int))) (brn (o1 != (4 : Int)) (cnd (isIfcV (errV κ (o2 != (4 : Int))) && (isIfcV (errV κ (rightT 20 (Tm.mk o1 s1 n1 (tmsOf
  l1)))) && isIfcV (errV κ (rightT 20 (Tm.mk o2 s2 n2 (tmsOf l2))))) && (oneV (errV κ (o2 != (4 : Int))) && (oneV (errV κ (rightT 20 (Tm.mk o1 s1 n1 (tmsOf
  l1)))) && oneV (errV κ (rightT 20 (Tm.mk o2 s2 n2 (tmsOf l2))))))) (K (AV.lit (firstV (errV κ (o2 != (4 : Int))) (firstV (errV κ (rightT 20 (Tm.mk o1 s1 n1
  (tmsOf l1)))) (errV κ (rightT 20 (Tm.mk o2 s2 n2 (tmsOf l2))))))) [])) (cnd (true && (isIfcV (errV κ (rightT 20 (Tm.mk o1 s1 n1 (tmsOf l1)))) && isIfcV (errV κ
  (rightT 20 (Tm.mk o2 s2 n2 (tmsOf l2))))) && (true && (oneV (errV κ (rightT 20 (Tm.mk o1 s1 n1 (tmsOf l1)))) && oneV (errV κ (rightT 20 (Tm.mk o2 s2 n2 (tmsOf
  l2))))))) (K (AV.lit (Value.iface 129 (Value.pointer (some (Kp.tree κ))))) []))) (cnd (true && (isIfcV (errV κ (rightT 20 (Tm.mk o1 s1 n1 (tmsOf l1)))) &&
  isIfcV (errV κ (rightT 20 (Tm.mk o2 s2 n2 (tmsOf l2))))) && (true && (oneV (errV κ (rightT 20 (Tm.mk o1 s1 n1 (tmsOf l1)))) && oneV (errV κ (rightT 20 (Tm.mk
  o2 s2 n2 (tmsOf l2))))))) (K (AV.lit (Value.iface 129 (Value.pointer (some (Kp.tree κ))))) []))) (brn (op == (7 : Int)) (cnd (isIfcV (errV κ (rightA
  { rel := s, l := tmsOf l })) && (isIfcV (errV κ (decide (o2 = (0 : Int)) && bare o2 s2 n2 && decide ((↑(List.length l2) : Int) = (0 : Int)))) && isIfcV (errV κ
  (rightT 20 (Tm.mk o1 s1 n1 (tmsOf l1))))) && (oneV (errV κ (rightA { rel := s, l := tmsOf l })) && (oneV (errV κ (decide (o2 = (0 : Int)) && bare o2 s2 n2 &&
  decide ((↑(List.length l2) : Int) = (0 : Int)))) && oneV (errV κ (rightT 20 (Tm.mk o1 s1 n1 (tmsOf l1))))))) (K (AV.lit (firstV (errV κ (rightA
  { rel := s, l := tmsOf l })) (firstV (errV κ (decide (o2 = (0 : Int)) && bare o2 s2 n2 && decide ((↑(List.length l2) : Int) = (0 : Int)))) (errV κ (rightT 20
  (Tm.mk o1 s1 n1 (tmsOf l1))))))) [])) (brn (op == (8 : Int)) (cnd (isIfcV (errV κ (rightA { rel := s, l := tmsOf l })) && (isIfcV (errV κ (o2 == (1 : Int))) &&
  (isIfcV (errV κ (rightT 20 (Tm.mk o1 s1 n1 (tmsOf l1)))) && isIfcV (errV κ (rightT 20 (Tm.mk o2 s2 n2 (tmsOf l2)))))) && (oneV (errV κ (rightA
  { rel := s, l := tmsOf l })) && (oneV (errV κ (o2 == (1 : Int))) && (oneV (errV κ (rightT 20 (Tm.mk o1 s1 n1 (tmsOf l1)))) && oneV (errV κ (rightT 20 (Tm.mk o2
  s2 n2 (tmsOf l2)))))))) (K (AV.lit (firstV (errV κ (rightA { rel := s, l := tmsOf l })) (firstV (errV κ (o2 == (1 : Int))) (firstV (errV κ (rightT 20 (Tm.mk o1
  s1 n1 (tmsOf l1)))) (errV κ (rightT 20 (Tm.mk o2 s2 n2 (tmsOf l2)))))))) [])) (brn (op == (9 : Int)) (cnd (isIfcV (errV κ (rightA { rel := s, l := tmsOf l }))
  && (isIfcV (errV κ (o2 == (1 : Int))) && (isIfcV (errV κ (rightT 20 (Tm.mk o1 s1 n1 (tmsOf l1)))) && isIfcV (errV κ (rightT 20 (Tm.mk o2 s2 n2 (tmsOf l2))))))
  && (oneV (errV κ (rightA { rel := s, l := tmsOf l })) && (oneV (errV κ (o2 == (1 : Int))) && (oneV (errV κ (rightT 20 (Tm.mk o1 s1 n1 (tmsOf l1)))) && oneV
  (errV κ (rightT 20 (Tm.mk o2 s2 n2 (tmsOf l2)))))))) (K (AV.lit (firstV (errV κ (rightA { rel := s, l := tmsOf l })) (firstV (errV κ (o2 == (1 : Int))) (firstV
  (errV κ (rightT 20 (Tm.mk o1 s1 n1 (tmsOf l1)))) (errV κ (rightT 20 (Tm.mk o2 s2 n2 (tmsOf l2)))))))) [])) (brn (op == (10 : Int)) (cnd (isIfcV (errV κ (rightA
  { rel := s, l := tmsOf l })) && (isIfcV (errV κ (o2 == (1 : Int))) && (isIfcV (errV κ (rightT 20 (Tm.mk o1 s1 n1 (tmsOf l1)))) && isIfcV (errV κ (rightT 20
  (Tm.mk o2 s2 n2 (tmsOf l2)))))) && (oneV (errV κ (rightA { rel := s, l := tmsOf l })) && (oneV (errV κ (o2 == (1 : Int))) && (oneV (errV κ (rightT 20 (Tm.mk o1
  s1 n1 (tmsOf l1)))) && oneV (errV κ (rightT 20 (Tm.mk o2 s2 n2 (tmsOf l2)))))))) (K (AV.lit (firstV (errV κ (rightA { rel := s, l := tmsOf l })) (firstV (errV
  κ (o2 == (1 : Int))) (firstV (errV κ (rightT 20 (Tm.mk o1 s1 n1 (tmsOf l1)))) (errV κ (rightT 20 (Tm.mk o2 s2 n2 (tmsOf l2)))))))) [])) (K (AV.lit (Value.iface
  129 (Value.pointer (some (Kp.tree κ))))) []))))))))))) (brn (op == (1 : Int)) (brn (decide (o1 = (0 : Int)) && bare o1 s1 n1 && decide ((↑(List.length l1) :
  Int) = (0 : Int))) (cnd (isIfcV (errV κ (rightA { rel := s, l := tmsOf l })) && isIfcV (errV κ (decide (o2 = (0 : Int)) && bare o2 s2 n2 && decide
  ((↑(List.length l2) : Int) = (0 : Int)))) && (oneV (errV κ (rightA { rel := s, l := tmsOf l })) && oneV (errV κ (decide (o2 = (0 : Int)) && bare o2 s2 n2 &&
  decide ((↑(List.length l2) : Int) = (0 : Int)))))) (K (AV.lit (firstV (errV κ (rightA { rel := s, l := tmsOf l })) (errV κ (decide (o2 = (0 : Int)) && bare o2
  s2 n2 && decide ((↑(List.length l2) : Int) = (0 : Int)))))) [])) (cnd (isIfcV (errV κ (rightA { rel := s, l := tmsOf l })) && true && (oneV (errV κ (rightA
  { rel := s, l := tmsOf l })) && true)) (K (AV.lit (firstV (errV κ (rightA { rel := s, l := tmsOf l })) (Value.iface 129 (Value.pointer (some (Kp.tree κ))))))
  []))) (brn (op == (2 : Int)) (brn (decide (o1 = (0 : Int)) && bare o1 s1 n1 && decide ((↑(List.length l1) : Int) = (0 : Int))) (cnd (isIfcV (errV κ (rightA
  { rel := s, l := tmsOf l })) && isIfcV (errV κ (decide (o2 = (0 : Int)) && bare o2 s2 n2 && decide ((↑(List.length l2) : Int) = (0 : Int)))) && (oneV (errV κ
  (rightA { rel := s, l := tmsOf l })) && oneV (errV κ (decide (o2 = (0 : Int)) && bare o2 s2 n2 && decide ((↑(List.length l2) : Int) = (0 : Int)))))) (K (AV.lit
  (firstV (errV κ (rightA { rel := s, l := tmsOf l })) (errV κ (decide (o2 = (0 : Int)) && bare o2 s2 n2 && decide ((↑(List.length l2) : Int) = (0 : Int))))))
  [])) (cnd (isIfcV (errV κ (rightA { rel := s, l := tmsOf l })) && true && (oneV (errV κ (rightA { rel := s, l := tmsOf l })) && true)) (K (AV.lit (firstV (errV
  κ (rightA { rel := s, l := tmsOf l })) (Value.iface 129 (Value.pointer (some (Kp.tree κ)))))) []))) (brn (op == (3 : Int)) (brn (eqS s { data := #[] } &&
  decide ((↑(List.length l) : Int) = (0 : Int))) (brn (o1 != (4 : Int)) (cnd (isIfcV (errV κ (o2 != (4 : Int))) && (isIfcV (errV κ (rightT 20 (Tm.mk o1 s1 n1
  (tmsOf l1)))) && isIfcV (errV κ (rightT 20 (Tm.mk o2 s2 n2 (tmsOf l2))))) && (oneV (errV κ (o2 != (4 : Int))) && (oneV (errV κ (rightT 20 (Tm.mk o1 s1 n1
  (tmsOf l1)))) && oneV (errV κ (rightT 20 (Tm.mk o2 s2 n2 (tmsOf l2))))))) (K (AV.lit (firstV (errV κ (o2 != (4 : Int))) (firstV (errV κ (rightT 20 (Tm.mk o1 s1
  n1 (tmsOf l1)))) (errV κ (rightT 20 (Tm.mk o2 s2 n2 (tmsOf l2))))))) [])) (cnd (true && (isIfcV (errV κ (rightT 20 (Tm.mk o1 s1 n1 (tmsOf l1)))) && isIfcV
  (errV κ (rightT 20 (Tm.mk o2 s2 n2 (tmsOf l2))))) && (true && (oneV (errV κ (rightT 20 (Tm.mk o1 s1 n1 (tmsOf l1)))) && oneV (errV κ (rightT 20 (Tm.mk o2 s2 n2
  (tmsOf l2))))))) (K (AV.lit (Value.iface 129 (Value.pointer (some (Kp.tree κ))))) []))) (cnd (true && (isIfcV (errV κ (rightT 20 (Tm.mk o1 s1 n1 (tmsOf l1))))
  && isIfcV (errV κ (rightT 20 (Tm.mk o2 s2 n2 (tmsOf l2))))) && (true && (oneV (errV κ (rightT 20 (Tm.mk o1 s1 n1 (tmsOf l1)))) && oneV (errV κ (rightT 20
  (Tm.mk o2 s2 n2 (tmsOf l2))))))) (K (AV.lit (Value.iface 129 (Value.pointer (some (Kp.tree κ))))) []))) (brn (op == (4 : Int)) (brn (eqS s { data := #[] } &&
  decide ((↑(List.length l) : Int) = (0 : Int))) (brn (o1 != (4 : Int)) (cnd (isIfcV (errV κ (o2 != (4 : Int))) && (isIfcV (errV κ (rightT 20 (Tm.mk o1 s1 n1
  (tmsOf l1)))) && isIfcV (errV κ (rightT 20 (Tm.mk o2 s2 n2 (tmsOf l2))))) && (oneV (errV κ (o2 != (4 : Int))) && (oneV (errV κ (rightT 20 (Tm.mk o1 s1 n1
  (tmsOf l1)))) && oneV (errV κ (rightT 20 (Tm.mk o2 s2 n2 (tmsOf l2))))))) (K (AV.lit (firstV (errV κ (o2 != (4 : Int))) (firstV (errV κ (rightT 20 (Tm.mk o1 s1
  n1 (tmsOf l1)))) (errV κ (rightT 20 (Tm.mk o2 s2 n2 (tmsOf l2))))))) [])) (cnd (true && (isIfcV (errV κ (rightT 20 (Tm.mk o1 s1 n1 (tmsOf l1)))) && isIfcV
  (errV κ (rightT 20 (Tm.mk o2 s2 n2 (tmsOf l2))))) && (true && (oneV (errV κ (rightT 20 (Tm.mk o1 s1 n1 (tmsOf l1)))) && oneV (errV κ (rightT 20 (Tm.mk o2 s2 n2
  (tmsOf l2))))))) (K (AV.lit (Value.iface 129 (Value.pointer (some (Kp.tree κ))))) []))) (cnd (true && (isIfcV (errV κ (rightT 20 (Tm.mk o1 s1 n1 (tmsOf l1))))
  && isIfcV (errV κ (rightT 20 (Tm.mk o2 s2 n2 (tmsOf l2))))) && (true && (oneV (errV κ (rightT 20 (Tm.mk o1 s1 n1 (tmsOf l1)))) && oneV (errV κ (rightT 20
  (Tm.mk o2 s2 n2 (tmsOf l2))))))) (K (AV.lit (Value.iface 129 (Value.pointer (some (Kp.tree κ))))) []))) (brn (op == (5 : Int)) (brn (eqS s { data := #[] } &&
  decide ((↑(List.length l) : Int) = (0 : Int))) (brn (o1 != (4 : Int)) (cnd (isIfcV (errV κ (o2 != (4 : Int))) && (isIfcV (errV κ (rightT 20 (Tm.mk o1 s1 n1
  (tmsOf l1)))) && isIfcV (errV κ (rightT 20 (Tm.mk o2 s2 n2 (tmsOf l2))))) && (oneV (errV κ (o2 != (4 : Int))) && (oneV (errV κ (rightT 20 (Tm.mk o1 s1 n1
  (tmsOf l1)))) && oneV (errV κ (rightT 20 (Tm.mk o2 s2 n2 (tmsOf l2))))))) (K (AV.lit (firstV (errV κ (o2 != (4 : Int))) (firstV (errV κ (rightT 20 (Tm.mk o1 s1
  n1 (tmsOf l1)))) (errV κ (rightT 20 (Tm.mk o2 s2 n2 (tmsOf l2))))))) [])) (cnd (true && (isIfcV (errV κ (rightT 20 (Tm.mk o1 s1 n1 (tmsOf l1)))) && isIfcV
  (errV κ (rightT 20 (Tm.mk o2 s2 n2 (tmsOf l2))))) && (true && (oneV (errV κ (rightT 20 (Tm.mk o1 s1 n1 (tmsOf l1)))) && oneV (errV κ (rightT 20 (Tm.mk o2 s2 n2
  (tmsOf l2))))))) (K (AV.lit (Value.iface 129 (Value.pointer (some (Kp.tree κ))))) []))) (cnd (true && (isIfcV (errV κ (rightT 20 (Tm.mk o1 s1 n1 (tmsOf l1))))
  && isIfcV (errV κ (rightT 20 (Tm.mk o2 s2 n2 (tmsOf l2))))) && (true && (oneV (errV κ (rightT 20 (Tm.mk o1 s1 n1 (tmsOf l1)))) && oneV (errV κ (rightT 20
  (Tm.mk o2 s2 n2 (tmsOf l2))))))) (K (AV.lit (Value.iface 129 (Value.pointer (some (Kp.tree κ))))) []))) (brn (op == (6 : Int)) (brn (eqS s { data := #[] } &&
  decide ((↑(List.length l) : Int) = (0 : Int))) (brn (o1 != (4 : Int)) (cnd (isIfcV (errV κ (o2 != (4 : Int))) && (isIfcV (errV κ (rightT 20 (Tm.mk o1 s1 n1
  (tmsOf l1)))) && isIfcV (errV κ (rightT 20 (Tm.mk o2 s2 n2 (tmsOf l2))))) && (oneV (errV κ (o2 != (4 : Int))) && (oneV (errV κ (rightT 20 (Tm.mk o1 s1 n1
  (tmsOf l1)))) && oneV (errV κ (rightT 20 (Tm.mk o2 s2 n2 (tmsOf l2))))))) (K (AV.lit (firstV (errV κ (o2 != (4 : Int))) (firstV (errV κ (rightT 20 (Tm.mk o1 s1
  n1 (tmsOf l1)))) (errV κ (rightT 20 (Tm.mk o2 s2 n2 (tmsOf l2))))))) [])) (cnd (true && (isIfcV (errV κ (rightT 20 (Tm.mk o1 s1 n1 (tmsOf l1)))) && isIfcV
  (errV κ (rightT 20 (Tm.mk o2 s2 n2 (tmsOf l2))))) && (true && (oneV (errV κ (rightT 20 (Tm.mk o1 s1 n1 (tmsOf l1)))) && oneV (errV κ (rightT 20 (Tm.mk o2 s2 n2
  (tmsOf l2))))))) (K (AV.lit (Value.iface 129 (Value.pointer (some (Kp.tree κ))))) []))) (cnd (true && (isIfcV (errV κ (rightT 20 (Tm.mk o1 s1 n1 (tmsOf l1))))
  && isIfcV (errV κ (rightT 20 (Tm.mk o2 s2 n2 (tmsOf l2))))) && (true && (oneV (errV κ (rightT 20 (Tm.mk o1 s1 n1 (tmsOf l1)))) && oneV (errV κ (rightT 20
  (Tm.mk o2 s2 n2 (tmsOf l2))))))) (K (AV.lit (Value.iface 129 (Value.pointer (some (Kp.tree κ))))) []))) (brn (op == (7 : Int)) (brn (o1 == (2 : Int)) (cnd
  (isIfcV (errV κ (rightA { rel := s, l := tmsOf l })) && (isIfcV (errV κ (decide (o2 = (0 : Int)) && bare o2 s2 n2 && decide ((↑(List.length l2) : Int) = (0 :
  Int)))) && isIfcV (errV κ (rightT 20 (Tm.mk o1 s1 n1 (tmsOf l1))))) && (oneV (errV κ (rightA { rel := s, l := tmsOf l })) && (oneV (errV κ (decide (o2 = (0 :
  Int)) && bare o2 s2 n2 && decide ((↑(List.length l2) : Int) = (0 : Int)))) && oneV (errV κ (rightT 20 (Tm.mk o1 s1 n1 (tmsOf l1))))))) (K (AV.lit (firstV (errV
  κ (rightA { rel := s, l := tmsOf l })) (firstV (errV κ (decide (o2 = (0 : Int)) && bare o2 s2 n2 && decide ((↑(List.length l2) : Int) = (0 : Int)))) (errV κ
  (rightT 20 (Tm.mk o1 s1 n1 (tmsOf l1))))))) [])) (cnd (isIfcV (errV κ (rightA { rel := s, l := tmsOf l })) && (true && isIfcV (errV κ (rightT 20 (Tm.mk o1 s1
  n1 (tmsOf l1))))) && (oneV (errV κ (rightA { rel := s, l := tmsOf l })) && (true && oneV (errV κ (rightT 20 (Tm.mk o1 s1 n1 (tmsOf l1))))))) (K (AV.lit (firstV
  (errV κ (rightA { rel := s, l := tmsOf l })) (Value.iface 129 (Value.pointer (some (Kp.tree κ)))))) []))) (brn (op == (8 : Int)) (brn (o1 == (2 : Int)) (cnd
  (isIfcV (errV κ (rightA { rel := s, l := tmsOf l })) && (isIfcV (errV κ (o2 == (1 : Int))) && (isIfcV (errV κ (rightT 20 (Tm.mk o1 s1 n1 (tmsOf l1)))) &&
  isIfcV (errV κ (rightT 20 (Tm.mk o2 s2 n2 (tmsOf l2)))))) && (oneV (errV κ (rightA { rel := s, l := tmsOf l })) && (oneV (errV κ (o2 == (1 : Int))) && (oneV
  (errV κ (rightT 20 (Tm.mk o1 s1 n1 (tmsOf l1)))) && oneV (errV κ (rightT 20 (Tm.mk o2 s2 n2 (tmsOf l2)))))))) (K (AV.lit (firstV (errV κ (rightA
  { rel := s, l := tmsOf l })) (firstV (errV κ (o2 == (1 : Int))) (firstV (errV κ (rightT 20 (Tm.mk o1 s1 n1 (tmsOf l1)))) (errV κ (rightT 20 (Tm.mk o2 s2 n2
  (tmsOf l2)))))))) [])) (cnd (isIfcV (errV κ (rightA { rel := s, l := tmsOf l })) && (true && (isIfcV (errV κ (rightT 20 (Tm.mk o1 s1 n1 (tmsOf l1)))) && isIfcV
  (errV κ (rightT 20 (Tm.mk o2 s2 n2 (tmsOf l2)))))) && (oneV (errV κ (rightA { rel := s, l := tmsOf l })) && (true && (oneV (errV κ (rightT 20 (Tm.mk o1 s1 n1
  (tmsOf l1)))) && oneV (errV κ (rightT 20 (Tm.mk o2 s2 n2 (tmsOf l2)))))))) (K (AV.lit (firstV (errV κ (rightA { rel := s, l := tmsOf l })) (Value.iface 129
  (Value.pointer (some (Kp.tree κ)))))) []))) (brn (op == (9 : Int)) (brn (o1 == (2 : Int)) (cnd (isIfcV (errV κ (rightA { rel := s, l := tmsOf l })) && (isIfcV
  (errV κ (o2 == (1 : Int))) && (isIfcV (errV κ (rightT 20 (Tm.mk o1 s1 n1 (tmsOf l1)))) && isIfcV (errV κ (rightT 20 (Tm.mk o2 s2 n2 (tmsOf l2)))))) && (oneV
  (errV κ (rightA { rel := s, l := tmsOf l })) && (oneV (errV κ (o2 == (1 : Int))) && (oneV (errV κ (rightT 20 (Tm.mk o1 s1 n1 (tmsOf l1)))) && oneV (errV κ
  (rightT 20 (Tm.mk o2 s2 n2 (tmsOf l2)))))))) (K (AV.lit (firstV (errV κ (rightA { rel := s, l := tmsOf l })) (firstV (errV κ (o2 == (1 : Int))) (firstV (errV κ
  (rightT 20 (Tm.mk o1 s1 n1 (tmsOf l1)))) (errV κ (rightT 20 (Tm.mk o2 s2 n2 (tmsOf l2)))))))) [])) (cnd (isIfcV (errV κ (rightA { rel := s, l := tmsOf l })) &&
  (true && (isIfcV (errV κ (rightT 20 (Tm.mk o1 s1 n1 (tmsOf l1)))) && isIfcV (errV κ (rightT 20 (Tm.mk o2 s2 n2 (tmsOf l2)))))) && (oneV (errV κ (rightA
  { rel := s, l := tmsOf l })) && (true && (oneV (errV κ (rightT 20 (Tm.mk o1 s1 n1 (tmsOf l1)))) && oneV (errV κ (rightT 20 (Tm.mk o2 s2 n2 (tmsOf l2)))))))) (K
  (AV.lit (firstV (errV κ (rightA { rel := s, l := tmsOf l })) (Value.iface 129 (Value.pointer (some (Kp.tree κ)))))) []))) (brn (op == (10 : Int)) (brn (o1 ==
  (2 : Int)) (cnd (isIfcV (errV κ (rightA { rel := s, l := tmsOf l })) && (isIfcV (errV κ (o2 == (1 : Int))) && (isIfcV (errV κ (rightT 20 (Tm.mk o1 s1 n1 (tmsOf
  l1)))) && isIfcV (errV κ (rightT 20 (Tm.mk o2 s2 n2 (tmsOf l2)))))) && (oneV (errV κ (rightA { rel := s, l := tmsOf l })) && (oneV (errV κ (o2 == (1 : Int)))
  && (oneV (errV κ (rightT 20 (Tm.mk o1 s1 n1 (tmsOf l1)))) && oneV (errV κ (rightT 20 (Tm.mk o2 s2 n2 (tmsOf l2)))))))) (K (AV.lit (firstV (errV κ (rightA
  { rel := s, l := tmsOf l })) (firstV (errV κ (o2 == (1 : Int))) (firstV (errV κ (rightT 20 (Tm.mk o1 s1 n1 (tmsOf l1)))) (errV κ (rightT 20 (Tm.mk o2 s2 n2
  (tmsOf l2)))))))) [])) (cnd (isIfcV (errV κ (rightA { rel := s, l := tmsOf l })) && (true && (isIfcV (errV κ (rightT 20 (Tm.mk o1 s1 n1 (tmsOf l1)))) && isIfcV
  (errV κ (rightT 20 (Tm.mk o2 s2 n2 (tmsOf l2)))))) && (oneV (errV κ (rightA { rel := s, l := tmsOf l })) && (true && (oneV (errV κ (rightT 20 (Tm.mk o1 s1 n1
  (tmsOf l1)))) && oneV (errV κ (rightT 20 (Tm.mk o2 s2 n2 (tmsOf l2)))))))) (K (AV.lit (firstV (errV κ (rightA { rel := s, l := tmsOf l })) (Value.iface 129
  (Value.pointer (some (Kp.tree κ)))))) []))) (K (AV.lit (Value.iface 129 (Value.pointer (some (Kp.tree κ))))) [])))))))))))) := by kernel_rfl
theorem brn_err (κ : Kp) (b x y r : Bool) : brn b (AV.lit (errV κ x) = AV.lit (errV κ r)) (AV.lit (errV κ y) = AV.lit (errV κ r)) ↔ (AV.lit (errV κ (bif b then x else y)) = AV.lit (errV κ r)) := by
  cases b <;> rfl
theorem beq_dec (a b : Int) : (a == b) = decide (a = b) := by by_cases h : a = b <;> simp [h]
theorem bne_dec (a b : Int) : (a != b) = !decide (a = b) := by by_cases h : a = b <;> simp [h]
def g49 (κ : Kp) : List AV → Option (Bool × AV)
  | [.agg [.lit (.int .i64 op), .agg [.lit (.string s), .lst 43 l], .agg [.lit (.int .i64 o1), .lit (.string s1), .lit (.int .i64 n1), .lst 43 l1], .agg [.lit (.int .i64 o2), .lit (.string s2), .lit (.int .i64 n2), .lst 43 l2]]] =>
    some (true, .lit (errV κ (rightL ⟨op, ⟨s, tmsOf l⟩, .mk o1 s1 n1 (tmsOf l1), .mk o2 s2 n2 (tmsOf l2)⟩)))
  | _ => none
theorem p49 (κ : Kp) : PureOk (E59 κ) 12 71 (g49 κ) := by
  intro args x hh
  unfold g49 at hh
  split at hh
  · rename_i op s l o1 s1 n1 l1 o2 s2 n2 l2
    simp only [Option.some.injEq, Prod.mk.injEq, true_and] at hh
    subst hh
    refine ⟨_, rfl, one_errV κ _, ?_⟩
    rw [y49]
    have ef : Value.iface 129 (.pointer (some κ.tree)) = errV κ false := rfl
    rw [ef]
    simp only [isIfc_errV, one_errV, firstV_err, Bool.and_true, Bool.and_self, cnd]
    simp only [← noT_mk, ← noA_mk, beq_dec, bne_dec, brn_err]
    refine congrArg (fun b => AV.lit (errV κ b)) ?_
    have ix : isX (.mk o1 s1 n1 (tmsOf l1)) = (decide (o1 = 1) || decide (o1 = 2)) := rfl
    rw [rightL_mk, ix]
    generalize rightA ⟨s, tmsOf l⟩ = A
    generalize noA ⟨s, tmsOf l⟩ = N0
    generalize noT (.mk o1 s1 n1 (tmsOf l1)) = N1
    generalize noT (.mk o2 s2 n2 (tmsOf l2)) = N2
    generalize rightT 20 (.mk o1 s1 n1 (tmsOf l1)) = R1
    generalize rightT 20 (.mk o2 s2 n2 (tmsOf l2)) = R2
    generalize decide (o1 = 1) = a1
    generalize decide (o1 = 2) = a2
    generalize decide (o1 = 4) = a4
    generalize decide (o2 = 4) = b4
    generalize decide (o2 = 1) = b1
    generalize decide (op = 1) = p1
    generalize decide (op = 2) = p2
    generalize decide (op = 3) = p3
    generalize decide (op = 4) = p4
    generalize decide (op = 5) = p5
    generalize decide (op = 6) = p6
    generalize decide (op = 7) = p7
    generalize decide (op = 8) = p8
    generalize decide (op = 9) = p9
    generalize decide (op = 10) = p10
    cases p1
    case true => cases a1 <;> cases N1 <;> cases A <;> cases N2 <;> rfl
    cases p2
    case true => cases a1 <;> cases N1 <;> cases A <;> cases N2 <;> rfl
    cases p3
    case true => cases a1 <;> cases N0 <;> cases a4 <;> cases b4 <;> cases R1 <;> cases R2 <;> rfl
    cases p4
    case true => cases a1 <;> cases N0 <;> cases a4 <;> cases b4 <;> cases R1 <;> cases R2 <;> rfl
    cases p5
    case true => cases a1 <;> cases N0 <;> cases a4 <;> cases b4 <;> cases R1 <;> cases R2 <;> rfl
    cases p6
    case true => cases a1 <;> cases N0 <;> cases a4 <;> cases b4 <;> cases R1 <;> cases R2 <;> rfl
    cases p7
    case true => cases a1 <;> cases a2 <;> cases A <;> cases N2 <;> cases R1 <;> rfl
    cases p8
    case true => cases a1 <;> cases a2 <;> cases A <;> cases b1 <;> cases R1 <;> cases R2 <;> rfl
    cases p9
    case true => cases a1 <;> cases a2 <;> cases A <;> cases b1 <;> cases R1 <;> cases R2 <;> rfl
    cases p10
    case true => cases a1 <;> cases a2 <;> cases A <;> cases b1 <;> cases R1 <;> cases R2 <;> rfl
    cases a1 <;> rfl
  · cases hh
noncomputable def E49 (κ : Kp) : Env := (E59 κ).addPure 71 (g49 κ)
theorem e49 (κ : Kp) : EnvOK (E49 κ) := (e59 κ).addPure (m59 κ) (p49 κ)
theorem m49 (κ : Kp) : EnvMono (E49 κ) := (m59 κ).addPure
end Go.Proofs.YtpgahkbkfflkaaaGreatDoor
namespace Go.Proofs.YtpgahkbkfflkaaaGreatDoor
open Go Go.Dn Go.Rl Go.Proofs
attribute [local irreducible] funA vc
set_option maxRecDepth 20000
structure A45 where
  xs : List AV
  more : List AV
  rel : ByteArray
  hl : List AV
  bl : List AV
  line : Int
  i : Int
abbrev rl45 (a : A45) : AV := .agg [.agg [.lit (.string a.rel), .lst 43 a.hl], .lst 46 a.bl, .int a.line]
abbrev st45a (a : A45) : S := sp 69 [(0, .yld 0), (1, .ptr 1 0 [] 0), (25, .lst 43 a.hl), (26, .int a.hl.length), (27, .int a.i)] [.ext (some a.xs), .box 27 (rl45 a)]
abbrev st45b (a : A45) : S := sp 69 [(0, .yld 0), (57, .lst 46 a.bl), (58, .int a.bl.length), (59, .int a.i)] [.ext (some a.xs), .box 27 (rl45 a)]
def errs (κ : Kp) (l : List Bool) : List AV := l.map fun b => .tup [.lit (errV κ b)]
def side45a (κ : Kp) (a : A45) : Prop := a.hl.length ≤ maxI ∧ 0 ≤ a.i ∧ a.i ≤ a.hl.length ∧ a.xs = errs κ ((tmsOf (a.hl.drop a.i.toNat)).map (headOk a.bl.length)) ++ a.more
def side45b (κ : Kp) (a : A45) : Prop := a.bl.length ≤ maxI ∧ 0 ≤ a.i ∧ a.i ≤ a.bl.length ∧ a.xs = errs κ ((ltsOf (a.bl.drop a.i.toNat)).map rightL)
def out45a (a : A45) : Out (Exit × S) := .all (fun _ : Bool => True) fun b => .brn b (.one (.exit 0, sp 69 [(0, .yld 0), (1, .ptr 1 0 [] 0)] [.ext (some a.more), .box 27 (rl45 a)]))
  (.one (.ret, sp 69 [] [.ext none, .box 27 (rl45 a)]))
def out45b (a : A45) : Out (Exit × S) := .all (fun _ : Bool => True) fun b => .brn b (.one (.exit 2, sp 69 [] [.ext (some []), .box 27 (rl45 a)]))
  (.one (.ret, sp 69 [] [.ext none, .box 27 (rl45 a)]))
theorem x45a (κ : Kp) (a : A45) (I : Nat → S → Prop) (n : Nat) (K : Exit → S → Prop) : (vc (E49 κ) 12 67 none 2 (loopCode (Pr κ).toProgram 67 2) (st45a a) (loopK (E49 κ) 67 2 2 I n K)) = (
  brn (decide (A45.i a < (↑(List.length (A45.hl a)) : Int))) (cnd (decide ((0 : Int) ≤ A45.i a) && decide (A45.i a < (↑(List.length (A45.hl a)) : Int))) (brn
  (toInt (fld (nth (A45.hl a) (Int.toNat (A45.i a))) 0) != (4 : Int)) (brn (!isTwo (toInt (fld (nth (A45.hl a) (Int.toNat (A45.i a))) 0))) (brn (toInt (fld (nth
  (A45.hl a) (Int.toNat (A45.i a))) 0) != (1 : Int)) (∃ (rest : List AV), A45.xs a = AV.tup [AV.lit Value.nilIface] :: rest ∧ (∃ (m : Nat), m < n ∧ I m (sp 69
  [(0, AV.yld 0), (1, AV.ptr 1 0 [] 0), (25, AV.lst 43 (A45.hl a)), (26, AV.int (↑(List.length (A45.hl a)) : Int)), (27, AV.int (IntKind.wrap IntKind.i64 (A45.i
  a + (1 : Int))))] [Obj.ext (some rest), Obj.box 27 (AV.agg [AV.agg [AV.str (A45.rel a), AV.lst 43 (A45.hl a)], AV.lst 46 (A45.bl a), AV.int (A45.line a)])])) ∧
  K Exit.ret (sp 69 [] [Obj.ext none, Obj.box 27 (AV.agg [AV.agg [AV.str (A45.rel a), AV.lst 43 (A45.hl a)], AV.lst 46 (A45.bl a), AV.int (A45.line a)])])) (∃
  (rest : List AV), A45.xs a = AV.tup [AV.lit (errV κ (decide ((↑(List.length (A45.bl a)) : Int) > (0 : Int))))] :: rest ∧ (∃ (m : Nat), m < n ∧ I m (sp 69 [(0,
  AV.yld 0), (1, AV.ptr 1 0 [] 0), (25, AV.lst 43 (A45.hl a)), (26, AV.int (↑(List.length (A45.hl a)) : Int)), (27, AV.int (IntKind.wrap IntKind.i64 (A45.i a +
  (1 : Int))))] [Obj.ext (some rest), Obj.box 27 (AV.agg [AV.agg [AV.str (A45.rel a), AV.lst 43 (A45.hl a)], AV.lst 46 (A45.bl a), AV.int (A45.line a)])])) ∧ K
  Exit.ret (sp 69 [] [Obj.ext none, Obj.box 27 (AV.agg [AV.agg [AV.str (A45.rel a), AV.lst 43 (A45.hl a)], AV.lst 46 (A45.bl a), AV.int (A45.line a)])]))) (∃
  (rest : List AV), A45.xs a = AV.tup [AV.lit (Value.iface 129 (Value.pointer (some (Kp.tree κ))))] :: rest ∧ (∃ (m : Nat), m < n ∧ I m (sp 69 [(0, AV.yld 0),
  (1, AV.ptr 1 0 [] 0), (25, AV.lst 43 (A45.hl a)), (26, AV.int (↑(List.length (A45.hl a)) : Int)), (27, AV.int (IntKind.wrap IntKind.i64 (A45.i a + (1 :
  Int))))] [Obj.ext (some rest), Obj.box 27 (AV.agg [AV.agg [AV.str (A45.rel a), AV.lst 43 (A45.hl a)], AV.lst 46 (A45.bl a), AV.int (A45.line a)])])) ∧ K
  Exit.ret (sp 69 [] [Obj.ext none, Obj.box 27 (AV.agg [AV.agg [AV.str (A45.rel a), AV.lst 43 (A45.hl a)], AV.lst 46 (A45.bl a), AV.int (A45.line a)])]))) (∃
  (rest : List AV), A45.xs a = AV.tup [AV.lit (Value.iface 129 (Value.pointer (some (Kp.tree κ))))] :: rest ∧ (∃ (m : Nat), m < n ∧ I m (sp 69 [(0, AV.yld 0),
  (1, AV.ptr 1 0 [] 0), (25, AV.lst 43 (A45.hl a)), (26, AV.int (↑(List.length (A45.hl a)) : Int)), (27, AV.int (IntKind.wrap IntKind.i64 (A45.i a + (1 :
  Int))))] [Obj.ext (some rest), Obj.box 27 (AV.agg [AV.agg [AV.str (A45.rel a), AV.lst 43 (A45.hl a)], AV.lst 46 (A45.bl a), AV.int (A45.line a)])])) ∧ K
  Exit.ret (sp 69 [] [Obj.ext none, Obj.box 27 (AV.agg [AV.agg [AV.str (A45.rel a), AV.lst 43 (A45.hl a)], AV.lst 46 (A45.bl a), AV.int (A45.line a)])])))) (K
  (Exit.exit 0) (sp 69 [(0, AV.yld 0), (1, AV.ptr 1 0 [] 0)] [Obj.ext (some (A45.xs a)), Obj.box 27 (AV.agg [AV.agg [AV.str (A45.rel a), AV.lst 43 (A45.hl a)],
  AV.lst 46 (A45.bl a), AV.int (A45.line a)])]))) := by kernel_rfl
theorem l45a (κ : Kp) : LoopOk (E49 κ) 12 67 2 (loopE 2 st45a (side45a κ) out45a) := by
  refine loopE_ok (fun a => a.hl.length - a.i.toNat) ?_
  rintro ⟨xs, more, rel, hl, bl, line, i⟩ K ⟨h1, h2, h3, h4⟩ ho
  simp only at h1 h2 h3 h4
  rw [show (E49 κ).P = Pr κ from rfl, x45a]
  have ef : Value.iface 129 (.pointer (some κ.tree)) = errV κ false := rfl
  have et : Value.nilIface = errV κ true := rfl
  have ho1 := ho true trivial
  have ho2 := ho false trivial
  simp only [Out.run, brn] at ho1 ho2
  simp only [ef, et]
  simp only [maxI] at h1
  simp only [brn_iff, cnd_iff, decide_eq_true_eq, decide_eq_false_iff_not, Bool.and_eq_true]
  refine ⟨fun hi => ⟨⟨h2, hi⟩, ?_⟩, fun hi => ?_⟩
  · rw [tms_drop hl i.toNat (by omega)] at h4
    have hop : (tmOf (nth hl i.toNat)).op = toInt (fld (nth hl i.toNat) 0) := by rw [tmOf_eq]; rfl
    simp only [List.map_cons, errs, headOk, hop, List.cons_append] at h4
    rw [wrap_ok (n := i + 1) (by omega) (by omega)]
    have go : ∀ b, b = (!decide (toInt (fld (nth hl i.toNat) 0) = 4) && !isTwo (toInt (fld (nth hl i.toNat) 0)) && (!decide (toInt (fld (nth hl i.toNat) 0) = 1) || decide (0 < bl.length))) →
        ∃ rest, xs = AV.tup [AV.lit (errV κ b)] :: rest ∧ (∃ m, m < hl.length - i.toNat ∧ invOf st45a (side45a κ) out45a (fun a => a.hl.length - a.i.toNat) K m (st45a ⟨rest, more, rel, hl, bl, line, i + 1⟩)) ∧ K Exit.ret (sp 69 [] [.ext none, .box 27 (rl45 ⟨xs, more, rel, hl, bl, line, i⟩)]) := by
      rintro b rfl
      refine ⟨_, h4, ⟨_, ?_, ⟨_, more, rel, hl, bl, line, i + 1⟩, rfl, ⟨by simpa [maxI] using h1, by simp only; omega, by simp only; omega, ?_⟩, rfl, ho⟩, ho2⟩
      · simp only; omega
      · simp only [errs, show (i + 1).toNat = i.toNat + 1 by omega]
    simp only [bne_dec, Bool.not_eq_true', Bool.not_eq_false', decide_eq_true_eq, decide_eq_false_iff_not]
    refine ⟨fun e1 => ⟨fun e2 => ⟨fun e3 => go _ ?_, fun e3 => go _ ?_⟩, fun e2 => go _ ?_⟩, fun e1 => go _ ?_⟩
    · simp [e1, e2, e3]
    · have e4 : decide ((bl.length : Int) > 0) = decide (0 < bl.length) := by
        by_cases h : 0 < bl.length
        · rw [decide_eq_true h, decide_eq_true (by omega)]
        · rw [decide_eq_false h, decide_eq_false (by omega)]
      rw [e4]
      simp [e2, e3]
      intro _; rfl
    · simp [e2]
    · simp [e1]
  · rw [List.drop_eq_nil_of_le (by omega)] at h4
    simp only [tmsOf, errs, List.map_nil, List.nil_append] at h4
    subst h4
    exact ho1
noncomputable def E45a (κ : Kp) : Env := (E49 κ).addLoop 67 2 (loopE 2 st45a (side45a κ) out45a)
theorem e45a (κ : Kp) : EnvOK (E45a κ) := (e49 κ).addLoop (m49 κ) (l45a κ)
theorem m45a (κ : Kp) : EnvMono (E45a κ) := (m49 κ).addLoop loopE_mono
theorem x45b (κ : Kp) (a : A45) (I : Nat → S → Prop) (n : Nat) (K : Exit → S → Prop) : (vc (E45a κ) 12 67 none 2 (loopCode (Pr κ).toProgram 67 7) (st45b a) (loopK (E45a κ) 67 7 2 I n K)) = (
  brn (decide (A45.i a < (↑(List.length (A45.bl a)) : Int))) (cnd (decide ((0 : Int) ≤ A45.i a) && decide (A45.i a < (↑(List.length (A45.bl a)) : Int))) (∃ (rest :
  List AV), A45.xs a = AV.tup [AV.lit (errV κ (rightL
  { op := toInt (fld (nth (A45.bl a) (Int.toNat (A45.i a))) 0), a := { rel := toStr (fld (fld (nth (A45.bl a) (Int.toNat (A45.i a))) 1) 0), l := tmsOf (toLst (fld (fld (nth (A45.bl a) (Int.toNat (A45.i a))) 1) 1)) }, x := Tm.mk (toInt (fld (fld (nth (A45.bl a) (Int.toNat (A45.i a))) 2) 0)) (toStr (fld (fld (nth (A45.bl a) (Int.toNat (A45.i a))) 2) 1)) (toInt (fld (fld (nth (A45.bl a) (Int.toNat (A45.i a))) 2) 2)) (tmsOf (toLst (fld (fld (nth (A45.bl a) (Int.toNat (A45.i a))) 2) 3))), y := Tm.mk (toInt (fld (fld (nth (A45.bl a) (Int.toNat (A45.i a))) 3) 0)) (toStr (fld (fld (nth (A45.bl a) (Int.toNat (A45.i a))) 3) 1)) (toInt (fld (fld (nth (A45.bl a) (Int.toNat (A45.i a))) 3) 2)) (tmsOf (toLst (fld (fld (nth (A45.bl a) (Int.toNat (A45.i a))) 3) 3))) }))]
  :: rest ∧ (∃ (m : Nat), m < n ∧ I m (sp 69 [(0, AV.yld 0), (57, AV.lst 46 (A45.bl a)), (58, AV.int (↑(List.length (A45.bl a)) : Int)), (59, AV.int
  (IntKind.wrap IntKind.i64 (A45.i a + (1 : Int))))] [Obj.ext (some rest), Obj.box 27 (AV.agg [AV.agg [AV.str (A45.rel a), AV.lst 43 (A45.hl a)], AV.lst 46
  (A45.bl a), AV.int (A45.line a)])])) ∧ K Exit.ret (sp 69 [] [Obj.ext none, Obj.box 27 (AV.agg [AV.agg [AV.str (A45.rel a), AV.lst 43 (A45.hl a)], AV.lst 46
  (A45.bl a), AV.int (A45.line a)])]))) (K (Exit.exit 2) (sp 69 [] [Obj.ext (some (A45.xs a)), Obj.box 27 (AV.agg [AV.agg [AV.str (A45.rel a), AV.lst 43 (A45.hl
  a)], AV.lst 46 (A45.bl a), AV.int (A45.line a)])]))) := by kernel_rfl
theorem l45b (κ : Kp) : LoopOk (E45a κ) 12 67 7 (loopE 2 st45b (side45b κ) out45b) := by
  refine loopE_ok (fun a => a.bl.length - a.i.toNat) ?_
  rintro ⟨xs, more, rel, hl, bl, line, i⟩ K ⟨h1, h2, h3, h4⟩ ho
  simp only at h1 h2 h3 h4
  rw [show (E45a κ).P = Pr κ from rfl, x45b]
  have ho1 := ho true trivial
  have ho2 := ho false trivial
  simp only [Out.run, brn] at ho1 ho2
  simp only [maxI] at h1
  simp only [brn_iff, cnd_iff, decide_eq_true_eq, decide_eq_false_iff_not, Bool.and_eq_true, ← lt_eq]
  refine ⟨fun hi => ⟨⟨h2, hi⟩, ?_⟩, fun hi => ?_⟩
  · rw [lts_drop bl i.toNat (by omega)] at h4
    simp only [List.map_cons, errs] at h4
    rw [wrap_ok (n := i + 1) (by omega) (by omega)]
    refine ⟨_, h4, ⟨_, ?_, ⟨_, more, rel, hl, bl, line, i + 1⟩, rfl, ⟨by simpa [maxI] using h1, by simp only; omega, by simp only; omega, ?_⟩, rfl, ho⟩, ho2⟩
    · simp only; omega
    · simp only [errs, show (i + 1).toNat = i.toNat + 1 by omega]
  · rw [List.drop_eq_nil_of_le (by omega)] at h4
    simp only [ltsOf, errs, List.map_nil] at h4
    subst h4
    exact ho1
noncomputable def E45l (κ : Kp) : Env := (E45a κ).addLoop 67 7 (loopE 2 st45b (side45b κ) out45b)
theorem e45l (κ : Kp) : EnvOK (E45l κ) := (e45a κ).addLoop (m45a κ) (l45b κ)
theorem m45l (κ : Kp) : EnvMono (E45l κ) := (m45a κ).addLoop loopE_mono
theorem y45 (κ : Kp) (a : A45) (K : AV → List Dn.Obj → Prop) : (funA (E45l κ) 12 67 [.yld 0, .ptr 1 0 [] 0] [.ext (some a.xs), .box 27 (rl45 a)] K) = (
  ∃ (rest : List AV), A45.xs a = AV.tup [AV.lit (errV κ (rightA { rel := A45.rel a, l := tmsOf (A45.hl a) }))] :: rest ∧ (∃ (rest_1 : List AV), rest = AV.tup
  [AV.lit (errV κ (decide ((↑(List.length (A45.bl a)) : Int) ≤ (20 : Int))))] :: rest_1 ∧ (loopCode (Pg.toProgram (Env.P (E49 κ))) 67 2 = loopCode (Pg.toProgram
  (Env.P (E49 κ))) 67 2 ∧ ∃ (a_1 : A45), sp 69 [(0, AV.yld 0), (1, AV.ptr 1 0 [] 0), (25, AV.lst 43 (A45.hl a)), (26, AV.int (↑(List.length (A45.hl a)) : Int)),
  (27, AV.int 0)] [Obj.ext (some rest_1), Obj.box 27 (AV.agg [AV.agg [AV.str (A45.rel a), AV.lst 43 (A45.hl a)], AV.lst 46 (A45.bl a), AV.int (A45.line a)])] =
  sp 69 [(0, AV.yld 0), (1, AV.ptr 1 0 [] 0), (25, AV.lst 43 (A45.hl a_1)), (26, AV.int (↑(List.length (A45.hl a_1)) : Int)), (27, AV.int (A45.i a_1))] [Obj.ext
  (some (A45.xs a_1)), Obj.box 27 (AV.agg [AV.agg [AV.str (A45.rel a_1), AV.lst 43 (A45.hl a_1)], AV.lst 46 (A45.bl a_1), AV.int (A45.line a_1)])] ∧ (List.length
  (A45.hl a_1) ≤ 9223372036854775807 ∧ (0 : Int) ≤ A45.i a_1 ∧ A45.i a_1 ≤ (↑(List.length (A45.hl a_1)) : Int) ∧ A45.xs a_1 = errs κ (List.map (headOk
  (List.length (A45.bl a_1))) (tmsOf (List.drop (Int.toNat (A45.i a_1)) (A45.hl a_1)))) ++ A45.more a_1) ∧ ∀ (y : Bool), True → brn y (loopCode (Pg.toProgram
  (Env.P (E45a κ))) 67 7 = loopCode (Pg.toProgram (Env.P (E45a κ))) 67 7 ∧ ∃ (a : A45), sp 69 [(0, AV.yld 0), (57, AV.lst 46 (A45.bl a_1)), (58, AV.int
  (↑(List.length (A45.bl a_1)) : Int)), (59, AV.int 0)] [Obj.ext (some (A45.more a_1)), Obj.box 27 (AV.agg [AV.agg [AV.str (A45.rel a_1), AV.lst 43 (A45.hl
  a_1)], AV.lst 46 (A45.bl a_1), AV.int (A45.line a_1)])] = sp 69 [(0, AV.yld 0), (57, AV.lst 46 (A45.bl a)), (58, AV.int (↑(List.length (A45.bl a)) : Int)),
  (59, AV.int (A45.i a))] [Obj.ext (some (A45.xs a)), Obj.box 27 (AV.agg [AV.agg [AV.str (A45.rel a), AV.lst 43 (A45.hl a)], AV.lst 46 (A45.bl a), AV.int
  (A45.line a)])] ∧ (List.length (A45.bl a) ≤ 9223372036854775807 ∧ (0 : Int) ≤ A45.i a ∧ A45.i a ≤ (↑(List.length (A45.bl a)) : Int) ∧ A45.xs a = errs κ
  (List.map rightL (ltsOf (List.drop (Int.toNat (A45.i a)) (A45.bl a))))) ∧ ∀ (y : Bool), True → brn y (K (AV.tup []) [Obj.ext (some []), Obj.box 27 (AV.agg
  [AV.agg [AV.str (A45.rel a), AV.lst 43 (A45.hl a)], AV.lst 46 (A45.bl a), AV.int (A45.line a)])]) (K (AV.tup []) [Obj.ext none, Obj.box 27 (AV.agg [AV.agg
  [AV.str (A45.rel a), AV.lst 43 (A45.hl a)], AV.lst 46 (A45.bl a), AV.int (A45.line a)])])) (K (AV.tup []) [Obj.ext none, Obj.box 27 (AV.agg [AV.agg [AV.str
  (A45.rel a_1), AV.lst 43 (A45.hl a_1)], AV.lst 46 (A45.bl a_1), AV.int (A45.line a_1)])])) ∧ K (AV.tup []) [Obj.ext none, Obj.box 27 (AV.agg [AV.agg [AV.str
  (A45.rel a), AV.lst 43 (A45.hl a)], AV.lst 46 (A45.bl a), AV.int (A45.line a)])]) ∧ K (AV.tup []) [Obj.ext none, Obj.box 27 (AV.agg [AV.agg [AV.str (A45.rel
  a), AV.lst 43 (A45.hl a)], AV.lst 46 (A45.bl a), AV.int (A45.line a)])]) := by kernel_rfl
def st45 (a : A45) : List AV × List Dn.Obj := ([.yld 0, .ptr 1 0 [] 0], [.ext (some a.xs), .box 27 (rl45 a)])
def side45 (κ : Kp) (a : A45) : Prop := a.hl.length ≤ maxI ∧ a.bl.length ≤ maxI ∧ a.xs = errs κ (wrongs ⟨⟨a.rel, tmsOf a.hl⟩, ltsOf a.bl⟩)
def out45 : A45 → Out (AV × List Dn.Obj) := fun _ => .all (fun st' => tdone st') fun st' => .one (.tup [], st')
theorem c45 (κ : Kp) : CallOk (E45l κ) 12 67 (callE st45 (side45 κ) out45) := by
  refine callE_ok ?_
  rintro ⟨xs, more, rel, hl, bl, line, i⟩ K ⟨h1, h2, h3⟩ ho
  simp only at h1 h2 h3
  simp only [st45]
  rw [y45 κ ⟨xs, more, rel, hl, bl, line, i⟩]
  simp only
  have hn : ∀ b, K (.tup []) [.ext none, b] := fun b => ho _ trivial
  have h0 : ∀ b, K (.tup []) [.ext (some []), b] := fun b => ho _ trivial
  subst h3
  have e20 : decide ((bl.length : Int) ≤ 20) = decide (bl.length ≤ 20) := by
    by_cases h : bl.length ≤ 20
    · rw [decide_eq_true h, decide_eq_true (by omega)]
    · rw [decide_eq_false h, decide_eq_false (by omega)]
  rw [e20]
  simp only [wrongs, errs, List.map_cons, lts_len]
  refine ⟨_, rfl, ⟨_, rfl, ⟨trivial, ⟨_, errs κ ((ltsOf bl).map rightL), rel, hl, bl, line, 0⟩, rfl, ⟨h1, by simp only; omega, by simp only; omega, ?_⟩, ?_⟩, hn _⟩, hn _⟩
  · simp [errs, lts_len]
  · intro y _
    cases y
    · exact hn _
    · refine ⟨trivial, ⟨_, [], rel, hl, bl, line, 0⟩, rfl, ⟨h2, by simp only; omega, by simp only; omega, by simp [errs]⟩, ?_⟩
      intro y _
      cases y
      · exact hn _
      · exact h0 _
set_option maxRecDepth 20000 in
noncomputable def E45 (κ : Kp) : Env := (E45l κ).addCall 67 (callE st45 (side45 κ) out45)
theorem e45 (κ : Kp) : EnvOK (E45 κ) := (e45l κ).addCall (m45l κ) (c45 κ)
theorem m45 (κ : Kp) : EnvMono (E45 κ) := (m45l κ).addCall callE_mono
end Go.Proofs.YtpgahkbkfflkaaaGreatDoor
namespace Go.Proofs.YtpgahkbkfflkaaaGreatDoor
open Go Go.Dn Go.Rl Go.Proofs
attribute [local irreducible] funA vc
set_option maxRecDepth 20000
noncomputable abbrev lp16 (κ : Kp) (a : A45) (st : LoopState) (p : Option Code) : Dn.Obj :=
  .loop (lpA (Pr κ).toProgram 20 3 st p (spR (junks 15) [(0, rl45 a), (1, .ptr 0 0 [] 0), (2, .bool false), (3, .ptr 1 0 [] 0), (5, rl45 a), (6, .clo 67 [.ptr 2 0 [] 0])]))
noncomputable abbrev str16 (κ : Kp) (a : A45) : List Dn.Obj := [.box 27 (rl45 a), .box 54 (.lit .nilIface), .box 27 (rl45 a), lp16 κ a .ready none]
noncomputable abbrev str16d (κ : Kp) (a : A45) : List Dn.Obj := [.box 27 (rl45 a), .box 54 (.lit .nilIface), .dead, lp16 κ a .ready none]
theorem s16 (κ : Kp) (a : A45) (Q : List Dn.Obj → Prop) : (tidy (Pr κ).toProgram 4 (setDead (str16 κ a) (capIds (str16 κ a) [.ptr 2 0 [] 0])) Q) = (
  Q [Obj.box 27 (AV.agg [AV.agg [AV.str (A45.rel a), AV.lst 43 (A45.hl a)], AV.lst 46 (A45.bl a), AV.int (A45.line a)]), Obj.box 54 (AV.lit Value.nilIface),
  Obj.dead, Dn.Obj.loop (lpA Tryz.prog 20 3 LoopState.ready none (spR (junks 15) [(0, AV.agg [AV.agg [AV.str (A45.rel a), AV.lst 43 (A45.hl a)], AV.lst 46
  (A45.bl a), AV.int (A45.line a)]), (1, AV.ptr 0 0 [] 0), (2, AV.bool false), (3, AV.ptr 1 0 [] 0), (5, AV.agg [AV.agg [AV.str (A45.rel a), AV.lst 43 (A45.hl
  a)], AV.lst 46 (A45.bl a), AV.int (A45.line a)]), (6, AV.clo 67 [AV.ptr 2 0 [] 0])]))]) := by kernel_rfl
theorem r16 (κ : Kp) (a : A45) (u : Value) (Q : List Dn.Obj → Prop) (K2 : List Dn.Obj → Prop) : (roundA (vc (E45 κ) 12) 3 [.lit u] (str16d κ a) (fun r st'' => match r with | .lit (.bool true) => tidy (Pr κ).toProgram 4 st'' Q | .lit (.bool false) => K2 st'' | _ => False)) = (
  cnd (isIfcV u) (brn (!isNilV u) (K2 [Obj.box 27 (AV.agg [AV.agg [AV.str (A45.rel a), AV.lst 43 (A45.hl a)], AV.lst 46 (A45.bl a), AV.int (A45.line a)]), Obj.box
  54 (AV.lit u), Obj.dead, Dn.Obj.loop (lpA Tryz.prog 20 3 LoopState.done (some (Code.exit 0)) (spR (junks 15) [(0, AV.agg [AV.agg [AV.str (A45.rel a), AV.lst 43
  (A45.hl a)], AV.lst 46 (A45.bl a), AV.int (A45.line a)]), (1, AV.ptr 0 0 [] 0), (2, AV.bool false), (3, AV.ptr 1 0 [] 0), (5, AV.agg [AV.agg [AV.str (A45.rel
  a), AV.lst 43 (A45.hl a)], AV.lst 46 (A45.bl a), AV.int (A45.line a)]), (6, AV.clo 67 [AV.ptr 2 0 [] 0])]))]) (Q [Obj.box 27 (AV.agg [AV.agg [AV.str (A45.rel
  a), AV.lst 43 (A45.hl a)], AV.lst 46 (A45.bl a), AV.int (A45.line a)]), Obj.box 54 (AV.lit Value.nilIface), Obj.dead, Dn.Obj.loop (lpA Tryz.prog 20 3
  LoopState.ready none (spR (junks 15) [(0, AV.agg [AV.agg [AV.str (A45.rel a), AV.lst 43 (A45.hl a)], AV.lst 46 (A45.bl a), AV.int (A45.line a)]), (1, AV.ptr 0
  0 [] 0), (2, AV.bool false), (3, AV.ptr 1 0 [] 0), (5, AV.agg [AV.agg [AV.str (A45.rel a), AV.lst 43 (A45.hl a)], AV.lst 46 (A45.bl a), AV.int (A45.line a)]),
  (6, AV.clo 67 [AV.ptr 2 0 [] 0])]))]))) := by kernel_rfl
noncomputable abbrev str16x (κ : Kp) (a : A45) : List Dn.Obj := [.box 27 (rl45 a), .box 54 (.lit (errV κ false)), .dead, lp16 κ a .done (some (.exit 0))]
def rule16 (a : A45) : Rl := ⟨⟨a.rel, tmsOf a.hl⟩, ltsOf a.bl⟩
theorem k16 (κ : Kp) (a : A45) (xs : List AV) : (AV.yld 0 :: renL (idxS (capIds (str16 κ a) [.ptr 2 0 [] 0])) [.ptr 2 0 [] 0], Obj.ext (some xs) :: renSt (idxS (capIds (str16 κ a) [.ptr 2 0 [] 0])) (getSt (str16 κ a) (capIds (str16 κ a) [.ptr 2 0 [] 0]))) = st45 { a with xs := xs } := by kernel_rfl
theorem o16 (κ : Kp) (a : A45) : genOk (str16 κ a) [.ptr 2 0 [] 0] = true := by kernel_rfl
noncomputable def sp16 (κ : Kp) : RangeSpec := fun caps st K => ∃ a : A45, (caps, st) = ([AV.ptr 2 0 [] 0], str16 κ a) ∧ (a.hl.length ≤ maxI ∧ a.bl.length ≤ maxI) ∧ brn (rightR (rule16 a)) (K (str16d κ a)) (K (str16x κ a))
theorem sp16_mono (κ : Kp) : (sp16 κ).Mono := by
  rintro caps st K K' hK ⟨a, h1, h2, h3⟩
  refine ⟨a, h1, h2, ?_⟩
  rw [brn_iff] at h3 ⊢
  exact ⟨fun e => hK _ (h3.1 e), fun e => hK _ (h3.2 e)⟩
theorem call45 (κ : Kp) (args : List AV) (st : List Dn.Obj) (K : AV → List Dn.Obj → Prop) (h : callE st45 (side45 κ) out45 args st K) : (E45 κ).call 67 args st K := h
theorem g16r (κ : Kp) : RangeOk (E45 κ) 12 67 (sp16 κ) := by
  rintro caps st K ⟨a, h1, h2, h3⟩
  obtain ⟨rfl, rfl⟩ := Prod.mk.inj h1
  rw [brn_iff] at h3
  refine ⟨errs κ (wrongs (rule16 a)), fun items st' => ∃ l, items = errs κ l ∧ st' = str16d κ a ∧ rightR (rule16 a) = l.all id, ⟨o16 κ a, ?_, ?_, ?_, ?_⟩⟩
  · refine call45 κ _ _ _ ?_
    refine ⟨{ a with xs := errs κ (wrongs (rule16 a)) }, ?_, ⟨h2.1, h2.2, rfl⟩, fun st' h => h⟩
    exact k16 κ a _
  · rw [show (E45 κ).P = Pr κ from rfl, show (str16 κ a).length = 4 from rfl, s16]
    exact ⟨_, rfl, rfl, rightR_all _⟩
  · rintro us rest st' ⟨l, e1, rfl, e3⟩
    cases l with
    | nil => cases e1
    | cons b l =>
      simp only [errs, List.map_cons, List.cons.injEq, AV.tup.injEq] at e1
      obtain ⟨rfl, rfl⟩ := e1
      rw [show (E45 κ).P = Pr κ from rfl, show (str16 κ a).length = 4 from rfl]
      refine Eq.mpr (r16 κ a (errV κ b) _ _) ?_
      rw [isIfc_errV, isNil_errV]
      cases b with
      | true => exact ⟨l, rfl, rfl, by rw [e3]; rfl⟩
      | false => exact h3.2 (by rw [e3]; rfl)
  · rintro st' ⟨l, e1, rfl, e3⟩
    cases l with
    | nil => exact h3.1 (by rw [e3]; rfl)
    | cons b l => cases e1
def genT : List Nat := [67]
noncomputable def E16r (κ : Kp) : Env := ((E45 κ).addRange 20 3 67 (sp16 κ)).withGen (fun f => memN f genT)
theorem e16r (κ : Kp) : EnvOK (E16r κ) := ((e45 κ).addRange (m45 κ) (g16r κ)).withGen _
theorem m16r (κ : Kp) : EnvMono (E16r κ) := ((m45 κ).addRange (sp16_mono κ)).withGen _
end Go.Proofs.YtpgahkbkfflkaaaGreatDoor
namespace Go.Proofs.YtpgahkbkfflkaaaGreatDoor
open Go Go.Dn Go.Rl Go.Proofs Go.RowKit Go.Extern.Stop Go.Stop Go.Extern
theorem isTypeOf (v : Value) (w : World) : (Extern.ReflectliteType.typeOf #[.iface 129 v]).run Tryz.prog w = .ok (.iface 113 (.agg #[.pointer (some ⟨2, 129, none⟩)])) w := by kernel_rfl
theorem isComparable (w : World) : ((Extern.ReflectliteType.method fun t => do Go.Extern.Rtype.noPackHeld "Comparable" t; (fun a => Value.bool a.comparable) <$> typeInfo t) #[.agg #[.pointer (some ⟨2, 129, none⟩)]]).run Tryz.prog w = .ok (.bool true) w := by kernel_rfl
theorem isMethodComparable (v : Value) (w : World) : (Go.method 267 113 v "Comparable").run Tryz.prog w = .ok (117, v) w := by kernel_rfl
theorem isComp : (Tryz.prog.info? 129).map (·.comparable) = some true := by kernel_rfl
theorem isSize : (Tryz.prog.info? 155).map (·.size) = some 1 := by kernel_rfl
set_option maxRecDepth 4000 in
theorem is_same (a : Addr) (w : World) :
    Calls Tryz.prog 22 #[.iface 129 (.pointer (some a)), .iface 129 (.pointer (some a))] w fun e w' => e = .returned (.bool true) ∧ w' = w := by
  obtain ⟨i, hi, hcmp⟩ := Option.map_eq_some_iff.1 isComp
  obtain ⟨j, hj, hjs⟩ := Option.map_eq_some_iff.1 isSize
  have h8 := @run_callFunc_extern Tryz.prog 46 _ Extern.ReflectliteType.typeOf Tryz.func46 (by kernel_rfl) (by kernel_rfl) (by kernel_rfl) (by kernel_rfl)
  have h32 := @run_callFunc_extern Tryz.prog 117 _ (Extern.ReflectliteType.method fun t => do Go.Extern.Rtype.noPackHeld "Comparable" t; pure (.bool (← typeInfo t).comparable)) Tryz.func117 (by kernel_rfl) (by kernel_rfl) (by kernel_rfl) (by kernel_rfl)
  have tT := isTypeOf
  have cT := isComparable
  have mR := isMethodComparable
  have heq := run_eql_iface_ptr_same (P := Tryz.prog) w a Tryz.underlying54 Tryz.underlying129 hi hcmp hj
  go_enter Tryz.func22, Tryz.ntmps22
  go_wp2
  refine wp_loop_rounds 1 ?_
  rw [rounds_succ]
  go_wp2
  go_ret
  exact ⟨rfl, rfl⟩
theorem is_nil (b : Addr) (w : World) :
    Calls Tryz.prog 22 #[.nilIface, .iface 129 (.pointer (some b))] w fun e w' => e = .returned (.bool false) ∧ w' = w := by
  have hn := run_eql_iface_nil_left (P := Tryz.prog) w 129 (.pointer (some b)) Tryz.underlying54
  go_enter Tryz.func22, Tryz.ntmps22
  go_wp2
  go_ret
  exact ⟨rfl, rfl⟩
def gIs : List AV → Option (Bool × AV)
  | [.lit .nilIface, .lit (.iface 129 (.pointer (some _)))] => some (true, .bool false)
  | [.lit (.iface 129 (.pointer (some a))), .lit (.iface 129 (.pointer (some b)))] => some (decide (a = b), .bool true)
  | _ => none
theorem two_lits {C : Ctx} {u v : Value} {vs : Array Value} (h : MT C [.lit u, .lit v] vs.toList) : vs = #[u, v] := by
  obtain ⟨l⟩ := vs
  match l, h with
  | [a, b], h =>
    simp only [MT] at h
    have h1 : Rel C (.lit u) a := ⟨h.1, h.2.1, h.2.2.1⟩
    have h2 : Rel C (.lit v) b := ⟨h.2.2.2.1, h.2.2.2.2.1, h.2.2.2.2.2.1⟩
    rw [rel_lit_inv h1, rel_lit_inv h2]
  | [], h => simp [MT] at h
  | [_], h => simp [MT] at h
  | _ :: _ :: _ :: _, h => simp [MT] at h
theorem qIs (κ : Kp) : PureSim (Pr κ) 22 gIs := by
  intro args x hn hg
  unfold gIs at hg
  split at hg
  · simp only [Option.some.injEq, Prod.mk.injEq, true_and] at hg
    subst hg
    refine ⟨_, _, Tryz.func22, rfl, rfl, rfl, fun C vs hC hI hm => ?_⟩
    rw [two_lits hm]
    refine (callsIn_wide.2 (is_nil _ C.w)).mono ?_
    rintro e w' ⟨rfl, rfl⟩
    exact ⟨rfl, Grows.refl _⟩
  · simp only [Option.some.injEq, Prod.mk.injEq, decide_eq_true_eq] at hg
    obtain ⟨rfl, rfl⟩ := hg
    refine ⟨_, _, Tryz.func22, rfl, rfl, rfl, fun C vs hC hI hm => ?_⟩
    rw [two_lits hm]
    refine (callsIn_wide.2 (is_same _ C.w)).mono ?_
    rintro e w' ⟨rfl, rfl⟩
    exact ⟨rfl, Grows.refl _⟩
  · cases hg
end Go.Proofs.YtpgahkbkfflkaaaGreatDoor
namespace Go.Proofs.YtpgahkbkfflkaaaGreatDoor
open Go Go.Dn Go.Rl Go.Proofs
attribute [local irreducible] funA vc
set_option maxRecDepth 20000
noncomputable def EIs (κ : Kp) : Env := (E16r κ).addPure 22 gIs
theorem eIs (κ : Kp) : EnvOK (EIs κ) := (e16r κ).addPureSim (qIs κ)
theorem mIs (κ : Kp) : EnvMono (EIs κ) := (m16r κ).addPure
theorem y16 (κ : Kp) (a : A45) (K : AV → List Dn.Obj → Prop) : (funA (EIs κ) 12 20 [rl45 a] [] K) = (
  ∃ (a_1 : A45), ([AV.ptr 2 0 [] 0], [Obj.box 27 (AV.agg [AV.agg [AV.str (A45.rel a), AV.lst 43 (A45.hl a)], AV.lst 46 (A45.bl a), AV.int (A45.line a)]), Obj.box
  54 (AV.lit Value.nilIface), Obj.box 27 (AV.agg [AV.agg [AV.str (A45.rel a), AV.lst 43 (A45.hl a)], AV.lst 46 (A45.bl a), AV.int (A45.line a)]), Dn.Obj.loop
  (lpA Tryz.prog 20 3 LoopState.ready none (spR (junks 15) [(0, AV.agg [AV.agg [AV.str (A45.rel a), AV.lst 43 (A45.hl a)], AV.lst 46 (A45.bl a), AV.int (A45.line
  a)]), (1, AV.ptr 0 0 [] 0), (2, AV.bool false), (3, AV.ptr 1 0 [] 0), (5, AV.agg [AV.agg [AV.str (A45.rel a), AV.lst 43 (A45.hl a)], AV.lst 46 (A45.bl a),
  AV.int (A45.line a)]), (6, AV.clo 67 [AV.ptr 2 0 [] 0])]))]) = ([AV.ptr 2 0 [] 0], [Obj.box 27 (AV.agg [AV.agg [AV.str (A45.rel a_1), AV.lst 43 (A45.hl a_1)],
  AV.lst 46 (A45.bl a_1), AV.int (A45.line a_1)]), Obj.box 54 (AV.lit Value.nilIface), Obj.box 27 (AV.agg [AV.agg [AV.str (A45.rel a_1), AV.lst 43 (A45.hl a_1)],
  AV.lst 46 (A45.bl a_1), AV.int (A45.line a_1)]), Dn.Obj.loop (lpA Tryz.prog 20 3 LoopState.ready none (spR (junks 15) [(0, AV.agg [AV.agg [AV.str (A45.rel
  a_1), AV.lst 43 (A45.hl a_1)], AV.lst 46 (A45.bl a_1), AV.int (A45.line a_1)]), (1, AV.ptr 0 0 [] 0), (2, AV.bool false), (3, AV.ptr 1 0 [] 0), (5, AV.agg
  [AV.agg [AV.str (A45.rel a_1), AV.lst 43 (A45.hl a_1)], AV.lst 46 (A45.bl a_1), AV.int (A45.line a_1)]), (6, AV.clo 67 [AV.ptr 2 0 [] 0])]))]) ∧ (List.length
  (A45.hl a_1) ≤ 9223372036854775807 ∧ List.length (A45.bl a_1) ≤ 9223372036854775807) ∧ brn (rightR (rule16 a_1)) (K (AV.bool true) []) (cnd (decide (Kp.tree κ
  = Kp.tree κ)) (K (AV.bool false) []))) := by kernel_rfl
def g16 : List AV → Option (Bool × AV)
  | [.agg [.agg [.lit (.string rel), .lst 43 hl], .lst 46 bl, .lit (.int .i64 _)]] => some (decide (hl.length ≤ maxI) && decide (bl.length ≤ maxI), .bool (rightR ⟨⟨rel, tmsOf hl⟩, ltsOf bl⟩))
  | _ => none
theorem p16 (κ : Kp) : PureOk (EIs κ) 12 20 g16 := by
  intro args x hh
  unfold g16 at hh
  split at hh
  · rename_i rel hl bl line
    simp only [Option.some.injEq, Prod.mk.injEq, Bool.and_eq_true, decide_eq_true_eq] at hh
    obtain ⟨⟨h1, h2⟩, rfl⟩ := hh
    refine ⟨_, rfl, rfl, ?_⟩
    rw [y16 κ ⟨[], [], rel, hl, bl, line, 0⟩]
    refine ⟨⟨[], [], rel, hl, bl, line, 0⟩, rfl, ⟨h1, h2⟩, ?_⟩
    rw [brn_iff]
    refine ⟨fun e => ?_, fun e => ?_⟩
    · rw [show rightR ⟨⟨rel, tmsOf hl⟩, ltsOf bl⟩ = true from e]
    · rw [show rightR ⟨⟨rel, tmsOf hl⟩, ltsOf bl⟩ = false from e]
      simp [cnd]
  · cases hh
noncomputable def E16 (κ : Kp) : Env := (EIs κ).addPure 20 g16
theorem e16 (κ : Kp) : EnvOK (E16 κ) := (eIs κ).addPure (mIs κ) (p16 κ)
theorem m16 (κ : Kp) : EnvMono (E16 κ) := (mIs κ).addPure
end Go.Proofs.YtpgahkbkfflkaaaGreatDoor
namespace Go.Proofs.YtpgahkbkfflkaaaGreatDoor
open Go Go.Dn Go.Rl Go.Proofs
attribute [local irreducible] funA vc
set_option maxRecDepth 20000
def st31 (l : List AV) : List AV × List Dn.Obj := ([.lst 43 l], [])
def side31 (n : Nat) (l : List AV) : Prop := cntL (tmsOf l) = n ∧ n ≤ 100000
def out31 (l : List AV) : Out (AV × List Dn.Obj) := .one (.slc 0 0 (varsL (tmsOf l)).length, [.row 9 (strs (varsL (tmsOf l)))])
def sp31 (n : Nat) : CallSpec := callE st31 (side31 n) out31
noncomputable def E31p (κ : Kp) (r : Nat) : Env := (E16 κ).addCall 44 fun args st K => ∃ m, m < r ∧ sp31 m args st K
theorem x31 (κ : Kp) (r : Nat) (l : List AV) (i : Int) (xs : List AV) (k : Nat) (I : Nat → S → Prop) (n : Nat) (K : Exit → S → Prop) : (vc (E31p κ r) 12 44 none 0 (loopCode (Pr κ).toProgram 44 3) (sp 27 [(3, .slc 0 0 k), (6, .lst 43 l), (7, .int l.length), (8, .int i)] [.row 9 xs]) (loopK (E31p κ r) 44 3 0 I n K)) = (
  brn (decide (i < (↑(List.length l) : Int))) (cnd (decide ((0 : Int) ≤ i) && decide (i < (↑(List.length l) : Int))) (brn (toInt (fld (nth l (Int.toNat i)) 0) ==
  (1 : Int)) (cnd (decide ((k + 1 + 1) * 17 ≤ 70368744177664)) (∃ (m : Nat), m < r ∧ ∃ (a : List AV), ([AV.lst 43 (toLst (fld (nth l (Int.toNat i)) 3))], nilO) =
  ([AV.lst 43 a], nilO) ∧ (cntL (tmsOf a) = m ∧ m ≤ 100000) ∧ cnd (decide ((k + 1 + List.length (List.take (List.length (varsL (tmsOf a))) (List.drop 0 (strs
  (varsL (tmsOf a))))) + 1) * 17 ≤ 70368744177664)) (∃ (m : Nat), m < n ∧ I m (sp 27 [(3, AV.slc 0 0 (k + 1 + List.length (List.take (List.length (varsL (tmsOf
  a))) (List.drop 0 (strs (varsL (tmsOf a))))))), (6, AV.lst 43 l), (7, AV.int (↑(List.length l) : Int)), (8, AV.int (IntKind.wrap IntKind.i64 (i + (1 : Int))))]
  [Obj.row 9 (List.take (k + 1) (List.take k xs ++ [AV.str (toStr (fld (nth l (Int.toNat i)) 1))]) ++ List.take (List.length (varsL (tmsOf a))) (List.drop 0
  (strs (varsL (tmsOf a)))))])))) (∃ (m : Nat), m < r ∧ ∃ (a : List AV), ([AV.lst 43 (toLst (fld (nth l (Int.toNat i)) 3))], nilO) = ([AV.lst 43 a], nilO) ∧
  (cntL (tmsOf a) = m ∧ m ≤ 100000) ∧ cnd (decide ((k + List.length (List.take (List.length (varsL (tmsOf a))) (List.drop 0 (strs (varsL (tmsOf a))))) + 1) * 17
  ≤ 70368744177664)) (∃ (m : Nat), m < n ∧ I m (sp 27 [(3, AV.slc 0 0 (k + List.length (List.take (List.length (varsL (tmsOf a))) (List.drop 0 (strs (varsL
  (tmsOf a))))))), (6, AV.lst 43 l), (7, AV.int (↑(List.length l) : Int)), (8, AV.int (IntKind.wrap IntKind.i64 (i + (1 : Int))))] [Obj.row 9 (List.take k xs ++
  List.take (List.length (varsL (tmsOf a))) (List.drop 0 (strs (varsL (tmsOf a)))))]))))) (K (Exit.exit 0) (sp 27 [(3, AV.slc 0 0 k)] [Obj.row 9 xs]))) := by kernel_rfl
abbrev st31l (a : List AV × Int × List ByteArray) : S := sp 27 [(3, .slc 0 0 a.2.2.length), (6, .lst 43 a.1), (7, .int a.1.length), (8, .int a.2.1)] [.row 9 (strs a.2.2)]
def side31l (r : Nat) (a : List AV × Int × List ByteArray) : Prop := a.1.length ≤ maxI ∧ 0 ≤ a.2.1 ∧ a.2.1 ≤ a.1.length ∧ cntL (tmsOf (a.1.drop a.2.1.toNat)) ≤ r ∧ a.2.2.length + cntL (tmsOf (a.1.drop a.2.1.toNat)) ≤ 100000
def out31l (a : List AV × Int × List ByteArray) : Out (Exit × S) := .one (.exit 0, sp 27 [(3, .slc 0 0 (a.2.2 ++ varsL (tmsOf (a.1.drop a.2.1.toNat))).length)] [.row 9 (strs (a.2.2 ++ varsL (tmsOf (a.1.drop a.2.1.toNat))))])
theorem cnt_nth (l : List AV) (i : Nat) (h : i < l.length) : cntL (tmsOf (l.drop i)) = 1 + cntL (tmsOf (toLst (fld (nth l i) 3))) + cntL (tmsOf (l.drop (i + 1))) := by
  rw [tms_drop l i h, cntL, tmOf_eq, Tm.cnt]
theorem vars_nth (l : List AV) (i : Nat) (h : i < l.length) : varsL (tmsOf (l.drop i)) = (bif decide (toInt (fld (nth l i) 0) = 1) then [toStr (fld (nth l i) 1)] else []) ++ varsL (tmsOf (toLst (fld (nth l i) 3))) ++ varsL (tmsOf (l.drop (i + 1))) := by
  rw [tms_drop l i h, varsL, tmOf_eq, Tm.vars]
theorem l31 (κ : Kp) (r : Nat) : LoopOk (E31p κ r) 12 44 3 (loopE 0 st31l (side31l r) out31l) := by
  refine loopE_ok (fun a => a.1.length - a.2.1.toNat) ?_
  rintro ⟨l, i, vs⟩ K ⟨h1, h2, h3, h4, h5⟩ ho
  simp only at h1 h2 h3 h4 h5
  rw [show (E31p κ r).P = Pr κ from rfl]
  refine Eq.mpr (x31 κ r l i (strs vs) vs.length _ _ K) ?_
  simp only [List.drop_zero, take_strs]
  simp only [maxI] at h1
  simp only [brn_iff, cnd_iff, decide_eq_true_eq, decide_eq_false_iff_not, Bool.and_eq_true, beq_iff_eq, beq_eq_false_iff_ne]
  refine ⟨fun hi => ⟨⟨h2, hi⟩, ?_⟩, fun hi => ?_⟩
  · have hc := cnt_nth l i.toNat (by omega)
    have hv := vars_nth l i.toNat (by omega)
    have hle := varsL_le (tmsOf (toLst (fld (nth l i.toNat) 3)))
    rw [wrap_ok (n := i + 1) (by omega) (by omega)]
    refine ⟨fun e1 => ⟨by omega, _, ?_, toLst (fld (nth l i.toNat) 3), rfl, ⟨rfl, by omega⟩, ?_, _, ?_, (l, i + 1, vs ++ [toStr (fld (nth l i.toNat) 1)] ++ varsL (tmsOf (toLst (fld (nth l i.toNat) 3)))), ?_, ⟨by simpa [maxI] using h1, by simp only; omega, by simp only; omega, ?_, ?_⟩, rfl, ?_⟩,
      fun e1 => ⟨_, ?_, toLst (fld (nth l i.toNat) 3), rfl, ⟨rfl, by omega⟩, ?_, _, ?_, (l, i + 1, vs ++ varsL (tmsOf (toLst (fld (nth l i.toNat) 3)))), ?_, ⟨by simpa [maxI] using h1, by simp only; omega, by simp only; omega, ?_, ?_⟩, rfl, ?_⟩⟩
    all_goals first
      | omega
      | (simp only [strs_len]; omega)
      | (simp only [show (i + 1).toNat = i.toNat + 1 by omega, List.length_append, List.length_cons, List.length_nil]; omega)
      | skip
    · simp only [st31l, strs_app, strs_len, List.length_append, List.length_cons, List.length_nil]
      rw [List.take_of_length_le (by simp [strs_len])]
      rfl
    · simp only [out31l, Out.run, show (i + 1).toNat = i.toNat + 1 by omega] at ho ⊢
      rw [hv, decide_eq_true e1] at ho
      simpa [List.append_assoc] using ho
    · simp only [st31l, strs_app, strs_len, List.length_append]
    · simp only [out31l, Out.run, show (i + 1).toNat = i.toNat + 1 by omega] at ho ⊢
      rw [hv, decide_eq_false e1] at ho
      simpa [List.append_assoc] using ho
  · simp only [out31l, Out.run] at ho
    rw [List.drop_eq_nil_of_le (by omega)] at ho
    simpa [tmsOf, varsL] using ho
noncomputable def E31r (κ : Kp) (r : Nat) : Env := (E31p κ r).addLoop 44 3 (loopE 0 st31l (side31l r) out31l)
theorem y31 (κ : Kp) (r : Nat) (l : List AV) (K : AV → List Dn.Obj → Prop) : (funA (E31r κ r) 12 44 [.lst 43 l] [] K) = (
  loopCode (Pg.toProgram (Env.P (E31p κ r))) 44 3 = loopCode (Pg.toProgram (Env.P (E31p κ r))) 44 3 ∧ ∃ (a : List AV × Int × List ByteArray), sp 27 [(3, AV.slc 0 0
  0), (6, AV.lst 43 l), (7, AV.int (↑(List.length l) : Int)), (8, AV.int 0)] [Obj.row 9 []] = sp 27 [(3, AV.slc 0 0 (List.length (Prod.snd (Prod.snd a)))), (6,
  AV.lst 43 (Prod.fst a)), (7, AV.int (↑(List.length (Prod.fst a)) : Int)), (8, AV.int (Prod.fst (Prod.snd a)))] [Obj.row 9 (strs (Prod.snd (Prod.snd a)))] ∧
  (List.length (Prod.fst a) ≤ 9223372036854775807 ∧ (0 : Int) ≤ Prod.fst (Prod.snd a) ∧ Prod.fst (Prod.snd a) ≤ (↑(List.length (Prod.fst a)) : Int) ∧ cntL (tmsOf
  (List.drop (Int.toNat (Prod.fst (Prod.snd a))) (Prod.fst a))) ≤ r ∧ List.length (Prod.snd (Prod.snd a)) + cntL (tmsOf (List.drop (Int.toNat (Prod.fst (Prod.snd
  a))) (Prod.fst a))) ≤ 100000) ∧ K (AV.slc 0 0 (List.length (Prod.snd (Prod.snd a) ++ varsL (tmsOf (List.drop (Int.toNat (Prod.fst (Prod.snd a))) (Prod.fst
  a)))))) [Obj.row 9 (strs (Prod.snd (Prod.snd a) ++ varsL (tmsOf (List.drop (Int.toNat (Prod.fst (Prod.snd a))) (Prod.fst a)))))]) := by kernel_rfl
theorem sp31_mono (n : Nat) : (sp31 n).Mono := callE_mono
theorem e31r (κ : Kp) (r : Nat) (hp : ∀ args st K, (∃ m, m < r ∧ sp31 m args st K) → SimCall (Pr κ) 44 args st K) : EnvOK (E31r κ r) ∧ EnvMono (E31r κ r) ∧ (E31r κ r).P = Pr κ :=
  have h : EnvOK (E31p κ r) := (e16 κ).addSim hp
  have hm : EnvMono (E31p κ r) := (m16 κ).addCall (fun _ _ _ _ hK ⟨m, h1, h2⟩ => ⟨m, h1, sp31_mono m _ _ _ _ hK h2⟩)
  ⟨h.addLoop hm (l31 κ r), hm.addLoop loopE_mono, rfl⟩
theorem c31 (κ : Kp) (r : Nat) : CallOk (E31r κ r) 12 44 (sp31 r) := by
  refine callE_ok ?_
  rintro l K ⟨h1, h2⟩ ho
  refine Eq.mpr (y31 κ r l K) ?_
  have := len_cntL (tmsOf l)
  rw [tms_len] at this
  refine ⟨rfl, (l, 0, []), rfl, ⟨by simp only; omega, by simp only; omega, by simp only; omega, ?_, ?_⟩, ?_⟩
  · simp only [Int.toNat_zero, List.drop_zero]; omega
  · simp only [Int.toNat_zero, List.drop_zero, List.length_nil]; omega
  · simp only [Int.toNat_zero, List.drop_zero, List.nil_append]
    exact ho
def side31a (l : List AV) : Prop := cntL (tmsOf l) ≤ 100000
theorem q31 (κ : Kp) : ∀ args st K, callE st31 side31a out31 args st K → SimCall (Pr κ) 44 args st K := by
  rintro args st K ⟨l, h1, h2, h3⟩
  exact EnvOK.addRecL sp31 (E31r κ) (e31r κ) (c31 κ) (cntL (tmsOf l)) args st K ⟨l, h1, ⟨rfl, h2⟩, h3⟩
noncomputable def E31 (κ : Kp) : Env := (E16 κ).addCall 44 (callE st31 side31a out31)
theorem e31 (κ : Kp) : EnvOK (E31 κ) := (e16 κ).addSim (q31 κ)
theorem m31 (κ : Kp) : EnvMono (E31 κ) := (m16 κ).addCall callE_mono
end Go.Proofs.YtpgahkbkfflkaaaGreatDoor
namespace Go.Proofs.YtpgahkbkfflkaaaGreatDoor
open Go Go.Dn Go.Rl Go.Proofs
attribute [local irreducible] funA vc
set_option maxRecDepth 20000
theorem x23 (κ : Kp) (l : List AV) (i : Int) (es : List (Value × AV)) (I : Nat → S → Prop) (n : Nat) (K : Exit → S → Prop) : (vc (E31 κ) 12 31 none 1 (loopCode (Pr κ).toProgram 31 1) (sp 15 [(0, .mp 0), (6, .lst 9 l), (7, .int l.length), (8, .int i)] [.map 9 4 es]) (loopK (E31 κ) 31 1 1 I n K)) = (
  brn (decide (i < (↑(List.length l) : Int))) (cnd (decide ((0 : Int) ≤ i) && decide (i < (↑(List.length l) : Int))) (∃ (m : Nat), m < n ∧ I m (sp 15 [(0, AV.mp
  0), (6, AV.lst 9 l), (7, AV.int (↑(List.length l) : Int)), (8, AV.int (IntKind.wrap IntKind.i64 (i + (1 : Int))))] [Dn.Obj.map 9 4 (updK es (Value.string
  (toStr (nth l (Int.toNat i)))) (AV.bool true))]))) (K (Exit.exit 0) (sp 15 [] [Dn.Obj.map 9 4 es]))) := by kernel_rfl
abbrev st23l (a : List AV × Int × List (Value × AV)) : S := sp 15 [(0, .mp 0), (6, .lst 9 a.1), (7, .int a.1.length), (8, .int a.2.1)] [.map 9 4 a.2.2]
def side23l (a : List AV × Int × List (Value × AV)) : Prop := a.1.length ≤ maxI ∧ 0 ≤ a.2.1 ∧ a.2.1 ≤ a.1.length
def out23l (a : List AV × Int × List (Value × AV)) : Out (Exit × S) := .one (.exit 0, sp 15 [] [.map 9 4 (putL a.2.2 (a.1.drop a.2.1.toNat))])
theorem l23 (κ : Kp) : LoopOk (E31 κ) 12 31 1 (loopE 1 st23l side23l out23l) := by
  refine loopE_ok (fun a => a.1.length - a.2.1.toNat) ?_
  rintro ⟨l, i, es⟩ K ⟨h1, h2, h3⟩ ho
  simp only at h1 h2 h3
  rw [show (E31 κ).P = Pr κ from rfl]
  refine Eq.mpr (x23 κ l i es _ _ K) ?_
  simp only [maxI] at h1
  simp only [brn_iff, cnd_iff, decide_eq_true_eq, decide_eq_false_iff_not, Bool.and_eq_true]
  refine ⟨fun hi => ⟨⟨h2, hi⟩, ?_⟩, fun hi => ?_⟩
  · rw [wrap_ok (n := i + 1) (by omega) (by omega)]
    refine ⟨_, ?_, (l, i + 1, updK es (.string (toStr (nth l i.toNat))) (.lit (.bool true))), rfl, ⟨by simpa [maxI] using h1, by simp only; omega, by simp only; omega⟩, rfl, ?_⟩
    · simp only; omega
    · simp only [out23l, Out.run] at ho ⊢
      rw [List.drop_eq_getElem_cons (show i.toNat < l.length by omega), putL, ← nth_get l i.toNat (by omega)] at ho
      rw [show (i + 1).toNat = i.toNat + 1 by omega]
      exact ho
  · simp only [out23l, Out.run] at ho
    rw [List.drop_eq_nil_of_le (by omega)] at ho
    exact ho
noncomputable def E23l (κ : Kp) : Env := (E31 κ).addLoop 31 1 (loopE 1 st23l side23l out23l)
theorem e23l (κ : Kp) : EnvOK (E23l κ) := (e31 κ).addLoop (m31 κ) (l23 κ)
theorem m23l (κ : Kp) : EnvMono (E23l κ) := (m31 κ).addLoop loopE_mono
theorem y23 (κ : Kp) (l : List AV) (es : List (Value × AV)) (K : AV → List Dn.Obj → Prop) : (funA (E23l κ) 12 31 [.mp 0, .lst 9 l] [.map 9 4 es] K) = (
  loopCode (Pg.toProgram (Env.P (E31 κ))) 31 1 = loopCode (Pg.toProgram (Env.P (E31 κ))) 31 1 ∧ ∃ (a : List AV × Int × List (Value × AV)), sp 15 [(0, AV.mp 0), (6,
  AV.lst 9 l), (7, AV.int (↑(List.length l) : Int)), (8, AV.int 0)] [Dn.Obj.map 9 4 es] = sp 15 [(0, AV.mp 0), (6, AV.lst 9 (Prod.fst a)), (7, AV.int
  (↑(List.length (Prod.fst a)) : Int)), (8, AV.int (Prod.fst (Prod.snd a)))] [Dn.Obj.map 9 4 (Prod.snd (Prod.snd a))] ∧ (List.length (Prod.fst a) ≤
  9223372036854775807 ∧ (0 : Int) ≤ Prod.fst (Prod.snd a) ∧ Prod.fst (Prod.snd a) ≤ (↑(List.length (Prod.fst a)) : Int)) ∧ K (AV.tup []) [Dn.Obj.map 9 4 (putL
  (Prod.snd (Prod.snd a)) (List.drop (Int.toNat (Prod.fst (Prod.snd a))) (Prod.fst a)))]) := by kernel_rfl
def st23 (a : List AV × List (Value × AV)) : List AV × List Dn.Obj := ([.mp 0, .lst 9 a.1], [.map 9 4 a.2])
def side23 (a : List AV × List (Value × AV)) : Prop := a.1.length ≤ maxI
def out23 (a : List AV × List (Value × AV)) : Out (AV × List Dn.Obj) := .one (.tup [], [.map 9 4 (putL a.2 a.1)])
theorem c23 (κ : Kp) : CallOk (E23l κ) 12 31 (callE st23 side23 out23) := by
  refine callE_ok ?_
  rintro ⟨l, es⟩ K h1 ho
  refine Eq.mpr (y23 κ l es K) ?_
  exact ⟨rfl, (l, 0, es), rfl, ⟨h1, by simp only; omega, by simp only; omega⟩, ho⟩
noncomputable def E23 (κ : Kp) : Env := (E23l κ).addCall 31 (callE st23 side23 out23)
theorem e23 (κ : Kp) : EnvOK (E23 κ) := (e23l κ).addCall (m23l κ) (c23 κ)
theorem m23 (κ : Kp) : EnvMono (E23 κ) := (m23l κ).addCall callE_mono
end Go.Proofs.YtpgahkbkfflkaaaGreatDoor
namespace Go.Proofs.YtpgahkbkfflkaaaGreatDoor
open Go Go.Dn Go.Rl Go.Proofs
attribute [local irreducible] funA vc
set_option maxRecDepth 20000
theorem x41 (κ : Kp) (l : List AV) (i : Int) (es : List (Value × AV)) (I : Nat → S → Prop) (n : Nat) (K : Exit → S → Prop) : (vc (E23 κ) 12 59 none 2 (loopCode (Pr κ).toProgram 59 2) (sp 19 [(0, .lst 9 l), (1, .clo 73 [.ptr 1 0 [] 0]), (7, .int l.length), (8, .int i)] [.map 9 4 es, .box 65 (.mp 0)]) (loopK (E23 κ) 59 2 2 I n K)) = (
  brn (decide (i < (↑(List.length l) : Int))) (cnd (decide ((0 : Int) ≤ i) && decide (i < (↑(List.length l) : Int))) (brn (!Dn.toBool (getK es (Value.string (toStr
  (nth l (Int.toNat i)))) (AV.bool false))) (K Exit.ret (sp 19 [(4, AV.int i)] [Dn.Obj.map 9 4 es, Obj.box 65 (AV.mp 0)])) (∃ (m : Nat), m < n ∧ I m (sp 19 [(0,
  AV.lst 9 l), (1, AV.clo 73 [AV.ptr 1 0 [] 0]), (7, AV.int (↑(List.length l) : Int)), (8, AV.int (IntKind.wrap IntKind.i64 (i + (1 : Int))))] [Dn.Obj.map 9 4
  es, Obj.box 65 (AV.mp 0)])))) (K (Exit.exit 0) (sp 19 [] [Dn.Obj.map 9 4 es, Obj.box 65 (AV.mp 0)]))) := by kernel_rfl
abbrev str41 (es : List (Value × AV)) : List Dn.Obj := [.map 9 4 es, .box 65 (.mp 0)]
abbrev st41l (a : List AV × Int × List (Value × AV)) : S := sp 19 [(0, .lst 9 a.1), (1, .clo 73 [.ptr 1 0 [] 0]), (7, .int a.1.length), (8, .int a.2.1)] (str41 a.2.2)
def out41l (a : List AV × Int × List (Value × AV)) : Out (Exit × S) :=
  .brn (hasL a.2.2 (a.1.drop a.2.1.toNat)) (.one (.exit 0, sp 19 [] (str41 a.2.2))) (.all (fun j : Int => 0 ≤ j) fun j => .one (.ret, sp 19 [(4, .int j)] (str41 a.2.2)))
theorem l41 (κ : Kp) : LoopOk (E23 κ) 12 59 2 (loopE 2 st41l side23l out41l) := by
  refine loopE_ok (fun a => a.1.length - a.2.1.toNat) ?_
  rintro ⟨l, i, es⟩ K ⟨h1, h2, h3⟩ ho
  simp only at h1 h2 h3
  rw [show (E23 κ).P = Pr κ from rfl]
  refine Eq.mpr (x41 κ l i es _ _ K) ?_
  simp only [maxI] at h1
  simp only [out41l, Out.run, brn_iff] at ho
  simp only [brn_iff, cnd_iff, decide_eq_true_eq, decide_eq_false_iff_not, Bool.and_eq_true, Bool.not_eq_true', Bool.not_eq_false']
  refine ⟨fun hi => ⟨⟨h2, hi⟩, ?_⟩, fun hi => ?_⟩
  · rw [List.drop_eq_getElem_cons (show i.toNat < l.length by omega), ← nth_get l i.toNat (by omega)] at ho
    simp only [hasL, List.all_cons] at ho
    refine ⟨fun e => ?_, fun e => ?_⟩
    · have e' : inS es (toStr (nth l i.toNat)) = false := e
      exact ho.2 (by rw [e']; rfl) i h2
    · have e' : inS es (toStr (nth l i.toNat)) = true := e
      rw [e', Bool.true_and] at ho
      rw [wrap_ok (n := i + 1) (by omega) (by omega)]
      refine ⟨_, ?_, (l, i + 1, es), rfl, ⟨by simpa [maxI] using h1, by simp only; omega, by simp only; omega⟩, rfl, ?_⟩
      · simp only; omega
      · simp only [out41l, Out.run, brn_iff, show (i + 1).toNat = i.toNat + 1 by omega]
        exact ho
  · rw [List.drop_eq_nil_of_le (by omega)] at ho
    exact ho.1 rfl
noncomputable def E41l (κ : Kp) : Env := (E23 κ).addLoop 59 2 (loopE 2 st41l side23l out41l)
theorem e41l (κ : Kp) : EnvOK (E41l κ) := (e23 κ).addLoop (m23 κ) (l41 κ)
theorem m41l (κ : Kp) : EnvMono (E41l κ) := (m23 κ).addLoop loopE_mono
theorem y30 (κ : Kp) (l : List AV) (es : List (Value × AV)) (K : AV → List Dn.Obj → Prop) : (funA (E41l κ) 12 43 [.mp 0, .lst 9 l] [.map 9 4 es] K) = (
  loopCode (Pg.toProgram (Env.P (E23 κ))) 59 2 = loopCode (Pg.toProgram (Env.P (E23 κ))) 59 2 ∧ ∃ (a : List AV × Int × List (Value × AV)), sp 19 [(0, AV.lst 9 l),
  (1, AV.clo 73 [AV.ptr 1 0 [] 0]), (7, AV.int (↑(List.length l) : Int)), (8, AV.int 0)] [Dn.Obj.map 9 4 es, Obj.box 65 (AV.mp 0)] = sp 19 [(0, AV.lst 9
  (Prod.fst a)), (1, AV.clo 73 [AV.ptr 1 0 [] 0]), (7, AV.int (↑(List.length (Prod.fst a)) : Int)), (8, AV.int (Prod.fst (Prod.snd a)))] [Dn.Obj.map 9 4
  (Prod.snd (Prod.snd a)), Obj.box 65 (AV.mp 0)] ∧ (List.length (Prod.fst a) ≤ 9223372036854775807 ∧ (0 : Int) ≤ Prod.fst (Prod.snd a) ∧ Prod.fst (Prod.snd a) ≤
  (↑(List.length (Prod.fst a)) : Int)) ∧ brn (hasL (Prod.snd (Prod.snd a)) (List.drop (Int.toNat (Prod.fst (Prod.snd a))) (Prod.fst a))) (K (AV.bool true)
  [Dn.Obj.map 9 4 (Prod.snd (Prod.snd a))]) (∀ (y : Int), (0 : Int) ≤ y → K (AV.lit (Value.bool !decide (y ≥ (0 : Int)))) [Dn.Obj.map 9 4 (Prod.snd (Prod.snd
  a))])) := by kernel_rfl
def out30 (a : List AV × List (Value × AV)) : Out (AV × List Dn.Obj) := .one (.bool (hasL a.2 a.1), [.map 9 4 a.2])
theorem c30 (κ : Kp) : CallOk (E41l κ) 12 43 (callE st23 side23 out30) := by
  refine callE_ok ?_
  rintro ⟨l, es⟩ K h1 ho
  refine Eq.mpr (y30 κ l es K) ?_
  refine ⟨rfl, (l, 0, es), rfl, ⟨h1, by simp only; omega, by simp only; omega⟩, ?_⟩
  simp only [out30, Out.run] at ho
  simp only [Int.toNat_zero, List.drop_zero]
  rw [brn_iff]
  refine ⟨fun e => by rw [e] at ho; exact ho, fun e j hj => ?_⟩
  rw [e] at ho
  rw [decide_eq_true (show j ≥ 0 from hj)]
  exact ho
noncomputable def E30 (κ : Kp) : Env := (E41l κ).addCall 43 (callE st23 side23 out30)
theorem e30 (κ : Kp) : EnvOK (E30 κ) := (e41l κ).addCall (m41l κ) (c30 κ)
theorem m30 (κ : Kp) : EnvMono (E30 κ) := (m41l κ).addCall callE_mono
end Go.Proofs.YtpgahkbkfflkaaaGreatDoor
namespace Go.Proofs.YtpgahkbkfflkaaaGreatDoor
open Go Go.Dn Go.Rl Go.Proofs
attribute [local irreducible] funA vc
set_option maxRecDepth 20000
theorem x62 (κ : Kp) (l : List AV) (i : Int) (vs : List ByteArray) (I : Nat → S → Prop) (n : Nat) (K : Exit → S → Prop) : (vc (E30 κ) 12 92 none 0 (loopCode (Pr κ).toProgram 92 3) (sp 23 [(3, .slc 0 0 vs.length), (7, .lst 43 l), (8, .int l.length), (9, .int i)] [.row 9 (strs vs)]) (loopK (E30 κ) 92 3 0 I n K)) = (
  brn (decide (i < (↑(List.length l) : Int))) (cnd (decide ((0 : Int) ≤ i) && decide (i < (↑(List.length l) : Int))) (brn (decide (toInt (fld (nth l (Int.toNat i))
  0) ≥ (5 : Int))) (∃ (a : List AV), ([AV.lst 43 [AV.agg [AV.int (toInt (fld (nth l (Int.toNat i)) 0)), AV.str (toStr (fld (nth l (Int.toNat i)) 1)), AV.int
  (toInt (fld (nth l (Int.toNat i)) 2)), AV.lst 43 (toLst (fld (nth l (Int.toNat i)) 3))]]], nilO) = ([AV.lst 43 a], nilO) ∧ side31a a ∧ cnd (decide
  ((List.length vs + List.length (List.take (List.length (varsL (tmsOf a))) (List.drop 0 (strs (varsL (tmsOf a))))) + 1) * 17 ≤ 70368744177664)) (∃ (m : Nat), m
  < n ∧ I m (sp 23 [(3, AV.slc 0 0 (List.length vs + List.length (List.take (List.length (varsL (tmsOf a))) (List.drop 0 (strs (varsL (tmsOf a))))))), (7, AV.lst
  43 l), (8, AV.int (↑(List.length l) : Int)), (9, AV.int (IntKind.wrap IntKind.i64 (i + (1 : Int))))] [Obj.row 9 (List.take (List.length vs) (strs vs) ++
  List.take (List.length (varsL (tmsOf a))) (List.drop 0 (strs (varsL (tmsOf a)))))]))) (∃ (m : Nat), m < n ∧ I m (sp 23 [(3, AV.slc 0 0 (List.length vs)), (7,
  AV.lst 43 l), (8, AV.int (↑(List.length l) : Int)), (9, AV.int (IntKind.wrap IntKind.i64 (i + (1 : Int))))] [Obj.row 9 (strs vs)])))) (K (Exit.exit 0) (sp 23
  [(3, AV.slc 0 0 (List.length vs))] [Obj.row 9 (strs vs)]))) := by kernel_rfl
abbrev st62l (a : List AV × Int × List ByteArray) : S := sp 23 [(3, .slc 0 0 a.2.2.length), (7, .lst 43 a.1), (8, .int a.1.length), (9, .int a.2.1)] [.row 9 (strs a.2.2)]
def side62l (a : List AV × Int × List ByteArray) : Prop := a.1.length ≤ maxI ∧ 0 ≤ a.2.1 ∧ a.2.1 ≤ a.1.length ∧ a.2.2.length + cntL (tmsOf (a.1.drop a.2.1.toNat)) ≤ 100000
def out62l (a : List AV × Int × List ByteArray) : Out (Exit × S) := .one (.exit 0, sp 23 [(3, .slc 0 0 (a.2.2 ++ reckL (tmsOf (a.1.drop a.2.1.toNat))).length)] [.row 9 (strs (a.2.2 ++ reckL (tmsOf (a.1.drop a.2.1.toNat))))])
theorem l62 (κ : Kp) : LoopOk (E30 κ) 12 92 3 (loopE 0 st62l side62l out62l) := by
  refine loopE_ok (fun a => a.1.length - a.2.1.toNat) ?_
  rintro ⟨l, i, vs⟩ K ⟨h1, h2, h3, h5⟩ ho
  simp only at h1 h2 h3 h5
  rw [show (E30 κ).P = Pr κ from rfl]
  refine Eq.mpr (x62 κ l i vs _ _ K) ?_
  simp only [List.drop_zero, take_strs]
  simp only [maxI] at h1
  simp only [brn_iff, cnd_iff, decide_eq_true_eq, decide_eq_false_iff_not, Bool.and_eq_true]
  refine ⟨fun hi => ⟨⟨h2, hi⟩, ?_⟩, fun hi => ?_⟩
  · have hv := reck_nth l i.toNat (by omega)
    have hc : cntL (tmsOf (l.drop i.toNat)) = cntL [tmOf (nth l i.toNat)] + cntL (tmsOf (l.drop (i.toNat + 1))) := by
      rw [tms_drop l i.toNat (by omega)]; simp only [cntL, Nat.add_zero]
    have hle := varsL_le [tmOf (nth l i.toNat)]
    have ht : tmsOf [.agg [.int (toInt (fld (nth l i.toNat) 0)), .lit (.string (toStr (fld (nth l i.toNat) 1))), .int (toInt (fld (nth l i.toNat) 2)), .lst 43 (toLst (fld (nth l i.toNat) 3))]] = [tmOf (nth l i.toNat)] := by
      simp only [tmsOf, List.map_cons, List.map_nil]
      rw [tmOf_agg, ← tmOf_eq]
    rw [wrap_ok (n := i + 1) (by omega) (by omega)]
    refine ⟨fun e1 => ⟨_, rfl, ?_, ?_, _, ?_, (l, i + 1, vs ++ varsL [tmOf (nth l i.toNat)]), ?_, ⟨by simpa [maxI] using h1, by simp only; omega, by simp only; omega, ?_⟩, rfl, ?_⟩, fun e1 => ⟨_, ?_, (l, i + 1, vs), rfl, ⟨by simpa [maxI] using h1, by simp only; omega, by simp only; omega, ?_⟩, rfl, ?_⟩⟩
    · simp only [side31a, ht]; omega
    · rw [ht, strs_len]; omega
    · simp only; omega
    · rw [ht]; simp only [st62l, strs_app, strs_len, List.length_append]
    · simp only [show (i + 1).toNat = i.toNat + 1 by omega, List.length_append]; omega
    · simp only [out62l, Out.run, show (i + 1).toNat = i.toNat + 1 by omega] at ho ⊢
      rw [hv, decide_eq_true (show 5 ≤ toInt (fld (nth l i.toNat) 0) from e1)] at ho
      simpa [List.append_assoc] using ho
    · simp only; omega
    · simp only [show (i + 1).toNat = i.toNat + 1 by omega]; omega
    · simp only [out62l, Out.run, show (i + 1).toNat = i.toNat + 1 by omega] at ho ⊢
      rw [hv, decide_eq_false (show ¬ 5 ≤ toInt (fld (nth l i.toNat) 0) from e1)] at ho
      simpa [List.append_assoc] using ho
  · simp only [out62l, Out.run] at ho
    rw [List.drop_eq_nil_of_le (by omega)] at ho
    simpa [tmsOf, reckL] using ho
noncomputable def E62l (κ : Kp) : Env := (E30 κ).addLoop 92 3 (loopE 0 st62l side62l out62l)
theorem e62l (κ : Kp) : EnvOK (E62l κ) := (e30 κ).addLoop (m30 κ) (l62 κ)
theorem m62l (κ : Kp) : EnvMono (E62l κ) := (m30 κ).addLoop loopE_mono
theorem y62 (κ : Kp) (s : ByteArray) (l : List AV) (K : AV → List Dn.Obj → Prop) : (funA (E62l κ) 12 92 [.agg [.lit (.string s), .lst 43 l]] [] K) = (
  loopCode (Pg.toProgram (Env.P (E30 κ))) 92 3 = loopCode (Pg.toProgram (Env.P (E30 κ))) 92 3 ∧ ∃ (a : List AV × Int × List ByteArray), sp 23 [(3, AV.slc 0 0 0),
  (7, AV.lst 43 l), (8, AV.int (↑(List.length l) : Int)), (9, AV.int 0)] [Obj.row 9 []] = sp 23 [(3, AV.slc 0 0 (List.length (Prod.snd (Prod.snd a)))), (7,
  AV.lst 43 (Prod.fst a)), (8, AV.int (↑(List.length (Prod.fst a)) : Int)), (9, AV.int (Prod.fst (Prod.snd a)))] [Obj.row 9 (strs (Prod.snd (Prod.snd a)))] ∧
  (List.length (Prod.fst a) ≤ 9223372036854775807 ∧ (0 : Int) ≤ Prod.fst (Prod.snd a) ∧ Prod.fst (Prod.snd a) ≤ (↑(List.length (Prod.fst a)) : Int) ∧ List.length
  (Prod.snd (Prod.snd a)) + cntL (tmsOf (List.drop (Int.toNat (Prod.fst (Prod.snd a))) (Prod.fst a))) ≤ 100000) ∧ K (AV.slc 0 0 (List.length (Prod.snd (Prod.snd
  a) ++ reckL (tmsOf (List.drop (Int.toNat (Prod.fst (Prod.snd a))) (Prod.fst a)))))) [Obj.row 9 (strs (Prod.snd (Prod.snd a) ++ reckL (tmsOf (List.drop
  (Int.toNat (Prod.fst (Prod.snd a))) (Prod.fst a)))))]) := by kernel_rfl
def st62 (a : ByteArray × List AV) : List AV × List Dn.Obj := ([.agg [.lit (.string a.1), .lst 43 a.2]], [])
def side62 (a : ByteArray × List AV) : Prop := cntL (tmsOf a.2) ≤ 100000
def out62 (a : ByteArray × List AV) : Out (AV × List Dn.Obj) := .one (.slc 0 0 (reckL (tmsOf a.2)).length, [.row 9 (strs (reckL (tmsOf a.2)))])
theorem c62 (κ : Kp) : CallOk (E62l κ) 12 92 (callE st62 side62 out62) := by
  refine callE_ok ?_
  rintro ⟨s, l⟩ K h1 ho
  simp only [side62] at h1
  refine Eq.mpr (y62 κ s l K) ?_
  have := len_cntL (tmsOf l)
  rw [tms_len] at this
  refine ⟨rfl, (l, 0, []), rfl, ⟨by simp only; omega, by simp only; omega, by simp only; omega, ?_⟩, ?_⟩
  · simp only [Int.toNat_zero, List.drop_zero, List.length_nil]; omega
  · simp only [Int.toNat_zero, List.drop_zero, List.nil_append]
    exact ho
noncomputable def E62 (κ : Kp) : Env := (E62l κ).addCall 92 (callE st62 side62 out62)
theorem e62 (κ : Kp) : EnvOK (E62 κ) := (e62l κ).addCall (m62l κ) (c62 κ)
theorem m62 (κ : Kp) : EnvMono (E62 κ) := (m62l κ).addCall callE_mono
end Go.Proofs.YtpgahkbkfflkaaaGreatDoor
namespace Go.Proofs.YtpgahkbkfflkaaaGreatDoor
open Go Go.Dn Go.Rl Go.Proofs
attribute [local irreducible] funA vc
set_option maxRecDepth 20000
structure LA where
  op : Int
  s : ByteArray
  l : List AV
  o1 : Int
  s1 : ByteArray
  n1 : Int
  l1 : List AV
  o2 : Int
  s2 : ByteArray
  n2 : Int
  l2 : List AV
abbrev LA.av (a : LA) : AV := .agg [.int a.op, .agg [.lit (.string a.s), .lst 43 a.l], .agg [.int a.o1, .lit (.string a.s1), .int a.n1, .lst 43 a.l1], .agg [.int a.o2, .lit (.string a.s2), .int a.n2, .lst 43 a.l2]]
theorem y21 (κ : Kp) (a : LA) (K : AV → List Dn.Obj → Prop) : (funA (E62 κ) 12 29 [a.av] [] K) = (
  K (AV.bool (decide (LA.op a ≥ (7 : Int)))) []) := by kernel_rfl
def g21 : List AV → Option (Bool × AV)
  | [.agg [.lit (.int .i64 op), .agg [.lit (.string _), .lst 43 _], .agg [.lit (.int .i64 _), .lit (.string _), .lit (.int .i64 _), .lst 43 _], .agg [.lit (.int .i64 _), .lit (.string _), .lit (.int .i64 _), .lst 43 _]]] => some (true, .bool (decide (7 ≤ op)))
  | _ => none
theorem p21 (κ : Kp) : PureOk (E62 κ) 12 29 g21 := by
  intro args x hh
  unfold g21 at hh
  split at hh
  · rename_i op s l o1 s1 n1 l1 o2 s2 n2 l2
    simp only [Option.some.injEq, Prod.mk.injEq, true_and] at hh
    subst hh
    exact ⟨_, rfl, rfl, Eq.mpr (y21 κ ⟨op, s, l, o1, s1, n1, l1, o2, s2, n2, l2⟩ _) rfl⟩
  · cases hh
noncomputable def E21 (κ : Kp) : Env := (E62 κ).addPure 29 g21
theorem e21 (κ : Kp) : EnvOK (E21 κ) := (e62 κ).addPure (m62 κ) (p21 κ)
theorem m21 (κ : Kp) : EnvMono (E21 κ) := (m62 κ).addPure
end Go.Proofs.YtpgahkbkfflkaaaGreatDoor
namespace Go.Proofs.YtpgahkbkfflkaaaGreatDoor
open Go Go.Dn Go.Rl Go.Proofs
attribute [local irreducible] funA vc
set_option maxRecDepth 20000
theorem y40 (κ : Kp) (a : LA) (K : AV → List Dn.Obj → Prop) : (funA (E21 κ) 12 58 [a.av] [] K) = (
  ((∃ (a_1 : List AV), ([AV.lst 43 [AV.agg [AV.int (LA.o1 a), AV.str (LA.s1 a), AV.int (LA.n1 a), AV.lst 43 (LA.l1 a)], AV.agg [AV.int (LA.o2 a), AV.str (LA.s2 a),
  AV.int (LA.n2 a), AV.lst 43 (LA.l2 a)]]], nilO) = ([AV.lst 43 a_1], nilO) ∧ side31a a_1 ∧ ∃ (a_2 : List AV), ([AV.lst 43 (LA.l a)], nilO) = ([AV.lst 43 a_2],
  nilO) ∧ side31a a_2 ∧ cnd (decide ((List.length (varsL (tmsOf a_1)) + List.length (List.take (List.length (varsL (tmsOf a_2))) (List.drop 0 (strs (varsL (tmsOf
  a_2))))) + 1) * 17 ≤ 70368744177664)) (K (AV.slc 0 0 (List.length (varsL (tmsOf a_1)) + List.length (List.take (List.length (varsL (tmsOf a_2))) (List.drop 0
  (strs (varsL (tmsOf a_2))))))) [Obj.row 9 (List.take (List.length (varsL (tmsOf a_1))) (strs (varsL (tmsOf a_1))) ++ List.take (List.length (varsL (tmsOf
  a_2))) (List.drop 0 (strs (varsL (tmsOf a_2)))))])) ∧ (∃ (a_1 : List AV), ([AV.lst 43 [AV.agg [AV.int (LA.o1 a), AV.str (LA.s1 a), AV.int (LA.n1 a), AV.lst 43
  (LA.l1 a)], AV.agg [AV.int (LA.o2 a), AV.str (LA.s2 a), AV.int (LA.n2 a), AV.lst 43 (LA.l2 a)]]], nilO) = ([AV.lst 43 a_1], nilO) ∧ side31a a_1 ∧ ∃ (a_2 : List
  AV), ([AV.lst 43 (LA.l a)], nilO) = ([AV.lst 43 a_2], nilO) ∧ side31a a_2 ∧ cnd (decide ((List.length (varsL (tmsOf a_1)) + List.length (List.take (List.length
  (varsL (tmsOf a_2))) (List.drop 0 (strs (varsL (tmsOf a_2))))) + 1) * 17 ≤ 70368744177664)) (K (AV.slc 0 0 (List.length (varsL (tmsOf a_1)) + List.length
  (List.take (List.length (varsL (tmsOf a_2))) (List.drop 0 (strs (varsL (tmsOf a_2))))))) [Obj.row 9 (List.take (List.length (varsL (tmsOf a_1))) (strs (varsL
  (tmsOf a_1))) ++ List.take (List.length (varsL (tmsOf a_2))) (List.drop 0 (strs (varsL (tmsOf a_2)))))])) ∧ (∃ (a_1 : List AV), ([AV.lst 43 [AV.agg [AV.int
  (LA.o1 a), AV.str (LA.s1 a), AV.int (LA.n1 a), AV.lst 43 (LA.l1 a)], AV.agg [AV.int (LA.o2 a), AV.str (LA.s2 a), AV.int (LA.n2 a), AV.lst 43 (LA.l2 a)]]],
  nilO) = ([AV.lst 43 a_1], nilO) ∧ side31a a_1 ∧ ∃ (a_2 : List AV), ([AV.lst 43 (LA.l a)], nilO) = ([AV.lst 43 a_2], nilO) ∧ side31a a_2 ∧ cnd (decide
  ((List.length (varsL (tmsOf a_1)) + List.length (List.take (List.length (varsL (tmsOf a_2))) (List.drop 0 (strs (varsL (tmsOf a_2))))) + 1) * 17 ≤
  70368744177664)) (K (AV.slc 0 0 (List.length (varsL (tmsOf a_1)) + List.length (List.take (List.length (varsL (tmsOf a_2))) (List.drop 0 (strs (varsL (tmsOf
  a_2))))))) [Obj.row 9 (List.take (List.length (varsL (tmsOf a_1))) (strs (varsL (tmsOf a_1))) ++ List.take (List.length (varsL (tmsOf a_2))) (List.drop 0 (strs
  (varsL (tmsOf a_2)))))])) ∧ ∃ (a_1 : List AV), ([AV.lst 43 [AV.agg [AV.int (LA.o1 a), AV.str (LA.s1 a), AV.int (LA.n1 a), AV.lst 43 (LA.l1 a)], AV.agg [AV.int
  (LA.o2 a), AV.str (LA.s2 a), AV.int (LA.n2 a), AV.lst 43 (LA.l2 a)]]], nilO) = ([AV.lst 43 a_1], nilO) ∧ side31a a_1 ∧ ∃ (a_2 : List AV), ([AV.lst 43 (LA.l
  a)], nilO) = ([AV.lst 43 a_2], nilO) ∧ side31a a_2 ∧ cnd (decide ((List.length (varsL (tmsOf a_1)) + List.length (List.take (List.length (varsL (tmsOf a_2)))
  (List.drop 0 (strs (varsL (tmsOf a_2))))) + 1) * 17 ≤ 70368744177664)) (K (AV.slc 0 0 (List.length (varsL (tmsOf a_1)) + List.length (List.take (List.length
  (varsL (tmsOf a_2))) (List.drop 0 (strs (varsL (tmsOf a_2))))))) [Obj.row 9 (List.take (List.length (varsL (tmsOf a_1))) (strs (varsL (tmsOf a_1))) ++
  List.take (List.length (varsL (tmsOf a_2))) (List.drop 0 (strs (varsL (tmsOf a_2)))))])) ∧ ((∃ (a_1 : List AV), ([AV.lst 43 [AV.agg [AV.int (LA.o1 a), AV.str
  (LA.s1 a), AV.int (LA.n1 a), AV.lst 43 (LA.l1 a)], AV.agg [AV.int (LA.o2 a), AV.str (LA.s2 a), AV.int (LA.n2 a), AV.lst 43 (LA.l2 a)]]], nilO) = ([AV.lst 43
  a_1], nilO) ∧ side31a a_1 ∧ ∃ (a_2 : List AV), ([AV.lst 43 (LA.l a)], nilO) = ([AV.lst 43 a_2], nilO) ∧ side31a a_2 ∧ cnd (decide ((List.length (varsL (tmsOf
  a_1)) + List.length (List.take (List.length (varsL (tmsOf a_2))) (List.drop 0 (strs (varsL (tmsOf a_2))))) + 1) * 17 ≤ 70368744177664)) (K (AV.slc 0 0
  (List.length (varsL (tmsOf a_1)) + List.length (List.take (List.length (varsL (tmsOf a_2))) (List.drop 0 (strs (varsL (tmsOf a_2))))))) [Obj.row 9 (List.take
  (List.length (varsL (tmsOf a_1))) (strs (varsL (tmsOf a_1))) ++ List.take (List.length (varsL (tmsOf a_2))) (List.drop 0 (strs (varsL (tmsOf a_2)))))])) ∧ (∃
  (a_1 : List AV), ([AV.lst 43 [AV.agg [AV.int (LA.o1 a), AV.str (LA.s1 a), AV.int (LA.n1 a), AV.lst 43 (LA.l1 a)], AV.agg [AV.int (LA.o2 a), AV.str (LA.s2 a),
  AV.int (LA.n2 a), AV.lst 43 (LA.l2 a)]]], nilO) = ([AV.lst 43 a_1], nilO) ∧ side31a a_1 ∧ ∃ (a_2 : List AV), ([AV.lst 43 (LA.l a)], nilO) = ([AV.lst 43 a_2],
  nilO) ∧ side31a a_2 ∧ cnd (decide ((List.length (varsL (tmsOf a_1)) + List.length (List.take (List.length (varsL (tmsOf a_2))) (List.drop 0 (strs (varsL (tmsOf
  a_2))))) + 1) * 17 ≤ 70368744177664)) (K (AV.slc 0 0 (List.length (varsL (tmsOf a_1)) + List.length (List.take (List.length (varsL (tmsOf a_2))) (List.drop 0
  (strs (varsL (tmsOf a_2))))))) [Obj.row 9 (List.take (List.length (varsL (tmsOf a_1))) (strs (varsL (tmsOf a_1))) ++ List.take (List.length (varsL (tmsOf
  a_2))) (List.drop 0 (strs (varsL (tmsOf a_2)))))])) ∧ ∃ (a_1 : List AV), ([AV.lst 43 [AV.agg [AV.int (LA.o1 a), AV.str (LA.s1 a), AV.int (LA.n1 a), AV.lst 43
  (LA.l1 a)], AV.agg [AV.int (LA.o2 a), AV.str (LA.s2 a), AV.int (LA.n2 a), AV.lst 43 (LA.l2 a)]]], nilO) = ([AV.lst 43 a_1], nilO) ∧ side31a a_1 ∧ ∃ (a_2 : List
  AV), ([AV.lst 43 (LA.l a)], nilO) = ([AV.lst 43 a_2], nilO) ∧ side31a a_2 ∧ cnd (decide ((List.length (varsL (tmsOf a_1)) + List.length (List.take (List.length
  (varsL (tmsOf a_2))) (List.drop 0 (strs (varsL (tmsOf a_2))))) + 1) * 17 ≤ 70368744177664)) (K (AV.slc 0 0 (List.length (varsL (tmsOf a_1)) + List.length
  (List.take (List.length (varsL (tmsOf a_2))) (List.drop 0 (strs (varsL (tmsOf a_2))))))) [Obj.row 9 (List.take (List.length (varsL (tmsOf a_1))) (strs (varsL
  (tmsOf a_1))) ++ List.take (List.length (varsL (tmsOf a_2))) (List.drop 0 (strs (varsL (tmsOf a_2)))))])) ∧ ((∃ (a_1 : List AV), ([AV.lst 43 [AV.agg [AV.int
  (LA.o1 a), AV.str (LA.s1 a), AV.int (LA.n1 a), AV.lst 43 (LA.l1 a)], AV.agg [AV.int (LA.o2 a), AV.str (LA.s2 a), AV.int (LA.n2 a), AV.lst 43 (LA.l2 a)]]],
  nilO) = ([AV.lst 43 a_1], nilO) ∧ side31a a_1 ∧ ∃ (a_2 : List AV), ([AV.lst 43 (LA.l a)], nilO) = ([AV.lst 43 a_2], nilO) ∧ side31a a_2 ∧ cnd (decide
  ((List.length (varsL (tmsOf a_1)) + List.length (List.take (List.length (varsL (tmsOf a_2))) (List.drop 0 (strs (varsL (tmsOf a_2))))) + 1) * 17 ≤
  70368744177664)) (K (AV.slc 0 0 (List.length (varsL (tmsOf a_1)) + List.length (List.take (List.length (varsL (tmsOf a_2))) (List.drop 0 (strs (varsL (tmsOf
  a_2))))))) [Obj.row 9 (List.take (List.length (varsL (tmsOf a_1))) (strs (varsL (tmsOf a_1))) ++ List.take (List.length (varsL (tmsOf a_2))) (List.drop 0 (strs
  (varsL (tmsOf a_2)))))])) ∧ ∃ (a_1 : List AV), ([AV.lst 43 [AV.agg [AV.int (LA.o1 a), AV.str (LA.s1 a), AV.int (LA.n1 a), AV.lst 43 (LA.l1 a)], AV.agg [AV.int
  (LA.o2 a), AV.str (LA.s2 a), AV.int (LA.n2 a), AV.lst 43 (LA.l2 a)]]], nilO) = ([AV.lst 43 a_1], nilO) ∧ side31a a_1 ∧ ∃ (a_2 : List AV), ([AV.lst 43 (LA.l
  a)], nilO) = ([AV.lst 43 a_2], nilO) ∧ side31a a_2 ∧ cnd (decide ((List.length (varsL (tmsOf a_1)) + List.length (List.take (List.length (varsL (tmsOf a_2)))
  (List.drop 0 (strs (varsL (tmsOf a_2))))) + 1) * 17 ≤ 70368744177664)) (K (AV.slc 0 0 (List.length (varsL (tmsOf a_1)) + List.length (List.take (List.length
  (varsL (tmsOf a_2))) (List.drop 0 (strs (varsL (tmsOf a_2))))))) [Obj.row 9 (List.take (List.length (varsL (tmsOf a_1))) (strs (varsL (tmsOf a_1))) ++
  List.take (List.length (varsL (tmsOf a_2))) (List.drop 0 (strs (varsL (tmsOf a_2)))))])) ∧ ∃ (a_1 : List AV), ([AV.lst 43 [AV.agg [AV.int (LA.o1 a), AV.str
  (LA.s1 a), AV.int (LA.n1 a), AV.lst 43 (LA.l1 a)], AV.agg [AV.int (LA.o2 a), AV.str (LA.s2 a), AV.int (LA.n2 a), AV.lst 43 (LA.l2 a)]]], nilO) = ([AV.lst 43
  a_1], nilO) ∧ side31a a_1 ∧ ∃ (a_2 : List AV), ([AV.lst 43 (LA.l a)], nilO) = ([AV.lst 43 a_2], nilO) ∧ side31a a_2 ∧ cnd (decide ((List.length (varsL (tmsOf
  a_1)) + List.length (List.take (List.length (varsL (tmsOf a_2))) (List.drop 0 (strs (varsL (tmsOf a_2))))) + 1) * 17 ≤ 70368744177664)) (K (AV.slc 0 0
  (List.length (varsL (tmsOf a_1)) + List.length (List.take (List.length (varsL (tmsOf a_2))) (List.drop 0 (strs (varsL (tmsOf a_2))))))) [Obj.row 9 (List.take
  (List.length (varsL (tmsOf a_1))) (strs (varsL (tmsOf a_1))) ++ List.take (List.length (varsL (tmsOf a_2))) (List.drop 0 (strs (varsL (tmsOf a_2)))))])) := by kernel_rfl
def LA.lt (a : LA) : Lt := ⟨a.op, ⟨a.s, tmsOf a.l⟩, .mk a.o1 a.s1 a.n1 (tmsOf a.l1), .mk a.o2 a.s2 a.n2 (tmsOf a.l2)⟩
def st40 (a : LA) : List AV × List Dn.Obj := ([a.av], [])
def side40 (a : LA) : Prop := litC a.lt ≤ 100000
def out40 (a : LA) : Out (AV × List Dn.Obj) := .one (.slc 0 0 (litV a.lt).length, [.row 9 (strs (litV a.lt))])
theorem c40 (κ : Kp) : CallOk (E21 κ) 12 58 (callE st40 side40 out40) := by
  refine callE_ok ?_
  rintro a K h1 ho
  refine Eq.mpr (y40 κ a K) ?_
  simp only [and_self]
  simp only [side40, litC, LA.lt] at h1
  have ht : tmsOf [.agg [.int a.o1, .lit (.string a.s1), .int a.n1, .lst 43 a.l1], .agg [.int a.o2, .lit (.string a.s2), .int a.n2, .lst 43 a.l2]] = [.mk a.o1 a.s1 a.n1 (tmsOf a.l1), .mk a.o2 a.s2 a.n2 (tmsOf a.l2)] := by
    simp only [tmsOf, List.map_cons, List.map_nil]
    rw [tmOf_agg, tmOf_agg]; rfl
  have e1 := varsL_le (tmsOf a.l)
  have e2 := varsL_le [.mk a.o1 a.s1 a.n1 (tmsOf a.l1), .mk a.o2 a.s2 a.n2 (tmsOf a.l2)]
  refine ⟨_, rfl, ?_, _, rfl, ?_, ?_⟩
  · simp only [side31a, ht]; omega
  · simp only [side31a]; omega
  · simp only [List.drop_zero, take_strs, ht, strs_len]
    rw [cnd_iff, decide_eq_true_eq]
    refine ⟨by omega, ?_⟩
    simp only [out40, Out.run, litV, LA.lt, strs_app, List.length_append] at ho
    exact ho
noncomputable def E40 (κ : Kp) : Env := (E21 κ).addCall 58 (callE st40 side40 out40)
theorem e40 (κ : Kp) : EnvOK (E40 κ) := (e21 κ).addCall (m21 κ) (c40 κ)
theorem m40 (κ : Kp) : EnvMono (E40 κ) := (m21 κ).addCall callE_mono
end Go.Proofs.YtpgahkbkfflkaaaGreatDoor
namespace Go.Proofs.YtpgahkbkfflkaaaGreatDoor
open Go Go.Dn Go.Rl Go.Proofs
attribute [local irreducible] funA vc
set_option maxRecDepth 20000
structure TA where
  o1 : Int
  s1 : ByteArray
  n1 : Int
  l1 : List AV
  o2 : Int
  s2 : ByteArray
  n2 : Int
  l2 : List AV
  es : List (Value × AV)
theorem y20 (κ : Kp) (a : TA) (K : AV → List Dn.Obj → Prop) : (funA (E40 κ) 12 28 [.mp 0, .agg [.int a.o1, .lit (.string a.s1), .int a.n1, .lst 43 a.l1], .agg [.int a.o2, .lit (.string a.s2), .int a.n2, .lst 43 a.l2]] [.map 9 4 a.es] K) = (
  brn (TA.o1 a == (1 : Int)) (brn (!Dn.toBool (getK (TA.es a) (Value.string (TA.s1 a)) (AV.bool false))) (∃ (a_1 : List AV), ([AV.lst 43 [AV.agg [AV.int (TA.o2 a),
  AV.str (TA.s2 a), AV.int (TA.n2 a), AV.lst 43 (TA.l2 a)]]], nilO) = ([AV.lst 43 a_1], nilO) ∧ side31a a_1 ∧ ∃ (a_2 : List AV × List (Value × AV)), ([AV.mp 0,
  AV.lst 9 (List.take (List.length (varsL (tmsOf a_1))) (List.drop 0 (strs (varsL (tmsOf a_1)))))], [Dn.Obj.map 9 4 (TA.es a)]) = ([AV.mp 0, AV.lst 9 (Prod.fst
  a_2)], [Dn.Obj.map 9 4 (Prod.snd a_2)]) ∧ side23 a_2 ∧ K (AV.bool (hasL (Prod.snd a_2) (Prod.fst a_2))) [Dn.Obj.map 9 4 (Prod.snd a_2)]) (K (AV.bool false)
  [Dn.Obj.map 9 4 (TA.es a)])) (K (AV.bool false) [Dn.Obj.map 9 4 (TA.es a)])) := by kernel_rfl
def TA.x (a : TA) : Tm := .mk a.o1 a.s1 a.n1 (tmsOf a.l1)
def TA.y (a : TA) : Tm := .mk a.o2 a.s2 a.n2 (tmsOf a.l2)
def st20 (a : TA) : List AV × List Dn.Obj := ([.mp 0, .agg [.int a.o1, .lit (.string a.s1), .int a.n1, .lst 43 a.l1], .agg [.int a.o2, .lit (.string a.s2), .int a.n2, .lst 43 a.l2]], [.map 9 4 a.es])
def side20 (a : TA) : Prop := cntL [a.y] ≤ 100000
def out20 (a : TA) : Out (AV × List Dn.Obj) := .one (.bool (bindsS a.es a.x a.y), [.map 9 4 a.es])
theorem c20 (κ : Kp) : CallOk (E40 κ) 12 28 (callE st20 side20 out20) := by
  refine callE_ok ?_
  rintro a K h1 ho
  refine Eq.mpr (y20 κ a K) ?_
  have ht : tmsOf [.agg [.int a.o2, .lit (.string a.s2), .int a.n2, .lst 43 a.l2]] = [a.y] := by
    simp only [tmsOf, List.map_cons, List.map_nil]
    rw [tmOf_agg]; rfl
  have hle := varsL_le [a.y]
  have ho' : K (.bool (decide (a.o1 = 1) && (!inS a.es a.s1 && hasL a.es (strs (varsL [a.y]))))) [.map 9 4 a.es] := ho
  simp only [side20] at h1
  simp only [brn_iff, beq_iff_eq, beq_eq_false_iff_ne, Bool.not_eq_true', Bool.not_eq_false']
  refine ⟨fun e1 => ⟨fun e2 => ?_, fun e2 => ?_⟩, fun e1 => ?_⟩
  · have e2' : inS a.es a.s1 = false := e2
    rw [decide_eq_true e1, e2'] at ho'
    refine ⟨_, rfl, by simp only [side31a, ht]; exact h1, (strs (varsL [a.y]), a.es), ?_, ?_, ho'⟩
    · simp only [List.drop_zero, take_strs, ht]
    · simp only [side23, strs_len, maxI]; omega
  · have e2' : inS a.es a.s1 = true := e2
    rw [decide_eq_true e1, e2'] at ho'
    exact ho'
  · rw [decide_eq_false e1] at ho'
    exact ho'
noncomputable def E20 (κ : Kp) : Env := (E40 κ).addCall 28 (callE st20 side20 out20)
theorem e20 (κ : Kp) : EnvOK (E20 κ) := (e40 κ).addCall (m40 κ) (c20 κ)
theorem m20 (κ : Kp) : EnvMono (E20 κ) := (m40 κ).addCall callE_mono
end Go.Proofs.YtpgahkbkfflkaaaGreatDoor
