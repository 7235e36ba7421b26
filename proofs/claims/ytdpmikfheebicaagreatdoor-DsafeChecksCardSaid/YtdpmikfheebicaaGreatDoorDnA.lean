import Derived.CallsIn
import Derived.RangeFuncIn
import Derived.OrdersIn
import Derived.RangeFuncLeaves
namespace Go.Dn
open Go
abbrev aa0 := @decide_eq_true_eq
abbrev aa1 := @Bool.and_eq_true
abbrev aa2 := @decide_eq_false_iff_not
abbrev aa3.{u} := @Option.some.injEq.{u}
abbrev aa4 := @decide_eq_false
abbrev aa5.{u} := @cond_false.{u}
abbrev aa6 := @decide_eq_true
abbrev aa7.{u} := @cond_true.{u}
abbrev aa8.{u} := @List.drop_eq_nil_of_le.{u}
abbrev aa9.{u, v} := @Prod.mk.injEq.{u, v}
abbrev ab0.{u} := @List.drop_zero.{u}
abbrev ab1.{u} := @List.drop_eq_getElem_cons.{u}
abbrev ab2 := @Bool.not_eq_false'
abbrev ab3.{u} := @List.mem_cons_self.{u}
abbrev ab4.{u} := @List.mem_append_right.{u}
abbrev ab5.{u} := @List.mem_append_left.{u}
abbrev ab6 := @Bool.or_eq_true
abbrev ab7.{u} := @List.getElem?_eq_getElem.{u}
abbrev ab8 := @Int.toNat_zero
abbrev ab9.{u} := @List.length_append.{u}
abbrev ac0 := @Bool.true_and
abbrev ac1.{u} := @List.all_cons.{u}
abbrev ac2.{u, v} := @List.map_cons.{u, v}
abbrev ac3.{u, v} := @List.map_nil.{u, v}
inductive AV where
 | cw
 | lit (v : Value)
 | ae (T : TypeId) (l : List AV)
 | agg (l : List AV)
 | bR (l : List AV)
 | a7 (i lo len : Nat)
 | ptr (i k : Nat) (path : List Nat) (off : Nat)
 | jH (T : TypeId) (a : AV)
 | mp (i : Nat)
 | dv (i : Nat)
 | kr (i : Nat) (key : Value)
 | dq (f : FuncId) (caps : List AV)
 | jb (T : TypeId) (a : AV)
 deriving Inhabited
structure xH where
 state : LoopState
 pending : Option Code
 fn : FuncId
 bf : List AV
 params : Array Tmp
 assign : Code
 body : Code
inductive Obj where
 | dead
 | box (T : TypeId) (a : AV)
 | row (T : TypeId) (xs : List AV)
 | ow (T : TypeId) (xs : List AV)
 | map (K V : TypeId) (es : List (Value × AV))
 | loop (r : xH)
 | iter (i n : Nat) (ks : List Value)
 | ext (todo : Option (List AV))
 | db (s : ByteArray) (pos : Nat)
def nth : List AV → Nat → AV
 | [], _ => .cw
 | a :: _, 0 => a
 | _ :: l, n + 1 => nth l n
def cC : List AV → Nat → AV → List AV
 | [], _, _ => []
 | _ :: l, 0, x => x :: l
 | a :: l, n + 1, x => a :: cC l n x
def aD : List Obj → Nat → Obj
 | [], _ => .dead
 | a :: _, 0 => a
 | _ :: l, n + 1 => aD l n
def dU : List Obj → Nat → Obj → List Obj
 | [], _, _ => []
 | _ :: l, 0, x => x :: l
 | a :: l, n + 1, x => a :: dU l n x
mutual
def wid : AV → Nat
 | .agg l => eG l
 | _ => 1
def eG : List AV → Nat
 | [] => 0
 | a :: l => wid a + eG l
end
def ba : Value → Bool
 | .agg _ => false
 | .tuple _ => false
 | _ => true
def gi : Value → Bool
 | .agg _ => true
 | _ => false
def bP : AV → Bool
 | .agg _ => true
 | _ => false
def toInt : AV → Int
 | .lit (.int _ n) => n
 | _ => 0
def toBool : AV → Bool
 | .lit (.bool b) => b
 | _ => false
def toStr : AV → ByteArray
 | .lit (.string s) => s
 | _ => ByteArray.empty
def ah : AV → List AV
 | .ae _ l => l
 | _ => []
def ad : AV → Nat → AV
 | .agg l, j => nth l j
 | _, _ => .cw
def FR (g : TypeId → AV → AV) : List Field → Nat → AV → List AV
 | [], _, _ => []
 | f :: fs, j, a => g f.type (ad a j) :: FR g fs (j + 1) a
def expand (P : Program) : Nat → TypeId → AV → AV
 | 0, _, a => a
 | d + 1, T, a =>
  match P.underlying T with
  | some (.int k) => .lit (.int k (toInt a))
  | some .bool => .lit (.bool (toBool a))
  | some .string => .lit (.string (toStr a))
  | some (.slice E) => .ae E (ah a)
  | some (.struct fs) => .agg (FR (expand P d) fs.toList 0 a)
  | _ => a
mutual
def bE (P : Program) : AV → TypeId → Prop
 | .lit v, T =>
  match P.underlying T with
  | some (.int k) => ∃ n, v = .int k n
  | some .bool => ∃ b, v = .bool b
  | some .string => ∃ s, v = .string s
  | some (.slice _) => v = .slice none 0 0
  | some (.struct _) => False
  | some (.array _ _) => False
  | some _ => ba v = true
  | none => False
 | .ae E l, T => P.underlying T = some (.slice E) ∧ bW P l E
 | .agg l, T => ∃ fs, (P.underlying T = some (.struct fs) ∧ T < P.types.size) ∧ dk P l fs.toList
 | .jH E a, T => P.underlying T = some (.pointer E) ∧ bE P a E
 | .jb U a, T => (∃ ms, P.underlying T = some (.interface ms)) ∧ bE P a U
 | _, _ => False
def bW (P : Program) : List AV → TypeId → Prop
 | [], _ => True
 | a :: l, T => bE P a T ∧ bW P l T
def dk (P : Program) : List AV → List Field → Prop
 | [], [] => True
 | a :: l, f :: fs => bE P a f.type ∧ dk P l fs
 | _, _ => False
end
theorem uL {v : Value} (h : ba v = true) : gi v = false := by cases v <;> simp_all [ba, gi]
structure G where
 block : Nat
 cap : Nat
 isNil : Bool
structure Pg extends Program where
 kept : Nat → Option Go.Obj
instance : CoeOut Pg Program := ⟨Pg.toProgram⟩
structure Ctx where
 P : Pg
 X : Nat → Prop
 ι : Nat → G
 st : List Obj
 w : World
 cls : Nat → Nat := id
 mx : Nat → Option (List AV) → (Nat → Prop) → (Nat → Prop) → World → Prop := fun _ _ _ _ _ => True
def iE : Obj → Option (TypeId × List AV)
 | .row T xs => some (T, xs)
 | .ow T xs => some (T, xs)
 | _ => none
def oI (C : Ctx) (i lo n : Nat) (v : Value) : Prop :=
 ∀ T xs, iE (aD C.st i) = some (T, xs) →
  lo + n ≤ xs.length ∧
  (((C.ι i).isNil = true ∧ v = .slice none 0 0 ∧ lo = 0 ∧ n = 0) ∨
   ((C.ι i).isNil = false ∧ ∃ cap q, v = .slice (some q) n cap ∧ (q = ⟨(C.ι i).block, lo * C.P.cellsOf T, none⟩ ∨ (cap = 0 ∧ 0 < lo)) ∧ n ≤ cap ∧ lo + cap = (C.ι i).cap))
def qh (C : Ctx) (i k off : Nat) (v : Value) : Prop :=
 (∀ T xs, iE (aD C.st i) = some (T, xs) → k < xs.length ∧ v = .pointer (some ⟨(C.ι i).block, k * C.P.cellsOf T + off, none⟩)) ∧
 (∀ T a, aD C.st i = .box T a → k = 0 ∧ v = .pointer (some ⟨(C.ι i).block, off, none⟩)) ∧
 (∀ m n ks, aD C.st i = .iter m n ks → v = .pointer (some ⟨(C.ι i).block, off, none⟩)) ∧
 (∀ s p, aD C.st i = .db s p → v = .pointer (some ⟨(C.ι i).block, off, none⟩))
def Ha (C : Ctx) (i : Nat) (v : Value) : Prop :=
 ∀ K V es, aD C.st i = .map K V es → v = .map (some (C.ι i).block)
def wy (C : Ctx) (i : Nat) (v : Value) : Prop :=
 (∀ r, aD C.st i = .loop r → v = .func (.yield (C.ι i).block) #[] #[]) ∧ ∀ t, aD C.st i = .ext t → v = .func (.yield (C.ι i).block) #[] #[]
def tX (C : Ctx) (i : Nat) (key : Value) (v : Value) : Prop :=
 ∀ K V es, aD C.st i = .map K V es → ∃ entries clock, C.w.heap[(C.ι i).block]? = some (.map entries clock) ∧ ∃ e, e ∈ entries ∧ e.key = key ∧ v = .int .i64 e.born
abbrev Src := Nat → Option Value
mutual
def M (C : Ctx) : AV → Src → Nat → Prop
 | .cw, _, _ => True
 | .lit u, s, o => s o = some u ∧ ba u = true
 | .ae T l, s, o => bW C.P l T ∧ ∃ p cap, s o = some (.slice p l.length cap) ∧ l.length ≤ cap ∧
   (l ≠ [] → ∃ b off, p = some ⟨b, off, none⟩ ∧ C.X b ∧ MR C l (C.P.cellsOf T) (fun j => C.w.cell? ⟨b, j, none⟩) off)
 | .agg l, s, o => ML C l s o
 | .bR l, s, o => ∃ vs, s o = some (.tuple vs) ∧ MT C l vs.toList
 | .a7 i lo n, s, o => i < C.st.length ∧ ∃ v, s o = some v ∧ ba v = true ∧ oI C i lo n v
 | .ptr i k _ off, s, o => i < C.st.length ∧ ∃ v, s o = some v ∧ ba v = true ∧ qh C i k off v
 | .jH T a, s, o => ∃ b off, s o = some (.pointer (some ⟨b, off, none⟩)) ∧ C.X b ∧ bE C.P a T ∧ M C a (fun j => C.w.cell? ⟨b, j, none⟩) off
 | .mp i, s, o => i < C.st.length ∧ ∃ v, s o = some v ∧ ba v = true ∧ Ha C i v
 | .dv i, s, o => i < C.st.length ∧ ∃ v, s o = some v ∧ ba v = true ∧ wy C i v
 | .kr i k, s, o => i < C.st.length ∧ ∃ v, s o = some v ∧ ba v = true ∧ tX C i k v
 | .dq f caps, s, o => ∃ vs, s o = some (.func (.func f) #[] vs) ∧ MT C caps vs.toList
 | .jb T a, s, o => ∃ u, s o = some (.iface T u) ∧ gi u = bP a ∧ u.cells.size = wid a ∧ M C a (fun j => u.cells[j]?) 0
def ML (C : Ctx) : List AV → Src → Nat → Prop
 | [], _, _ => True
 | a :: l, s, o => M C a s o ∧ ML C l s (o + wid a)
def MR (C : Ctx) : List AV → Nat → Src → Nat → Prop
 | [], _, _, _ => True
 | a :: l, z, s, o => M C a s o ∧ MR C l z s (o + z)
def MT (C : Ctx) : List AV → List Value → Prop
 | [], vs => vs = []
 | _ :: _, [] => False
 | a :: l, v :: vs => (gi v = bP a ∨ a = .cw) ∧ (v.cells.size = wid a ∨ a = .cw) ∧ M C a (fun j => v.cells[j]?) 0 ∧ MT C l vs
end
def Rel (C : Ctx) (a : AV) (v : Value) : Prop :=
 (gi v = bP a ∨ a = .cw) ∧ (v.cells.size = wid a ∨ a = .cw) ∧ M C a (fun j => v.cells[j]?) 0
end Go.Dn
