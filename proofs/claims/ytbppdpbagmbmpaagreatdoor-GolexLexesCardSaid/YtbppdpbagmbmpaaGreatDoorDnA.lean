import Derived.CallsIn
import Derived.RangeFuncIn
import Derived.OrdersIn
import Derived.RangeFuncLeaves
namespace Go.Dn
open Go
inductive AV where
  | junk
  | lit (v : Value)
  | lst (T : TypeId) (l : List AV)
  | agg (l : List AV)
  | tup (l : List AV)
  | slc (i lo len : Nat)
  | ptr (i k : Nat) (path : List Nat) (off : Nat)
  | pim (T : TypeId) (a : AV)
  | mp (i : Nat)
  | yld (i : Nat)
  | stp (i : Nat) (key : Value)
  | clo (f : FuncId) (caps : List AV)
  | ifc (T : TypeId) (a : AV)
  | fmp (K V : TypeId) (ks : List Value) (vs : List AV)
  deriving Inhabited
structure LoopA where
  state : LoopState
  pending : Option Code
  fn : FuncId
  regs : List AV
  params : Array Tmp
  assign : Code
  body : Code
inductive Obj where
  | dead
  | box (T : TypeId) (a : AV)
  | row (T : TypeId) (xs : List AV)
  | frz (T : TypeId) (xs : List AV)
  | map (K V : TypeId) (es : List (Value × AV))
  | loop (r : LoopA)
  | iter (i n : Nat) (ks : List Value)
  | ext (todo : Option (List AV))
  | siter (s : ByteArray) (pos : Nat)
  | rows (T E : TypeId) (ls : List (List Value)) (pd : Option Nat)
  | fit (K V : TypeId) (ks : List Value) (vs : List AV) (met : List Value)
def nth : List AV → Nat → AV
  | [], _ => .junk
  | a :: _, 0 => a
  | _ :: l, n + 1 => nth l n
def setN : List AV → Nat → AV → List AV
  | [], _, _ => []
  | _ :: l, 0, x => x :: l
  | a :: l, n + 1, x => a :: setN l n x
def nthL : List (List Value) → Nat → List Value
  | [], _ => []
  | a :: _, 0 => a
  | _ :: l, n + 1 => nthL l n
def setL : List (List Value) → Nat → List Value → List (List Value)
  | [], _, _ => []
  | _ :: l, 0, x => x :: l
  | a :: l, n + 1, x => a :: setL l n x
def nthO : List Obj → Nat → Obj
  | [], _ => .dead
  | a :: _, 0 => a
  | _ :: l, n + 1 => nthO l n
def setO : List Obj → Nat → Obj → List Obj
  | [], _, _ => []
  | _ :: l, 0, x => x :: l
  | a :: l, n + 1, x => a :: setO l n x
mutual
def wid : AV → Nat
  | .agg l => widL l
  | _ => 1
def widL : List AV → Nat
  | [] => 0
  | a :: l => wid a + widL l
end
def oneV : Value → Bool
  | .agg _ => false
  | .tuple _ => false
  | _ => true
def isAggV : Value → Bool
  | .agg _ => true
  | _ => false
def isAggA : AV → Bool
  | .agg _ => true
  | _ => false
def toInt : AV → Int
  | .lit (.int _ n) => n
  | _ => 0
def toBool : AV → Bool
  | .lit (.bool b) => b
  | _ => false
def toStr : AV → ByteArray
  | .lit (.string s) => s
  | _ => ByteArray.empty
def toLst : AV → List AV
  | .lst _ l => l
  | _ => []
def toKs : AV → List Value
  | .fmp _ _ ks _ => ks
  | _ => []
def toVs : AV → List AV
  | .fmp _ _ _ vs => vs
  | _ => []
def fld : AV → Nat → AV
  | .agg l, j => nth l j
  | _, _ => .junk
def mapF (g : TypeId → AV → AV) : List Field → Nat → AV → List AV
  | [], _, _ => []
  | f :: fs, j, a => g f.type (fld a j) :: mapF g fs (j + 1) a
def expand (P : Program) : Nat → TypeId → AV → AV
  | 0, _, a => a
  | d + 1, T, a =>
    match P.underlying T with
    | some (.int k) => .lit (.int k (toInt a))
    | some .bool => .lit (.bool (toBool a))
    | some .string => .lit (.string (toStr a))
    | some (.slice E) => .lst E (toLst a)
    | some (.map K V) => .fmp K V (toKs a) (toVs a)
    | some (.struct fs) => .agg (mapF (expand P d) fs.toList 0 a)
    | _ => a
mutual
def ptyp (P : Program) : AV → TypeId → Prop
  | .lit v, T =>
    match P.underlying T with
    | some (.int k) => ∃ n, v = .int k n
    | some .bool => ∃ b, v = .bool b
    | some .string => ∃ s, v = .string s
    | some (.slice _) => v = .slice none 0 0
    | some (.map _ _) => v = .map none
    | some (.struct _) => False
    | some (.array _ _) => False
    | some _ => oneV v = true
    | none => False
  | .lst E l, T => P.underlying T = some (.slice E) ∧ ptypL P l E
  | .agg l, T => ∃ fs, (P.underlying T = some (.struct fs) ∧ T < P.types.size) ∧ ptypF P l fs.toList
  | .pim E a, T => P.underlying T = some (.pointer E) ∧ ptyp P a E
  | .ifc U a, T => (∃ ms, P.underlying T = some (.interface ms)) ∧ ptyp P a U
  | .fmp K V _ vs, T => P.underlying T = some (.map K V) ∧ ptypL P vs V
  | _, _ => False
def ptypL (P : Program) : List AV → TypeId → Prop
  | [], _ => True
  | a :: l, T => ptyp P a T ∧ ptypL P l T
def ptypF (P : Program) : List AV → List Field → Prop
  | [], [] => True
  | a :: l, f :: fs => ptyp P a f.type ∧ ptypF P l fs
  | _, _ => False
end
theorem oneV_agg {v : Value} (h : oneV v = true) : isAggV v = false := by cases v <;> simp_all [oneV, isAggV]
def keyEq : Value → Value → Bool
  | .int k a, .int k' b => k == k' && a == b
  | .string a, .string b => a == b
  | .bool a, .bool b => a == b
  | _, _ => false
def plainKey (P : Program) (K : TypeId) : Value → Bool
  | .int k _ => (match P.underlying K with | some (.int k') => k == k' | _ => false)
  | .string _ => (match P.underlying K with | some .string => true | _ => false)
  | .bool _ => (match P.underlying K with | some .bool => true | _ => false)
  | _ => false
structure MapOK (P : Program) (K : TypeId) (ents : List MapEntry) (clock : Nat) : Prop where
  keys : ∀ e, e ∈ ents → plainKey P K e.key = true
  apart : ents.Pairwise fun e e' => keyEq e'.key e.key = false
  born : ents.Pairwise fun e e' => e.born < e'.born
  clock : ∀ e, e ∈ ents → e.born < clock
structure G where
  block : Nat
  cap : Nat
  isNil : Bool
structure Pg extends Program where
  kept : Nat → Option Go.Obj
  imm : TypeId → Bool := fun _ => false
instance : CoeOut Pg Program := ⟨Pg.toProgram⟩
structure Ctx where
  P : Pg
  X : Nat → Prop
  ι : Nat → G
  st : List Obj
  w : World
  cls : Nat → Nat := id
  elt : Nat → Nat := fun _ => 0
  phi : Nat → Option (List AV) → (Nat → Prop) → (Nat → Prop) → World → Prop := fun _ _ _ _ _ => True
def elT : Obj → Option (TypeId × List AV)
  | .row T xs => some (T, xs)
  | .frz T xs => some (T, xs)
  | _ => none
def SubOK (C : Ctx) (B : Nat) (E : TypeId) (k : Nat) (l : List Value) (m : Nat) (v : Value) : Prop :=
  m ≤ l.length ∧ ((v = .slice none 0 0 ∧ m = 0) ∨ ∃ b cap c, v = .slice (some ⟨b, 0, none⟩) m cap ∧ m ≤ cap ∧ cap ≤ maxLen ∧ C.cls b = B ∧ b ≠ B ∧ C.elt b = k ∧
    C.w.heap[b]? = some (.cells c E (0, 0)) ∧ cap = c.size ∧ ∀ j, j < m → c[j]? = l[j]?)
def SlcOK (C : Ctx) (i lo n : Nat) (v : Value) : Prop :=
  (∀ T xs, elT (nthO C.st i) = some (T, xs) →
    lo + n ≤ xs.length ∧
    (((C.ι i).isNil = true ∧ v = .slice none 0 0 ∧ lo = 0 ∧ n = 0) ∨
     ((C.ι i).isNil = false ∧ ∃ cap q, v = .slice (some q) n cap ∧ (q = ⟨(C.ι i).block, lo * C.P.cellsOf T, none⟩ ∨ (cap = 0 ∧ 0 < lo)) ∧ n ≤ cap ∧ lo + cap ≤ (C.ι i).cap))) ∧
  ∀ T E ls pd, nthO C.st i = .rows T E ls pd →
    match lo with
    | 0 => n = ls.length ∧ ∃ cap, v = .slice (some ⟨(C.ι i).block, 0, none⟩) n cap ∧ n ≤ cap
    | k + 1 => k < ls.length ∧ SubOK C (C.ι i).block E k (nthL ls k) n v
def PtrOK (C : Ctx) (i k off : Nat) (v : Value) : Prop :=
  (∀ T xs, elT (nthO C.st i) = some (T, xs) → k < xs.length ∧ v = .pointer (some ⟨(C.ι i).block, k * C.P.cellsOf T + off, none⟩)) ∧
  (∀ T a, nthO C.st i = .box T a → k = 0 ∧ v = .pointer (some ⟨(C.ι i).block, off, none⟩)) ∧
  (∀ m n ks, nthO C.st i = .iter m n ks → v = .pointer (some ⟨(C.ι i).block, off, none⟩)) ∧
  (∀ s p, nthO C.st i = .siter s p → v = .pointer (some ⟨(C.ι i).block, off, none⟩)) ∧
  (∀ K V ks vs met, nthO C.st i = .fit K V ks vs met → v = .pointer (some ⟨(C.ι i).block, off, none⟩)) ∧
  (∀ T E ls pd, nthO C.st i = .rows T E ls pd → k < ls.length ∧ off = 0 ∧ v = .pointer (some ⟨(C.ι i).block, k, none⟩))
def MpOK (C : Ctx) (i : Nat) (v : Value) : Prop :=
  ∀ K V es, nthO C.st i = .map K V es → v = .map (some (C.ι i).block)
def YldOK (C : Ctx) (i : Nat) (v : Value) : Prop :=
  (∀ r, nthO C.st i = .loop r → v = .func (.yield (C.ι i).block) #[] #[]) ∧ ∀ t, nthO C.st i = .ext t → v = .func (.yield (C.ι i).block) #[] #[]
def StpOK (C : Ctx) (i : Nat) (key : Value) (v : Value) : Prop :=
  ∀ K V es, nthO C.st i = .map K V es → ∃ entries clock, C.w.heap[(C.ι i).block]? = some (.map entries clock) ∧ ∃ e, e ∈ entries ∧ e.key = key ∧ v = .int .i64 e.born
abbrev Src := Nat → Option Value
mutual
def M (C : Ctx) : AV → Src → Nat → Prop
  | .junk, _, _ => True
  | .lit u, s, o => s o = some u ∧ oneV u = true
  | .lst T l, s, o => ptypL C.P l T ∧ ∃ p cap, s o = some (.slice p l.length cap) ∧ l.length ≤ cap ∧
      (l ≠ [] → ∃ b off, p = some ⟨b, off, none⟩ ∧ C.X b ∧ MR C l (C.P.cellsOf T) (fun j => C.w.cell? ⟨b, j, none⟩) off)
  | .agg l, s, o => ML C l s o
  | .tup l, s, o => ∃ vs, s o = some (.tuple vs) ∧ MT C l vs.toList
  | .slc i lo n, s, o => i < C.st.length ∧ ∃ v, s o = some v ∧ oneV v = true ∧ SlcOK C i lo n v
  | .ptr i k _ off, s, o => i < C.st.length ∧ ∃ v, s o = some v ∧ oneV v = true ∧ PtrOK C i k off v
  | .pim T a, s, o => ∃ b off, s o = some (.pointer (some ⟨b, off, none⟩)) ∧ C.X b ∧ ptyp C.P a T ∧ M C a (fun j => C.w.cell? ⟨b, j, none⟩) off
  | .mp i, s, o => i < C.st.length ∧ ∃ v, s o = some v ∧ oneV v = true ∧ MpOK C i v
  | .yld i, s, o => i < C.st.length ∧ ∃ v, s o = some v ∧ oneV v = true ∧ YldOK C i v
  | .stp i k, s, o => i < C.st.length ∧ ∃ v, s o = some v ∧ oneV v = true ∧ StpOK C i k v
  | .clo f caps, s, o => ∃ vs, s o = some (.func (.func f) #[] vs) ∧ MT C caps vs.toList
  | .fmp K V ks vs, s, o => (s o = some (.map none) ∧ ks = [] ∧ vs = []) ∨ ∃ b ents clock, s o = some (.map (some b)) ∧ C.X b ∧ C.w.heap[b]? = some (.map ents clock) ∧ MapOK C.P K ents.toList clock ∧
      ents.toList.map (·.key) = ks ∧ ptypL C.P vs V ∧ MT C vs (ents.toList.map (·.val))
  | .ifc T a, s, o => ∃ u, s o = some (.iface T u) ∧ isAggV u = isAggA a ∧ u.cells.size = wid a ∧ M C a (fun j => u.cells[j]?) 0
def ML (C : Ctx) : List AV → Src → Nat → Prop
  | [], _, _ => True
  | a :: l, s, o => M C a s o ∧ ML C l s (o + wid a)
def MR (C : Ctx) : List AV → Nat → Src → Nat → Prop
  | [], _, _, _ => True
  | a :: l, z, s, o => M C a s o ∧ MR C l z s (o + z)
def MT (C : Ctx) : List AV → List Value → Prop
  | [], vs => vs = []
  | _ :: _, [] => False
  | a :: l, v :: vs => (isAggV v = isAggA a ∨ a = .junk) ∧ (v.cells.size = wid a ∨ a = .junk) ∧ M C a (fun j => v.cells[j]?) 0 ∧ MT C l vs
end
def Rel (C : Ctx) (a : AV) (v : Value) : Prop :=
  (isAggV v = isAggA a ∨ a = .junk) ∧ (v.cells.size = wid a ∨ a = .junk) ∧ M C a (fun j => v.cells[j]?) 0
end Go.Dn
