import Derived.Test.YtdpmikfheebicaaGreatDoorDnA
namespace Go.Dn
open Go
structure S where
 bf : List AV
 st : List Obj
structure Env where
 P : Pg
 call : FuncId → List AV → List Obj → (AV → List Obj → Prop) → Prop
 jE : FuncId → List AV → Option (Bool × AV)
 loop : FuncId → Nat → Code → Option Nat → Nat → S → (Exit → S → Prop) → Prop
 sM : FuncId → Nat → FuncId → List AV → List Obj → (List Obj → Prop) → Prop
 gen : FuncId → Bool
 inl : FuncId → Bool
 live : FuncId → Nat → List (Nat × Option TypeId)
 own : FuncId → Bool
 quiet : FuncId → Bool
 fresh : FuncId → Bool := fun _ => false
def ev (s : S) : Operand → AV
 | .tmp t => nth s.bf t
 | .const v => if ba v then .lit v else .cw
 | .global g => .lit (.pointer (some ⟨g, 0, none⟩))
 | .func f => .dq f []
def put (s : S) (dst : Option Tmp) (a : AV) : S :=
 match dst with
 | none => s
 | some d => { s with bf := cC s.bf d a }
def aZ (b : Bool) (p : Prop) : Prop :=
 match b with
 | true => p
 | false => False
theorem aq {b : Bool} {p : Prop} : aZ b p ↔ b = true ∧ p := by
 cases b <;> simp [aZ]
theorem dF {b : Bool} {p q : Prop} (h : p → q) (hc : aZ b p) : aZ b q := by
 cases b
 ·exact hc
 ·exact h hc
def ax (b : Bool) (p q : Prop) : Prop :=
 match b with
 | true => p
 | false => q
def pU (st : List Obj) : AV → Option (Option TypeId × List AV)
 | .lit (.slice none 0 0) => some (none, [])
 | .ae T l => some (some T, l)
 | .a7 i lo n =>
  match iE (aD st i) with
  | some (T, xs) => some (some T, (xs.drop lo).take n)
  | none => none
 | _ => none
mutual
def b7 (st : List Obj) : AV → Option AV
 | .lit v => some (.lit v)
 | .ae T l => some (.ae T l)
 | .a7 i lo n =>
  match iE (aD st i) with
  | some (T, xs) => some (.ae T ((xs.drop lo).take n))
  | none => none
 | .agg l => (jC st l).map .agg
 | .jH T a => some (.jH T a)
 | .jb T a => (b7 st a).map (.jb T ·)
 | .dq f [] => some (.dq f [])
 | _ => none
def jC (st : List Obj) : List AV → Option (List AV)
 | [] => some []
 | a :: l =>
  match b7 st a, jC st l with
  | some b, some m => some (b :: m)
  | _, _ => none
end
mutual
def rowsOf : AV → List Nat
 | .a7 i _ _ => [i]
 | .agg l => fy l
 | .jb _ a => rowsOf a
 | _ => []
def fy : List AV → List Nat
 | [] => []
 | a :: l => rowsOf a ++ fy l
end
def iY : Obj → Obj
 | .row T xs => .ow T xs
 | o => o
def df (st : List Obj) : List Nat → List Obj
 | [] => st
 | i :: l => df (dU st i (iY (aD st i))) l
mutual
def BL (P : Program) : AV → TypeId → Bool
 | .lit v, T =>
  match P.underlying T with
  | some (.int k) => (match v with | .int k' _ => k == k' | _ => false)
  | some .bool => (match v with | .bool _ => true | _ => false)
  | some .string => (match v with | .string _ => true | _ => false)
  | some (.slice _) => (match v with | .slice none 0 0 => true | _ => false)
  | some (.struct _) => false
  | some (.array _ _) => false
  | some _ => true
  | none => false
 | .ae E _, T => (match P.underlying T with | some (.slice E') => E == E' | _ => false)
 | .agg l, T => (match P.underlying T with | some (.struct fs) => Nat.blt T P.types.size && F4 P l fs.toList | _ => false)
 | _, _ => false
def F4 (P : Program) : List AV → List Field → Bool
 | [], [] => true
 | a :: l, f :: fs => BL P a f.type && F4 P l fs
 | _, _ => false
end
def kb (P : Program) (T : TypeId) : Bool :=
 match P.underlying T with
 | some (.struct _) => true
 | some (.array _ _) => true
 | _ => false
def l6 (P : Program) : Nat → TypeId → List Value → Option (AV × List Value)
 | 0, _, _ => none
 | d + 1, T, cs =>
  match P.underlying T with
  | some (.struct fs) => (match zfields (l6 P d) fs.toList cs with | some (l, r) => some (.agg l, r) | none => none)
  | some (.array _ _) => none
  | some _ => (match cs with | v :: r => if ba v then some (.lit v, r) else none | [] => none)
  | none => none
where
 zfields (g : TypeId → List Value → Option (AV × List Value)) : List Field → List Value → Option (List AV × List Value)
  | [], cs => some ([], cs)
  | f :: fs, cs =>
   match g f.type cs with
   | some (a, r) => (match zfields g fs r with | some (l, r') => some (a :: l, r') | none => none)
   | none => none
def cj : Nat := 6
def iC (P : Program) (T : TypeId) : Option AV :=
 match P.info? T with
 | some i =>
  match i.zero with
  | some (.agg cs) =>
   (match l6 P cj T cs.toList with
    | some (.agg l, []) => if kb P T && BL P (.agg l) T then some (.agg l) else none
    | _ => none)
  | some v => if kb P T || !ba v || !BL P (.lit v) T then none else some (.lit v)
  | none => none
 | none => none
mutual
def cH : AV → Bool
 | .cw => false
 | .bR _ => false
 | .agg l => dT l
 | .lit v => ba v
 | _ => true
def dT : List AV → Bool
 | [] => true
 | a :: l => cH a && dT l
end
mutual
def o5 : AV → Bool
 | .cw => false
 | .bR _ => false
 | .agg l => s9 l
 | _ => true
def s9 : List AV → Bool
 | [] => true
 | a :: l => o5 a && s9 l
end
mutual
theorem qx {C : Ctx} : ∀ (a : AV) (s : Src) (o : Nat), o5 a = true → M C a s o → cH a = true
 | .lit v, s, o, _, h => by simp only [M] at h; simp only [cH]; exact h.2
 | .agg l, s, o, h, hm => by
  simp only [o5] at h
  simp only [M] at hm
  simp only [cH]
  exact wA l s o h hm
 | .cw, _, _, h, _ | .bR _, _, _, h, _ => by simp [o5] at h
 | .ae _ _, _, _, _, _ | .a7 _ _ _, _, _, _, _ | .ptr _ _ _ _, _, _, _, _ | .jH _ _, _, _, _, _ | .mp _, _, _, _, _ | .dv _, _, _, _, _ | .kr _ _, _, _, _, _ | .dq _ _, _, _, _, _ | .jb _ _, _, _, _, _ => by simp [cH]
theorem wA {C : Ctx} : ∀ (l : List AV) (s : Src) (o : Nat), s9 l = true → ML C l s o → dT l = true
 | [], _, _, _, _ => by simp [dT]
 | a :: l, s, o, h, hm => by
  simp only [s9, aa1] at h
  simp only [ML] at hm
  simp only [dT, aa1]
  exact ⟨qx a s o h.1 hm.1, wA l s _ h.2 hm.2⟩
end
def pJ : AV → List Nat → AV
 | a, [] => a
 | a, j :: p => pJ (ad a j) p
def iL : AV → List Nat → AV → AV
 | _, [], x => x
 | .agg l, j :: p, x => .agg (cC l j (iL (nth l j) p x))
 | a, _ :: _, _ => a
def iz : List AV → Nat → Nat
 | [], _ => 0
 | _, 0 => 0
 | a :: l, j + 1 => wid a + iz l j
def iy : AV → List Nat → Nat
 | _, [] => 0
 | .agg l, j :: p => iz l j + iy (nth l j) p
 | _, _ :: _ => 0
def qQ : AV → List Nat → Bool
 | _, [] => true
 | .agg l, j :: p => decide (j < l.length) && qQ (nth l j) p
 | _, _ :: _ => false
def Nk : AV → Option (IntKind × Int)
 | .lit (.int k n) => some (k, n)
 | _ => none
def nt (P : Program) (st : List Obj) (T : TypeId) : AV → Option (Bool × AV)
 | .ptr i k path off =>
  match aD st i with
  | .box _ a =>
   let y := pJ a path
   if qQ a path && iy a path == off && kb P T == bP y && wid y == P.cellsOf T && (P.underlying T).isSome then some (true, y) else none
  | o =>
   match iE o with
   | some (T0, xs) =>
    let a := expand P cj T0 (nth xs k)
    let y := pJ a path
    if qQ a path && iy a path == off && kb P T == bP y && wid y == P.cellsOf T && (P.underlying T).isSome then some (true, y) else none
   | none => none
 | .jH T0 a =>
  let y := expand P cj T0 a
  if kb P T == bP y && wid y == P.cellsOf T && (P.underlying T).isSome then some (true, y) else none
 | _ => none
def dm : Value → Value → Bool
 | .int k a, .int k' b => k == k' && a == b
 | .string a, .string b => a == b
 | .bool a, .bool b => a == b
 | _, _ => false
def sL (es : List (Value × AV)) (k : Value) : Bool :=
 match es with
 | [] => false
 | (k', _) :: es => dm k k' || sL es k
def eg (es : List (Value × AV)) (k : Value) (z : AV) : AV :=
 match es with
 | [] => z
 | (k', a) :: es => bif dm k k' then a else eg es k z
def ft (es : List (Value × AV)) (k : Value) (a : AV) : List (Value × AV) :=
 match es with
 | [] => [(k, a)]
 | (k', a') :: es => bif dm k k' then (k, a) :: es else (k', a') :: ft es k a
def plainKey (P : Program) (K : TypeId) : Value → Bool
 | .int k _ => (match P.underlying K with | some (.int k') => k == k' | _ => false)
 | .string _ => (match P.underlying K with | some .string => true | _ => false)
 | .bool _ => (match P.underlying K with | some .bool => true | _ => false)
 | _ => false
def M4 (op : BinOp) (a b : AV) : Option (Bool × AV) :=
 match a, b with
 | .lit (.int k x), .lit (.int k' y) =>
  if k = k' then
   match op with
   | .add => some (true, .lit (.int k (k.wrap (x + y))))
   | .sub => some (true, .lit (.int k (k.wrap (x - y))))
   | .mul => some (true, .lit (.int k (k.wrap (x * y))))
   | .quo => some (y != 0, .lit (.int k (k.wrap (x.tdiv y))))
   | .rem => some (y != 0, .lit (.int k (x.tmod y)))
   | .eql => some (true, .lit (.bool (x == y)))
   | .neq => some (true, .lit (.bool (x != y)))
   | .lss => some (true, .lit (.bool (decide (x < y))))
   | .leq => some (true, .lit (.bool (decide (x ≤ y))))
   | .gtr => some (true, .lit (.bool (decide (x > y))))
   | .geq => some (true, .lit (.bool (decide (x ≥ y))))
   | .shl => some (decide (0 ≤ y), .lit (.int k (k.wrap (x * 2 ^ (min y.toNat k.bits)))))
   | .shr => some (decide (0 ≤ y), .lit (.int k (x.fdiv (2 ^ (min y.toNat k.bits)))))
   | .and => some (true, .lit (.int k (k.wrap (BitVec.ofInt k.bits x &&& BitVec.ofInt k.bits y).toNat)))
   | .or => some (true, .lit (.int k (k.wrap (BitVec.ofInt k.bits x ||| BitVec.ofInt k.bits y).toNat)))
   | _ => none
  else none
 | .lit (.string x), .lit (.string y) =>
  match op with
  | .add => some (decide (((x.size + y.size : Nat) : Int) ≤ IntKind.i64.max), .lit (.string (x ++ y)))
  | .eql => some (true, .lit (.bool (x.toList == y.toList)))
  | .neq => some (true, .lit (.bool !(x.toList == y.toList)))
  | .lss => some (true, .lit (.bool (Op.bytesLess x.toList y.toList)))
  | _ => none
 | _, _ => none
def Ib (P : Program) (op : BinOp) (T : TypeId) (a b : AV) : Option (Bool × AV) :=
 match a, b with
 | .lit (.bool x), .lit (.bool y) =>
  (match P.underlying T with
   | some .bool =>
    (match op with
    | .eql => some (true, .lit (.bool (x == y)))
    | .neq => some (true, .lit (.bool (!(x == y))))
    | _ => none)
   | _ => none)
 | _, _ => none
def yn (P : Program) (st : List Obj) (T : TypeId) (a : AV) : Option AV :=
 match P.underlying T, a with
 | some .string, .lit (.string s) => some (.lit (.int .i64 s.size))
 | some (.map _ _), .lit (.map none) => some (.lit (.int .i64 0))
 | some (.map _ _), .mp i => (match aD st i with | .map _ _ es => some (.lit (.int .i64 es.length)) | _ => none)
 | some (.slice _), .lit (.slice none 0 0) => some (.lit (.int .i64 0))
 | some (.slice _), .a7 i _ n => (match iE (aD st i) with | some _ => some (.lit (.int .i64 n)) | none => none)
 | some (.slice _), .ae _ l => some (.lit (.int .i64 l.length))
 | _, _ => none
def fD (s : S) (o : Option Operand) (d : Nat) : Option Int :=
 match o with
 | none => some d
 | some x => (Nk (ev s x)).map (·.2)
def o4 (P : Program) (s : S) (T : TypeId) (x : AV) (lo hi : Option Operand) : Option (Bool × AV) :=
 match x with
 | .lit (.string b) =>
  match P.underlying T, fD s lo 0, fD s hi b.size with
  | some .string, some l, some h => some (decide (0 ≤ l) && decide (l ≤ h) && decide (h ≤ b.size), .lit (.string (b.extract l.toNat h.toNat)))
  | _, _, _ => none
 | .ae E l0 =>
  match P.underlying T, fD s lo 0, fD s hi l0.length with
  | some (.slice E'), some l, some h =>
   if E = E' ∧ (P.underlying E).isSome = true then some (decide (0 ≤ l) && decide (l ≤ h) && decide (h ≤ l0.length), .ae E ((l0.take h.toNat).drop l.toNat)) else none
  | _, _, _ => none
 | .a7 i lo0 n =>
  match P.underlying T, iE (aD s.st i), fD s lo 0, fD s hi n with
  | some (.slice E'), some (E, _), some l, some h =>
   if E = E' ∧ (P.underlying E).isSome = true then some (decide (0 ≤ l) && decide (l ≤ h) && decide (h ≤ n), .a7 i (lo0 + l.toNat) (h - l).toNat) else none
  | _, _, _, _ => none
 | _ => none
def gZ (P : Program) (s : S) (T : TypeId) (x i : AV) : Option (Bool × AV) :=
 match P.underlying T, Nk i with
 | some (.slice E), some (_, n) =>
  match x with
  | .ae E' l => if E = E' ∧ (P.underlying E).isSome = true then some (decide (0 ≤ n) && decide (n < l.length), .jH E (nth l n.toNat)) else none
  | .a7 j lo len =>
   match iE (aD s.st j) with
   | some (E', _) => if E = E' ∧ (P.underlying E).isSome = true then some (decide (0 ≤ n) && decide (n < len), .ptr j (lo + n.toNat) [] 0) else none
   | none => none
  | _ => none
 | _, _ => none
def fieldsOf (P : Program) (T : TypeId) : List Field :=
 match P.underlying T with
 | some (.struct fs) => fs.toList
 | _ => []
def pw : List Field → Nat → Option Field
 | [], _ => none
 | f :: _, 0 => some f
 | _ :: l, n + 1 => pw l n
def pP (st : List Obj) (i : Nat) : Bool :=
 match aD st i with
 | .box _ _ | .row _ _ | .ow _ _ => true
 | _ => false
def iI (P : Program) (st : List Obj) (T : TypeId) (x : AV) (f : Nat) : Option (Bool × AV) :=
 match pw (fieldsOf P T) f with
 | none => none
 | some fd =>
  if P.cellsOf fd.type = 0 then none else
  match x with
  | .ptr i k path off => if pP st i then some (true, .ptr i k (path ++ [f]) (off + fd.offset)) else none
  | .jH T0 a =>
   match expand P cj T0 a with
   | .agg l =>
    if T0 = T && decide (f < l.length) && iz l f == fd.offset then some (true, .jH fd.type (nth l f)) else none
   | _ => none
  | _ => none
def CB (P : Program) (T : TypeId) (x : AV) (f : Nat) : Option (Bool × AV) :=
 match pw (fieldsOf P T) f, x with
 | some fd, .agg l =>
  if decide (f < l.length) && iz l f == fd.offset && wid (nth l f) == P.cellsOf fd.type && kb P fd.type == bP (nth l f) && (P.underlying fd.type).isSome && cH (nth l f) then some (true, nth l f) else none
 | _, _ => none
def lS (P : Program) (s : S) (T : TypeId) (m k : AV) (ok : Bool) : Option (Bool × AV) :=
 match P.underlying T, k with
 | some (.map K V), .lit kv =>
  match plainKey P K kv, iC P V, m with
  | true, some z, .mp i =>
   match aD s.st i with
   | .map K' V' es =>
    if K = K' ∧ V = V' then
     let v := expand P cj V (eg es kv z)
     some (true, if ok then .bR [v, .lit (.bool (sL es kv))] else v)
    else none
   | _ => none
  | true, some z, .lit (.map none) => some (true, if ok then .bR [z, .lit (.bool false)] else z)
  | _, _, _ => none
 | _, _ => none
def vQ (P : Program) (T : TypeId) (l : List AV) : List (Nat × AV) → Option AV
 | [] => some (.agg l)
 | (i, x) :: ps =>
  match pw (fieldsOf P T) i with
  | none => none
  | some fd =>
   if cH x && decide (i < l.length) && iz l i == fd.offset && wid x == P.cellsOf fd.type && wid (nth l i) == P.cellsOf fd.type then
    vQ P T (cC l i x) ps
   else none
def eY (s : S) : List (Nat × Operand) → List (Nat × AV)
 | [] => []
 | (i, x) :: l => (i, ev s x) :: eY s l
def oR (s : S) : List Operand → List AV
 | [] => []
 | x :: l => ev s x :: oR s l
def fq (st : List Obj) : List AV → Option (List AV)
 | [] => some []
 | a :: l =>
  match b7 st a, fq st l with
  | some b, some m => some (b :: m)
  | _, _ => none
def H3 (P : Pg) (T : TypeId) : AV → Option Value
 | .lit (.pointer (some ⟨g, 0, none⟩)) =>
  (match P.kept g with
   | some (.cells cs _ _) => (match cs.toList with | [v] => if ba v && !(kb P T) && (P.underlying T).isSome then some v else none | _ => none)
   | _ => none)
 | _ => none
def aC : Value → Bool
 | .nilIface => true
 | .iface _ _ => true
 | _ => false
def bF : Value → Bool
 | .nilIface => true
 | _ => false
def HJ : AV → Option (Bool × Bool)
 | .lit u => some (aC u, bF u)
 | .jb _ _ => some (true, false)
 | _ => none
def Mz (P : Program) (op : BinOp) (T : TypeId) (y : Operand) (a : AV) : Option (Bool × AV) :=
 match y with
 | .const .nilIface =>
  (match P.underlying T, HJ a with
   | some (.interface _), some (c, b) =>
    (match op with
    | .eql => some (c, .lit (.bool b))
    | .neq => some (c, .lit (.bool (!b)))
    | _ => none)
   | _, _ => none)
 | _ => none
def Bm (P : Program) (T : TypeId) (a : AV) : Option (Bool × AV) :=
 match P.underlying T with
 | none => none
 | some (.interface _) => none
 | some _ =>
  (match a with
   | .lit v => some (true, .lit (.iface T v))
   | .cw => none
   | a => some (true, .jb T a))
def LM (P : Program) (S T : TypeId) (a : AV) : Option (Bool × AV) :=
 match P.underlying S, P.underlying T, a with
 | some _, some (.int k), .lit (.int _ n) => some (true, .lit (.int k (k.wrap n)))
 | _, _, _ => none
def DV (P : Program) (T : TypeId) (a : AV) : AV :=
 match P.underlying T with
 | some (.struct _) => (match a with | .agg _ => (match BL P a T with | true => expand P cj T a | false => a) | a => a)
 | some (.slice _) => (match a with | .lit (.slice none 0 0) => (match BL P a T with | true => expand P cj T a | false => a) | a => a)
 | _ => a
def uf (P : Program) : List TypeId → List AV → List AV
 | T :: Ts, a :: l => DV P T a :: uf P Ts l
 | _, l => l
def qe (P : Program) (f : FuncId) : List TypeId :=
 match P.funcs[f]? with
 | some fn => fn.params.toList
 | none => []
def iM (s : ByteArray) (k : Nat) : Nat :=
 match s[k]? with
 | some b => b.toNat
 | none => 0
def De (P : Program) (T : TypeId) (x i : AV) : Option (Bool × AV) :=
 match P.underlying T, x, Nk i with
 | some .string, .lit (.string s), some (_, n) => some (decide (0 ≤ n) && decide (n < s.size), .lit (.int .u8 (iM s n.toNat)))
 | _, _, _ => none
def bO (E : Env) (s : S) (o : Op) : Option (Bool × AV) :=
 match o with
 | .move x => some (true, ev s x)
 | .assign x => some (true, ev s x)
 | .load T x => (match H3 E.P T (ev s x) with | some v => some (true, .lit v) | none => nt E.P s.st T (ev s x))
 | .makeInterface T x => Bm E.P T (ev s x)
 | .convert S T x => LM E.P S T (ev s x)
 | .nilCheck x =>
  (match ev s x with
   | .ptr i k p off => if pP s.st i then some (true, .ptr i k p off) else none
   | .jH T a => some (true, .jH T a)
   | .dq f caps => some (true, .dq f caps)
   | _ => none)
 | .binOp op T x y _ => (match Mz E.P op T y (ev s x) with | some r => some r | none => (match Ib E.P op T (ev s x) (ev s y) with | some r => some r | none => M4 op (ev s x) (ev s y)))
 | .unOp op _ x =>
  (match op, ev s x with
   | .not, .lit (.bool b) => some (true, .lit (.bool (!b)))
   | .neg, .lit (.int k n) => some (true, .lit (.int k (k.wrap (0 - n))))
   | _, _ => none)
 | .slice T x lo hi none => o4 E.P s T (ev s x) lo hi
 | .fieldAddr T x f => iI E.P s.st T (ev s x) f
 | .field T x f => CB E.P T (ev s x) f
 | .indexAddr T x i => gZ E.P s T (ev s x) (ev s i)
 | .index T x i => De E.P T (ev s x) (ev s i)
 | .lookup T m k ok => lS E.P s T (ev s m) (ev s k) ok
 | .extract x i => (match ev s x with | .bR l => if i < l.length then some (true, nth l i) else none | _ => none)
 | .makeFunc (.func f) first caps => if first.size = 0 then some (true, .dq f (oR s caps.toList)) else none
 | .build T parts =>
  (match iC E.P T with
   | some (.agg l) => (match vQ E.P T l (eY s parts.toList) with | some a => some (true, a) | none => none)
   | _ => none)
 | .call { callee := .builtin .len, args, argTypes } =>
  (match oR s args.toList, argTypes.toList with
   | [a], T :: _ => (match yn E.P s.st T a with | some x => some (true, x) | none => none)
   | _, _ => none)
 | .call { callee := .builtin .min, args, .. } =>
  (match oR s args.toList with
   | [.lit (.int k x), .lit (.int k' y)] => if k = k' then some (true, .lit (.int k (if y < x then y else x))) else none
   | _ => none)
 | .call { callee := .builtin .max, args, .. } =>
  (match oR s args.toList with
   | [.lit (.int k x), .lit (.int k' y)] => if k = k' then some (true, .lit (.int k (if y > x then y else x))) else none
   | _ => none)
 | .call { callee := .value (.func f), args, .. } =>
  (match fq s.st (oR s args.toList) with
   | some as => E.jE f (uf E.P (qe E.P f) as)
   | none => none)
 | _ => none
end Go.Dn
