import Derived.Test.YtdpmikfheebicaaGreatDoorDnA
namespace Go.Dn
open Go
structure S where
 a5 : List AV
 st : List Obj
structure Env where
 P : Pg
 call : FuncId → List AV → List Obj → (AV → List Obj → Prop) → Prop
 gD : FuncId → List AV → Option (Bool × AV)
 loop : FuncId → Nat → Code → Option Nat → Nat → S → (Exit → S → Prop) → Prop
 lb : FuncId → Nat → FuncId → List AV → List Obj → (List Obj → Prop) → Prop
 gen : FuncId → Bool
 inl : FuncId → Bool
 live : FuncId → Nat → List (Nat × Option TypeId)
 own : FuncId → Bool
 quiet : FuncId → Bool
 fresh : FuncId → Bool := fun _ => false
 calm : FuncId → Bool := fun _ => false
def ev (s : S) : Operand → AV
 | .tmp t => nth s.a5 t
 | .const v => if aZ v then .lit v else .b7
 | .global g => .lit (.pointer (some ⟨g, 0, none⟩))
 | .func f => .bL f []
def put (s : S) (dst : Option Tmp) (a : AV) : S :=
 match dst with
 | none => s
 | some d => { s with a5 := cf s.a5 d a }
def bg (b : Bool) (p : Prop) : Prop :=
 match b with
 | true => p
 | false => False
theorem ax {b : Bool} {p : Prop} : bg b p ↔ b = true ∧ p := by
 cases b <;> simp [bg]
theorem cH {b : Bool} {p q : Prop} (h : p → q) (hc : bg b p) : bg b q := by
 cases b
 ·exact hc
 ·exact h hc
def aD (b : Bool) (p q : Prop) : Prop :=
 match b with
 | true => p
 | false => q
def nf (st : List Obj) : AV → Option (Option TypeId × List AV)
 | .lit (.slice none 0 0) => some (none, [])
 | .ae T l => some (some T, l)
 | .aB i lo n =>
  match fP (ar st i) with
  | some (T, xs) => some (some T, (xs.drop lo).take n)
  | none => (match ar st i, lo with | .rows _ E ls _, k + 1 => some (some E, ((bw ls k).take n).map .lit) | _, _ => none)
 | _ => none
mutual
def bO (st : List Obj) : AV → Option AV
 | .lit v => some (.lit v)
 | .ae T l => some (.ae T l)
 | .aB i lo n =>
  match fP (ar st i) with
  | some (T, xs) => some (.ae T ((xs.drop lo).take n))
  | none => none
 | .agg l => (jO st l).map .agg
 | .iz T a => some (.iz T a)
 | .gO T a => (bO st a).map (.gO T ·)
 | .bL f [] => some (.bL f [])
 | .iq K V ks vs => some (.iq K V ks vs)
 | .mp i => (match ar st i with | .map K V es => some (.iq K V (es.map (·.1)) (es.map (·.2))) | _ => none)
 | _ => none
def jO (st : List Obj) : List AV → Option (List AV)
 | [] => some []
 | a :: l =>
  match bO st a, jO st l with
  | some b, some m => some (b :: m)
  | _, _ => none
end
mutual
def rowsOf : AV → List Nat
 | .aB i _ _ => [i]
 | .mp i => [i]
 | .agg l => o6 l
 | .gO _ a => rowsOf a
 | _ => []
def o6 : List AV → List Nat
 | [] => []
 | a :: l => rowsOf a ++ o6 l
end
def ic : Obj → Obj
 | .row T xs => .lG T xs
 | .map _ _ _ => .dead
 | o => o
def cI (st : List Obj) : List Nat → List Obj
 | [] => st
 | i :: l => cI (cP st i (ic (ar st i))) l
mutual
def yh (P : Program) : AV → TypeId → Bool
 | .lit v, T =>
  match P.underlying T with
  | some (.int k) => (match v with | .int k' _ => k == k' | _ => false)
  | some .bool => (match v with | .bool _ => true | _ => false)
  | some .string => (match v with | .string _ => true | _ => false)
  | some (.slice _) => (match v with | .slice none 0 0 => true | _ => false)
  | some (.map _ _) => (match v with | .map none => true | _ => false)
  | some (.struct _) => false
  | some (.array _ _) => false
  | some _ => true
  | none => false
 | .ae E _, T => (match P.underlying T with | some (.slice E') => E == E' | _ => false)
 | .agg l, T => (match P.underlying T with | some (.struct fs) => Nat.blt T P.types.size && EC P l fs.toList | _ => false)
 | .iq K V _ _, T => (match P.underlying T with | some (.map K' V') => K == K' && V == V' | _ => false)
 | _, _ => false
def EC (P : Program) : List AV → List Field → Bool
 | [], [] => true
 | a :: l, f :: fs => yh P a f.type && EC P l fs
 | _, _ => false
end
def iv (P : Program) (T : TypeId) : Bool :=
 match P.underlying T with
 | some (.struct _) => true
 | some (.array _ _) => true
 | _ => false
def ly (P : Program) : Nat → TypeId → List Value → Option (AV × List Value)
 | 0, _, _ => none
 | d + 1, T, cs =>
  match P.underlying T with
  | some (.struct fs) => (match zfields (ly P d) fs.toList cs with | some (l, r) => some (.agg l, r) | none => none)
  | some (.array _ _) => none
  | some _ => (match cs with | v :: r => if aZ v then some (.lit v, r) else none | [] => none)
  | none => none
where
 zfields (g : TypeId → List Value → Option (AV × List Value)) : List Field → List Value → Option (List AV × List Value)
  | [], cs => some ([], cs)
  | f :: fs, cs =>
   match g f.type cs with
   | some (a, r) => (match zfields g fs r with | some (l, r') => some (a :: l, r') | none => none)
   | none => none
def bM : Nat := 6
def fG (P : Program) (T : TypeId) : Option AV :=
 match P.info? T with
 | some i =>
  match i.zero with
  | some (.agg cs) =>
   (match ly P bM T cs.toList with
    | some (.agg l, []) => if iv P T && yh P (.agg l) T then some (.agg l) else none
    | _ => none)
  | some v => if iv P T || !aZ v || !yh P (.lit v) T then none else some (.lit v)
  | none => none
 | none => none
mutual
def ck : AV → Bool
 | .b7 => false
 | .bj _ => false
 | .agg l => du l
 | .lit v => aZ v
 | _ => true
def du : List AV → Bool
 | [] => true
 | a :: l => ck a && du l
end
mutual
def nT : AV → Bool
 | .b7 => false
 | .bj _ => false
 | .agg l => rr l
 | _ => true
def rr : List AV → Bool
 | [] => true
 | a :: l => nT a && rr l
end
mutual
theorem o3 {C : Ctx} : ∀ (a : AV) (s : Src) (o : Nat), nT a = true → M C a s o → ck a = true
 | .lit v, s, o, _, h => by simp only [M] at h; simp only [ck]; exact h.2
 | .agg l, s, o, h, hm => by
  simp only [nT] at h
  simp only [M] at hm
  simp only [ck]
  exact uT l s o h hm
 | .b7, _, _, h, _ | .bj _, _, _, h, _ => by simp [nT] at h
 | .ae _ _, _, _, _, _ | .aB _ _ _, _, _, _, _ | .ptr _ _ _ _, _, _, _, _ | .iz _ _, _, _, _, _ | .mp _, _, _, _, _ | .ct _, _, _, _, _ | .jk _ _, _, _, _, _ | .bL _ _, _, _, _, _ | .gO _ _, _, _, _, _ | .iq _ _ _ _, _, _, _, _ => by simp [ck]
theorem uT {C : Ctx} : ∀ (l : List AV) (s : Src) (o : Nat), rr l = true → ML C l s o → du l = true
 | [], _, _, _, _ => by simp [du]
 | a :: l, s, o, h, hm => by
  simp only [rr, aa1] at h
  simp only [ML] at hm
  simp only [du, aa1]
  exact ⟨o3 a s o h.1 hm.1, uT l s _ h.2 hm.2⟩
end
def ov : AV → List Nat → AV
 | a, [] => a
 | a, j :: p => ov (ad a j) p
def ia : AV → List Nat → AV → AV
 | _, [], x => x
 | .agg l, j :: p, x => .agg (cf l j (ia (nth l j) p x))
 | a, _ :: _, _ => a
def gM : List AV → Nat → Nat
 | [], _ => 0
 | _, 0 => 0
 | a :: l, j + 1 => wid a + gM l j
def gK : AV → List Nat → Nat
 | _, [] => 0
 | .agg l, j :: p => gM l j + gK (nth l j) p
 | _, _ :: _ => 0
def pB : AV → List Nat → Bool
 | _, [] => true
 | .agg l, j :: p => decide (j < l.length) && pB (nth l j) p
 | _, _ :: _ => false
def KG : AV → Option (IntKind × Int)
 | .lit (.int k n) => some (k, n)
 | _ => none
def mr (P : Program) (st : List Obj) (T : TypeId) : AV → Option (Bool × AV)
 | .ptr i k path off =>
  match ar st i with
  | .box _ a =>
   let y := ov a path
   if pB a path && gK a path == off && iv P T == bE y && wid y == P.cellsOf T && (P.underlying T).isSome then some (true, y) else none
  | .rows T0 _ ls none => (match path, off with | [], 0 => if iv P T == false && P.cellsOf T == 1 && T == T0 && (P.underlying T).isSome then some (true, .aB i (Nat.succ k) (bw ls k).length) else none | _, _ => none)
  | o =>
   match fP o with
   | some (T0, xs) =>
    let a := expand P bM T0 (nth xs k)
    let y := ov a path
    if pB a path && gK a path == off && iv P T == bE y && wid y == P.cellsOf T && (P.underlying T).isSome then some (true, y) else none
   | none => none
 | .iz T0 a =>
  let y := expand P bM T0 a
  if iv P T == bE y && wid y == P.cellsOf T && (P.underlying T).isSome then some (true, y) else none
 | _ => none
def oA (es : List (Value × AV)) (k : Value) : Bool :=
 match es with
 | [] => false
 | (k', _) :: es => cv k k' || oA es k
def cF (es : List (Value × AV)) (k : Value) (z : AV) : AV :=
 match es with
 | [] => z
 | (k', a) :: es => bif cv k k' then a else cF es k z
def dU (es : List (Value × AV)) (k : Value) (a : AV) : List (Value × AV) :=
 match es with
 | [] => [(k, a)]
 | (k', a') :: es => bif cv k k' then (k, a) :: es else (k', a') :: dU es k a
def LJ (op : BinOp) (a b : AV) : Option (Bool × AV) :=
 match a, b with
 | .lit (.int k x), .lit (.int k' y) =>
  if k = k' then
   match op with
   | .add => some (true, .lit (.int k (k.wrap (x + y))))
   | .sub => some (true, .lit (.int k (k.wrap (x - y))))
   | .mul => some (true, .lit (.int k (k.wrap (x * y))))
   | .quo => some (y != 0, .lit (.int k (k.wrap (x.tdiv y))))
   | .rem => some (y != 0, .lit (.int k (x.tmod y)))
   | .eql => some (true, .lit (.bool (x == y)))
   | .neq => some (true, .lit (.bool (x != y)))
   | .lss => some (true, .lit (.bool (decide (x < y))))
   | .leq => some (true, .lit (.bool (decide (x ≤ y))))
   | .gtr => some (true, .lit (.bool (decide (x > y))))
   | .geq => some (true, .lit (.bool (decide (x ≥ y))))
   | .shl => some (decide (0 ≤ y), .lit (.int k (k.wrap (x * 2 ^ (min y.toNat k.bits)))))
   | .shr => some (decide (0 ≤ y), .lit (.int k (x.fdiv (2 ^ (min y.toNat k.bits)))))
   | .and => some (true, .lit (.int k (k.wrap (BitVec.ofInt k.bits x &&& BitVec.ofInt k.bits y).toNat)))
   | .or => some (true, .lit (.int k (k.wrap (BitVec.ofInt k.bits x ||| BitVec.ofInt k.bits y).toNat)))
   | _ => none
  else none
 | .lit (.string x), .lit (.string y) =>
  match op with
  | .add => some (decide (((x.size + y.size : Nat) : Int) ≤ IntKind.i64.max), .lit (.string (x ++ y)))
  | .eql => some (true, .lit (.bool (x.toList == y.toList)))
  | .neq => some (true, .lit (.bool !(x.toList == y.toList)))
  | .lss => some (true, .lit (.bool (Op.bytesLess x.toList y.toList)))
  | _ => none
 | _, _ => none
def HX (P : Program) (op : BinOp) (T : TypeId) (a b : AV) : Option (Bool × AV) :=
 match a, b with
 | .lit (.bool x), .lit (.bool y) =>
  (match P.underlying T with
   | some .bool =>
    (match op with
    | .eql => some (true, .lit (.bool (x == y)))
    | .neq => some (true, .lit (.bool (!(x == y))))
    | _ => none)
   | _ => none)
 | _, _ => none
def JY : Obj → Bool
 | .row _ _ | .lG _ _ | .rows _ _ _ _ => true
 | _ => false
def xP (P : Program) (st : List Obj) (T : TypeId) (a : AV) : Option AV :=
 match P.underlying T, a with
 | some .string, .lit (.string s) => some (.lit (.int .i64 s.size))
 | some (.map _ _), .lit (.map none) => some (.lit (.int .i64 0))
 | some (.map _ _), .mp i => (match ar st i with | .map _ _ es => some (.lit (.int .i64 es.length)) | _ => none)
 | some (.slice _), .lit (.slice none 0 0) => some (.lit (.int .i64 0))
 | some (.slice _), .aB i _ n => (match JY (ar st i) with | true => some (.lit (.int .i64 n)) | false => none)
 | some (.map _ _), .iq _ _ ks _ => some (.lit (.int .i64 ks.length))
 | some (.slice _), .ae _ l => some (.lit (.int .i64 l.length))
 | _, _ => none
def eH (s : S) (o : Option Operand) (d : Nat) : Option Int :=
 match o with
 | none => some d
 | some x => (KG (ev s x)).map (·.2)
def oe (P : Program) (s : S) (T : TypeId) (x : AV) (lo hi : Option Operand) : Option (Bool × AV) :=
 match x with
 | .lit (.string b) =>
  match P.underlying T, eH s lo 0, eH s hi b.size with
  | some .string, some l, some h => some (decide (0 ≤ l) && decide (l ≤ h) && decide (h ≤ b.size), .lit (.string (b.extract l.toNat h.toNat)))
  | _, _, _ => none
 | .ae E l0 =>
  match P.underlying T, eH s lo 0, eH s hi l0.length with
  | some (.slice E'), some l, some h =>
   if E = E' ∧ (P.underlying E).isSome = true then some (decide (0 ≤ l) && decide (l ≤ h) && decide (h ≤ l0.length), .ae E ((l0.take h.toNat).drop l.toNat)) else none
  | _, _, _ => none
 | .aB i lo0 n =>
  match P.underlying T, fP (ar s.st i), eH s lo 0, eH s hi n with
  | some (.slice E'), some (E, _), some l, some h =>
   if E = E' ∧ (P.underlying E).isSome = true then some (decide (0 ≤ l) && decide (l ≤ h) && decide (h ≤ n), .aB i (lo0 + l.toNat) (h - l).toNat) else none
  | _, _, _, _ => none
 | _ => none
def uh (s : S) : Option Operand → Option Int
 | none => none
 | some x => (KG (ev s x)).map (·.2)
def lz (P : Program) (s : S) (T : TypeId) (x : AV) (lo hi : Option Operand) (m : Operand) : Option (Bool × AV) :=
 match x, lo with
 | .aB i 0 n, none =>
  match P.underlying T, fP (ar s.st i), uh s hi, uh s (some m) with
  | some (.slice E'), some (E, _), some h, some mx =>
   if E = E' ∧ (P.underlying E).isSome = true then some (decide (0 ≤ h) && decide (h ≤ mx) && decide (mx ≤ n), .aB i 0 h.toNat) else none
  | _, _, _, _ => none
 | _, _ => none
def fp (P : Program) (s : S) (T : TypeId) (x i : AV) : Option (Bool × AV) :=
 match P.underlying T, KG i with
 | some (.slice E), some (_, n) =>
  match x with
  | .ae E' l => if E = E' ∧ (P.underlying E).isSome = true then some (decide (0 ≤ n) && decide (n < l.length), .iz E (nth l n.toNat)) else none
  | .aB j lo len =>
   match fP (ar s.st j) with
   | some (E', _) => if E = E' ∧ (P.underlying E).isSome = true then some (decide (0 ≤ n) && decide (n < len), .ptr j (lo + n.toNat) [] 0) else none
   | none =>
    match ar s.st j, lo with
    | .rows E' _ _ _, 0 => if E = E' ∧ (P.underlying E).isSome = true ∧ P.cellsOf E = 1 then some (decide (0 ≤ n) && decide (n < len), .ptr j n.toNat [] 0) else none
    | _, _ => none
  | _ => none
 | _, _ => none
def fieldsOf (P : Program) (T : TypeId) : List Field :=
 match P.underlying T with
 | some (.struct fs) => fs.toList
 | _ => []
def od : List Field → Nat → Option Field
 | [], _ => none
 | f :: _, 0 => some f
 | _ :: l, n + 1 => od l n
def kF (st : List Obj) (i : Nat) : Bool :=
 match ar st i with
 | .box _ _ | .row _ _ | .lG _ _ => true
 | _ => false
def ga (P : Program) (st : List Obj) (T : TypeId) (x : AV) (f : Nat) : Option (Bool × AV) :=
 match od (fieldsOf P T) f with
 | none => none
 | some fd =>
  if P.cellsOf fd.type = 0 then none else
  match x with
  | .ptr i k path off => if kF st i then some (true, .ptr i k (path ++ [f]) (off + fd.offset)) else none
  | .iz T0 a =>
   match expand P bM T0 a with
   | .agg l =>
    if T0 = T && decide (f < l.length) && gM l f == fd.offset then some (true, .iz fd.type (nth l f)) else none
   | _ => none
  | _ => none
def Bq (P : Program) (T : TypeId) (x : AV) (f : Nat) : Option (Bool × AV) :=
 match od (fieldsOf P T) f, x with
 | some fd, .agg l =>
  if decide (f < l.length) && gM l f == fd.offset && wid (nth l f) == P.cellsOf fd.type && iv P fd.type == bE (nth l f) && (P.underlying fd.type).isSome && ck (nth l f) then some (true, nth l f) else none
 | _, _ => none
def kZ (P : Program) (s : S) (T : TypeId) (m k : AV) (ok : Bool) : Option (Bool × AV) :=
 match P.underlying T, k with
 | some (.map K V), .lit kv =>
  match plainKey P K kv, fG P V, m with
  | true, some z, .mp i =>
   match ar s.st i with
   | .map K' V' es =>
    if K = K' ∧ V = V' then
     let v := expand P bM V (cF es kv z)
     some (true, if ok then .bj [v, .lit (.bool (oA es kv))] else v)
    else none
   | _ => none
  | true, some z, .iq K' V' ks vs =>
   if K = K' ∧ V = V' then
    let v := expand P bM V (cF (ks.zip vs) kv z)
    some (true, if ok then .bj [v, .lit (.bool (oA (ks.zip vs) kv))] else v)
   else none
  | true, some z, .lit (.map none) => some (true, if ok then .bj [z, .lit (.bool false)] else z)
  | _, _, _ => none
 | _, _ => none
def tD (P : Program) (T : TypeId) (l : List AV) : List (Nat × AV) → Option AV
 | [] => some (.agg l)
 | (i, x) :: ps =>
  match od (fieldsOf P T) i with
  | none => none
  | some fd =>
   if ck x && decide (i < l.length) && gM l i == fd.offset && wid x == P.cellsOf fd.type && wid (nth l i) == P.cellsOf fd.type then
    tD P T (cf l i x) ps
   else none
def ej (s : S) : List (Nat × Operand) → List (Nat × AV)
 | [] => []
 | (i, x) :: l => (i, ev s x) :: ej s l
def lH (s : S) : List Operand → List AV
 | [] => []
 | x :: l => ev s x :: lH s l
def oO (st : List Obj) (a : AV) : Option AV :=
 match a with
 | .aB i (k + 1) m => (match ar st i with | .rows _ E ls _ => some (.ae E (((bw ls k).take m).map .lit)) | _ => bO st a)
 | _ => bO st a
def er (st : List Obj) : List AV → Option (List AV)
 | [] => some []
 | a :: l =>
  match oO st a, er st l with
  | some b, some m => some (b :: m)
  | _, _ => none
def H6 (P : Pg) (T : TypeId) : AV → Option Value
 | .lit (.pointer (some ⟨g, 0, none⟩)) =>
  (match P.kept g with
   | some (.cells cs _ _) => (match cs.toList with | [v] => if aZ v && !(iv P T) && (P.underlying T).isSome then some v else none | _ => none)
   | _ => none)
 | _ => none
def az : Value → Bool
 | .nilIface => true
 | .iface _ _ => true
 | _ => false
def bz : Value → Bool
 | .nilIface => true
 | _ => false
def GG : AV → Option (Bool × Bool)
 | .lit u => some (az u, bz u)
 | .gO _ _ => some (true, false)
 | _ => none
def Mw (P : Program) (op : BinOp) (T : TypeId) (y : Operand) (a : AV) : Option (Bool × AV) :=
 match y with
 | .const .nilIface =>
  (match P.underlying T, GG a with
   | some (.interface _), some (c, b) =>
    (match op with
    | .eql => some (c, .lit (.bool b))
    | .neq => some (c, .lit (.bool (!b)))
    | _ => none)
   | _, _ => none)
 | _ => none
def yD (P : Program) (T : TypeId) (a : AV) : Option (Bool × AV) :=
 match P.underlying T with
 | none => none
 | some (.interface _) => none
 | some _ =>
  (match a with
   | .lit v => some (true, .lit (.iface T v))
   | .b7 => none
   | a => some (true, .gO T a))
def KN (P : Program) (S T : TypeId) (a : AV) : Option (Bool × AV) :=
 match P.underlying S, P.underlying T, a with
 | some _, some (.int k), .lit (.int _ n) => some (true, .lit (.int k (k.wrap n)))
 | _, _, _ => none
def Dd (P : Program) (T : TypeId) (a : AV) : AV :=
 match P.underlying T with
 | some (.struct _) => (match a with | .agg _ => (match yh P a T with | true => expand P bM T a | false => a) | a => a)
 | some (.slice _) => (match a with | .lit (.slice none 0 0) => (match yh P a T with | true => expand P bM T a | false => a) | a => a)
 | _ => a
def sa (P : Program) : List TypeId → List AV → List AV
 | T :: Ts, a :: l => Dd P T a :: sa P Ts l
 | _, l => l
def oJ (P : Program) (f : FuncId) : List TypeId :=
 match P.funcs[f]? with
 | some fn => fn.params.toList
 | none => []
def AS (s : ByteArray) (k : Nat) : Nat :=
 match s[k]? with
 | some b => b.toNat
 | none => 0
def BK (P : Program) (T : TypeId) (x i : AV) : Option (Bool × AV) :=
 match P.underlying T, x, KG i with
 | some .string, .lit (.string s), some (_, n) => some (decide (0 ≤ n) && decide (n < s.size), .lit (.int .u8 (AS s n.toNat)))
 | _, _, _ => none
def bx (E : Env) (s : S) (o : Op) : Option (Bool × AV) :=
 match o with
 | .move x => some (true, ev s x)
 | .assign x => some (true, ev s x)
 | .load T x => (match H6 E.P T (ev s x) with | some v => some (true, .lit v) | none => mr E.P s.st T (ev s x))
 | .makeInterface T x => yD E.P T (ev s x)
 | .convert S T x => KN E.P S T (ev s x)
 | .nilCheck x =>
  (match ev s x with
   | .ptr i k p off => if kF s.st i then some (true, .ptr i k p off) else none
   | .iz T a => some (true, .iz T a)
   | .bL f caps => some (true, .bL f caps)
   | _ => none)
 | .binOp op T x y _ => (match Mw E.P op T y (ev s x) with | some r => some r | none => (match HX E.P op T (ev s x) (ev s y) with | some r => some r | none => LJ op (ev s x) (ev s y)))
 | .unOp op _ x =>
  (match op, ev s x with
   | .not, .lit (.bool b) => some (true, .lit (.bool (!b)))
   | .neg, .lit (.int k n) => some (true, .lit (.int k (k.wrap (0 - n))))
   | _, _ => none)
 | .slice T x lo hi none => oe E.P s T (ev s x) lo hi
 | .slice T x lo hi (some m) => lz E.P s T (ev s x) lo hi m
 | .fieldAddr T x f => ga E.P s.st T (ev s x) f
 | .field T x f => Bq E.P T (ev s x) f
 | .indexAddr T x i => fp E.P s T (ev s x) (ev s i)
 | .index T x i => BK E.P T (ev s x) (ev s i)
 | .lookup T m k ok => kZ E.P s T (ev s m) (ev s k) ok
 | .extract x i => (match ev s x with | .bj l => if i < l.length then some (true, nth l i) else none | _ => none)
 | .makeFunc (.func f) first caps => if first.size = 0 then some (true, .bL f (lH s caps.toList)) else none
 | .build T parts =>
  (match fG E.P T with
   | some (.agg l) => (match tD E.P T l (ej s parts.toList) with | some a => some (true, a) | none => none)
   | _ => none)
 | .call { callee := .builtin .len, args, argTypes } =>
  (match lH s args.toList, argTypes.toList with
   | [a], T :: _ => (match xP E.P s.st T a with | some x => some (true, x) | none => none)
   | _, _ => none)
 | .call { callee := .builtin .min, args, .. } =>
  (match lH s args.toList with
   | [.lit (.int k x), .lit (.int k' y)] => if k = k' then some (true, .lit (.int k (if y < x then y else x))) else none
   | _ => none)
 | .call { callee := .builtin .max, args, .. } =>
  (match lH s args.toList with
   | [.lit (.int k x), .lit (.int k' y)] => if k = k' then some (true, .lit (.int k (if y > x then y else x))) else none
   | _ => none)
 | .call { callee := .value (.func f), args, .. } =>
  (match er s.st (lH s args.toList) with
   | some as => E.gD f (sa E.P (oJ E.P f) as)
   | none => none)
 | _ => none
end Go.Dn
