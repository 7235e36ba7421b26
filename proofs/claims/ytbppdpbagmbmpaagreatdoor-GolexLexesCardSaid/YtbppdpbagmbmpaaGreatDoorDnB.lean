import Derived.Test.YtbppdpbagmbmpaaGreatDoorDnA
namespace Go.Dn
open Go
structure S where
  regs : List AV
  st : List Obj
structure Env where
  P : Pg
  call : FuncId → List AV → List Obj → (AV → List Obj → Prop) → Prop
  pcall : FuncId → List AV → Option (Bool × AV)
  loop : FuncId → Nat → Code → Option Nat → Nat → S → (Exit → S → Prop) → Prop
  rng : FuncId → Nat → FuncId → List AV → List Obj → (List Obj → Prop) → Prop
  gen : FuncId → Bool
  inl : FuncId → Bool
  live : FuncId → Nat → List (Nat × Option TypeId)
  own : FuncId → Bool
  quiet : FuncId → Bool
  fresh : FuncId → Bool := fun _ => false
  calm : FuncId → Bool := fun _ => false
def ev (s : S) : Operand → AV
  | .tmp t => nth s.regs t
  | .const v => if oneV v then .lit v else .junk
  | .global g => .lit (.pointer (some ⟨g, 0, none⟩))
  | .func f => .clo f []
def put (s : S) (dst : Option Tmp) (a : AV) : S :=
  match dst with
  | none => s
  | some d => { s with regs := setN s.regs d a }
def cnd (b : Bool) (p : Prop) : Prop :=
  match b with
  | true => p
  | false => False
theorem cnd_iff {b : Bool} {p : Prop} : cnd b p ↔ b = true ∧ p := by
  cases b <;> simp [cnd]
theorem cnd_mono {b : Bool} {p q : Prop} (h : p → q) (hc : cnd b p) : cnd b q := by
  cases b
  · exact hc
  · exact h hc
def brn (b : Bool) (p q : Prop) : Prop :=
  match b with
  | true => p
  | false => q
def sliceOf (st : List Obj) : AV → Option (Option TypeId × List AV)
  | .lit (.slice none 0 0) => some (none, [])
  | .lst T l => some (some T, l)
  | .slc i lo n =>
    match elT (nthO st i) with
    | some (T, xs) => some (some T, (xs.drop lo).take n)
    | none => (match nthO st i, lo with | .rows _ E ls _, k + 1 => some (some E, ((nthL ls k).take n).map .lit) | _, _ => none)
  | _ => none
mutual
def pureA (st : List Obj) : AV → Option AV
  | .lit v => some (.lit v)
  | .lst T l => some (.lst T l)
  | .slc i lo n =>
    match elT (nthO st i) with
    | some (T, xs) => some (.lst T ((xs.drop lo).take n))
    | none => none
  | .agg l => (pureL st l).map .agg
  | .pim T a => some (.pim T a)
  | .ifc T a => (pureA st a).map (.ifc T ·)
  | .clo f [] => some (.clo f [])
  | .fmp K V ks vs => some (.fmp K V ks vs)
  | .mp i => (match nthO st i with | .map K V es => some (.fmp K V (es.map (·.1)) (es.map (·.2))) | _ => none)
  | _ => none
def pureL (st : List Obj) : List AV → Option (List AV)
  | [] => some []
  | a :: l =>
    match pureA st a, pureL st l with
    | some b, some m => some (b :: m)
    | _, _ => none
end
mutual
def rowsOf : AV → List Nat
  | .slc i _ _ => [i]
  | .mp i => [i]
  | .agg l => rowsOfL l
  | .ifc _ a => rowsOf a
  | _ => []
def rowsOfL : List AV → List Nat
  | [] => []
  | a :: l => rowsOf a ++ rowsOfL l
end
def freezeO : Obj → Obj
  | .row T xs => .frz T xs
  | .map _ _ _ => .dead
  | o => o
def freezeSt (st : List Obj) : List Nat → List Obj
  | [] => st
  | i :: l => freezeSt (setO st i (freezeO (nthO st i))) l
mutual
def chk (P : Program) : AV → TypeId → Bool
  | .lit v, T =>
    match P.underlying T with
    | some (.int k) => (match v with | .int k' _ => k == k' | _ => false)
    | some .bool => (match v with | .bool _ => true | _ => false)
    | some .string => (match v with | .string _ => true | _ => false)
    | some (.slice _) => (match v with | .slice none 0 0 => true | _ => false)
    | some (.map _ _) => (match v with | .map none => true | _ => false)
    | some (.struct _) => false
    | some (.array _ _) => false
    | some _ => true
    | none => false
  | .lst E _, T => (match P.underlying T with | some (.slice E') => E == E' | _ => false)
  | .agg l, T => (match P.underlying T with | some (.struct fs) => Nat.blt T P.types.size && chkF P l fs.toList | _ => false)
  | .fmp K V _ _, T => (match P.underlying T with | some (.map K' V') => K == K' && V == V' | _ => false)
  | .pim E _, T => (match P.underlying T with | some (.pointer E') => E == E' | _ => false)
  | .ifc U a, T => (match P.underlying T with | some (.interface _) => chk P a U | _ => false)
  | _, _ => false
def chkF (P : Program) : List AV → List Field → Bool
  | [], [] => true
  | a :: l, f :: fs => chk P a f.type && chkF P l fs
  | _, _ => false
end
def isAggT (P : Program) (T : TypeId) : Bool :=
  match P.underlying T with
  | some (.struct _) => true
  | some (.array _ _) => true
  | _ => false
def zcells (P : Program) : Nat → TypeId → List Value → Option (AV × List Value)
  | 0, _, _ => none
  | d + 1, T, cs =>
    match P.underlying T with
    | some (.struct fs) => (match zfields (zcells P d) fs.toList cs with | some (l, r) => some (.agg l, r) | none => none)
    | some (.array _ _) => none
    | some _ => (match cs with | v :: r => if oneV v then some (.lit v, r) else none | [] => none)
    | none => none
where
  zfields (g : TypeId → List Value → Option (AV × List Value)) : List Field → List Value → Option (List AV × List Value)
    | [], cs => some ([], cs)
    | f :: fs, cs =>
      match g f.type cs with
      | some (a, r) => (match zfields g fs r with | some (l, r') => some (a :: l, r') | none => none)
      | none => none
def depthE : Nat := 6
def zeroA (P : Program) (T : TypeId) : Option AV :=
  match P.info? T with
  | some i =>
    match i.zero with
    | some (.agg cs) =>
      (match zcells P depthE T cs.toList with
       | some (.agg l, []) => if isAggT P T && chk P (.agg l) T then some (.agg l) else none
       | _ => none)
    | some v => if isAggT P T || !oneV v || !chk P (.lit v) T then none else some (.lit v)
    | none => none
  | none => none
mutual
def solid : AV → Bool
  | .junk => false
  | .tup _ => false
  | .agg l => solidL l
  | .lit v => oneV v
  | _ => true
def solidL : List AV → Bool
  | [] => true
  | a :: l => solid a && solidL l
end
mutual
def solidS : AV → Bool
  | .junk => false
  | .tup _ => false
  | .agg l => solidSL l
  | _ => true
def solidSL : List AV → Bool
  | [] => true
  | a :: l => solidS a && solidSL l
end
mutual
theorem solid_of {C : Ctx} : ∀ (a : AV) (s : Src) (o : Nat), solidS a = true → M C a s o → solid a = true
  | .lit v, s, o, _, h => by simp only [M] at h; simp only [solid]; exact h.2
  | .agg l, s, o, h, hm => by
    simp only [solidS] at h
    simp only [M] at hm
    simp only [solid]
    exact solid_ofL l s o h hm
  | .junk, _, _, h, _ | .tup _, _, _, h, _ => by simp [solidS] at h
  | .lst _ _, _, _, _, _ | .slc _ _ _, _, _, _, _ | .ptr _ _ _ _, _, _, _, _ | .pim _ _, _, _, _, _ | .mp _, _, _, _, _ | .yld _, _, _, _, _ | .stp _ _, _, _, _, _ | .clo _ _, _, _, _, _ | .ifc _ _, _, _, _, _ | .fmp _ _ _ _, _, _, _, _ => by simp [solid]
theorem solid_ofL {C : Ctx} : ∀ (l : List AV) (s : Src) (o : Nat), solidSL l = true → ML C l s o → solidL l = true
  | [], _, _, _, _ => by simp [solidL]
  | a :: l, s, o, h, hm => by
    simp only [solidSL, Bool.and_eq_true] at h
    simp only [ML] at hm
    simp only [solidL, Bool.and_eq_true]
    exact ⟨solid_of a s o h.1 hm.1, solid_ofL l s _ h.2 hm.2⟩
end
def atP : AV → List Nat → AV
  | a, [] => a
  | a, j :: p => atP (fld a j) p
def setP : AV → List Nat → AV → AV
  | _, [], x => x
  | .agg l, j :: p, x => .agg (setN l j (setP (nth l j) p x))
  | a, _ :: _, _ => a
def offF : List AV → Nat → Nat
  | [], _ => 0
  | _, 0 => 0
  | a :: l, j + 1 => wid a + offF l j
def offP : AV → List Nat → Nat
  | _, [] => 0
  | .agg l, j :: p => offF l j + offP (nth l j) p
  | _, _ :: _ => 0
def inP : AV → List Nat → Bool
  | _, [] => true
  | .agg l, j :: p => decide (j < l.length) && inP (nth l j) p
  | _, _ :: _ => false
def asI : AV → Option (IntKind × Int)
  | .lit (.int k n) => some (k, n)
  | _ => none
def loadA (P : Program) (st : List Obj) (T : TypeId) : AV → Option (Bool × AV)
  | .ptr i k path off =>
    match nthO st i with
    | .box _ a =>
      let y := atP a path
      if inP a path && offP a path == off && isAggT P T == isAggA y && wid y == P.cellsOf T && (P.underlying T).isSome then some (true, y) else none
    | .rows T0 _ ls none => (match path, off with | [], 0 => if isAggT P T == false && P.cellsOf T == 1 && T == T0 && (P.underlying T).isSome then some (true, .slc i (Nat.succ k) (nthL ls k).length) else none | _, _ => none)
    | o =>
      match elT o with
      | some (T0, xs) =>
        let a := expand P depthE T0 (nth xs k)
        let y := atP a path
        if inP a path && offP a path == off && isAggT P T == isAggA y && wid y == P.cellsOf T && (P.underlying T).isSome then some (true, y) else none
      | none => none
  | .pim T0 a =>
    let y := expand P depthE T0 a
    if isAggT P T == isAggA y && wid y == P.cellsOf T && (P.underlying T).isSome then some (true, y) else none
  | _ => none
def hasK (es : List (Value × AV)) (k : Value) : Bool :=
  match es with
  | [] => false
  | (k', _) :: es => keyEq k k' || hasK es k
def getK (es : List (Value × AV)) (k : Value) (z : AV) : AV :=
  match es with
  | [] => z
  | (k', a) :: es => bif keyEq k k' then a else getK es k z
def updK (es : List (Value × AV)) (k : Value) (a : AV) : List (Value × AV) :=
  match es with
  | [] => [(k, a)]
  | (k', a') :: es => bif keyEq k k' then (k, a) :: es else (k', a') :: updK es k a
def binA (op : BinOp) (a b : AV) : Option (Bool × AV) :=
  match a, b with
  | .lit (.int k x), .lit (.int k' y) =>
    if k = k' then
      match op with
      | .add => some (true, .lit (.int k (k.wrap (x + y))))
      | .sub => some (true, .lit (.int k (k.wrap (x - y))))
      | .mul => some (true, .lit (.int k (k.wrap (x * y))))
      | .quo => some (y != 0, .lit (.int k (k.wrap (x.tdiv y))))
      | .rem => some (y != 0, .lit (.int k (x.tmod y)))
      | .eql => some (true, .lit (.bool (x == y)))
      | .neq => some (true, .lit (.bool (x != y)))
      | .lss => some (true, .lit (.bool (decide (x < y))))
      | .leq => some (true, .lit (.bool (decide (x ≤ y))))
      | .gtr => some (true, .lit (.bool (decide (x > y))))
      | .geq => some (true, .lit (.bool (decide (x ≥ y))))
      | .shl => some (decide (0 ≤ y), .lit (.int k (k.wrap (x * 2 ^ (min y.toNat k.bits)))))
      | .shr => some (decide (0 ≤ y), .lit (.int k (x.fdiv (2 ^ (min y.toNat k.bits)))))
      | .and => some (true, .lit (.int k (k.wrap (BitVec.ofInt k.bits x &&& BitVec.ofInt k.bits y).toNat)))
      | .or => some (true, .lit (.int k (k.wrap (BitVec.ofInt k.bits x ||| BitVec.ofInt k.bits y).toNat)))
      | _ => none
    else
      match op with
      | .shl => some (decide (0 ≤ y), .lit (.int k (k.wrap (x * 2 ^ (min y.toNat k.bits)))))
      | .shr => some (decide (0 ≤ y), .lit (.int k (x.fdiv (2 ^ (min y.toNat k.bits)))))
      | _ => none
  | .lit (.string x), .lit (.string y) =>
    match op with
    | .add => some (Nat.ble (x.size + y.size) 9223372036854775807, .lit (.string (x ++ y)))
    | .eql => some (true, .lit (.bool (x.toList == y.toList)))
    | .neq => some (true, .lit (.bool !(x.toList == y.toList)))
    | .lss => some (true, .lit (.bool (Op.bytesLess x.toList y.toList)))
    | _ => none
  | _, _ => none
def eqV (P : Program) (T : TypeId) : AV → AV → Option Bool
  | .lit (.int k x), .lit (.int k' y) => (match P.underlying T with | some (.int _) => if k = k' then some (x == y) else none | _ => none)
  | .lit (.string x), .lit (.string y) => (match P.underlying T with | some .string => some (x.toList == y.toList) | _ => none)
  | .lit (.bool x), .lit (.bool y) => (match P.underlying T with | some .bool => some (x == y) | _ => none)
  | _, _ => none
def eqF (P : Program) : List Field → List AV → List AV → Nat → Option Bool
  | [], [], [], _ => some true
  | f :: fs, a :: l, b :: m, j =>
    if f.name != "_" && Nat.beq f.offset j then
      (match eqV P f.type a b with
       | some x => (match eqF P fs l m (j + 1) with | some y => some (x && y) | none => none)
       | none => none)
    else none
  | _, _, _, _ => none
def boolA (P : Program) (op : BinOp) (T : TypeId) (a b : AV) : Option (Bool × AV) :=
  match a, b with
  | .agg l, .agg m =>
    (match P.underlying T with
     | some (.struct fs) =>
       if P.stoodInHeld T || P.eqGuardType P.depth T then none else
       (match eqF P fs.toList l m 0 with
        | some e => (match op with | .eql => some (true, .lit (.bool e)) | .neq => some (true, .lit (.bool (!e))) | _ => none)
        | none => none)
     | _ => none)
  | .lit (.bool x), .lit (.bool y) =>
    (match P.underlying T with
     | some .bool =>
       (match op with
        | .eql => some (true, .lit (.bool (x == y)))
        | .neq => some (true, .lit (.bool (!(x == y))))
        | _ => none)
     | _ => none)
  | _, _ => none
def slcO : Obj → Bool
  | .row _ _ | .frz _ _ | .rows _ _ _ _ => true
  | _ => false
def lenA (P : Program) (st : List Obj) (T : TypeId) (a : AV) : Option AV :=
  match P.underlying T, a with
  | some .string, .lit (.string s) => some (.lit (.int .i64 s.size))
  | some (.map _ _), .lit (.map none) => some (.lit (.int .i64 0))
  | some (.map _ _), .mp i => (match nthO st i with | .map _ _ es => some (.lit (.int .i64 es.length)) | _ => none)
  | some (.slice _), .lit (.slice none 0 0) => some (.lit (.int .i64 0))
  | some (.slice _), .slc i _ n => (match slcO (nthO st i) with | true => some (.lit (.int .i64 n)) | false => none)
  | some (.map _ _), .fmp _ _ ks _ => some (.lit (.int .i64 ks.length))
  | some (.slice _), .lst _ l => some (.lit (.int .i64 l.length))
  | _, _ => none
def boundA (s : S) (o : Option Operand) (d : Nat) : Option Int :=
  match o with
  | none => some d
  | some x => (asI (ev s x)).map (·.2)
def sliceA (P : Program) (s : S) (T : TypeId) (x : AV) (lo hi : Option Operand) : Option (Bool × AV) :=
  match x with
  | .lit (.string b) =>
    match P.underlying T, boundA s lo 0, boundA s hi b.size with
    | some .string, some l, some h => some (decide (0 ≤ l) && decide (l ≤ h) && decide (h ≤ b.size), .lit (.string (b.extract l.toNat h.toNat)))
    | _, _, _ => none
  | .lst E l0 =>
    match P.underlying T, boundA s lo 0, boundA s hi l0.length with
    | some (.slice E'), some l, some h =>
      if E = E' ∧ (P.underlying E).isSome = true then some (decide (0 ≤ l) && decide (l ≤ h) && decide (h ≤ l0.length), .lst E ((l0.take h.toNat).drop l.toNat)) else none
    | _, _, _ => none
  | .slc i lo0 n =>
    match P.underlying T, elT (nthO s.st i), boundA s lo 0, boundA s hi n with
    | some (.slice E'), some (E, _), some l, some h =>
      if E = E' ∧ (P.underlying E).isSome = true then some (decide (0 ≤ l) && decide (l ≤ h) && decide (h ≤ n), .slc i (lo0 + l.toNat) (h - l).toNat) else none
    | _, _, _, _ => none
  | _ => none
def optI (s : S) : Option Operand → Option Int
  | none => none
  | some x => (asI (ev s x)).map (·.2)
def slice3A (P : Program) (s : S) (T : TypeId) (x : AV) (lo hi : Option Operand) (m : Operand) : Option (Bool × AV) :=
  match x, lo with
  | .slc i 0 n, none =>
    match P.underlying T, elT (nthO s.st i), optI s hi, optI s (some m) with
    | some (.slice E'), some (E, _), some h, some mx =>
      if E = E' ∧ (P.underlying E).isSome = true then some (decide (0 ≤ h) && decide (h ≤ mx) && decide (mx ≤ n), .slc i 0 h.toNat) else none
    | _, _, _, _ => none
  | _, _ => none
def indexAddrA (P : Program) (s : S) (T : TypeId) (x i : AV) : Option (Bool × AV) :=
  match P.underlying T, asI i with
  | some (.slice E), some (_, n) =>
    match x with
    | .lst E' l => if E = E' ∧ (P.underlying E).isSome = true then some (decide (0 ≤ n) && decide (n < l.length), .pim E (nth l n.toNat)) else none
    | .slc j lo len =>
      match elT (nthO s.st j) with
      | some (E', _) => if E = E' ∧ (P.underlying E).isSome = true then some (decide (0 ≤ n) && decide (n < len), .ptr j (lo + n.toNat) [] 0) else none
      | none =>
        match nthO s.st j, lo with
        | .rows E' _ _ _, 0 => if E = E' ∧ (P.underlying E).isSome = true ∧ P.cellsOf E = 1 then some (decide (0 ≤ n) && decide (n < len), .ptr j n.toNat [] 0) else none
        | _, _ => none
    | _ => none
  | some (.array len E), some (_, n) =>
    match x with
    | .lit (.pointer (some ⟨g, off, none⟩)) => if (P.underlying E).isSome = true ∧ P.cellsOf E = 1 then some (decide (0 ≤ n) && decide (n < len), .lit (.pointer (some ⟨g, off + n.toNat, none⟩))) else none
    | _ => none
  | _, _ => none
def fieldsOf (P : Program) (T : TypeId) : List Field :=
  match P.underlying T with
  | some (.struct fs) => fs.toList
  | _ => []
def nthF : List Field → Nat → Option Field
  | [], _ => none
  | f :: _, 0 => some f
  | _ :: l, n + 1 => nthF l n
def liveP (st : List Obj) (i : Nat) : Bool :=
  match nthO st i with
  | .box _ _ | .row _ _ | .frz _ _ => true
  | _ => false
def fieldAddrA (P : Program) (st : List Obj) (T : TypeId) (x : AV) (f : Nat) : Option (Bool × AV) :=
  match nthF (fieldsOf P T) f with
  | none => none
  | some fd =>
    if P.cellsOf fd.type = 0 then none else
    match x with
    | .ptr i k path off => if liveP st i then some (true, .ptr i k (path ++ [f]) (off + fd.offset)) else none
    | .pim T0 a =>
      match expand P depthE T0 a with
      | .agg l =>
        if T0 = T && decide (f < l.length) && offF l f == fd.offset then some (true, .pim fd.type (nth l f)) else none
      | _ => none
    | _ => none
def fieldA (P : Program) (T : TypeId) (x : AV) (f : Nat) : Option (Bool × AV) :=
  match nthF (fieldsOf P T) f, x with
  | some fd, .agg l =>
    if decide (f < l.length) && offF l f == fd.offset && wid (nth l f) == P.cellsOf fd.type && isAggT P fd.type == isAggA (nth l f) && (P.underlying fd.type).isSome && solid (nth l f) then some (true, nth l f) else none
  | _, _ => none
def lookupA (P : Program) (s : S) (T : TypeId) (m k : AV) (ok : Bool) : Option (Bool × AV) :=
  match P.underlying T, k with
  | some (.map K V), .lit kv =>
    match plainKey P K kv, zeroA P V, m with
    | true, some z, .mp i =>
      match nthO s.st i with
      | .map K' V' es =>
        if K = K' ∧ V = V' then
          let v := expand P depthE V (getK es kv z)
          some (true, if ok then .tup [v, .lit (.bool (hasK es kv))] else v)
        else none
      | _ => none
    | true, some z, .fmp K' V' ks vs =>
      if K = K' ∧ V = V' then
        let v := expand P depthE V (getK (ks.zip vs) kv z)
        some (true, if ok then .tup [v, .lit (.bool (hasK (ks.zip vs) kv))] else v)
      else none
    | true, some z, .lit (.map none) => some (true, if ok then .tup [z, .lit (.bool false)] else z)
    | _, _, _ => none
  | _, _ => none
def buildA (P : Program) (T : TypeId) (l : List AV) : List (Nat × AV) → Option AV
  | [] => some (.agg l)
  | (i, x) :: ps =>
    match nthF (fieldsOf P T) i with
    | none => none
    | some fd =>
      if solid x && decide (i < l.length) && offF l i == fd.offset && wid x == P.cellsOf fd.type && wid (nth l i) == P.cellsOf fd.type then
        buildA P T (setN l i x) ps
      else none
def evParts (s : S) : List (Nat × Operand) → List (Nat × AV)
  | [] => []
  | (i, x) :: l => (i, ev s x) :: evParts s l
def evL (s : S) : List Operand → List AV
  | [] => []
  | x :: l => ev s x :: evL s l
def pureR (st : List Obj) (a : AV) : Option AV :=
  match a with
  | .slc i (k + 1) m => (match nthO st i with | .rows _ E ls _ => some (.lst E (((nthL ls k).take m).map .lit)) | _ => pureA st a)
  | _ => pureA st a
def pureArgs (st : List Obj) : List AV → Option (List AV)
  | [] => some []
  | a :: l =>
    match pureR st a, pureArgs st l with
    | some b, some m => some (b :: m)
    | _, _ => none
def keptA (P : Pg) (T : TypeId) : AV → Option Value
  | .lit (.pointer (some ⟨g, 0, none⟩)) =>
    (match P.kept g with
     | some (.cells cs _ _) => (match cs.toList with | [v] => if oneV v && !(isAggT P T) && (P.underlying T).isSome then some v else none | _ => none)
     | _ => none)
  | _ => none
def u8s : List Value → Bool
  | [] => true
  | .int .u8 _ :: l => u8s l
  | _ => false
def tabI (P : Pg) (g k : Nat) : Int :=
  match P.kept g with
  | some (.cells cs _ _) => (match cs[k]? with | some (.int _ n) => n | _ => 0)
  | _ => 0
def tabA (P : Pg) (T : TypeId) : AV → Option (Bool × AV)
  | .lit (.pointer (some ⟨g, off, none⟩)) =>
    (match P.kept g with
     | some (.cells cs _ _) => (match cs.toList with | _ :: _ :: _ => (match P.underlying T with | some (.int .u8) => if u8s cs.toList then some (decide (off < cs.size), .lit (.int .u8 (tabI P g off))) else none | _ => none) | _ => none)
     | _ => none)
  | _ => none
def isIfcV : Value → Bool
  | .nilIface => true
  | .iface _ _ => true
  | _ => false
def isNilV : Value → Bool
  | .nilIface => true
  | _ => false
def isNilA : AV → Option (Bool × Bool)
  | .lit u => some (isIfcV u, isNilV u)
  | .ifc _ _ => some (true, false)
  | _ => none
def ifcA (P : Program) (op : BinOp) (T : TypeId) (y : Operand) (a : AV) : Option (Bool × AV) :=
  match y with
  | .const .nilIface =>
    (match P.underlying T, isNilA a with
     | some (.interface _), some (c, b) =>
       (match op with
        | .eql => some (c, .lit (.bool b))
        | .neq => some (c, .lit (.bool (!b)))
        | _ => none)
     | _, _ => none)
  | _ => none
def makeIfcA (P : Program) (T : TypeId) (a : AV) : Option (Bool × AV) :=
  match P.underlying T with
  | none => none
  | some (.interface _) => none
  | some _ =>
    (match a with
     | .lit v => some (true, .lit (.iface T v))
     | .junk => none
     | a => some (true, .ifc T a))
def convA (P : Program) (S T : TypeId) (a : AV) : Option (Bool × AV) :=
  match P.underlying S, P.underlying T, a with
  | some _, some (.int k), .lit (.int _ n) => some (true, .lit (.int k (k.wrap n)))
  | _, _, _ => none
def bytesOf (l : List AV) : ByteArray := ⟨(l.map fun a => UInt8.ofNat (toInt a).toNat).toArray⟩
def convS (P : Program) (st : List Obj) (S T : TypeId) (a : AV) : Option (Bool × AV) :=
  match P.underlying S, P.underlying T with
  | some (.slice E), some .string =>
    (match P.underlying E with
     | some (.int .u8) =>
       if P.cellsOf E = 1 then
         (match a with
          | .lit (.slice none 0 0) => some (true, .lit (.string ⟨#[]⟩))
          | .lst E' l => if E = E' then some (true, .lit (.string (bytesOf l))) else none
          | .slc i lo n => (match elT (nthO st i) with
            | some (E', l) => if E = E' then some (true, .lit (.string (bytesOf ((l.drop lo).take n)))) else none
            | none => none)
          | _ => none)
       else none
     | _ => none)
  | _, _ => convA P S T a
def form1 (P : Program) (T : TypeId) (a : AV) : AV :=
  match P.underlying T with
  | some (.struct _) => (match a with | .agg _ => (match chk P a T with | true => expand P depthE T a | false => a) | a => a)
  | some (.slice _) => (match a with | .lit (.slice none 0 0) => (match chk P a T with | true => expand P depthE T a | false => a) | a => a)
  | _ => a
def formL (P : Program) : List TypeId → List AV → List AV
  | T :: Ts, a :: l => form1 P T a :: formL P Ts l
  | _, l => l
def paramsOf (P : Program) (f : FuncId) : List TypeId :=
  match P.funcs[f]? with
  | some fn => fn.params.toList
  | none => []
def byteAt (s : ByteArray) (k : Nat) : Nat :=
  match s[k]? with
  | some b => b.toNat
  | none => 0
def indexA (P : Program) (T : TypeId) (x i : AV) : Option (Bool × AV) :=
  match P.underlying T, x, asI i with
  | some .string, .lit (.string s), some (_, n) => some (decide (0 ≤ n) && decide (n < s.size), .lit (.int .u8 (byteAt s n.toNat)))
  | _, _, _ => none
def readA (E : Env) (s : S) (o : Op) : Option (Bool × AV) :=
  match o with
  | .move x => some (true, ev s x)
  | .assign x => some (true, ev s x)
  | .load T x => (match tabA E.P T (ev s x) with | some r => some r | none => (match keptA E.P T (ev s x) with | some v => some (true, .lit v) | none => loadA E.P s.st T (ev s x)))
  | .makeInterface T x => makeIfcA E.P T (ev s x)
  | .convert S T x => convS E.P s.st S T (ev s x)
  | .nilCheck x =>
    (match ev s x with
     | .ptr i k p off => if liveP s.st i then some (true, .ptr i k p off) else none
     | .pim T a => some (true, .pim T a)
     | .clo f caps => some (true, .clo f caps)
     | _ => none)
  | .binOp op T x y _ => (match ifcA E.P op T y (ev s x) with | some r => some r | none => (match boolA E.P op T (ev s x) (ev s y) with | some r => some r | none => binA op (ev s x) (ev s y)))
  | .unOp op _ x =>
    (match op, ev s x with
     | .not, .lit (.bool b) => some (true, .lit (.bool (!b)))
     | .neg, .lit (.int k n) => some (true, .lit (.int k (k.wrap (0 - n))))
     | _, _ => none)
  | .slice T x lo hi none => sliceA E.P s T (ev s x) lo hi
  | .slice T x lo hi (some m) => slice3A E.P s T (ev s x) lo hi m
  | .fieldAddr T x f => fieldAddrA E.P s.st T (ev s x) f
  | .field T x f => fieldA E.P T (ev s x) f
  | .indexAddr T x i => indexAddrA E.P s T (ev s x) (ev s i)
  | .index T x i => indexA E.P T (ev s x) (ev s i)
  | .lookup T m k ok => lookupA E.P s T (ev s m) (ev s k) ok
  | .extract x i => (match ev s x with | .tup l => if i < l.length then some (true, nth l i) else none | _ => none)
  | .makeFunc (.func f) first caps => if first.size = 0 then some (true, .clo f (evL s caps.toList)) else none
  | .build T parts =>
    (match zeroA E.P T with
     | some (.agg l) => (match buildA E.P T l (evParts s parts.toList) with | some a => some (true, a) | none => none)
     | _ => none)
  | .call { callee := .builtin .len, args, argTypes } =>
    (match evL s args.toList, argTypes.toList with
     | [a], T :: _ => (match lenA E.P s.st T a with | some x => some (true, x) | none => none)
     | _, _ => none)
  | .call { callee := .builtin .min, args, .. } =>
    (match evL s args.toList with
     | [.lit (.int k x), .lit (.int k' y)] => if k = k' then some (true, .lit (.int k (if y < x then y else x))) else none
     | _ => none)
  | .call { callee := .builtin .max, args, .. } =>
    (match evL s args.toList with
     | [.lit (.int k x), .lit (.int k' y)] => if k = k' then some (true, .lit (.int k (if y > x then y else x))) else none
     | _ => none)
  | .call { callee := .value (.func f), args, .. } =>
    (match pureArgs s.st (evL s args.toList) with
     | some as => E.pcall f (formL E.P (paramsOf E.P f) as)
     | none => none)
  | _ => none
end Go.Dn
