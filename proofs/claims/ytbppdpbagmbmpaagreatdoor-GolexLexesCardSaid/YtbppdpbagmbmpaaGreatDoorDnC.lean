import Derived.Test.YtbppdpbagmbmpaaGreatDoorDnB
namespace Go.Dn
open Go
mutual
def refs : AV → List Nat
  | .slc i _ _ => [i]
  | .ptr i _ _ _ => [i]
  | .mp i => [i]
  | .yld i => [i]
  | .stp i _ => [i]
  | .agg l => refsL l
  | .tup l => refsL l
  | .clo _ l => refsL l
  | .ifc _ a => refs a
  | _ => []
def refsL : List AV → List Nat
  | [] => []
  | a :: l => refs a ++ refsL l
end
def refsO : Obj → List Nat
  | .box _ a => refs a
  | .loop r => refsL r.regs
  | .iter i _ _ => [i]
  | _ => []
def memN (i : Nat) : List Nat → Bool
  | [] => false
  | j :: l => Nat.beq i j || memN i l
def reach (st : List Obj) : Nat → List Nat → List Nat → List Nat
  | 0, _, acc => acc
  | _ + 1, [], acc => acc
  | n + 1, i :: todo, acc =>
    bif memN i acc then reach st n todo acc else reach st n (refsO (nthO st i) ++ todo) (acc ++ [i])
def idxN (i : Nat) : List Nat → Nat → Option Nat
  | [], _ => none
  | j :: l, n => bif Nat.beq i j then some n else idxN i l (n + 1)
mutual
def ren (ρ : Nat → Option Nat) : AV → AV
  | .slc i lo n => (match ρ i with | some j => .slc j lo n | none => .junk)
  | .ptr i k p o => (match ρ i with | some j => .ptr j k p o | none => .junk)
  | .mp i => (match ρ i with | some j => .mp j | none => .junk)
  | .yld i => (match ρ i with | some j => .yld j | none => .junk)
  | .stp i k => (match ρ i with | some j => .stp j k | none => .junk)
  | .agg l => .agg (renL ρ l)
  | .tup l => .tup (renL ρ l)
  | .clo f l => .clo f (renL ρ l)
  | .ifc T a => .ifc T (ren ρ a)
  | a => a
def renL (ρ : Nat → Option Nat) : List AV → List AV
  | [] => []
  | a :: l => ren ρ a :: renL ρ l
end
def renO (ρ : Nat → Option Nat) : Obj → Obj
  | .box T a => .box T (ren ρ a)
  | .loop r => .loop { r with regs := renL ρ r.regs }
  | .iter i n ks => .iter (match ρ i with | some j => j | none => i) n ks
  | o => o
def getSt (st : List Obj) : List Nat → List Obj
  | [] => []
  | i :: l => nthO st i :: getSt st l
def renSt (ρ : Nat → Option Nat) : List Obj → List Obj
  | [] => []
  | o :: l => renO ρ o :: renSt ρ l
def upto : Nat → List Nat
  | 0 => []
  | n + 1 => upto n ++ [n]
def backN (ids : List Nat) (n : Nat) (j : Nat) : Option Nat :=
  match idN ids j with
  | some i => some i
  | none => some (n + (j - ids.length))
where
  idN : List Nat → Nat → Option Nat
    | [], _ => none
    | i :: _, 0 => some i
    | _ :: l, k + 1 => idN l k
def mergeSt (st : List Obj) (ids : List Nat) (ρ : Nat → Option Nat) : List Obj → List Obj
  | sub => go st ids sub
where
  go : List Obj → List Nat → List Obj → List Obj
    | st, i :: ids, o :: sub => go (setO st i (renO ρ o)) ids sub
    | st, [], sub => st ++ renSt ρ sub
    | st, _ :: _, [] => st
def keepRegs (live : List (Nat × Option TypeId)) : List AV → Nat → List AV
  | [], _ => []
  | a :: l, n => (bif memL n live then a else .junk) :: keepRegs live l (n + 1)
where
  memL (n : Nat) : List (Nat × Option TypeId) → Bool
    | [] => false
    | (j, _) :: l => Nat.beq n j || memL n l
def limT : Nat := 1000000000
def matRegs : List (Nat × Option TypeId) → S → S
  | [], s => s
  | (_, none) :: l, s => matRegs l s
  | (r, some T) :: l, s =>
    match nth s.regs r with
    | .lit (.slice none 0 0) =>
      (match Nat.ble limT T with
       | true => matRegs l { regs := setN s.regs r (.lst (T - limT) []), st := s.st }
       | false => matRegs l { regs := setN s.regs r (.slc s.st.length 0 0), st := s.st ++ [.row T []] })
    | _ => matRegs l s
def matBox (P : Program) (i : Nat) (s : S) : S :=
  match nthO s.st i with
  | .box Tb (.lit (.slice none 0 0)) =>
    match P.underlying Tb with
    | some (.slice Te) => { s with st := setO s.st i (.box Tb (.slc s.st.length 0 0)) ++ [.row Te []] }
    | _ => s
  | _ => s
def matBoxes (P : Program) : List Nat → S → S
  | [], s => s
  | i :: l, s => matBoxes P l (matBox P i s)
def matF (i j : Nat) (T : TypeId) (st : List Obj) : List Obj :=
  match nthO st i with
  | .box Tb (.agg fs) =>
    match nth fs j with
    | .lit (.slice none 0 0) => setO st i (.box Tb (.agg (setN fs j (.slc st.length 0 0)))) ++ [.row T []]
    | _ => st
  | _ => st
def matFs : List (Nat × Nat × TypeId) → List Obj → List Obj
  | [], st => st
  | (i, j, T) :: l, st => matFs l (matF i j T st)
def fldsOf : List (Nat × Option TypeId) → List (Nat × Nat × TypeId)
  | [] => []
  | (r, t) :: l => match Nat.ble 1000 r, t with
    | true, some T => ((r - 1000) / 64, (r - 1000) % 64, T) :: fldsOf l
    | _, _ => fldsOf l
def refsOs (st : List Obj) : List Nat → List Nat
  | [] => []
  | i :: l => refsO (nthO st i) ++ refsOs st l
def canonIds (base : Nat) (st : List Obj) (roots : List Nat) : List Nat :=
  reach st (st.length * st.length + st.length + 20) (refsOs st (upto base) ++ roots) (upto base)
def allIn (ids : List Nat) : List Nat → Bool
  | [] => true
  | i :: l => memN i ids && allIn ids l
def allLt (n : Nat) : List Nat → Bool
  | [] => true
  | i :: l => decide (i < n) && allLt n l
def nodupN : List Nat → Bool
  | [] => true
  | i :: l => !memN i l && nodupN l
def prefixN (ids : List Nat) : List Nat → Bool
  | [] => true
  | i :: l => (match idxN i ids 0 with | some j => Nat.beq i j | none => false) && prefixN ids l
def idsOk (base : Nat) (st : List Obj) (roots ids : List Nat) : Bool :=
  nodupN ids && allLt st.length ids && prefixN ids (upto base) && allIn ids roots && allIn ids (refsOs st ids)
def matFlds (l : List (Nat × Nat × TypeId)) (s : S) : S :=
  match l with
  | [] => s
  | _ => { s with st := matFs l s.st }
def canonPre (P : Program) (live : List (Nat × Option TypeId)) (s : S) : S :=
  let s1 := matRegs live { s with regs := keepRegs live s.regs 0 }
  matFlds (fldsOf live) (matBoxes P (upto s1.st.length) s1)
def canonOk (P : Program) (live : List (Nat × Option TypeId)) (base : Nat) (s : S) : Bool :=
  idsOk base (canonPre P live s).st (refsL (canonPre P live s).regs) (canonIds base (canonPre P live s).st (refsL (canonPre P live s).regs))
def canonBy (ids : List Nat) (s : S) : S :=
  { regs := renL (fun i => idxN i ids 0) s.regs, st := renSt (fun i => idxN i ids 0) (getSt s.st ids) }
def canon (P : Program) (live : List (Nat × Option TypeId)) (base : Nat) (s : S) : S :=
  canonBy (canonIds base (canonPre P live s).st (refsL (canonPre P live s).regs)) (canonPre P live s)
def elemsOk (P : Program) (T : TypeId) : List AV → Bool
  | [] => true
  | a :: l => chk P a T && elemsOk P T l
def limB : Nat := 70368744177664
def tyFits (Ty : Option TypeId) (Te : TypeId) : Bool :=
  match Ty with
  | none => true
  | some U => U == Te
def flatT (P : Program) (E : TypeId) : Bool :=
  match P.underlying E with
  | some (.int _) | some .bool | some .string => P.cellsOf E == 1
  | _ => false
def toVals : List AV → Option (List Value)
  | [] => some []
  | .lit v :: l => (match toVals l with | some m => some (v :: m) | none => none)
  | _ => none
def appendA (P : Program) (s : S) (T : TypeId) (x y : AV) (K : List Obj → AV → Prop) : Prop :=
  match P.underlying T with
  | some (.slice Te) =>
    match sliceOf s.st y, zeroA P Te with
    | some (Ty, ys), some _ =>
      match tyFits Ty Te && decide (0 < P.cellsOf Te) with
      | false => False
      | true =>
        match x with
        | .lit (.slice none 0 0) =>
          cnd (decide ((ys.length + 1) * (P.bytesOf Te + 1) ≤ limB)) (K (s.st ++ [.row Te ys]) (.slc s.st.length 0 ys.length))
        | .slc i lo n =>
          match nthO s.st i with
          | .row Tr xs =>
            if Tr = Te ∧ lo = 0 then
              cnd (decide ((n + ys.length + 1) * (P.bytesOf Te + 1) ≤ limB))
                (K (setO s.st i .dead ++ [.row Te ((xs.take n) ++ ys)]) (.slc s.st.length 0 (n + ys.length)))
            else False
          | .rows Tr E ls none =>
            match lo, toVals ys with
            | k + 1, some vs =>
              if E = Te ∧ elemsOk P Te ys = true then
                cnd (decide (n = (nthL ls k).length) && decide ((n + ys.length + 1) * (P.bytesOf Te + 1) ≤ limB))
                  (K (setO s.st i (.rows Tr E (setL ls k (nthL ls k ++ vs)) (some k))) (.slc i (Nat.succ k) (n + ys.length)))
              else False
            | _, _ => False
          | _ => False
        | _ => False
    | _, _ => False
  | _ => False
def pathTy (P : Program) : TypeId → List Nat → Option TypeId
  | T, [] => some T
  | T, j :: p => match nthF (fieldsOf P T) j with
    | some fd => pathTy P fd.type p
    | none => none
def pathIs (P : Program) (Tb : TypeId) (path : List Nat) (T : TypeId) : Bool :=
  match pathTy P Tb path with
  | some U => Nat.beq U T
  | none => false
def storeA (P : Program) (s : S) (T : TypeId) (p x : AV) (K : List Obj → Prop) : Prop :=
  match p with
  | .ptr i k path off =>
    match nthO s.st i with
    | .box Tb a =>
      if inP a path && offP a path == off && wid x == P.cellsOf T && wid (atP a path) == P.cellsOf T && solidS x && (P.underlying T).isSome && pathIs P Tb path T then K (setO s.st i (.box Tb (setP a path x))) else False
    | .row _ _ =>
      match pureA s.st x, nthO (freezeSt s.st (rowsOf x)) i with
      | some x', .row Tr xs =>
        if inP (expand P depthE Tr (nth xs k)) path && offP (expand P depthE Tr (nth xs k)) path == off && wid x' == P.cellsOf T && wid (atP (expand P depthE Tr (nth xs k)) path) == P.cellsOf T &&
            chk P (setP (expand P depthE Tr (nth xs k)) path x') Tr && solidS x' && (P.underlying T).isSome then
          K (setO (freezeSt s.st (rowsOf x)) i (.row Tr (setN xs k (setP (expand P depthE Tr (nth xs k)) path x'))))
        else False
      | _, _ => False
    | .rows Tr E ls (some kp) =>
      (match path, off, x with
       | [], 0, .slc j (k' + 1) m => if j = i ∧ T = Tr then cnd (decide (k = kp) && decide (k' = kp) && decide (m = (nthL ls k).length)) (K (setO s.st i (.rows Tr E ls none))) else False
       | _, _, _ => False)
    | _ => False
  | _ => False
def zerosA (a : AV) (n : Nat) : List AV := List.replicate n a
def newRowO (P : Program) (Te : TypeId) (z : AV) (n : Nat) : Obj :=
  match P.underlying Te, z with
  | some (.slice E), .lit (.slice none 0 0) => if flatT P E = true ∧ P.cellsOf Te = 1 then .rows Te E (List.replicate n []) none else .row Te (zerosA z n)
  | _, _ => .row Te (zerosA z n)
def putParts (P : Program) (T : TypeId) (st : List Obj) : List AV → List (Nat × AV) → Option (List AV × List Nat)
  | l, [] => some (l, [])
  | l, (i, x) :: ps =>
    match pureA st x with
    | some x' =>
      if chk P x' T && decide (i < l.length) then
        match putParts P T st (setN l i x') ps with
        | some (m, is) => some (m, rowsOf x ++ is)
        | none => none
      else none
    | none => none
def hasV : List Value → Value → Bool
  | [], _ => false
  | k' :: l, k => keyEq k' k || hasV l k
def allSeen (ks : List Value) : List (Value × AV) → Bool
  | [] => true
  | (k, _) :: es => hasV ks k && allSeen ks es
def nextA (P : Program) (Kt Vt : TypeId) (es : List (Value × AV)) (ks : List Value) (p : Value → AV → Prop) (q : Prop) : Prop :=
  (match P.underlying Kt with
   | some (.int κ) => ∀ n v, (Value.int κ n, v) ∈ es → hasV ks (.int κ n) = false → p (.int κ n) (expand P depthE Vt v)
   | some .string => ∀ t v, (Value.string t, v) ∈ es → hasV ks (.string t) = false → p (.string t) (expand P depthE Vt v)
   | _ => False) ∧ (allSeen ks es = true → q)
def nilL : List AV → Bool
  | [] => true
  | _ :: _ => false
def clearL : List AV → Nat → Nat → AV → List AV
  | [], _, _, _ => []
  | a :: l, 0, 0, _ => a :: l
  | _ :: l, 0, n + 1, z => z :: clearL l 0 n z
  | a :: l, lo + 1, n, z => a :: clearL l lo n z
def nilSlcA (P : Program) (st : List Obj) (T : TypeId) (y : Operand) (a : AV) (K : Bool → Prop) : Prop :=
  match y, P.underlying T with
  | .const (.slice none 0 0), some (.slice _) =>
    (match a with
     | .lit (.slice none 0 0) => K true
     | .lst _ l => (nilL l = true → K true) ∧ K false
     | .slc i _ n => (match slcO (nthO st i) with | true => (Nat.beq n 0 = true → K true) ∧ K false | false => False)
     | _ => False)
  | _, _ => False
def writeA (P : Pg) (s : S) (dst : Option Tmp) (o : Op) (K : S → Prop) : Prop :=
  match o with
  | .alloc T =>
    (match zeroA P T with
     | some z => K (put { s with st := s.st ++ [.box T z] } dst (.ptr s.st.length 0 [] 0))
     | none => False)
  | .box T x =>
    if solidS (ev s x) then
      match P.imm T with
      | true => cnd (chk P (ev s x) T) (K (put { s with st := s.st ++ [.dead] } dst (.pim T (ev s x))))
      | false => K (put { s with st := s.st ++ [.box T (ev s x)] } dst (.ptr s.st.length 0 [] 0))
    else False
  | .store T p x => storeA P s T (ev s p) (ev s x) fun st => K (put { s with st } dst .junk)
  | .buildSlice T len parts =>
    (match P.underlying T with
     | some (.slice Te) =>
       (match zeroA P Te with
        | some z =>
          (match putParts P Te s.st (zerosA z len) (evParts s parts.toList) with
           | some (l, is) =>
             if decide (len * P.cellsOf Te ≤ 16777216) && decide (0 < P.cellsOf Te) then
               K (put { s with st := freezeSt s.st is ++ [.row Te l] } dst (.slc s.st.length 0 len))
             else False
           | none => False)
        | none => False)
     | _ => False)
  | .makeSlice T ln cp =>
    (match P.underlying T, asI (ev s ln), asI (ev s cp) with
     | some (.slice Te), some (.i64, n), some (.i64, c) =>
       (match zeroA P Te with
        | some z =>
          cnd (decide (0 ≤ n) && decide (n ≤ c) && decide ((c.toNat + 1) * (P.bytesOf Te + 1) ≤ limB) && decide (0 < P.cellsOf Te))
            (K (put { s with st := s.st ++ [newRowO P Te z n.toNat] } dst (.slc s.st.length 0 n.toNat)))
        | none => False)
     | _, _, _ => False)
  | .makeMap T none =>
    (match P.underlying T with
     | some (.map Kt Vt) => K (put { s with st := s.st ++ [.map Kt Vt []] } dst (.mp s.st.length))
     | _ => False)
  | .mapUpdate T m k x =>
    (match P.underlying T, ev s m, ev s k, pureA s.st (ev s x) with
     | some (.map Kt Vt), .mp i, .lit kv, some v =>
       (match nthO (freezeSt s.st (rowsOf (ev s x))) i with
        | .map K' V' es =>
          if K' = Kt ∧ V' = Vt ∧ plainKey P Kt kv = true ∧ chk P v Vt = true then
            K (put { s with st := setO (freezeSt s.st (rowsOf (ev s x))) i (.map Kt Vt (updK es kv v)) } dst .junk)
          else False
        | _ => False)
     | _, _, _, _ => False)
  | .mapEntry T m k =>
    (match P.underlying T, ev s m, ev s k with
     | some (.map Kt Vt), .mp i, .lit kv =>
       (match nthO s.st i, zeroA P Vt with
        | .map K' V' es, some z =>
          if K' = Kt ∧ V' = Vt ∧ plainKey P Kt kv = true then
            let v := expand P depthE Vt (getK es kv z)
            K (put { s with st := setO s.st i (.map Kt Vt (updK es kv v)) } dst (.tup [v, .stp i kv]))
          else False
        | _, _ => False)
     | _, _, _ => False)
  | .entryStore T m stp x =>
    (match P.underlying T, ev s m, ev s stp, pureA s.st (ev s x) with
     | some (.map Kt Vt), .mp i, .stp j kv, some v =>
       (match nthO (freezeSt s.st (rowsOf (ev s x))) i with
        | .map K' V' es =>
          if i = j ∧ K' = Kt ∧ V' = Vt ∧ plainKey P Kt kv = true ∧ chk P v Vt = true then
            K (put { s with st := setO (freezeSt s.st (rowsOf (ev s x))) i (.map Kt Vt (updK es kv v)) } dst .junk)
          else False
        | _ => False)
     | _, _, _, _ => False)
  | .range T x =>
    (match P.underlying T, ev s x with
     | some (.map _ _), .mp i =>
       (match nthO s.st i with
        | .map _ _ es => K (put { s with st := s.st ++ [.iter i es.length []] } dst (.ptr s.st.length 0 [] 0))
        | _ => False)
     | some (.map _ _), .fmp Kt Vt ks vs => K (put { s with st := s.st ++ [.fit Kt Vt ks vs []] } dst (.ptr s.st.length 0 [] 0))
     | some (.map _ _), .lit (.map none) => K (put { s with st := s.st ++ [.iter s.st.length 0 [.map none]] } dst (.ptr s.st.length 0 [] 0))
     | some .string, .lit (.string b) => K (put { s with st := s.st ++ [.siter b 0] } dst (.ptr s.st.length 0 [] 0))
     | _, _ => False)
  | .next it false =>
    (match ev s it with
     | .ptr j 0 _ 0 =>
       (match nthO s.st j with
        | .iter i n ks =>
          (match nthO s.st i with
           | .map Kt Vt es =>
             cnd (Nat.beq es.length n) (nextA P Kt Vt es ks (fun k v => K (put { s with st := setO s.st j (.iter i n (k :: ks)) } dst (.tup [.lit (.bool true), .lit k, v]))) (K (put s dst (.tup [.lit (.bool false)]))))
           | _ =>
             (match ks with
              | [.map none] => K (put s dst (.tup [.lit (.bool false)]))
              | _ => False))
        | .fit Kt Vt ks vs met => nextA P Kt Vt (ks.zip vs) met (fun k v => K (put { s with st := setO s.st j (.fit Kt Vt ks vs (k :: met)) } dst (.tup [.lit (.bool true), .lit k, v]))) (K (put s dst (.tup [.lit (.bool false)])))
        | _ => False)
     | _ => False)
  | .next it true =>
    (match ev s it with
     | .ptr j 0 _ 0 =>
       (match nthO s.st j with
        | .siter b p =>
          brn (Nat.blt p b.size) (K (put { s with st := setO s.st j (.siter b (p + (Utf8.decode b p).2)) } dst (.tup [.lit (.bool true), .lit (.int .i64 p), .lit (.int .i32 (Utf8.decode b p).1)]))) (K (put s dst (.tup [.lit (.bool false)])))
        | _ => False)
     | _ => False)
  | .binOp .eql T x y _ => nilSlcA P s.st T y (ev s x) fun b => K (put s dst (.lit (.bool b)))
  | .binOp .neq T x y _ => nilSlcA P s.st T y (ev s x) fun b => K (put s dst (.lit (.bool (!b))))
  | .call { callee := .builtin .clear, args, argTypes } =>
    (match evL s args.toList, argTypes.toList with
     | [.slc i lo n], [T] =>
       (match P.underlying T, nthO s.st i with
        | some (.slice Te), .row Tr xs =>
          (match zeroA P Te with
           | some z => if Tr = Te ∧ 0 < P.cellsOf Te then K (put { s with st := setO s.st i (.row Te (clearL xs lo n z)) } dst (.tup [])) else False
           | none => False)
        | _, _ => False)
     | _, _ => False)
  | .entry it =>
    (match ev s it with
     | .ptr j 0 _ 0 =>
       (match nthO s.st j with
        | .iter i n (k :: _) =>
          (match nthO s.st i with
           | .map _ Vt es =>
             (match zeroA P Vt with
              | some z => cnd (Nat.beq es.length n) (K (put s dst (.tup [.lit k, expand P depthE Vt (getK es k z)])))
              | none => False)
           | _ => False)
        | .fit _ Vt ks vs (k :: _) =>
          (match zeroA P Vt with
           | some z => K (put s dst (.tup [.lit k, expand P depthE Vt (getK (ks.zip vs) k z)]))
           | none => False)
        | _ => False)
     | _ => False)
  | .call { callee := .builtin .append, args, argTypes } =>
    (match evL s args.toList, argTypes.toList with
     | [x, y], [T, T'] => if T = T' then appendA P s T x y fun st a => K (put { s with st } dst a) else False
     | _, _ => False)
  | _ => False
def frcN : Nat → (Nat → Prop) → Prop
  | 0, k => k 0
  | n + 1, k => frcN n fun m => k (m + 1)
def frcP : List Nat → (List Nat → Prop) → Prop
  | [], k => k []
  | n :: l, k => frcN n fun n' => frcP l fun l' => k (n' :: l')
theorem frcN_eq : ∀ (n : Nat) (k : Nat → Prop), frcN n k = k n
  | 0, _ => rfl
  | n + 1, k => by simp only [frcN, frcN_eq n]
theorem frcP_eq : ∀ (l : List Nat) (k : List Nat → Prop), frcP l k = k l
  | [], _ => rfl
  | n :: l, k => by simp only [frcP, frcN_eq, frcP_eq l]
mutual
def frcA : AV → (AV → Prop) → Prop
  | .agg l, k => frcL l fun l' => k (.agg l')
  | .tup l, k => frcL l fun l' => k (.tup l')
  | .clo f l, k => frcL l fun l' => k (.clo f l')
  | .ifc T a, k => frcA a fun a' => k (.ifc T a')
  | .lit v, k => k (.lit v)
  | .junk, k => k .junk
  | .lst T l, k => k (.lst T l)
  | .slc i lo n, k => frcN i fun i' => k (.slc i' lo n)
  | .ptr i x p o, k => frcN i fun i' => frcP p fun p' => frcN o fun o' => k (.ptr i' x p' o')
  | .pim T a, k => k (.pim T a)
  | .mp i, k => frcN i fun i' => k (.mp i')
  | .yld i, k => frcN i fun i' => k (.yld i')
  | .stp i x, k => frcN i fun i' => k (.stp i' x)
  | .fmp K V ks vs, k => k (.fmp K V ks vs)
def frcL : List AV → (List AV → Prop) → Prop
  | [], k => k []
  | a :: l, k => frcA a fun a' => frcL l fun l' => k (a' :: l')
end
def frcO : Obj → (Obj → Prop) → Prop
  | .dead, k => k .dead
  | .box T a, k => frcA a fun a' => k (.box T a')
  | .row T xs, k => k (.row T xs)
  | .frz T xs, k => k (.frz T xs)
  | .map K V es, k => k (.map K V es)
  | .loop r, k => frcL r.regs fun l => k (.loop { state := r.state, pending := r.pending, fn := r.fn, regs := l, params := r.params, assign := r.assign, body := r.body })
  | .iter i n ks, k => k (.iter i n ks)
  | .ext t, k => k (.ext t)
  | .siter s p, k => k (.siter s p)
  | .rows T E ls pd, k => k (.rows T E ls pd)
  | .fit K V ks vs met, k => k (.fit K V ks vs met)
def frcOs : List Obj → (List Obj → Prop) → Prop
  | [], k => k []
  | o :: l, k => frcO o fun o' => frcOs l fun l' => k (o' :: l')
def frcS (s : S) (k : S → Prop) : Prop := frcL s.regs fun r => frcOs s.st fun t => k { regs := r, st := t }
mutual
theorem frcA_eq : ∀ (a : AV) (k : AV → Prop), frcA a k = k a
  | .agg l, k => by simp only [frcA, frcL_eq l]
  | .tup l, k => by simp only [frcA, frcL_eq l]
  | .clo f l, k => by simp only [frcA, frcL_eq l]
  | .ifc T a, k => by simp only [frcA, frcA_eq a]
  | .lit _, _ | .junk, _ | .lst _ _, _ | .slc _ _ _, _ | .ptr _ _ _ _, _ | .pim _ _, _ | .mp _, _ | .yld _, _ | .stp _ _, _ | .fmp _ _ _ _, _ => by simp only [frcA, frcN_eq, frcP_eq]
theorem frcL_eq : ∀ (l : List AV) (k : List AV → Prop), frcL l k = k l
  | [], k => by simp only [frcL]
  | a :: l, k => by simp only [frcL, frcA_eq a, frcL_eq l]
end
theorem frcO_eq (o : Obj) (k : Obj → Prop) : frcO o k = k o := by
  cases o <;> simp only [frcO, frcA_eq, frcL_eq]
theorem frcOs_eq : ∀ (l : List Obj) (k : List Obj → Prop), frcOs l k = k l
  | [], k => rfl
  | o :: l, k => by simp only [frcOs, frcO_eq, frcOs_eq l]
theorem frcS_eq (s : S) (k : S → Prop) : frcS s k = k s := by simp only [frcS, frcL_eq, frcOs_eq]
abbrev Rec := FuncId → Option Nat → Nat → Code → S → (Exit → S → Prop) → Prop
def junks : Nat → List AV
  | 0 => []
  | n + 1 => .junk :: junks n
def resA (P : Program) (s : S) : List ResultVar → Option (List AV)
  | [] => some []
  | .tmp t :: l => (match resA P s l with | some m => some (nth s.regs t :: m) | none => none)
  | .cell a T :: l =>
    (match loadA P s.st T (nth s.regs a), resA P s l with
     | some (true, x), some m => some (x :: m)
     | _, _ => none)
def result1 : List AV → AV
  | [a] => a
  | l => .tup l
def inlineA (E : Env) (rec : Rec) (f : FuncId) (args : List AV) (st : List Obj) (K : AV → List Obj → Prop) : Prop :=
  match E.P.funcs[f]? with
  | some fn =>
    (match fn.body with
     | some c =>
       rec f none st.length c { regs := args ++ junks (fn.ntmps - args.length), st } fun e s =>
         match e with
         | .normal | .ret => (match resA E.P s fn.results.toList with | some l => K (result1 l) s.st | none => False)
         | _ => False
     | none => False)
  | none => False
def tableA (E : Env) (f : FuncId) (args : List AV) (st : List Obj) (K : AV → List Obj → Prop) : Prop :=
  let ids := reach st (st.length * st.length + st.length + 20) (refsL args) []
  let ρ := fun i => idxN i ids 0
  let β := backN ids st.length
  cnd (idsOk 0 st (refsL args) ids) (frcS { regs := renL ρ args, st := renSt ρ (getSt st ids) } fun s => E.call f s.regs s.st fun r sub => frcA (ren β r) fun r' => frcOs (mergeSt st ids β sub) fun st' => K r' st')
def lendL (st : List Obj) : List AV → Option (List AV × List Nat)
  | [] => some ([], [])
  | a :: l =>
    match lendL st l with
    | none => none
    | some (m, is) =>
      match a with
      | .slc _ _ _ => (match pureA st a with | some b => some (b :: m, rowsOf a ++ is) | none => none)
      | .agg _ => (match pureA st a with | some b => some (b :: m, rowsOf a ++ is) | none => none)
      | _ => some (a :: m, is)
def formR (P : Program) (Ts : List TypeId) : AV → AV
  | .tup l => .tup (formL P Ts l)
  | a => (match Ts with | [T] => form1 P T a | _ => a)
def setParams : List Tmp → List AV → List AV → List AV
  | p :: ps, a :: as, regs => setParams ps as (setN regs p a)
  | _, _, regs => regs
def roundA (rec : Rec) (l : Nat) (args : List AV) (st : List Obj) (K : AV → List Obj → Prop) : Prop :=
  match nthO st l with
  | .loop r =>
    if r.state = .ready ∧ r.params.size = args.length then
      rec r.fn (some l) st.length r.assign { regs := setParams r.params.toList args r.regs, st } fun e s1 =>
        match e with
        | .normal =>
          (match nthO s1.st l with
           | .loop r1 =>
             if r1.state = .ready then
               rec r.fn (some l) st.length r.body { s1 with st := setO s1.st l (.loop { r1 with state := .busy }) } fun e2 s2 =>
                 match nthO s2.st l with
                 | .loop r2 =>
                   (match e2 with
                    | .normal => K (.lit (.bool true)) (setO s2.st l (.loop { r2 with state := .ready, pending := none }))
                    | .ret => K (.lit (.bool false)) (setO s2.st l (.loop { r2 with state := .done, pending := some .ret }))
                    | .exit id => K (.lit (.bool false)) (setO s2.st l (.loop { r2 with state := .done, pending := some (.exit id) }))
                    | _ => False)
                 | _ => False
             else False
           | _ => False)
        | _ => False
    else False
  | _ => False
def nilN : List Nat → Bool
  | [] => true
  | _ => false
def yieldA (l : Nat) (todo : Option (List AV)) (args : List AV) (st : List Obj) (K : AV → List Obj → Prop) : Prop :=
  match todo, lendL st args with
  | some xs, some (as, is) =>
    cnd (nilN (refsL as)) (∃ rest, xs = .tup as :: rest ∧ K (.lit (.bool true)) (setO (freezeSt st is) l (.ext (some rest))) ∧ K (.lit (.bool false)) (setO (freezeSt st is) l (.ext none)))
  | _, _ => False
def callA (E : Env) (rec : Rec) (g : AV) (args : List AV) (st : List Obj) (K : AV → List Obj → Prop) : Prop :=
  match g with
  | .clo f caps =>
    if E.inl f then inlineA E rec f (args ++ caps) st K
    else if E.own f then tableA E f (args ++ caps) st K
    else
      (match lendL st (args ++ caps) with
       | some (as, is) => tableA E f (formL E.P (paramsOf E.P f) as) (freezeSt st is) K
       | none => False)
  | .yld l =>
    (match nthO st l with
     | .ext t => yieldA l t args st K
     | _ => roundA rec l args st K)
  | _ => False
def refineR (s : S) (t : Option Tmp) (b : Bool) : S :=
  match t with
  | none => s
  | some d => { s with regs := setN s.regs d (.lit (.bool b)) }
def dstOf : List Oper → Nat → Option Tmp
  | [], _ => none
  | o :: _, 0 => o.dst
  | _ :: l, n + 1 => dstOf l n
def tmpOf : Operand → Option Tmp
  | .tmp t => some t
  | _ => none
def calleeOf (s : S) : Op → Option (AV × List AV)
  | .call { callee := .value g, args, .. } => some (ev s g, evL s args.toList)
  | _ => none
def opA (E : Env) (rec : Rec) (s : S) (dst : Option Tmp) (o : Op) (K : S → Prop) : Prop :=
  match readA E s o with
  | some (c, a) => cnd c (K (put s dst a))
  | none =>
    match o with
    | .pick c a b =>
      (match ev s c with
       | .lit (.bool t) => brn t (K (put (refineR s (tmpOf c) true) dst (ev s a))) (K (put (refineR s (tmpOf c) false) dst (ev s b)))
       | _ => False)
    | o =>
      match calleeOf s o with
      | some (g, args) => callA E rec g args s.st fun a st => K (put { s with st } dst a)
      | none => writeA E.P s dst o K
def opsA (E : Env) (rec : Rec) (ops : List Oper) : List Oper → S → (S → Prop) → Prop
  | [], s, K => K s
  | o :: l, s, K =>
    match o.guard with
    | none => opA E rec s o.dst o.op fun s' => opsA E rec ops l s' K
    | some (j, want) =>
      match dstOf ops j with
      | none => False
      | some t =>
        match nth s.regs t with
        | .lit (.bool b) =>
          match want with
          | true => brn b (opA E rec (refineR s (some t) true) o.dst o.op fun s' => opsA E rec ops l s' K)
                          (opsA E rec ops l (put (refineR s (some t) false) o.dst (.tup [])) K)
          | false => brn b (opsA E rec ops l (put (refineR s (some t) true) o.dst (.tup [])) K)
                           (opA E rec (refineR s (some t) false) o.dst o.op fun s' => opsA E rec ops l s' K)
        | .tup [] => opsA E rec ops l (put s o.dst (.tup [])) K
        | _ => False
def optOps : Option Operand → List Operand
  | none => []
  | some x => [x]
def opsOf : Op → List Operand
  | .move x | .assign x | .load _ x | .nilCheck x | .unOp _ _ x | .fieldAddr _ x _ | .field _ x _ | .extract x _ | .box _ x | .makeInterface _ x | .convert _ _ x => [x]
  | .pick c a b => [c, a, b]
  | .binOp _ _ x y _ | .indexAddr _ x y | .index _ x y | .lookup _ x y _ | .store _ x y | .makeSlice _ x y | .mapEntry _ x y => [x, y]
  | .slice _ x lo hi m => x :: (optOps lo ++ optOps hi ++ optOps m)
  | .makeFunc _ _ caps => caps.toList
  | .build _ ps | .buildSlice _ _ ps => ps.toList.map (·.2)
  | .mapUpdate _ x y z | .entryStore _ x y z => [x, y, z]
  | .range _ x | .next x _ | .entry x => [x]
  | .call { callee := .value g, args, .. } => g :: args.toList
  | .call { args, .. } => args.toList
  | _ => []
def allC : List Operand → Bool
  | [] => true
  | .const _ :: l => allC l
  | _ => false
def clsO (quiet : FuncId → Bool) : Op → Nat
  | .move _ | .assign _ | .binOp .. | .unOp .. | .extract .. | .makeFunc .. | .pick .. | .makeInterface .. | .field .. | .build .. | .index .. => 0
  | .load .. | .nilCheck _ | .convert .. | .slice .. | .fieldAddr .. | .indexAddr .. | .lookup .. => 1
  | .call { callee := .builtin .len, .. } => 1
  | .call { callee := .builtin .min, .. } => 1
  | .call { callee := .builtin .max, .. } => 1
  | .call { callee := .value (.func f), args, .. } => bif quiet f then (bif allC args.toList then 0 else 1) else 2
  | _ => 2
def boxSame : List Obj → List Obj → Prop
  | [], _ => True
  | _ :: _, [] => False
  | .box T a :: l, o :: l' => o = .box T a ∧ boxSame l l'
  | .rows T E ls pd :: l, o :: l' => o = .rows T E ls pd ∧ boxSame l l'
  | _ :: l, _ :: l' => boxSame l l'
def frm (b : Bool) (st st' : List Obj) (p : Prop) : Prop :=
  match b with
  | true => boxSame st st' ∧ p
  | false => p
def litB (E : Env) (g : AV) (args : List AV) (st : List Obj) : Bool :=
  match g with
  | .clo f caps => !E.inl f && !E.own f && (match lendL st (args ++ caps) with
    | some (as, []) => nilN (refsL (formL E.P (paramsOf E.P f) as))
    | _ => false)
  | _ => false
def calmO (calm : FuncId → Bool) : Op → Bool
  | .call { callee := .value (.func f), .. } => calm f
  | _ => false
def opD (E : Env) (rec : Rec) (s : S) (dst : Option Tmp) (o : Op) (K : S → Prop) : Prop :=
  match clsO E.quiet o with
  | 2 =>
    (match calleeOf s o with
     | some (g, args) => callA E rec g args s.st fun a st => frm (calmO E.calm o && !litB E g args s.st) s.st st (K (put { s with st } dst a))
     | none => writeA E.P s dst o K)
  | _ =>
    (match readA E s o with
     | some (c, a) => cnd c (K (put s dst a))
     | none =>
       (match o with
        | .pick c a b =>
          (match ev s c with
           | .lit (.bool t) => brn t (K (put (refineR s (tmpOf c) true) dst (ev s a))) (K (put (refineR s (tmpOf c) false) dst (ev s b)))
           | _ => False)
        | _ => False))
def stepD (E : Env) (rec : Rec) (ops : List Oper) (o : Oper) (s : S) (K : S → Prop) : Prop :=
  match o.guard with
  | none => opD E rec s o.dst o.op K
  | some (j, want) =>
    match dstOf ops j with
    | none => False
    | some t =>
      match nth s.regs t with
      | .lit (.bool b) =>
        match want with
        | true => brn b (opD E rec (refineR s (some t) true) o.dst o.op K) (K (put (refineR s (some t) false) o.dst (.tup [])))
        | false => brn b (K (put (refineR s (some t) true) o.dst (.tup []))) (opD E rec (refineR s (some t) false) o.dst o.op K)
      | .tup [] => K (put s o.dst (.tup []))
      | _ => False
def falses : Nat → List Bool
  | 0 => []
  | n + 1 => false :: falses n
def nthB : List Bool → Nat → Bool
  | [], _ => true
  | b :: _, 0 => b
  | _ :: l, n + 1 => nthB l n
def setB : List Bool → Nat → List Bool
  | [], _ => []
  | _ :: l, 0 => true :: l
  | b :: l, n + 1 => b :: setB l n
def listedE (listed : List Bool) : List Edge → Bool
  | [] => true
  | e :: l => (!Region.binds .any e || (Nat.blt e.on listed.length && nthB listed e.on)) && listedE listed l
def readyL (listed : List Bool) : List Oper → Nat → List (Nat × Oper)
  | [], _ => []
  | o :: l, i => bif !nthB listed i && listedE listed o.after.toList then (i, o) :: readyL listed l (i + 1) else readyL listed l (i + 1)
def tmpIs (t : Nat) : List Operand → Bool
  | [] => false
  | .tmp u :: l => Nat.beq t u || tmpIs t l
  | _ :: l => tmpIs t l
def looksB (ops : List Oper) (o : Oper) (t : Nat) : Bool :=
  tmpIs t (opsOf o.op) || (match o.guard with | none => false | some (j, _) => (match dstOf ops j with | none => false | some u => Nat.beq t u))
def looksD (ops : List Oper) (o : Oper) : Option Tmp → Bool
  | none => false
  | some t => looksB ops o t
def dstApart : Option Tmp → Option Tmp → Bool
  | some t, some u => !Nat.beq t u
  | _, _ => true
def apartB (ops : List Oper) (a b : Oper) : Bool :=
  !looksD ops b a.dst && !looksD ops a b.dst && dstApart a.dst b.dst
def makeB : Op → Bool
  | .alloc _ | .box _ _ | .makeSlice .. | .makeMap _ none => true
  | _ => false
def swapB (quiet : FuncId → Bool) (ops : List Oper) (a b : Oper) : Bool :=
  apartB ops a b && (match clsO quiet a.op with | 0 => true | 1 => Nat.blt (clsO quiet b.op) 2 || makeB b.op | _ => false)
def onAny (acc : List Nat) : List Edge → Bool
  | [] => false
  | e :: l => (Region.binds .any e && memN e.on acc) || onAny acc l
def fwd : List Oper → Nat → List Nat → List Nat
  | [], _, acc => acc
  | o :: l, j, acc => bif onAny acc o.after.toList then fwd l (j + 1) (j :: acc) else fwd l (j + 1) acc
def freeB (quiet : FuncId → Bool) (ops : List Oper) (listed : List Bool) (i : Nat) (o : Oper) (fs : List Nat) : List Oper → Nat → Bool
  | [], _ => true
  | b :: l, j => (Nat.beq i j || nthB listed j || memN j fs || swapB quiet ops o b) && freeB quiet ops listed i o fs l (j + 1)
def pickFree (quiet : FuncId → Bool) (ops : List Oper) (listed : List Bool) : List (Nat × Oper) → Option (Nat × Oper)
  | [] => none
  | (i, o) :: l => bif freeB quiet ops listed i o (fwd ops 0 [i]) ops 0 then some (i, o) else pickFree quiet ops listed l
def isBoxO : Obj → Bool
  | .box _ _ => true
  | _ => false
def isRowsO : Obj → Bool
  | .rows _ _ _ _ => true
  | _ => false
def stillB (s : S) (o : Oper) : Bool :=
  match o.guard, o.op with
  | none, .load _ x => (match ev s x with | .ptr k _ _ _ => isBoxO (nthO s.st k) | .pim _ _ => true | .lit _ => true | _ => false)
  | none, .call { callee := .builtin .len, args, .. } => (match evL s args.toList with | [.lst _ _] => true | _ => false)
  | none, .nilCheck x => (match ev s x with | .ptr k _ _ _ => isBoxO (nthO s.st k) | _ => false)
  | none, .fieldAddr _ x _ => (match ev s x with | .ptr k _ _ _ => isBoxO (nthO s.st k) | _ => false)
  | none, .indexAddr _ x _ => (match ev s x with | .slc k 0 _ => isRowsO (nthO s.st k) | _ => false)
  | _, _ => false
def growB : Op → Bool
  | .alloc _ | .box _ _ | .makeMap _ none => true
  | .buildSlice .. => true
  | .makeSlice .. => true
  | .call { callee := .builtin .append, .. } => true
  | _ => false
def apartS (quiet calm : FuncId → Bool) (ops : List Oper) (a b : Oper) : Bool :=
  apartB ops a b && (Nat.blt (clsO quiet b.op) 2 || growB b.op || calmO calm b.op)
def freeS (quiet calm : FuncId → Bool) (ops : List Oper) (listed : List Bool) (i : Nat) (o : Oper) (fs : List Nat) : List Oper → Nat → Bool
  | [], _ => true
  | b :: l, j => (Nat.beq i j || nthB listed j || memN j fs || apartS quiet calm ops o b) && freeS quiet calm ops listed i o fs l (j + 1)
def pickS (quiet calm : FuncId → Bool) (ops : List Oper) (listed : List Bool) (s : S) : List (Nat × Oper) → Option (Nat × Oper)
  | [] => none
  | (i, o) :: l => bif stillB s o && freeS quiet calm ops listed i o (fwd ops 0 [i]) ops 0 then some (i, o) else pickS quiet calm ops listed s l
def typedB (P : Program) (s : S) (o : Oper) : Option (Option TypeId) :=
  match o.guard, o.op with
  | none, .load T x =>
    (match ev s x with
     | .ptr k _ path _ => (match nthO s.st k with | .box Tb _ => bif pathIs P Tb path T && !isAggT P T then some (some T) else none | _ => none)
     | _ => none)
  | none, .nilCheck x => (match ev s x with | .ptr k _ _ _ => bif isBoxO (nthO s.st k) then some none else none | _ => none)
  | none, .fieldAddr _ x _ => (match ev s x with | .ptr k _ _ _ => bif isBoxO (nthO s.st k) then some none else none | _ => none)
  | _, _ => none
def otherB (P : Program) : Option TypeId → Op → Bool
  | none, .store _ _ _ => true
  | some T, .store U _ _ => !Nat.beq U T && !isAggT P U
  | _, _ => false
def apartT (P : Program) (quiet calm : FuncId → Bool) (T : Option TypeId) (ops : List Oper) (a b : Oper) : Bool :=
  apartB ops a b && (Nat.blt (clsO quiet b.op) 2 || growB b.op || calmO calm b.op || otherB P T b.op)
def freeT (P : Program) (quiet calm : FuncId → Bool) (T : Option TypeId) (ops : List Oper) (listed : List Bool) (i : Nat) (o : Oper) (fs : List Nat) : List Oper → Nat → Bool
  | [], _ => true
  | b :: l, j => (Nat.beq i j || nthB listed j || memN j fs || apartT P quiet calm T ops o b) && freeT P quiet calm T ops listed i o fs l (j + 1)
def pickT (P : Program) (quiet calm : FuncId → Bool) (ops : List Oper) (listed : List Bool) (s : S) : List (Nat × Oper) → Option (Nat × Oper)
  | [] => none
  | (i, o) :: l => match typedB P s o with
    | some T => bif freeT P quiet calm T ops listed i o (fwd ops 0 [i]) ops 0 then some (i, o) else pickT P quiet calm ops listed s l
    | none => pickT P quiet calm ops listed s l
def allD (p : Nat → Oper → Prop) : List (Nat × Oper) → Prop
  | [] => True
  | [(i, o)] => p i o
  | (i, o) :: l => p i o ∧ allD p l
def anyD (E : Env) (rec : Rec) (ops : List Oper) : Nat → List Bool → S → (S → Prop) → Prop
  | 0, listed, s, K => match readyL listed ops 0 with | [] => K s | _ => False
  | n + 1, listed, s, K =>
    match readyL listed ops 0 with
    | [] => K s
    | r =>
      match pickFree E.quiet ops listed r with
      | some (i, o) => stepD E rec ops o s fun s' => anyD E rec ops n (setB listed i) s' K
      | none =>
        match pickS E.quiet E.calm ops listed s r with
        | some (i, o) => stepD E rec ops o s fun s' => anyD E rec ops n (setB listed i) s' K
        | none =>
          match bif E.calm 888888 then pickT E.P.toProgram E.quiet E.calm ops listed s r else none with
          | some (i, o) => stepD E rec ops o s fun s' => anyD E rec ops n (setB listed i) s' K
          | none => allD (fun i o => stepD E rec ops o s fun s' => anyD E rec ops n (setB listed i) s' K) r
def seqK (p : S → (Exit → S → Prop) → Prop) (K : Exit → S → Prop) : Exit → S → Prop
  | .normal, s => p s K
  | e, s => K e s
def blockK (id : Nat) (K : Exit → S → Prop) : Exit → S → Prop
  | .exit i, s => bif Nat.beq i id then K .normal s else K (.exit i) s
  | e, s => K e s
def scopeK (K : Exit → S → Prop) : Exit → S → Prop
  | .goto _, _ => False
  | e, s => K e s
def firstR : Code → Option Nat
  | .region id _ _ => some id
  | .seq a b => (match firstR a with | some n => some n | none => firstR b)
  | .block _ c | .scope c | .loop c => firstR c
  | .cond _ a b => (match firstR a with | some n => some n | none => firstR b)
  | .rangeFunc _ _ a _ => firstR a
  | _ => none
def rangeK (l : Nat) (s : S) (K : Exit → S → Prop) (st : List Obj) : Prop :=
  match nthO st l with
  | .loop r =>
    (match r.state, r.pending with
     | .busy, _ => False
     | _, none => K .normal { s with st := setO st l .dead }
     | _, some .ret => K .ret { s with st := setO st l .dead }
     | _, some (.exit id) => K (.exit id) { s with st := setO st l .dead }
     | _, _ => False)
  | _ => False
def isLoop (rd : Option Nat) (st : List Obj) : Bool :=
  match rd with
  | none => true
  | some l => match nthO st l with | .loop _ => true | _ => false
def codeA (E : Env) (rec : Rec) (f : FuncId) (rd : Option Nat) (base : Nat) : Code → S → (Exit → S → Prop) → Prop
  | .skip, s, K => K .normal s
  | .label _, s, K => K .normal s
  | .region _ ops false, s, K => opsA E rec ops.toList ops.toList s (K .normal)
  | .region _ ops true, s, K => anyD E rec ops.toList ops.toList.length (falses ops.toList.length) s (K .normal)
  | .seq a b, s, K => codeA E rec f rd base a s (seqK (codeA E rec f rd base b) K)
  | .cond c x y, s, K =>
    match ev s c with
    | .lit (.bool t) => brn t (codeA E rec f rd base x (refineR s (tmpOf c) true) K) (codeA E rec f rd base y (refineR s (tmpOf c) false) K)
    | _ => False
  | .block id c, s, K => codeA E rec f rd base c s (blockK id K)
  | .loop c, s, K =>
    match firstR c with
    | some n => cnd (canonOk E.P (E.live f n) base s) (frcS (canon E.P (E.live f n) base s) fun s' => E.loop f n c rd base s' K)
    | none => False
  | .rangeFunc g ps asg body, s, K =>
    match ev s g with
    | .clo f' caps =>
      cnd (isLoop rd s.st) (match E.gen f' with
        | true => E.rng f (match firstR asg with | some n => n | none => 0) f' caps
          (s.st ++ [.loop { state := .ready, pending := none, fn := f, regs := s.regs, params := ps, assign := asg, body := body }]) (rangeK s.st.length s K)
        | false => inlineA E rec f' (.yld s.st.length :: caps)
          (s.st ++ [.loop { state := .ready, pending := none, fn := f, regs := s.regs, params := ps, assign := asg, body := body }])
          fun _ st => rangeK s.st.length s K st)
    | _ => False
  | .exit id, s, K => K (.exit id) s
  | .goto _, _, _ => False
  | .scope c, s, K => codeA E rec f rd base c s (scopeK K)
  | .ret, s, K => K .ret s
  | .refuse _, _, _ => False
def vc (E : Env) : Nat → Rec
  | 0 => fun _ _ _ _ _ _ => False
  | n + 1 => fun f rd base c s K => codeA E (vc E n) f rd base c s K
end Go.Dn
