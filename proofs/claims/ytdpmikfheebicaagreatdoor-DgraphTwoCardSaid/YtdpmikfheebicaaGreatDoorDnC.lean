import Derived.Test.YtdpmikfheebicaaGreatDoorDnB
namespace Go.Dn
open Go
mutual
def refs : AV → List Nat
 | .aB i _ _ => [i]
 | .ptr i _ _ _ => [i]
 | .mp i => [i]
 | .ct i => [i]
 | .jk i _ => [i]
 | .agg l => cw l
 | .bj l => cw l
 | .bL _ l => cw l
 | .gO _ a => refs a
 | _ => []
def cw : List AV → List Nat
 | [] => []
 | a :: l => refs a ++ cw l
end
def vl : Obj → List Nat
 | .box _ a => refs a
 | .loop r => cw r.a5
 | .iter i _ _ => [i]
 | _ => []
def j6 (i : Nat) : List Nat → Bool
 | [] => false
 | j :: l => Nat.beq i j || j6 i l
def reach (st : List Obj) : Nat → List Nat → List Nat → List Nat
 | 0, _, acc => acc
 | _ + 1, [], acc => acc
 | n + 1, i :: todo, acc =>
  bif j6 i acc then reach st n todo acc else reach st n (vl (ar st i) ++ todo) (acc ++ [i])
def iy (i : Nat) : List Nat → Nat → Option Nat
 | [], _ => none
 | j :: l, n => bif Nat.beq i j then some n else iy i l (n + 1)
mutual
def j3 (ρ : Nat → Option Nat) : AV → AV
 | .aB i lo n => (match ρ i with | some j => .aB j lo n | none => .b7)
 | .ptr i k p o => (match ρ i with | some j => .ptr j k p o | none => .b7)
 | .mp i => (match ρ i with | some j => .mp j | none => .b7)
 | .ct i => (match ρ i with | some j => .ct j | none => .b7)
 | .jk i k => (match ρ i with | some j => .jk j k | none => .b7)
 | .agg l => .agg (fo ρ l)
 | .bj l => .bj (fo ρ l)
 | .bL f l => .bL f (fo ρ l)
 | .gO T a => .gO T (j3 ρ a)
 | a => a
def fo (ρ : Nat → Option Nat) : List AV → List AV
 | [] => []
 | a :: l => j3 ρ a :: fo ρ l
end
def eb (ρ : Nat → Option Nat) : Obj → Obj
 | .box T a => .box T (j3 ρ a)
 | .loop r => .loop { r with a5 := fo ρ r.a5 }
 | .iter i n ks => .iter (match ρ i with | some j => j | none => i) n ks
 | o => o
def gq (st : List Obj) : List Nat → List Obj
 | [] => []
 | i :: l => ar st i :: gq st l
def gn (ρ : Nat → Option Nat) : List Obj → List Obj
 | [] => []
 | o :: l => eb ρ o :: gn ρ l
def upto : Nat → List Nat
 | 0 => []
 | n + 1 => upto n ++ [n]
def gN (ids : List Nat) (n : Nat) (j : Nat) : Option Nat :=
 match idN ids j with
 | some i => some i
 | none => some (n + (j - ids.length))
where
 idN : List Nat → Nat → Option Nat
  | [], _ => none
  | i :: _, 0 => some i
  | _ :: l, k + 1 => idN l k
def eM (st : List Obj) (ids : List Nat) (ρ : Nat → Option Nat) : List Obj → List Obj
 | sub => go st ids sub
where
 go : List Obj → List Nat → List Obj → List Obj
  | st, i :: ids, o :: sub => go (cP st i (eb ρ o)) ids sub
  | st, [], sub => st ++ gn ρ sub
  | st, _ :: _, [] => st
def eX (live : List (Nat × Option TypeId)) : List AV → Nat → List AV
 | [], _ => []
 | a :: l, n => (bif memL n live then a else .b7) :: eX live l (n + 1)
where
 memL (n : Nat) : List (Nat × Option TypeId) → Bool
  | [] => false
  | (j, _) :: l => Nat.beq n j || memL n l
def Ku : Nat := 1000000000
def je : List (Nat × Option TypeId) → S → S
 | [], s => s
 | (_, none) :: l, s => je l s
 | (r, some T) :: l, s =>
  match nth s.a5 r with
  | .lit (.slice none 0 0) =>
   (match Nat.ble Ku T with
    | true => je l { a5 := cf s.a5 r (.ae (T - Ku) []), st := s.st }
    | false => je l { a5 := cf s.a5 r (.aB s.st.length 0 0), st := s.st ++ [.row T []] })
  | _ => je l s
def BG (P : Program) (i : Nat) (s : S) : S :=
 match ar s.st i with
 | .box Tb (.lit (.slice none 0 0)) =>
  match P.underlying Tb with
  | some (.slice Te) => { s with st := cP s.st i (.box Tb (.aB s.st.length 0 0)) ++ [.row Te []] }
  | _ => s
 | _ => s
def mu (P : Program) : List Nat → S → S
 | [], s => s
 | i :: l, s => mu P l (BG P i s)
def tq (st : List Obj) : List Nat → List Nat
 | [] => []
 | i :: l => vl (ar st i) ++ tq st l
def fO (base : Nat) (st : List Obj) (roots : List Nat) : List Nat :=
 reach st (st.length * st.length + st.length + 20) (tq st (upto base) ++ roots) (upto base)
def yQ (ids : List Nat) : List Nat → Bool
 | [] => true
 | i :: l => j6 i ids && yQ ids l
def CB (n : Nat) : List Nat → Bool
 | [] => true
 | i :: l => decide (i < n) && CB n l
def we : List Nat → Bool
 | [] => true
 | i :: l => !j6 i l && we l
def rL (ids : List Nat) : List Nat → Bool
 | [] => true
 | i :: l => (match iy i ids 0 with | some j => Nat.beq i j | none => false) && rL ids l
def nF (base : Nat) (st : List Obj) (roots ids : List Nat) : Bool :=
 we ids && CB st.length ids && rL ids (upto base) && yQ ids roots && yQ ids (tq st ids)
def fN (P : Program) (live : List (Nat × Option TypeId)) (s : S) : S :=
 let s1 := je live { s with a5 := eX live s.a5 0 }
 mu P (upto s1.st.length) s1
def ib (P : Program) (live : List (Nat × Option TypeId)) (base : Nat) (s : S) : Bool :=
 nF base (fN P live s).st (cw (fN P live s).a5) (fO base (fN P live s).st (cw (fN P live s).a5))
def rK (ids : List Nat) (s : S) : S :=
 {a5 := fo (fun i => iy i ids 0) s.a5, st := gn (fun i => iy i ids 0) (gq s.st ids) }
def canon (P : Program) (live : List (Nat × Option TypeId)) (base : Nat) (s : S) : S :=
 rK (fO base (fN P live s).st (cw (fN P live s).a5)) (fN P live s)
def Cu (P : Program) (T : TypeId) : List AV → Bool
 | [] => true
 | a :: l => yh P a T && Cu P T l
def rp : Nat := 70368744177664
def lK (Ty : Option TypeId) (Te : TypeId) : Bool :=
 match Ty with
 | none => true
 | some U => U == Te
def pk (P : Program) (E : TypeId) : Bool :=
 match P.underlying E with
 | some (.int _) | some .bool | some .string => P.cellsOf E == 1
 | _ => false
def gf : List AV → Option (List Value)
 | [] => some []
 | .lit v :: l => (match gf l with | some m => some (v :: m) | none => none)
 | _ => none
def mT (P : Program) (s : S) (T : TypeId) (x y : AV) (K : List Obj → AV → Prop) : Prop :=
 match P.underlying T with
 | some (.slice Te) =>
  match nf s.st y, fG P Te with
  | some (Ty, ys), some _ =>
   match lK Ty Te && decide (0 < P.cellsOf Te) with
   | false => False
   | true =>
    match x with
    | .lit (.slice none 0 0) =>
     bg (decide ((ys.length + 1) * (P.bytesOf Te + 1) ≤ rp)) (K (s.st ++ [.row Te ys]) (.aB s.st.length 0 ys.length))
    | .aB i lo n =>
     match ar s.st i with
     | .row Tr xs =>
      if Tr = Te ∧ lo = 0 then
       bg (decide ((n + ys.length + 1) * (P.bytesOf Te + 1) ≤ rp))
        (K (cP s.st i .dead ++ [.row Te ((xs.take n) ++ ys)]) (.aB s.st.length 0 (n + ys.length)))
      else False
     | .rows Tr E ls none =>
      match lo, gf ys with
      | k + 1, some vs =>
       if E = Te ∧ Cu P Te ys = true then
        bg (decide (n = (bw ls k).length) && decide ((n + ys.length + 1) * (P.bytesOf Te + 1) ≤ rp))
         (K (cP s.st i (.rows Tr E (il ls k (bw ls k ++ vs)) (some k))) (.aB i (Nat.succ k) (n + ys.length)))
       else False
      | _, _ => False
     | _ => False
    | _ => False
  | _, _ => False
 | _ => False
def qn (P : Program) (s : S) (T : TypeId) (p x : AV) (K : List Obj → Prop) : Prop :=
 match p with
 | .ptr i k path off =>
  match ar s.st i with
  | .box Tb a =>
   if pB a path && gK a path == off && wid x == P.cellsOf T && wid (ov a path) == P.cellsOf T && nT x && (P.underlying T).isSome then K (cP s.st i (.box Tb (ia a path x))) else False
  | .row _ _ =>
   match bO s.st x, ar (cI s.st (rowsOf x)) i with
   | some x', .row Tr xs =>
    if pB (expand P bM Tr (nth xs k)) path && gK (expand P bM Tr (nth xs k)) path == off && wid x' == P.cellsOf T && wid (ov (expand P bM Tr (nth xs k)) path) == P.cellsOf T &&
      yh P (ia (expand P bM Tr (nth xs k)) path x') Tr && nT x' && (P.underlying T).isSome then
     K (cP (cI s.st (rowsOf x)) i (.row Tr (cf xs k (ia (expand P bM Tr (nth xs k)) path x'))))
    else False
   | _, _ => False
  | .rows Tr E ls (some kp) =>
   (match path, off, x with
    | [], 0, .aB j (k' + 1) m => if j = i ∧ T = Tr then bg (decide (k = kp) && decide (k' = kp) && decide (m = (bw ls k).length)) (K (cP s.st i (.rows Tr E ls none))) else False
    | _, _, _ => False)
  | _ => False
 | _ => False
def eE (a : AV) (n : Nat) : List AV := List.replicate n a
def B9 (P : Program) (Te : TypeId) (z : AV) (n : Nat) : Obj :=
 match P.underlying Te, z with
 | some (.slice E), .lit (.slice none 0 0) => if pk P E = true ∧ P.cellsOf Te = 1 then .rows Te E (List.replicate n []) none else .row Te (eE z n)
 | _, _ => .row Te (eE z n)
def jv (P : Program) (T : TypeId) (st : List Obj) : List AV → List (Nat × AV) → Option (List AV × List Nat)
 | l, [] => some (l, [])
 | l, (i, x) :: ps =>
  match bO st x with
  | some x' =>
   if yh P x' T && decide (i < l.length) then
    match jv P T st (cf l i x') ps with
    | some (m, is) => some (m, rowsOf x ++ is)
    | none => none
   else none
  | none => none
def iw : List Value → Value → Bool
 | [], _ => false
 | k' :: l, k => cv k' k || iw l k
def iX (ks : List Value) : List (Value × AV) → Bool
 | [] => true
 | (k, _) :: es => iw ks k && iX ks es
def y4 (P : Program) (Kt Vt : TypeId) (es : List (Value × AV)) (ks : List Value) (p : Value → AV → Prop) (q : Prop) : Prop :=
 (match P.underlying Kt with
  | some (.int κ) => ∀ n v, (Value.int κ n, v) ∈ es → iw ks (.int κ n) = false → p (.int κ n) (expand P bM Vt v)
  | some .string => ∀ t v, (Value.string t, v) ∈ es → iw ks (.string t) = false → p (.string t) (expand P bM Vt v)
  | _ => False) ∧ (iX ks es = true → q)
def LU : List AV → Bool
 | [] => true
 | _ :: _ => false
def dy : List AV → Nat → Nat → AV → List AV
 | [], _, _, _ => []
 | a :: l, 0, 0, _ => a :: l
 | _ :: l, 0, n + 1, z => z :: dy l 0 n z
 | a :: l, lo + 1, n, z => a :: dy l lo n z
def lB (P : Program) (st : List Obj) (T : TypeId) (y : Operand) (a : AV) (K : Bool → Prop) : Prop :=
 match y, P.underlying T with
 | .const (.slice none 0 0), some (.slice _) =>
  (match a with
   | .lit (.slice none 0 0) => K true
   | .ae _ l => (LU l = true → K true) ∧ K false
   | .aB i _ n => (match JY (ar st i) with | true => (Nat.beq n 0 = true → K true) ∧ K false | false => False)
   | _ => False)
 | _, _ => False
def bX (P : Program) (s : S) (dst : Option Tmp) (o : Op) (K : S → Prop) : Prop :=
 match o with
 | .alloc T =>
  (match fG P T with
   | some z => K (put { s with st := s.st ++ [.box T z] } dst (.ptr s.st.length 0 [] 0))
   | none => False)
 | .box T x => if nT (ev s x) then K (put { s with st := s.st ++ [.box T (ev s x)] } dst (.ptr s.st.length 0 [] 0)) else False
 | .store T p x => qn P s T (ev s p) (ev s x) fun st => K (put { s with st } dst .b7)
 | .buildSlice T len parts =>
  (match P.underlying T with
   | some (.slice Te) =>
    (match fG P Te with
    | some z =>
     (match jv P Te s.st (eE z len) (ej s parts.toList) with
      | some (l, is) =>
       if decide (len * P.cellsOf Te ≤ 16777216) && decide (0 < P.cellsOf Te) then
        K (put { s with st := cI s.st is ++ [.row Te l] } dst (.aB s.st.length 0 len))
       else False
      | none => False)
    | none => False)
   | _ => False)
 | .makeSlice T ln cp =>
  (match P.underlying T, KG (ev s ln), KG (ev s cp) with
   | some (.slice Te), some (.i64, n), some (.i64, c) =>
    (match fG P Te with
    | some z =>
     bg (decide (0 ≤ n) && decide (n ≤ c) && decide ((c.toNat + 1) * (P.bytesOf Te + 1) ≤ rp) && decide (0 < P.cellsOf Te))
      (K (put { s with st := s.st ++ [B9 P Te z n.toNat] } dst (.aB s.st.length 0 n.toNat)))
    | none => False)
   | _, _, _ => False)
 | .makeMap T none =>
  (match P.underlying T with
   | some (.map Kt Vt) => K (put { s with st := s.st ++ [.map Kt Vt []] } dst (.mp s.st.length))
   | _ => False)
 | .mapUpdate T m k x =>
  (match P.underlying T, ev s m, ev s k, bO s.st (ev s x) with
   | some (.map Kt Vt), .mp i, .lit kv, some v =>
    (match ar (cI s.st (rowsOf (ev s x))) i with
    | .map K' V' es =>
     if K' = Kt ∧ V' = Vt ∧ plainKey P Kt kv = true ∧ yh P v Vt = true then
      K (put { s with st := cP (cI s.st (rowsOf (ev s x))) i (.map Kt Vt (dU es kv v)) } dst .b7)
     else False
    | _ => False)
   | _, _, _, _ => False)
 | .mapEntry T m k =>
  (match P.underlying T, ev s m, ev s k with
   | some (.map Kt Vt), .mp i, .lit kv =>
    (match ar s.st i, fG P Vt with
    | .map K' V' es, some z =>
     if K' = Kt ∧ V' = Vt ∧ plainKey P Kt kv = true then
      let v := expand P bM Vt (cF es kv z)
      K (put { s with st := cP s.st i (.map Kt Vt (dU es kv v)) } dst (.bj [v, .jk i kv]))
     else False
    | _, _ => False)
   | _, _, _ => False)
 | .entryStore T m jk x =>
  (match P.underlying T, ev s m, ev s jk, bO s.st (ev s x) with
   | some (.map Kt Vt), .mp i, .jk j kv, some v =>
    (match ar (cI s.st (rowsOf (ev s x))) i with
    | .map K' V' es =>
     if i = j ∧ K' = Kt ∧ V' = Vt ∧ plainKey P Kt kv = true ∧ yh P v Vt = true then
      K (put { s with st := cP (cI s.st (rowsOf (ev s x))) i (.map Kt Vt (dU es kv v)) } dst .b7)
     else False
    | _ => False)
   | _, _, _, _ => False)
 | .range T x =>
  (match P.underlying T, ev s x with
   | some (.map _ _), .mp i =>
    (match ar s.st i with
    | .map _ _ es => K (put { s with st := s.st ++ [.iter i es.length []] } dst (.ptr s.st.length 0 [] 0))
    | _ => False)
   | some (.map _ _), .iq Kt Vt ks vs => K (put { s with st := s.st ++ [.fit Kt Vt ks vs []] } dst (.ptr s.st.length 0 [] 0))
   | some (.map _ _), .lit (.map none) => K (put { s with st := s.st ++ [.iter s.st.length 0 [.map none]] } dst (.ptr s.st.length 0 [] 0))
   | some .string, .lit (.string b) => K (put { s with st := s.st ++ [.cL b 0] } dst (.ptr s.st.length 0 [] 0))
   | _, _ => False)
 | .next it false =>
  (match ev s it with
   | .ptr j 0 _ 0 =>
    (match ar s.st j with
    | .iter i n ks =>
     (match ar s.st i with
      | .map Kt Vt es =>
       bg (Nat.beq es.length n) (y4 P Kt Vt es ks (fun k v => K (put { s with st := cP s.st j (.iter i n (k :: ks)) } dst (.bj [.lit (.bool true), .lit k, v]))) (K (put s dst (.bj [.lit (.bool false)]))))
      | _ =>
       (match ks with
       | [.map none] => K (put s dst (.bj [.lit (.bool false)]))
       | _ => False))
    | .fit Kt Vt ks vs met => y4 P Kt Vt (ks.zip vs) met (fun k v => K (put { s with st := cP s.st j (.fit Kt Vt ks vs (k :: met)) } dst (.bj [.lit (.bool true), .lit k, v]))) (K (put s dst (.bj [.lit (.bool false)])))
    | _ => False)
   | _ => False)
 | .next it true =>
  (match ev s it with
   | .ptr j 0 _ 0 =>
    (match ar s.st j with
    | .cL b p =>
     aD (Nat.blt p b.size) (K (put { s with st := cP s.st j (.cL b (p + (Utf8.decode b p).2)) } dst (.bj [.lit (.bool true), .lit (.int .i64 p), .lit (.int .i32 (Utf8.decode b p).1)]))) (K (put s dst (.bj [.lit (.bool false)])))
    | _ => False)
   | _ => False)
 | .binOp .eql T x y _ => lB P s.st T y (ev s x) fun b => K (put s dst (.lit (.bool b)))
 | .binOp .neq T x y _ => lB P s.st T y (ev s x) fun b => K (put s dst (.lit (.bool (!b))))
 | .call { callee := .builtin .clear, args, argTypes } =>
  (match lH s args.toList, argTypes.toList with
   | [.aB i lo n], [T] =>
    (match P.underlying T, ar s.st i with
    | some (.slice Te), .row Tr xs =>
     (match fG P Te with
      | some z => if Tr = Te ∧ 0 < P.cellsOf Te then K (put { s with st := cP s.st i (.row Te (dy xs lo n z)) } dst (.bj [])) else False
      | none => False)
    | _, _ => False)
   | _, _ => False)
 | .entry it =>
  (match ev s it with
   | .ptr j 0 _ 0 =>
    (match ar s.st j with
    | .iter i n (k :: _) =>
     (match ar s.st i with
      | .map _ Vt es =>
       (match fG P Vt with
       | some z => bg (Nat.beq es.length n) (K (put s dst (.bj [.lit k, expand P bM Vt (cF es k z)])))
       | none => False)
      | _ => False)
    | .fit _ Vt ks vs (k :: _) =>
     (match fG P Vt with
      | some z => K (put s dst (.bj [.lit k, expand P bM Vt (cF (ks.zip vs) k z)]))
      | none => False)
    | _ => False)
   | _ => False)
 | .call { callee := .builtin .append, args, argTypes } =>
  (match lH s args.toList, argTypes.toList with
   | [x, y], [T, T'] => if T = T' then mT P s T x y fun st a => K (put { s with st } dst a) else False
   | _, _ => False)
 | _ => False
def uy : Nat → (Nat → Prop) → Prop
 | 0, k => k 0
 | n + 1, k => uy n fun m => k (m + 1)
def I3 : List Nat → (List Nat → Prop) → Prop
 | [], k => k []
 | n :: l, k => uy n fun n' => I3 l fun l' => k (n' :: l')
theorem xX : ∀ (n : Nat) (k : Nat → Prop), uy n k = k n
 | 0, _ => rfl
 | n + 1, k => by simp only [uy, xX n]
theorem CJ : ∀ (l : List Nat) (k : List Nat → Prop), I3 l k = k l
 | [], _ => rfl
 | n :: l, k => by simp only [I3, xX, CJ l]
mutual
def sk : AV → (AV → Prop) → Prop
 | .agg l, k => x5 l fun l' => k (.agg l')
 | .bj l, k => x5 l fun l' => k (.bj l')
 | .bL f l, k => x5 l fun l' => k (.bL f l')
 | .gO T a, k => sk a fun a' => k (.gO T a')
 | .lit v, k => k (.lit v)
 | .b7, k => k .b7
 | .ae T l, k => k (.ae T l)
 | .aB i lo n, k => uy i fun i' => k (.aB i' lo n)
 | .ptr i x p o, k => uy i fun i' => I3 p fun p' => uy o fun o' => k (.ptr i' x p' o')
 | .iz T a, k => k (.iz T a)
 | .mp i, k => uy i fun i' => k (.mp i')
 | .ct i, k => uy i fun i' => k (.ct i')
 | .jk i x, k => uy i fun i' => k (.jk i' x)
 | .iq K V ks vs, k => k (.iq K V ks vs)
def x5 : List AV → (List AV → Prop) → Prop
 | [], k => k []
 | a :: l, k => sk a fun a' => x5 l fun l' => k (a' :: l')
end
def MF : Obj → (Obj → Prop) → Prop
 | .dead, k => k .dead
 | .box T a, k => sk a fun a' => k (.box T a')
 | .row T xs, k => k (.row T xs)
 | .lG T xs, k => k (.lG T xs)
 | .map K V es, k => k (.map K V es)
 | .loop r, k => x5 r.a5 fun l => k (.loop { state := r.state, pending := r.pending, fn := r.fn, a5 := l, params := r.params, assign := r.assign, body := r.body })
 | .iter i n ks, k => k (.iter i n ks)
 | .ext t, k => k (.ext t)
 | .cL s p, k => k (.cL s p)
 | .rows T E ls pd, k => k (.rows T E ls pd)
 | .fit K V ks vs met, k => k (.fit K V ks vs met)
def tf : List Obj → (List Obj → Prop) → Prop
 | [], k => k []
 | o :: l, k => MF o fun o' => tf l fun l' => k (o' :: l')
def zW (s : S) (k : S → Prop) : Prop := x5 s.a5 fun r => tf s.st fun t => k { a5 := r, st := t }
mutual
theorem mQ : ∀ (a : AV) (k : AV → Prop), sk a k = k a
 | .agg l, k => by simp only [sk, mY l]
 | .bj l, k => by simp only [sk, mY l]
 | .bL f l, k => by simp only [sk, mY l]
 | .gO T a, k => by simp only [sk, mQ a]
 | .lit _, _ | .b7, _ | .ae _ _, _ | .aB _ _ _, _ | .ptr _ _ _ _, _ | .iz _ _, _ | .mp _, _ | .ct _, _ | .jk _ _, _ | .iq _ _ _ _, _ => by simp only [sk, xX, CJ]
theorem mY : ∀ (l : List AV) (k : List AV → Prop), x5 l k = k l
 | [], k => by simp only [x5]
 | a :: l, k => by simp only [x5, mQ a, mY l]
end
theorem JI (o : Obj) (k : Obj → Prop) : MF o k = k o := by
 cases o <;> simp only [MF, mQ, mY]
theorem kK : ∀ (l : List Obj) (k : List Obj → Prop), tf l k = k l
 | [], k => rfl
 | o :: l, k => by simp only [tf, JI, kK l]
theorem lv (s : S) (k : S → Prop) : zW s k = k s := by simp only [zW, mY, kK]
abbrev Rec := FuncId → Option Nat → Nat → Code → S → (Exit → S → Prop) → Prop
def bG : Nat → List AV
 | 0 => []
 | n + 1 => .b7 :: bG n
def rS (P : Program) (s : S) : List ResultVar → Option (List AV)
 | [] => some []
 | .tmp t :: l => (match rS P s l with | some m => some (nth s.a5 t :: m) | none => none)
 | .cell a T :: l =>
  (match mr P s.st T (nth s.a5 a), rS P s l with
   | some (true, x), some m => some (x :: m)
   | _, _ => none)
def kW : List AV → AV
 | [a] => a
 | l => .bj l
def ll (E : Env) (rec : Rec) (f : FuncId) (args : List AV) (st : List Obj) (K : AV → List Obj → Prop) : Prop :=
 match E.P.funcs[f]? with
 | some fn =>
  (match fn.body with
   | some c =>
    rec f none st.length c { a5 := args ++ bG (fn.ntmps - args.length), st } fun e s =>
     match e with
     | .normal | .ret => (match rS E.P s fn.results.toList with | some l => K (kW l) s.st | none => False)
     | _ => False
   | none => False)
 | none => False
def qf (E : Env) (f : FuncId) (args : List AV) (st : List Obj) (K : AV → List Obj → Prop) : Prop :=
 let ids := reach st (st.length * st.length + st.length + 20) (cw args) []
 let ρ := fun i => iy i ids 0
 let β := gN ids st.length
 bg (nF 0 st (cw args) ids) (zW { a5 := fo ρ args, st := gn ρ (gq st ids) } fun s => E.call f s.a5 s.st fun r sub => sk (j3 β r) fun r' => tf (eM st ids β sub) fun st' => K r' st')
def v8 (st : List Obj) : List AV → Option (List AV × List Nat)
 | [] => some ([], [])
 | a :: l =>
  match v8 st l with
  | none => none
  | some (m, is) =>
   match a with
   | .aB _ _ _ => (match bO st a with | some b => some (b :: m, rowsOf a ++ is) | none => none)
   | .agg _ => (match bO st a with | some b => some (b :: m, rowsOf a ++ is) | none => none)
   | _ => some (a :: m, is)
def F7 (P : Program) (Ts : List TypeId) : AV → AV
 | .bj l => .bj (sa P Ts l)
 | a => (match Ts with | [T] => Dd P T a | _ => a)
def gV : List Tmp → List AV → List AV → List AV
 | p :: ps, a :: as, a5 => gV ps as (cf a5 p a)
 | _, _, a5 => a5
def iC (rec : Rec) (l : Nat) (args : List AV) (st : List Obj) (K : AV → List Obj → Prop) : Prop :=
 match ar st l with
 | .loop r =>
  if r.state = .ready ∧ r.params.size = args.length then
   rec r.fn (some l) st.length r.assign { a5 := gV r.params.toList args r.a5, st } fun e s1 =>
    match e with
    | .normal =>
     (match ar s1.st l with
      | .loop r1 =>
       if r1.state = .ready then
        rec r.fn (some l) st.length r.body { s1 with st := cP s1.st l (.loop { r1 with state := .busy }) } fun e2 s2 =>
         match ar s2.st l with
         | .loop r2 =>
          (match e2 with
          | .normal => K (.lit (.bool true)) (cP s2.st l (.loop { r2 with state := .ready, pending := none }))
          | .ret => K (.lit (.bool false)) (cP s2.st l (.loop { r2 with state := .done, pending := some .ret }))
          | .exit id => K (.lit (.bool false)) (cP s2.st l (.loop { r2 with state := .done, pending := some (.exit id) }))
          | _ => False)
         | _ => False
       else False
      | _ => False)
    | _ => False
  else False
 | _ => False
def MA : List Nat → Bool
 | [] => true
 | _ => false
def xh (l : Nat) (todo : Option (List AV)) (args : List AV) (st : List Obj) (K : AV → List Obj → Prop) : Prop :=
 match todo, v8 st args with
 | some xs, some (as, is) =>
  bg (MA (cw as)) (∃ rest, xs = .bj as :: rest ∧ K (.lit (.bool true)) (cP (cI st is) l (.ext (some rest))) ∧ K (.lit (.bool false)) (cP (cI st is) l (.ext none)))
 | _, _ => False
def qP (E : Env) (rec : Rec) (g : AV) (args : List AV) (st : List Obj) (K : AV → List Obj → Prop) : Prop :=
 match g with
 | .bL f caps =>
  if E.inl f then ll E rec f (args ++ caps) st K
  else if E.own f then qf E f (args ++ caps) st K
  else
   (match v8 st (args ++ caps) with
    | some (as, is) => qf E f (sa E.P (oJ E.P f) as) (cI st is) K
    | none => False)
 | .ct l =>
  (match ar st l with
   | .ext t => xh l t args st K
   | _ => iC rec l args st K)
 | _ => False
def dC (s : S) (t : Option Tmp) (b : Bool) : S :=
 match t with
 | none => s
 | some d => { s with a5 := cf s.a5 d (.lit (.bool b)) }
def jN : List Oper → Nat → Option Tmp
 | [], _ => none
 | o :: _, 0 => o.dst
 | _ :: l, n + 1 => jN l n
def ph : Operand → Option Tmp
 | .tmp t => some t
 | _ => none
def fM (s : S) : Op → Option (AV × List AV)
 | .call { callee := .value g, args, .. } => some (ev s g, lH s args.toList)
 | _ => none
def Jz (E : Env) (rec : Rec) (s : S) (dst : Option Tmp) (o : Op) (K : S → Prop) : Prop :=
 match bx E s o with
 | some (c, a) => bg c (K (put s dst a))
 | none =>
  match o with
  | .pick c a b =>
   (match ev s c with
    | .lit (.bool t) => aD t (K (put (dC s (ph c) true) dst (ev s a))) (K (put (dC s (ph c) false) dst (ev s b)))
    | _ => False)
  | o =>
   match fM s o with
   | some (g, args) => qP E rec g args s.st fun a st => K (put { s with st } dst a)
   | none => bX E.P s dst o K
def ow (E : Env) (rec : Rec) (ops : List Oper) : List Oper → S → (S → Prop) → Prop
 | [], s, K => K s
 | o :: l, s, K =>
  match o.guard with
  | none => Jz E rec s o.dst o.op fun s' => ow E rec ops l s' K
  | some (j, want) =>
   match jN ops j with
   | none => False
   | some t =>
    match nth s.a5 t with
    | .lit (.bool b) =>
     match want with
     | true => aD b (Jz E rec (dC s (some t) true) o.dst o.op fun s' => ow E rec ops l s' K)
             (ow E rec ops l (put (dC s (some t) false) o.dst (.bj [])) K)
     | false => aD b (ow E rec ops l (put (dC s (some t) true) o.dst (.bj [])) K)
              (Jz E rec (dC s (some t) false) o.dst o.op fun s' => ow E rec ops l s' K)
    | .bj [] => ow E rec ops l (put s o.dst (.bj [])) K
    | _ => False
def og : Option Operand → List Operand
 | none => []
 | some x => [x]
def opsOf : Op → List Operand
 | .move x | .assign x | .load _ x | .nilCheck x | .unOp _ _ x | .fieldAddr _ x _ | .field _ x _ | .extract x _ | .box _ x | .makeInterface _ x | .convert _ _ x => [x]
 | .pick c a b => [c, a, b]
 | .binOp _ _ x y _ | .indexAddr _ x y | .index _ x y | .lookup _ x y _ | .store _ x y | .makeSlice _ x y | .mapEntry _ x y => [x, y]
 | .slice _ x lo hi m => x :: (og lo ++ og hi ++ og m)
 | .makeFunc _ _ caps => caps.toList
 | .build _ ps | .buildSlice _ _ ps => ps.toList.map (·.2)
 | .mapUpdate _ x y z | .entryStore _ x y z => [x, y, z]
 | .range _ x | .next x _ | .entry x => [x]
 | .call { callee := .value g, args, .. } => g :: args.toList
 | .call { args, .. } => args.toList
 | _ => []
def Fg : List Operand → Bool
 | [] => true
 | .const _ :: l => Fg l
 | _ => false
def dP (quiet : FuncId → Bool) : Op → Nat
 | .move _ | .assign _ | .binOp .. | .unOp .. | .extract .. | .makeFunc .. | .pick .. | .makeInterface .. | .convert .. | .field .. | .build .. | .index .. => 0
 | .load .. | .nilCheck _ | .slice .. | .fieldAddr .. | .indexAddr .. | .lookup .. => 1
 | .call { callee := .builtin .len, .. } => 1
 | .call { callee := .builtin .min, .. } => 1
 | .call { callee := .builtin .max, .. } => 1
 | .call { callee := .value (.func f), args, .. } => bif quiet f then (bif Fg args.toList then 0 else 1) else 2
 | _ => 2
def pj : List Obj → List Obj → Prop
 | [], _ => True
 | _ :: _, [] => False
 | .box T a :: l, o :: l' => o = .box T a ∧ pj l l'
 | .rows T E ls pd :: l, o :: l' => o = .rows T E ls pd ∧ pj l l'
 | _ :: l, _ :: l' => pj l l'
def QI (b : Bool) (st st' : List Obj) (p : Prop) : Prop :=
 match b with
 | true => pj st st' ∧ p
 | false => p
def zL (calm : FuncId → Bool) : Op → Bool
 | .call { callee := .value (.func f), .. } => calm f
 | _ => false
def uE (E : Env) (rec : Rec) (s : S) (dst : Option Tmp) (o : Op) (K : S → Prop) : Prop :=
 match dP E.quiet o with
 | 2 =>
  (match fM s o with
   | some (g, args) => qP E rec g args s.st fun a st => QI (zL E.calm o) s.st st (K (put { s with st } dst a))
   | none => bX E.P s dst o K)
 | _ =>
  (match bx E s o with
   | some (c, a) => bg c (K (put s dst a))
   | none =>
    (match o with
    | .pick c a b =>
     (match ev s c with
      | .lit (.bool t) => aD t (K (put (dC s (ph c) true) dst (ev s a))) (K (put (dC s (ph c) false) dst (ev s b)))
      | _ => False)
    | _ => False))
def dr (E : Env) (rec : Rec) (ops : List Oper) (o : Oper) (s : S) (K : S → Prop) : Prop :=
 match o.guard with
 | none => uE E rec s o.dst o.op K
 | some (j, want) =>
  match jN ops j with
  | none => False
  | some t =>
   match nth s.a5 t with
   | .lit (.bool b) =>
    match want with
    | true => aD b (uE E rec (dC s (some t) true) o.dst o.op K) (K (put (dC s (some t) false) o.dst (.bj [])))
    | false => aD b (K (put (dC s (some t) true) o.dst (.bj []))) (uE E rec (dC s (some t) false) o.dst o.op K)
   | .bj [] => K (put s o.dst (.bj []))
   | _ => False
def gY : Nat → List Bool
 | 0 => []
 | n + 1 => false :: gY n
def eu : List Bool → Nat → Bool
 | [], _ => true
 | b :: _, 0 => b
 | _ :: l, n + 1 => eu l n
def fc : List Bool → Nat → List Bool
 | [], _ => []
 | _ :: l, 0 => true :: l
 | b :: l, n + 1 => b :: fc l n
def jY (listed : List Bool) : List Edge → Bool
 | [] => true
 | e :: l => (!Region.binds .any e || (Nat.blt e.on listed.length && eu listed e.on)) && jY listed l
def jG (listed : List Bool) : List Oper → Nat → List (Nat × Oper)
 | [], _ => []
 | o :: l, i => bif !eu listed i && jY listed o.after.toList then (i, o) :: jG listed l (i + 1) else jG listed l (i + 1)
def uI (t : Nat) : List Operand → Bool
 | [] => false
 | .tmp u :: l => Nat.beq t u || uI t l
 | _ :: l => uI t l
def w5 (ops : List Oper) (o : Oper) (t : Nat) : Bool :=
 uI t (opsOf o.op) || (match o.guard with | none => false | some (j, _) => (match jN ops j with | none => false | some u => Nat.beq t u))
def xy (ops : List Oper) (o : Oper) : Option Tmp → Bool
 | none => false
 | some t => w5 ops o t
def rY : Option Tmp → Option Tmp → Bool
 | some t, some u => !Nat.beq t u
 | _, _ => true
def wC (ops : List Oper) (a b : Oper) : Bool :=
 !xy ops b a.dst && !xy ops a b.dst && rY a.dst b.dst
def yZ : Op → Bool
 | .alloc _ | .box _ _ | .makeSlice .. | .makeMap _ none => true
 | _ => false
def sH (quiet : FuncId → Bool) (ops : List Oper) (a b : Oper) : Bool :=
 wC ops a b && (match dP quiet a.op with | 0 => true | 1 => Nat.blt (dP quiet b.op) 2 || yZ b.op | _ => false)
def uP (acc : List Nat) : List Edge → Bool
 | [] => false
 | e :: l => (Region.binds .any e && j6 e.on acc) || uP acc l
def fwd : List Oper → Nat → List Nat → List Nat
 | [], _, acc => acc
 | o :: l, j, acc => bif uP acc o.after.toList then fwd l (j + 1) (j :: acc) else fwd l (j + 1) acc
def gP (quiet : FuncId → Bool) (ops : List Oper) (listed : List Bool) (i : Nat) (o : Oper) (fs : List Nat) : List Oper → Nat → Bool
 | [], _ => true
 | b :: l, j => (Nat.beq i j || eu listed j || j6 j fs || sH quiet ops o b) && gP quiet ops listed i o fs l (j + 1)
def lQ (quiet : FuncId → Bool) (ops : List Oper) (listed : List Bool) : List (Nat × Oper) → Option (Nat × Oper)
 | [] => none
 | (i, o) :: l => bif gP quiet ops listed i o (fwd ops 0 [i]) ops 0 then some (i, o) else lQ quiet ops listed l
def pP : Obj → Bool
 | .box _ _ => true
 | _ => false
def xW : Obj → Bool
 | .rows _ _ _ _ => true
 | _ => false
def me (s : S) (o : Oper) : Bool :=
 match o.guard, o.op with
 | none, .load _ x => (match ev s x with | .ptr k _ _ _ => pP (ar s.st k) | .iz _ _ => true | .lit _ => true | _ => false)
 | none, .call { callee := .builtin .len, args, .. } => (match lH s args.toList with | [.ae _ _] => true | _ => false)
 | none, .nilCheck x => (match ev s x with | .ptr k _ _ _ => pP (ar s.st k) | _ => false)
 | none, .fieldAddr _ x _ => (match ev s x with | .ptr k _ _ _ => pP (ar s.st k) | _ => false)
 | none, .indexAddr _ x _ => (match ev s x with | .aB k 0 _ => xW (ar s.st k) | _ => false)
 | _, _ => false
def C8 : Op → Bool
 | .alloc _ | .box _ _ | .makeMap _ none => true
 | .buildSlice .. => true
 | .makeSlice .. => true
 | .call { callee := .builtin .append, .. } => true
 | _ => false
def uj (quiet calm : FuncId → Bool) (ops : List Oper) (a b : Oper) : Bool :=
 wC ops a b && (Nat.blt (dP quiet b.op) 2 || C8 b.op || zL calm b.op)
def vH (quiet calm : FuncId → Bool) (ops : List Oper) (listed : List Bool) (i : Nat) (o : Oper) (fs : List Nat) : List Oper → Nat → Bool
 | [], _ => true
 | b :: l, j => (Nat.beq i j || eu listed j || j6 j fs || uj quiet calm ops o b) && vH quiet calm ops listed i o fs l (j + 1)
def yC (quiet calm : FuncId → Bool) (ops : List Oper) (listed : List Bool) (s : S) : List (Nat × Oper) → Option (Nat × Oper)
 | [] => none
 | (i, o) :: l => bif me s o && vH quiet calm ops listed i o (fwd ops 0 [i]) ops 0 then some (i, o) else yC quiet calm ops listed s l
def Fi (p : Nat → Oper → Prop) : List (Nat × Oper) → Prop
 | [] => True
 | [(i, o)] => p i o
 | (i, o) :: l => p i o ∧ Fi p l
def oD (E : Env) (rec : Rec) (ops : List Oper) : Nat → List Bool → S → (S → Prop) → Prop
 | 0, listed, s, K => match jG listed ops 0 with | [] => K s | _ => False
 | n + 1, listed, s, K =>
  match jG listed ops 0 with
  | [] => K s
  | r =>
   match lQ E.quiet ops listed r with
   | some (i, o) => dr E rec ops o s fun s' => oD E rec ops n (fc listed i) s' K
   | none =>
    match yC E.quiet E.calm ops listed s r with
    | some (i, o) => dr E rec ops o s fun s' => oD E rec ops n (fc listed i) s' K
    | none => Fi (fun i o => dr E rec ops o s fun s' => oD E rec ops n (fc listed i) s' K) r
def Qn (p : S → (Exit → S → Prop) → Prop) (K : Exit → S → Prop) : Exit → S → Prop
 | .normal, s => p s K
 | e, s => K e s
def xj (id : Nat) (K : Exit → S → Prop) : Exit → S → Prop
 | .exit i, s => bif Nat.beq i id then K .normal s else K (.exit i) s
 | e, s => K e s
def LM (K : Exit → S → Prop) : Exit → S → Prop
 | .goto _, _ => False
 | e, s => K e s
def j4 : Code → Option Nat
 | .region id _ _ => some id
 | .seq a b => (match j4 a with | some n => some n | none => j4 b)
 | .block _ c | .scope c | .loop c => j4 c
 | .cond _ a b => (match j4 a with | some n => some n | none => j4 b)
 | .rangeFunc _ _ a _ => j4 a
 | _ => none
def oa (l : Nat) (s : S) (K : Exit → S → Prop) (st : List Obj) : Prop :=
 match ar st l with
 | .loop r =>
  (match r.state, r.pending with
   | .busy, _ => False
   | _, none => K .normal { s with st := cP st l .dead }
   | _, some .ret => K .ret { s with st := cP st l .dead }
   | _, some (.exit id) => K (.exit id) { s with st := cP st l .dead }
   | _, _ => False)
 | _ => False
def Am (rd : Option Nat) (st : List Obj) : Bool :=
 match rd with
 | none => true
 | some l => match ar st l with | .loop _ => true | _ => false
def iP (E : Env) (rec : Rec) (f : FuncId) (rd : Option Nat) (base : Nat) : Code → S → (Exit → S → Prop) → Prop
 | .skip, s, K => K .normal s
 | .label _, s, K => K .normal s
 | .region _ ops false, s, K => ow E rec ops.toList ops.toList s (K .normal)
 | .region _ ops true, s, K => oD E rec ops.toList ops.toList.length (gY ops.toList.length) s (K .normal)
 | .seq a b, s, K => iP E rec f rd base a s (Qn (iP E rec f rd base b) K)
 | .cond c x y, s, K =>
  match ev s c with
  | .lit (.bool t) => aD t (iP E rec f rd base x (dC s (ph c) true) K) (iP E rec f rd base y (dC s (ph c) false) K)
  | _ => False
 | .block id c, s, K => iP E rec f rd base c s (xj id K)
 | .loop c, s, K =>
  match j4 c with
  | some n => bg (ib E.P (E.live f n) base s) (zW (canon E.P (E.live f n) base s) fun s' => E.loop f n c rd base s' K)
  | none => False
 | .rangeFunc g ps asg body, s, K =>
  match ev s g with
  | .bL f' caps =>
   bg (Am rd s.st) (match E.gen f' with
    | true => E.lb f (match j4 asg with | some n => n | none => 0) f' caps
     (s.st ++ [.loop { state := .ready, pending := none, fn := f, a5 := s.a5, params := ps, assign := asg, body := body }]) (oa s.st.length s K)
    | false => ll E rec f' (.ct s.st.length :: caps)
     (s.st ++ [.loop { state := .ready, pending := none, fn := f, a5 := s.a5, params := ps, assign := asg, body := body }])
     fun _ st => oa s.st.length s K st)
  | _ => False
 | .exit id, s, K => K (.exit id) s
 | .goto _, _, _ => False
 | .scope c, s, K => iP E rec f rd base c s (LM K)
 | .ret, s, K => K .ret s
 | .refuse _, _, _ => False
def vc (E : Env) : Nat → Rec
 | 0 => fun _ _ _ _ _ _ => False
 | n + 1 => fun f rd base c s K => iP E (vc E n) f rd base c s K
end Go.Dn
