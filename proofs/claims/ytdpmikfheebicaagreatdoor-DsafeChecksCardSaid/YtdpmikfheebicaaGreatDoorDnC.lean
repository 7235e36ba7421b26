import Derived.Test.YtdpmikfheebicaaGreatDoorDnB
namespace Go.Dn
open Go
mutual
def refs : AV → List Nat
 | .a7 i _ _ => [i]
 | .ptr i _ _ _ => [i]
 | .mp i => [i]
 | .dv i => [i]
 | .kr i _ => [i]
 | .agg l => cP l
 | .bR l => cP l
 | .dq _ l => cP l
 | .jb _ a => refs a
 | _ => []
def cP : List AV → List Nat
 | [] => []
 | a :: l => refs a ++ cP l
end
def xp : Obj → List Nat
 | .box _ a => refs a
 | .loop r => cP r.bf
 | .iter i _ _ => [i]
 | _ => []
def mw (i : Nat) : List Nat → Bool
 | [] => false
 | j :: l => Nat.beq i j || mw i l
def reach (st : List Obj) : Nat → List Nat → List Nat → List Nat
 | 0, _, acc => acc
 | _ + 1, [], acc => acc
 | n + 1, i :: todo, acc =>
  bif mw i acc then reach st n todo acc else reach st n (xp (aD st i) ++ todo) (acc ++ [i])
def jo (i : Nat) : List Nat → Nat → Option Nat
 | [], _ => none
 | j :: l, n => bif Nat.beq i j then some n else jo i l (n + 1)
mutual
def kR (ρ : Nat → Option Nat) : AV → AV
 | .a7 i lo n => (match ρ i with | some j => .a7 j lo n | none => .cw)
 | .ptr i k p o => (match ρ i with | some j => .ptr j k p o | none => .cw)
 | .mp i => (match ρ i with | some j => .mp j | none => .cw)
 | .dv i => (match ρ i with | some j => .dv j | none => .cw)
 | .kr i k => (match ρ i with | some j => .kr j k | none => .cw)
 | .agg l => .agg (gB ρ l)
 | .bR l => .bR (gB ρ l)
 | .dq f l => .dq f (gB ρ l)
 | .jb T a => .jb T (kR ρ a)
 | a => a
def gB (ρ : Nat → Option Nat) : List AV → List AV
 | [] => []
 | a :: l => kR ρ a :: gB ρ l
end
def fI (ρ : Nat → Option Nat) : Obj → Obj
 | .box T a => .box T (kR ρ a)
 | .loop r => .loop { r with bf := gB ρ r.bf }
 | .iter i n ks => .iter (match ρ i with | some j => j | none => i) n ks
 | o => o
def iB (st : List Obj) : List Nat → List Obj
 | [] => []
 | i :: l => aD st i :: iB st l
def ic (ρ : Nat → Option Nat) : List Obj → List Obj
 | [] => []
 | o :: l => fI ρ o :: ic ρ l
def upto : Nat → List Nat
 | 0 => []
 | n + 1 => upto n ++ [n]
def iD (ids : List Nat) (n : Nat) (j : Nat) : Option Nat :=
 match idN ids j with
 | some i => some i
 | none => some (n + (j - ids.length))
where
 idN : List Nat → Nat → Option Nat
  | [], _ => none
  | i :: _, 0 => some i
  | _ :: l, k + 1 => idN l k
def fC (st : List Obj) (ids : List Nat) (ρ : Nat → Option Nat) : List Obj → List Obj
 | sub => go st ids sub
where
 go : List Obj → List Nat → List Obj → List Obj
  | st, i :: ids, o :: sub => go (dU st i (fI ρ o)) ids sub
  | st, [], sub => st ++ ic ρ sub
  | st, _ :: _, [] => st
def fJ (live : List (Nat × Option TypeId)) : List AV → Nat → List AV
 | [], _ => []
 | a :: l, n => (bif memL n live then a else .cw) :: fJ live l (n + 1)
where
 memL (n : Nat) : List (Nat × Option TypeId) → Bool
  | [] => false
  | (j, _) :: l => Nat.beq n j || memL n l
def Lz : Nat := 1000000000
def jJ : List (Nat × Option TypeId) → S → S
 | [], s => s
 | (_, none) :: l, s => jJ l s
 | (r, some T) :: l, s =>
  match nth s.bf r with
  | .lit (.slice none 0 0) =>
   (match Nat.ble Lz T with
    | true => jJ l { bf := cC s.bf r (.ae (T - Lz) []), st := s.st }
    | false => jJ l { bf := cC s.bf r (.a7 s.st.length 0 0), st := s.st ++ [.row T []] })
  | _ => jJ l s
def Dg (P : Program) (i : Nat) (s : S) : S :=
 match aD s.st i with
 | .box Tb (.lit (.slice none 0 0)) =>
  match P.underlying Tb with
  | some (.slice Te) => { s with st := dU s.st i (.box Tb (.a7 s.st.length 0 0)) ++ [.row Te []] }
  | _ => s
 | _ => s
def nB (P : Program) : List Nat → S → S
 | [], s => s
 | i :: l, s => nB P l (Dg P i s)
def tF (st : List Obj) : List Nat → List Nat
 | [] => []
 | i :: l => xp (aD st i) ++ tF st l
def gP (base : Nat) (st : List Obj) (roots : List Nat) : List Nat :=
 reach st (st.length * st.length + st.length + 20) (tF st (upto base) ++ roots) (upto base)
def A7 (ids : List Nat) : List Nat → Bool
 | [] => true
 | i :: l => mw i ids && A7 ids l
def Ek (n : Nat) : List Nat → Bool
 | [] => true
 | i :: l => decide (i < n) && Ek n l
def yj : List Nat → Bool
 | [] => true
 | i :: l => !mw i l && yj l
def sQ (ids : List Nat) : List Nat → Bool
 | [] => true
 | i :: l => (match jo i ids 0 with | some j => Nat.beq i j | none => false) && sQ ids l
def oL (base : Nat) (st : List Obj) (roots ids : List Nat) : Bool :=
 yj ids && Ek st.length ids && sQ ids (upto base) && A7 ids roots && A7 ids (tF st ids)
def gQ (P : Program) (live : List (Nat × Option TypeId)) (s : S) : S :=
 let s1 := jJ live { s with bf := fJ live s.bf 0 }
 nB P (upto s1.st.length) s1
def iZ (P : Program) (live : List (Nat × Option TypeId)) (base : Nat) (s : S) : Bool :=
 oL base (gQ P live s).st (cP (gQ P live s).bf) (gP base (gQ P live s).st (cP (gQ P live s).bf))
def te (ids : List Nat) (s : S) : S :=
 {bf := gB (fun i => jo i ids 0) s.bf, st := ic (fun i => jo i ids 0) (iB s.st ids) }
def canon (P : Program) (live : List (Nat × Option TypeId)) (base : Nat) (s : S) : S :=
 te (gP base (gQ P live s).st (cP (gQ P live s).bf)) (gQ P live s)
def z9 : Nat := 70368744177664
def rP (Ty : Option TypeId) (Te : TypeId) : Bool :=
 match Ty with
 | none => true
 | some U => U == Te
def oh (P : Program) (s : S) (T : TypeId) (x y : AV) (K : List Obj → AV → Prop) : Prop :=
 match P.underlying T with
 | some (.slice Te) =>
  match pU s.st y, iC P Te with
  | some (Ty, ys), some _ =>
   match rP Ty Te && decide (0 < P.cellsOf Te) with
   | false => False
   | true =>
    match x with
    | .lit (.slice none 0 0) =>
     aZ (decide ((ys.length + 1) * (P.bytesOf Te + 1) ≤ z9)) (K (s.st ++ [.row Te ys]) (.a7 s.st.length 0 ys.length))
    | .a7 i lo n =>
     match aD s.st i with
     | .row Tr xs =>
      if Tr = Te ∧ lo = 0 then
       aZ (decide ((n + ys.length + 1) * (P.bytesOf Te + 1) ≤ z9))
        (K (dU s.st i .dead ++ [.row Te ((xs.take n) ++ ys)]) (.a7 s.st.length 0 (n + ys.length)))
      else False
     | _ => False
    | _ => False
  | _, _ => False
 | _ => False
def qZ (P : Program) (s : S) (T : TypeId) (p x : AV) (K : List Obj → Prop) : Prop :=
 match p with
 | .ptr i k path off =>
  match aD s.st i with
  | .box Tb a =>
   if qQ a path && iy a path == off && wid x == P.cellsOf T && wid (pJ a path) == P.cellsOf T && o5 x && (P.underlying T).isSome then K (dU s.st i (.box Tb (iL a path x))) else False
  | .row _ _ =>
   match b7 s.st x, aD (df s.st (rowsOf x)) i with
   | some x', .row Tr xs =>
    if qQ (expand P cj Tr (nth xs k)) path && iy (expand P cj Tr (nth xs k)) path == off && wid x' == P.cellsOf T && wid (pJ (expand P cj Tr (nth xs k)) path) == P.cellsOf T &&
      BL P (iL (expand P cj Tr (nth xs k)) path x') Tr && o5 x' && (P.underlying T).isSome then
     K (dU (df s.st (rowsOf x)) i (.row Tr (cC xs k (iL (expand P cj Tr (nth xs k)) path x'))))
    else False
   | _, _ => False
  | _ => False
 | _ => False
def eI (a : AV) (n : Nat) : List AV := List.replicate n a
def j8 (P : Program) (T : TypeId) (st : List Obj) : List AV → List (Nat × AV) → Option (List AV × List Nat)
 | l, [] => some (l, [])
 | l, (i, x) :: ps =>
  match b7 st x with
  | some x' =>
   if BL P x' T && decide (i < l.length) then
    match j8 P T st (cC l i x') ps with
    | some (m, is) => some (m, rowsOf x ++ is)
    | none => none
   else none
  | none => none
def yv : List Value → Value → Bool
 | [], _ => false
 | k' :: l, k => dm k' k || yv l k
def pX (ks : List Value) : List (Value × AV) → Bool
 | [] => true
 | (k, _) :: es => yv ks k && pX ks es
def OV (P : Program) (Kt Vt : TypeId) (es : List (Value × AV)) (ks : List Value) (p : Value → AV → Prop) (q : Prop) : Prop :=
 (match P.underlying Kt with
  | some (.int κ) => ∀ n v, (Value.int κ n, v) ∈ es → yv ks (.int κ n) = false → p (.int κ n) (expand P cj Vt v)
  | some .string => ∀ t v, (Value.string t, v) ∈ es → yv ks (.string t) = false → p (.string t) (expand P cj Vt v)
  | _ => False) ∧ (pX ks es = true → q)
def Mj : List AV → Bool
 | [] => true
 | _ :: _ => false
def dP : List AV → Nat → Nat → AV → List AV
 | [], _, _, _ => []
 | a :: l, 0, 0, _ => a :: l
 | _ :: l, 0, n + 1, z => z :: dP l 0 n z
 | a :: l, lo + 1, n, z => a :: dP l lo n z
def l5 (P : Program) (st : List Obj) (T : TypeId) (y : Operand) (a : AV) (K : Bool → Prop) : Prop :=
 match y, P.underlying T with
 | .const (.slice none 0 0), some (.slice _) =>
  (match a with
   | .lit (.slice none 0 0) => K true
   | .ae _ l => (Mj l = true → K true) ∧ K false
   | .a7 i _ n => (match iE (aD st i) with | some _ => (Nat.beq n 0 = true → K true) ∧ K false | none => False)
   | _ => False)
 | _, _ => False
def cm (P : Program) (s : S) (dst : Option Tmp) (o : Op) (K : S → Prop) : Prop :=
 match o with
 | .alloc T =>
  (match iC P T with
   | some z => K (put { s with st := s.st ++ [.box T z] } dst (.ptr s.st.length 0 [] 0))
   | none => False)
 | .box T x => if o5 (ev s x) then K (put { s with st := s.st ++ [.box T (ev s x)] } dst (.ptr s.st.length 0 [] 0)) else False
 | .store T p x => qZ P s T (ev s p) (ev s x) fun st => K (put { s with st } dst .cw)
 | .buildSlice T len parts =>
  (match P.underlying T with
   | some (.slice Te) =>
    (match iC P Te with
    | some z =>
     (match j8 P Te s.st (eI z len) (eY s parts.toList) with
      | some (l, is) =>
       if decide (len * P.cellsOf Te ≤ 16777216) && decide (0 < P.cellsOf Te) then
        K (put { s with st := df s.st is ++ [.row Te l] } dst (.a7 s.st.length 0 len))
       else False
      | none => False)
    | none => False)
   | _ => False)
 | .makeSlice T ln cp =>
  (match P.underlying T, Nk (ev s ln), Nk (ev s cp) with
   | some (.slice Te), some (.i64, n), some (.i64, c) =>
    (match iC P Te with
    | some z =>
     aZ (decide (0 ≤ n) && decide (n ≤ c) && decide ((c.toNat + 1) * (P.bytesOf Te + 1) ≤ z9) && decide (0 < P.cellsOf Te))
      (K (put { s with st := s.st ++ [.row Te (eI z n.toNat)] } dst (.a7 s.st.length 0 n.toNat)))
    | none => False)
   | _, _, _ => False)
 | .makeMap T none =>
  (match P.underlying T with
   | some (.map Kt Vt) => K (put { s with st := s.st ++ [.map Kt Vt []] } dst (.mp s.st.length))
   | _ => False)
 | .mapUpdate T m k x =>
  (match P.underlying T, ev s m, ev s k, b7 s.st (ev s x) with
   | some (.map Kt Vt), .mp i, .lit kv, some v =>
    (match aD s.st i with
    | .map K' V' es =>
     if K' = Kt ∧ V' = Vt ∧ plainKey P Kt kv = true ∧ BL P v Vt = true then
      K (put { s with st := dU (df s.st (rowsOf (ev s x))) i (.map Kt Vt (ft es kv v)) } dst .cw)
     else False
    | _ => False)
   | _, _, _, _ => False)
 | .mapEntry T m k =>
  (match P.underlying T, ev s m, ev s k with
   | some (.map Kt Vt), .mp i, .lit kv =>
    (match aD s.st i, iC P Vt with
    | .map K' V' es, some z =>
     if K' = Kt ∧ V' = Vt ∧ plainKey P Kt kv = true then
      let v := expand P cj Vt (eg es kv z)
      K (put { s with st := dU s.st i (.map Kt Vt (ft es kv v)) } dst (.bR [v, .kr i kv]))
     else False
    | _, _ => False)
   | _, _, _ => False)
 | .entryStore T m kr x =>
  (match P.underlying T, ev s m, ev s kr, b7 s.st (ev s x) with
   | some (.map Kt Vt), .mp i, .kr j kv, some v =>
    (match aD s.st i with
    | .map K' V' es =>
     if i = j ∧ K' = Kt ∧ V' = Vt ∧ plainKey P Kt kv = true ∧ BL P v Vt = true then
      K (put { s with st := dU (df s.st (rowsOf (ev s x))) i (.map Kt Vt (ft es kv v)) } dst .cw)
     else False
    | _ => False)
   | _, _, _, _ => False)
 | .range T x =>
  (match P.underlying T, ev s x with
   | some (.map _ _), .mp i =>
    (match aD s.st i with
    | .map _ _ es => K (put { s with st := s.st ++ [.iter i es.length []] } dst (.ptr s.st.length 0 [] 0))
    | _ => False)
   | some (.map _ _), .lit (.map none) => K (put { s with st := s.st ++ [.iter s.st.length 0 [.map none]] } dst (.ptr s.st.length 0 [] 0))
   | some .string, .lit (.string b) => K (put { s with st := s.st ++ [.db b 0] } dst (.ptr s.st.length 0 [] 0))
   | _, _ => False)
 | .next it false =>
  (match ev s it with
   | .ptr j 0 _ 0 =>
    (match aD s.st j with
    | .iter i n ks =>
     (match aD s.st i with
      | .map Kt Vt es =>
       aZ (Nat.beq es.length n) (OV P Kt Vt es ks (fun k v => K (put { s with st := dU s.st j (.iter i n (k :: ks)) } dst (.bR [.lit (.bool true), .lit k, v]))) (K (put s dst (.bR [.lit (.bool false)]))))
      | _ =>
       (match ks with
       | [.map none] => K (put s dst (.bR [.lit (.bool false)]))
       | _ => False))
    | _ => False)
   | _ => False)
 | .next it true =>
  (match ev s it with
   | .ptr j 0 _ 0 =>
    (match aD s.st j with
    | .db b p =>
     ax (Nat.blt p b.size) (K (put { s with st := dU s.st j (.db b (p + (Utf8.decode b p).2)) } dst (.bR [.lit (.bool true), .lit (.int .i64 p), .lit (.int .i32 (Utf8.decode b p).1)]))) (K (put s dst (.bR [.lit (.bool false)])))
    | _ => False)
   | _ => False)
 | .binOp .eql T x y _ => l5 P s.st T y (ev s x) fun b => K (put s dst (.lit (.bool b)))
 | .binOp .neq T x y _ => l5 P s.st T y (ev s x) fun b => K (put s dst (.lit (.bool (!b))))
 | .call { callee := .builtin .clear, args, argTypes } =>
  (match oR s args.toList, argTypes.toList with
   | [.a7 i lo n], [T] =>
    (match P.underlying T, aD s.st i with
    | some (.slice Te), .row Tr xs =>
     (match iC P Te with
      | some z => if Tr = Te ∧ 0 < P.cellsOf Te then K (put { s with st := dU s.st i (.row Te (dP xs lo n z)) } dst (.bR [])) else False
      | none => False)
    | _, _ => False)
   | _, _ => False)
 | .entry it =>
  (match ev s it with
   | .ptr j 0 _ 0 =>
    (match aD s.st j with
    | .iter i n (k :: _) =>
     (match aD s.st i with
      | .map _ Vt es =>
       (match iC P Vt with
       | some z => aZ (Nat.beq es.length n) (K (put s dst (.bR [.lit k, expand P cj Vt (eg es k z)])))
       | none => False)
      | _ => False)
    | _ => False)
   | _ => False)
 | .call { callee := .builtin .append, args, argTypes } =>
  (match oR s args.toList, argTypes.toList with
   | [x, y], [T, T'] => if T = T' then oh P s T x y fun st a => K (put { s with st } dst a) else False
   | _, _ => False)
 | _ => False
def we : Nat → (Nat → Prop) → Prop
 | 0, k => k 0
 | n + 1, k => we n fun m => k (m + 1)
def KK : List Nat → (List Nat → Prop) → Prop
 | [], k => k []
 | n :: l, k => we n fun n' => KK l fun l' => k (n' :: l')
theorem y0 : ∀ (n : Nat) (k : Nat → Prop), we n k = k n
 | 0, _ => rfl
 | n + 1, k => by simp only [we, y0 n]
theorem D3 : ∀ (l : List Nat) (k : List Nat → Prop), KK l k = k l
 | [], _ => rfl
 | n :: l, k => by simp only [KK, y0, D3 l]
mutual
def u5 : AV → (AV → Prop) → Prop
 | .agg l, k => x6 l fun l' => k (.agg l')
 | .bR l, k => x6 l fun l' => k (.bR l')
 | .dq f l, k => x6 l fun l' => k (.dq f l')
 | .jb T a, k => u5 a fun a' => k (.jb T a')
 | .lit v, k => k (.lit v)
 | .cw, k => k .cw
 | .ae T l, k => k (.ae T l)
 | .a7 i lo n, k => we i fun i' => k (.a7 i' lo n)
 | .ptr i x p o, k => we i fun i' => KK p fun p' => we o fun o' => k (.ptr i' x p' o')
 | .jH T a, k => k (.jH T a)
 | .mp i, k => we i fun i' => k (.mp i')
 | .dv i, k => we i fun i' => k (.dv i')
 | .kr i x, k => we i fun i' => k (.kr i' x)
def x6 : List AV → (List AV → Prop) → Prop
 | [], k => k []
 | a :: l, k => u5 a fun a' => x6 l fun l' => k (a' :: l')
end
def Mq : Obj → (Obj → Prop) → Prop
 | .dead, k => k .dead
 | .box T a, k => u5 a fun a' => k (.box T a')
 | .row T xs, k => k (.row T xs)
 | .ow T xs, k => k (.ow T xs)
 | .map K V es, k => k (.map K V es)
 | .loop r, k => x6 r.bf fun l => k (.loop { state := r.state, pending := r.pending, fn := r.fn, bf := l, params := r.params, assign := r.assign, body := r.body })
 | .iter i n ks, k => k (.iter i n ks)
 | .ext t, k => k (.ext t)
 | .db s p, k => k (.db s p)
def tQ : List Obj → (List Obj → Prop) → Prop
 | [], k => k []
 | o :: l, k => Mq o fun o' => tQ l fun l' => k (o' :: l')
def Bn (s : S) (k : S → Prop) : Prop := x6 s.bf fun r => tQ s.st fun t => k { bf := r, st := t }
mutual
theorem n6 : ∀ (a : AV) (k : AV → Prop), u5 a k = k a
 | .agg l, k => by simp only [u5, oi l]
 | .bR l, k => by simp only [u5, oi l]
 | .dq f l, k => by simp only [u5, oi l]
 | .jb T a, k => by simp only [u5, n6 a]
 | .lit _, _ | .cw, _ | .ae _ _, _ | .a7 _ _ _, _ | .ptr _ _ _ _, _ | .jH _ _, _ | .mp _, _ | .dv _, _ | .kr _ _, _ => by simp only [u5, y0, D3]
theorem oi : ∀ (l : List AV) (k : List AV → Prop), x6 l k = k l
 | [], k => by simp only [x6]
 | a :: l, k => by simp only [x6, n6 a, oi l]
end
theorem JX (o : Obj) (k : Obj → Prop) : Mq o k = k o := by
 cases o <;> simp only [Mq, n6, oi]
theorem kV : ∀ (l : List Obj) (k : List Obj → Prop), tQ l k = k l
 | [], k => rfl
 | o :: l, k => by simp only [tQ, JX, kV l]
theorem l7 (s : S) (k : S → Prop) : Bn s k = k s := by simp only [Bn, oi, kV]
abbrev Rec := FuncId → Option Nat → Nat → Code → S → (Exit → S → Prop) → Prop
def dc : Nat → List AV
 | 0 => []
 | n + 1 => .cw :: dc n
def uD (P : Program) (s : S) : List ResultVar → Option (List AV)
 | [] => some []
 | .tmp t :: l => (match uD P s l with | some m => some (nth s.bf t :: m) | none => none)
 | .cell a T :: l =>
  (match nt P s.st T (nth s.bf a), uD P s l with
   | some (true, x), some m => some (x :: m)
   | _, _ => none)
def lZ : List AV → AV
 | [a] => a
 | l => .bR l
def lR (E : Env) (rec : Rec) (f : FuncId) (args : List AV) (st : List Obj) (K : AV → List Obj → Prop) : Prop :=
 match E.P.funcs[f]? with
 | some fn =>
  (match fn.body with
   | some c =>
    rec f none st.length c { bf := args ++ dc (fn.ntmps - args.length), st } fun e s =>
     match e with
     | .normal | .ret => (match uD E.P s fn.results.toList with | some l => K (lZ l) s.st | none => False)
     | _ => False
   | none => False)
 | none => False
def qX (E : Env) (f : FuncId) (args : List AV) (st : List Obj) (K : AV → List Obj → Prop) : Prop :=
 let ids := reach st (st.length * st.length + st.length + 20) (cP args) []
 let ρ := fun i => jo i ids 0
 let β := iD ids st.length
 aZ (oL 0 st (cP args) ids) (Bn { bf := gB ρ args, st := ic ρ (iB st ids) } fun s => E.call f s.bf s.st fun r sub => u5 (kR β r) fun r' => tQ (fC st ids β sub) fun st' => K r' st')
def xa (st : List Obj) : List AV → Option (List AV × List Nat)
 | [] => some ([], [])
 | a :: l =>
  match xa st l with
  | none => none
  | some (m, is) =>
   match a with
   | .a7 _ _ _ => (match b7 st a with | some b => some (b :: m, rowsOf a ++ is) | none => none)
   | .agg _ => (match b7 st a with | some b => some (b :: m, rowsOf a ++ is) | none => none)
   | _ => some (a :: m, is)
def HV (P : Program) (Ts : List TypeId) : AV → AV
 | .bR l => .bR (uf P Ts l)
 | a => (match Ts with | [T] => DV P T a | _ => a)
def iJ : List Tmp → List AV → List AV → List AV
 | p :: ps, a :: as, bf => iJ ps as (cC bf p a)
 | _, _, bf => bf
def j7 (rec : Rec) (l : Nat) (args : List AV) (st : List Obj) (K : AV → List Obj → Prop) : Prop :=
 match aD st l with
 | .loop r =>
  if r.state = .ready ∧ r.params.size = args.length then
   rec r.fn (some l) st.length r.assign { bf := iJ r.params.toList args r.bf, st } fun e s1 =>
    match e with
    | .normal =>
     (match aD s1.st l with
      | .loop r1 =>
       if r1.state = .ready then
        rec r.fn (some l) st.length r.body { s1 with st := dU s1.st l (.loop { r1 with state := .busy }) } fun e2 s2 =>
         match aD s2.st l with
         | .loop r2 =>
          (match e2 with
          | .normal => K (.lit (.bool true)) (dU s2.st l (.loop { r2 with state := .ready, pending := none }))
          | .ret => K (.lit (.bool false)) (dU s2.st l (.loop { r2 with state := .done, pending := some .ret }))
          | .exit id => K (.lit (.bool false)) (dU s2.st l (.loop { r2 with state := .done, pending := some (.exit id) }))
          | _ => False)
         | _ => False
       else False
      | _ => False)
    | _ => False
  else False
 | _ => False
def MZ : List Nat → Bool
 | [] => true
 | _ => false
def xZ (l : Nat) (todo : Option (List AV)) (args : List AV) (st : List Obj) (K : AV → List Obj → Prop) : Prop :=
 match todo, xa st args with
 | some xs, some (as, is) =>
  aZ (MZ (cP as)) (∃ rest, xs = .bR as :: rest ∧ K (.lit (.bool true)) (dU (df st is) l (.ext (some rest))) ∧ K (.lit (.bool false)) (dU (df st is) l (.ext none)))
 | _, _ => False
def sj (E : Env) (rec : Rec) (g : AV) (args : List AV) (st : List Obj) (K : AV → List Obj → Prop) : Prop :=
 match g with
 | .dq f caps =>
  if E.inl f then lR E rec f (args ++ caps) st K
  else if E.own f then qX E f (args ++ caps) st K
  else
   (match xa st (args ++ caps) with
    | some (as, is) => qX E f (uf E.P (qe E.P f) as) (df st is) K
    | none => False)
 | .dv l =>
  (match aD st l with
   | .ext t => xZ l t args st K
   | _ => j7 rec l args st K)
 | _ => False
def dZ (s : S) (t : Option Tmp) (b : Bool) : S :=
 match t with
 | none => s
 | some d => { s with bf := cC s.bf d (.lit (.bool b)) }
def kI : List Oper → Nat → Option Tmp
 | [], _ => none
 | o :: _, 0 => o.dst
 | _ :: l, n + 1 => kI l n
def qw : Operand → Option Tmp
 | .tmp t => some t
 | _ => none
def il (s : S) : Op → Option (AV × List AV)
 | .call { callee := .value g, args, .. } => some (ev s g, oR s args.toList)
 | _ => none
def LG (E : Env) (rec : Rec) (s : S) (dst : Option Tmp) (o : Op) (K : S → Prop) : Prop :=
 match bO E s o with
 | some (c, a) => aZ c (K (put s dst a))
 | none =>
  match o with
  | .pick c a b =>
   (match ev s c with
    | .lit (.bool t) => ax t (K (put (dZ s (qw c) true) dst (ev s a))) (K (put (dZ s (qw c) false) dst (ev s b)))
    | _ => False)
  | o =>
   match il s o with
   | some (g, args) => sj E rec g args s.st fun a st => K (put { s with st } dst a)
   | none => cm E.P s dst o K
def qN (E : Env) (rec : Rec) (ops : List Oper) : List Oper → S → (S → Prop) → Prop
 | [], s, K => K s
 | o :: l, s, K =>
  match o.guard with
  | none => LG E rec s o.dst o.op fun s' => qN E rec ops l s' K
  | some (j, want) =>
   match kI ops j with
   | none => False
   | some t =>
    match nth s.bf t with
    | .lit (.bool b) =>
     match want with
     | true => ax b (LG E rec (dZ s (some t) true) o.dst o.op fun s' => qN E rec ops l s' K)
             (qN E rec ops l (put (dZ s (some t) false) o.dst (.bR [])) K)
     | false => ax b (qN E rec ops l (put (dZ s (some t) true) o.dst (.bR [])) K)
              (LG E rec (dZ s (some t) false) o.dst o.op fun s' => qN E rec ops l s' K)
    | .bR [] => qN E rec ops l (put s o.dst (.bR [])) K
    | _ => False
def yp : Option Operand → List Operand
 | none => []
 | some x => [x]
def opsOf : Op → List Operand
 | .move x | .assign x | .load _ x | .nilCheck x | .unOp _ _ x | .fieldAddr _ x _ | .field _ x _ | .extract x _ | .box _ x | .makeInterface _ x | .convert _ _ x => [x]
 | .pick c a b => [c, a, b]
 | .binOp _ _ x y _ | .indexAddr _ x y | .index _ x y | .lookup _ x y _ | .store _ x y | .makeSlice _ x y | .mapEntry _ x y => [x, y]
 | .slice _ x lo hi _ => x :: (yp lo ++ yp hi)
 | .makeFunc _ _ caps => caps.toList
 | .build _ ps | .buildSlice _ _ ps => ps.toList.map (·.2)
 | .mapUpdate _ x y z | .entryStore _ x y z => [x, y, z]
 | .range _ x | .next x _ | .entry x => [x]
 | .call { callee := .value g, args, .. } => g :: args.toList
 | .call { args, .. } => args.toList
 | _ => []
def eU (quiet : FuncId → Bool) : Op → Nat
 | .move _ | .assign _ | .binOp .. | .unOp .. | .extract .. | .makeFunc .. | .pick .. | .makeInterface .. | .convert .. | .field .. | .build .. | .index .. => 0
 | .load .. | .nilCheck _ | .slice .. | .fieldAddr .. | .indexAddr .. | .lookup .. => 1
 | .call { callee := .builtin .len, .. } => 1
 | .call { callee := .builtin .min, .. } => 1
 | .call { callee := .builtin .max, .. } => 1
 | .call { callee := .value (.func f), .. } => bif quiet f then 1 else 2
 | _ => 2
def w7 (E : Env) (rec : Rec) (s : S) (dst : Option Tmp) (o : Op) (K : S → Prop) : Prop :=
 match eU E.quiet o with
 | 2 =>
  (match il s o with
   | some (g, args) => sj E rec g args s.st fun a st => K (put { s with st } dst a)
   | none => cm E.P s dst o K)
 | _ =>
  (match bO E s o with
   | some (c, a) => aZ c (K (put s dst a))
   | none =>
    (match o with
    | .pick c a b =>
     (match ev s c with
      | .lit (.bool t) => ax t (K (put (dZ s (qw c) true) dst (ev s a))) (K (put (dZ s (qw c) false) dst (ev s b)))
      | _ => False)
    | _ => False))
def dX (E : Env) (rec : Rec) (ops : List Oper) (o : Oper) (s : S) (K : S → Prop) : Prop :=
 match o.guard with
 | none => w7 E rec s o.dst o.op K
 | some (j, want) =>
  match kI ops j with
  | none => False
  | some t =>
   match nth s.bf t with
   | .lit (.bool b) =>
    match want with
    | true => ax b (w7 E rec (dZ s (some t) true) o.dst o.op K) (K (put (dZ s (some t) false) o.dst (.bR [])))
    | false => ax b (K (put (dZ s (some t) true) o.dst (.bR []))) (w7 E rec (dZ s (some t) false) o.dst o.op K)
   | .bR [] => K (put s o.dst (.bR []))
   | _ => False
def iU : Nat → List Bool
 | 0 => []
 | n + 1 => false :: iU n
def eR : List Bool → Nat → Bool
 | [], _ => true
 | b :: _, 0 => b
 | _ :: l, n + 1 => eR l n
def fX : List Bool → Nat → List Bool
 | [], _ => []
 | _ :: l, 0 => true :: l
 | b :: l, n + 1 => b :: fX l n
def kz (listed : List Bool) : List Edge → Bool
 | [] => true
 | e :: l => (!Region.binds .any e || (Nat.blt e.on listed.length && eR listed e.on)) && kz listed l
def j6 (listed : List Bool) : List Oper → Nat → List (Nat × Oper)
 | [], _ => []
 | o :: l, i => bif !eR listed i && kz listed o.after.toList then (i, o) :: j6 listed l (i + 1) else j6 listed l (i + 1)
def xy (t : Nat) : List Operand → Bool
 | [] => false
 | .tmp u :: l => Nat.beq t u || xy t l
 | _ :: l => xy t l
def zn (ops : List Oper) (o : Oper) (t : Nat) : Bool :=
 xy t (opsOf o.op) || (match o.guard with | none => false | some (j, _) => (match kI ops j with | none => false | some u => Nat.beq t u))
def zk (ops : List Oper) (o : Oper) : Option Tmp → Bool
 | none => false
 | some t => zn ops o t
def tx : Option Tmp → Option Tmp → Bool
 | some t, some u => !Nat.beq t u
 | _, _ => true
def yk (ops : List Oper) (a b : Oper) : Bool :=
 !zk ops b a.dst && !zk ops a b.dst && tx a.dst b.dst
def Bz : Op → Bool
 | .alloc _ | .box _ _ | .makeSlice .. | .makeMap _ none => true
 | _ => false
def tR (quiet : FuncId → Bool) (ops : List Oper) (a b : Oper) : Bool :=
 yk ops a b && (match eU quiet a.op with | 0 => true | 1 => Nat.blt (eU quiet b.op) 2 || Bz b.op | _ => false)
def xC (acc : List Nat) : List Edge → Bool
 | [] => false
 | e :: l => (Region.binds .any e && mw e.on acc) || xC acc l
def fwd : List Oper → Nat → List Nat → List Nat
 | [], _, acc => acc
 | o :: l, j, acc => bif xC acc o.after.toList then fwd l (j + 1) (j :: acc) else fwd l (j + 1) acc
def xE (quiet : FuncId → Bool) (ops : List Oper) (listed : List Bool) (i : Nat) (o : Oper) (fs : List Nat) : List Oper → Nat → Bool
 | [], _ => true
 | b :: l, j => (Nat.beq i j || eR listed j || mw j fs || tR quiet ops o b) && xE quiet ops listed i o fs l (j + 1)
def nK (quiet : FuncId → Bool) (ops : List Oper) (listed : List Bool) : List (Nat × Oper) → Option (Nat × Oper)
 | [] => none
 | (i, o) :: l => bif xE quiet ops listed i o (fwd ops 0 [i]) ops 0 then some (i, o) else nK quiet ops listed l
def Ce : Obj → Bool
 | .box _ _ => true
 | _ => false
def nq (s : S) (o : Oper) : Bool :=
 match o.guard, o.op with
 | none, .load _ x => (match ev s x with | .ptr k _ _ _ => Ce (aD s.st k) | .jH _ _ => true | .lit _ => true | _ => false)
 | none, .call { callee := .builtin .len, args, .. } => (match oR s args.toList with | [.ae _ _] => true | _ => false)
 | _, _ => false
def Er : Op → Bool
 | .alloc _ | .box _ _ | .makeMap _ none => true
 | .buildSlice .. => true
 | .makeSlice .. => true
 | .call { callee := .builtin .append, .. } => true
 | _ => false
def tr (quiet : FuncId → Bool) (ops : List Oper) (a b : Oper) : Bool :=
 yk ops a b && (Nat.blt (eU quiet b.op) 2 || Er b.op)
def wE (quiet : FuncId → Bool) (ops : List Oper) (listed : List Bool) (i : Nat) (o : Oper) (fs : List Nat) : List Oper → Nat → Bool
 | [], _ => true
 | b :: l, j => (Nat.beq i j || eR listed j || mw j fs || tr quiet ops o b) && wE quiet ops listed i o fs l (j + 1)
def AD (quiet : FuncId → Bool) (ops : List Oper) (listed : List Bool) (s : S) : List (Nat × Oper) → Option (Nat × Oper)
 | [] => none
 | (i, o) :: l => bif nq s o && wE quiet ops listed i o (fwd ops 0 [i]) ops 0 then some (i, o) else AD quiet ops listed s l
def Gn (p : Nat → Oper → Prop) : List (Nat × Oper) → Prop
 | [] => True
 | [(i, o)] => p i o
 | (i, o) :: l => p i o ∧ Gn p l
def qj (E : Env) (rec : Rec) (ops : List Oper) : Nat → List Bool → S → (S → Prop) → Prop
 | 0, listed, s, K => match j6 listed ops 0 with | [] => K s | _ => False
 | n + 1, listed, s, K =>
  match j6 listed ops 0 with
  | [] => K s
  | r =>
   match nK E.quiet ops listed r with
   | some (i, o) => dX E rec ops o s fun s' => qj E rec ops n (fX listed i) s' K
   | none =>
    match AD E.quiet ops listed s r with
    | some (i, o) => dX E rec ops o s fun s' => qj E rec ops n (fX listed i) s' K
    | none => Gn (fun i o => dX E rec ops o s fun s' => qj E rec ops n (fX listed i) s' K) r
def Sy (p : S → (Exit → S → Prop) → Prop) (K : Exit → S → Prop) : Exit → S → Prop
 | .normal, s => p s K
 | e, s => K e s
def yg (id : Nat) (K : Exit → S → Prop) : Exit → S → Prop
 | .exit i, s => bif Nat.beq i id then K .normal s else K (.exit i) s
 | e, s => K e s
def Nh (K : Exit → S → Prop) : Exit → S → Prop
 | .goto _, _ => False
 | e, s => K e s
def kO : Code → Option Nat
 | .region id _ _ => some id
 | .seq a b => (match kO a with | some n => some n | none => kO b)
 | .block _ c | .scope c | .loop c => kO c
 | .cond _ a b => (match kO a with | some n => some n | none => kO b)
 | .rangeFunc _ _ a _ => kO a
 | _ => none
def pg (l : Nat) (s : S) (K : Exit → S → Prop) (st : List Obj) : Prop :=
 match aD st l with
 | .loop r =>
  (match r.state, r.pending with
   | .busy, _ => False
   | _, none => K .normal { s with st := dU st l .dead }
   | _, some .ret => K .ret { s with st := dU st l .dead }
   | _, some (.exit id) => K (.exit id) { s with st := dU st l .dead }
   | _, _ => False)
 | _ => False
def CT (rd : Option Nat) (st : List Obj) : Bool :=
 match rd with
 | none => true
 | some l => match aD st l with | .loop _ => true | _ => false
def jD (E : Env) (rec : Rec) (f : FuncId) (rd : Option Nat) (base : Nat) : Code → S → (Exit → S → Prop) → Prop
 | .skip, s, K => K .normal s
 | .label _, s, K => K .normal s
 | .region _ ops false, s, K => qN E rec ops.toList ops.toList s (K .normal)
 | .region _ ops true, s, K => qj E rec ops.toList ops.toList.length (iU ops.toList.length) s (K .normal)
 | .seq a b, s, K => jD E rec f rd base a s (Sy (jD E rec f rd base b) K)
 | .cond c x y, s, K =>
  match ev s c with
  | .lit (.bool t) => ax t (jD E rec f rd base x (dZ s (qw c) true) K) (jD E rec f rd base y (dZ s (qw c) false) K)
  | _ => False
 | .block id c, s, K => jD E rec f rd base c s (yg id K)
 | .loop c, s, K =>
  match kO c with
  | some n => aZ (iZ E.P (E.live f n) base s) (Bn (canon E.P (E.live f n) base s) fun s' => E.loop f n c rd base s' K)
  | none => False
 | .rangeFunc g ps asg body, s, K =>
  match ev s g with
  | .dq f' caps =>
   aZ (CT rd s.st) (match E.gen f' with
    | true => E.sM f (match kO asg with | some n => n | none => 0) f' caps
     (s.st ++ [.loop { state := .ready, pending := none, fn := f, bf := s.bf, params := ps, assign := asg, body := body }]) (pg s.st.length s K)
    | false => lR E rec f' (.dv s.st.length :: caps)
     (s.st ++ [.loop { state := .ready, pending := none, fn := f, bf := s.bf, params := ps, assign := asg, body := body }])
     fun _ st => pg s.st.length s K st)
  | _ => False
 | .exit id, s, K => K (.exit id) s
 | .goto _, _, _ => False
 | .scope c, s, K => jD E rec f rd base c s (Nh K)
 | .ret, s, K => K .ret s
 | .refuse _, _, _ => False
def vc (E : Env) : Nat → Rec
 | 0 => fun _ _ _ _ _ _ => False
 | n + 1 => fun f rd base c s K => jD E (vc E n) f rd base c s K
end Go.Dn
