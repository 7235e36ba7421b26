import Derived.Test.YthaiinlfnommnaaGreatDoorDnB
namespace Go.Dn
open Go
mutual
def refs:AV->List Nat
 | .an i _ _=>[i]
 | .ptr i _ _ _=>[i]
 | .mp i=>[i]
 | .cD i=>[i]
 | .ku i _=>[i]
 | .agg l=>cW l
 | .bh l=>cW l
 | .bL _ l=>cW l
 | .jj _ a=>refs a
 |_=>[]
def cW:List AV->List Nat
 |[]=>[]
 |a::l=>refs a++cW l
end
def yg:Obj->List Nat
 | .box _ a=>refs a
 | .loop r=>cW r.bn
 | .iter i _ _=>[i]
 |_=>[]
def jm(i:Nat):List Nat->Bool
 |[]=>false
 |j::l=>Nat.beq i j||jm i l
def reach(st:List Obj):Nat->List Nat->List Nat->List Nat
 |0,_,acc=>acc
 |_+1,[],acc=>acc
 |n+1,i::todo,acc=>
  bif jm i acc then reach st n todo acc else reach st n (yg (aw st i)++todo) (acc++[i])
def jZ(i:Nat):List Nat->Nat->Option Nat
 |[],_=>none
 |j::l,n=>bif Nat.beq i j then some n else jZ i l (n+1)
mutual
def lG(ρ:Nat->Option Nat):AV->AV
 | .an i lo n=>(match ρ i with|some j=> .an j lo n|none=> .cG)
 | .ptr i k p o=>(match ρ i with|some j=> .ptr j k p o|none=> .cG)
 | .mp i=>(match ρ i with|some j=> .mp j|none=> .cG)
 | .cD i=>(match ρ i with|some j=> .cD j|none=> .cG)
 | .ku i k=>(match ρ i with|some j=> .ku j k|none=> .cG)
 | .agg l=> .agg (fU ρ l)
 | .bh l=> .bh (fU ρ l)
 | .bL f l=> .bL f (fU ρ l)
 | .jj T a=> .jj T (lG ρ a)
 |a=>a
def fU(ρ:Nat->Option Nat):List AV->List AV
 |[]=>[]
 |a::l=>lG ρ a::fU ρ l
end
def fc(ρ:Nat->Option Nat):Obj->Obj
 | .box T a=> .box T (lG ρ a)
 | .loop r=> .loop {r with bn:=fU ρ r.bn}
 | .iter i n ks=> .iter (match ρ i with|some j=>j|none=>i) n ks
 |o=>o
def gT(st:List Obj):List Nat->List Obj
 |[]=>[]
 |i::l=>aw st i::gT st l
def gA(ρ:Nat->Option Nat):List Obj->List Obj
 |[]=>[]
 |o::l=>fc ρ o::gA ρ l
def upto:Nat->List Nat
 |0=>[]
 |n+1=>upto n++[n]
def jl(ids:List Nat)(n:Nat)(j:Nat):Option Nat:=
 match idN ids j with
 |some i=>some i
 |none=>some (n+(j - ids.length))
where
 idN:List Nat->Nat->Option Nat
  |[],_=>none
  |i::_,0=>some i
  |_::l,k+1=>idN l k
def fg(st:List Obj)(ids:List Nat)(ρ:Nat->Option Nat):List Obj->List Obj
 |sub=>go st ids sub
where
 go:List Obj->List Nat->List Obj->List Obj
  |st,i::ids,o::sub=>go (db st i (fc ρ o)) ids sub
  |st,[],sub=>st++gA ρ sub
  |st,_::_,[]=>st
def fX(live:List (Nat×Option TypeId)):List AV->Nat->List AV
 |[],_=>[]
 |a::l,n=>(bif memL n live then a else .cG)::fX live l (n+1)
where
 memL (n:Nat):List (Nat×Option TypeId)->Bool
  |[]=>false
  |(j,_)::l=>Nat.beq n j||memL n l
def Ox:Nat:=1000000000
def j9:List (Nat×Option TypeId)->S->S
 |[],s=>s
 |(_,none)::l,s=>j9 l s
 | (r,some T)::l,s=>
  match nth s.bn r with
  | .lit (.slice none 0 0)=>
   (match Nat.ble Ox T with
    |true=>j9 l {bn:=cg s.bn r (.ad (T - Ox) []),st:=s.st}
    |false=>j9 l {bn:=cg s.bn r (.an s.st.length 0 0),st:=s.st++[.row T []]})
  |_=>j9 l s
def Fv(P:Program)(i:Nat)(s:S):S:=
 match aw s.st i with
 | .box Tb (.lit (.slice none 0 0))=>
  match P.underlying Tb with
  |some (.slice Te)=>{s with st:=db s.st i (.box Tb (.an s.st.length 0 0))++[.row Te []]}
  |_=>s
 |_=>s
def n6(P:Program):List Nat->S->S
 |[],s=>s
 |i::l,s=>n6 P l (Fv P i s)
def Q3(i j:Nat)(T:TypeId)(st:List Obj):List Obj:=
 match aw st i with
 | .box Tb (.agg fs)=>
  match nth fs j with
  | .lit (.slice none 0 0)=>db st i (.box Tb (.agg (cg fs j (.an st.length 0 0))))++[.row T []]
  |_=>st
 |_=>st
def pC:List (Nat×Nat×TypeId)->List Obj->List Obj
 |[],st=>st
 |(i,j,T)::l,st=>pC l (Q3 i j T st)
def zW:List (Nat×Option TypeId)->List (Nat×Nat×TypeId)
 |[]=>[]
 |(r,t)::l=>match Nat.ble 1000 r,t with
  |true,some T=>((r - 1000) / 64,(r - 1000) % 64,T)::zW l
  |_,_=>zW l
def uN(st:List Obj):List Nat->List Nat
 |[]=>[]
 |i::l=>yg (aw st i)++uN st l
def ig(base:Nat)(st:List Obj)(roots:List Nat):List Nat:=
 reach st (st.length*st.length+st.length+20) (uN st (upto base)++roots) (upto base)
def Bz(ids:List Nat):List Nat->Bool
 |[]=>true
 |i::l=>jm i ids&&Bz ids l
def Hk(n:Nat):List Nat->Bool
 |[]=>true
 |i::l=>decide (i<n)&&Hk n l
def A0:List Nat->Bool
 |[]=>true
 |i::l=>!jm i l&&A0 l
def ub(ids:List Nat):List Nat->Bool
 |[]=>true
 |i::l=>(match jZ i ids 0 with|some j=>Nat.beq i j|none=>false)&&ub ids l
def pw(base:Nat)(st:List Obj)(roots ids:List Nat):Bool:=
 A0 ids&&Hk st.length ids&&ub ids (upto base)&&Bz ids roots&&Bz ids (uN st ids)
def Ad(l:List (Nat×Nat×TypeId))(s:S):S:=
 match l with
 |[]=>s
 |_=>{s with st:=pC l s.st}
def iq(P:Program)(live:List (Nat×Option TypeId))(s:S):S:=
 let s1:=j9 live {s with bn:=fX live s.bn 0}
 Ad (zW live) (n6 P (upto s1.st.length) s1)
def jD(P:Program)(live:List (Nat×Option TypeId))(base:Nat)(s:S):Bool:=
 pw base (iq P live s).st (cW (iq P live s).bn) (ig base (iq P live s).st (cW (iq P live s).bn))
def tQ(ids:List Nat)(s:S):S:=
 {bn:=fU (fun i=>jZ i ids 0) s.bn,st:=gA (fun i=>jZ i ids 0) (gT s.st ids)}
def canon(P:Program)(live:List (Nat×Option TypeId))(base:Nat)(s:S):S:=
 tQ (ig base (iq P live s).st (cW (iq P live s).bn)) (iq P live s)
def FF(P:Program)(T:TypeId):List AV->Bool
 |[]=>true
 |a::l=>A9 P a T&&FF P T l
def tI:Nat:=70368744177664
def ov(Ty:Option TypeId)(Te:TypeId):Bool:=
 match Ty with
 |none=>true
 |some U=>U==Te
def qP(P:Program)(E:TypeId):Bool:=
 match P.underlying E with
 |some (.int _)|some .bool|some .string=>P.cellsOf E==1
 |_=>false
def iD:List AV->Option (List Value)
 |[]=>some []
 | .lit v::l=>(match iD l with|some m=>some (v::m)|none=>none)
 |_=>none
def oT (P:Program)(s:S)(T:TypeId)(x y:AV)(K:List Obj->AV->Prop):Prop:=
 match P.underlying T with
 | some (.slice Te)=>
  match o9 s.st y,gS P Te with
  | some (Ty,ys),some _=>
   match ov Ty Te&&decide (0<P.cellsOf Te) with
   |false=>False
   | true=>
    match x with
    | .lit (.slice none 0 0)=>
     aX (decide ((ys.length+1)*(P.bytesOf Te+1)<=tI)) (K (s.st++[.row Te ys]) (.an s.st.length 0 ys.length))
    | .an i lo n=>
     match aw s.st i with
     | .row Tr xs=>
      if Tr=Te/\lo=0 then
       aX (decide ((n+ys.length+1)*(P.bytesOf Te+1)<=tI))
        (K (db s.st i .dead++[.row Te ((xs.take n)++ys)]) (.an s.st.length 0 (n+ys.length)))
      else False
     | .rows Tr E ls none=>
      match lo,iD ys with
      | k+1,some vs=>
       if E=Te/\FF P Te ys=true then
        aX (decide (n=(bW ls k).length)&&decide ((n+ys.length+1)*(P.bytesOf Te+1)<=tI))
         (K (db s.st i (.rows Tr E (jH ls k (bW ls k++vs)) (some k))) (.an i (Nat.succ k) (n+ys.length)))
       else False
      |_,_=>False
     |_=>False
    |_=>False
  |_,_=>False
 |_=>False
def js(P:Program):TypeId->List Nat->Option TypeId
 |T,[]=>some T
 |T,j::p=>match mO (fieldsOf P T) j with
  |some fd=>js P fd.type p
  |none=>none
def vB(P:Program)(Tb:TypeId)(path:List Nat)(T:TypeId):Bool:=
 match js P Tb path with
 |some U=>Nat.beq U T
 |none=>false
def qa(P:Program)(s:S)(T:TypeId)(p x:AV)(K:List Obj->Prop):Prop:=
 match p with
 | .ptr i k path off=>
  match aw s.st i with
  | .box Tb a=>
   if nk a path&&gV a path==off&&wid x==P.cellsOf T&&wid (mC a path)==P.cellsOf T&&pZ x&&(P.underlying T).isSome&&vB P Tb path T then K (db s.st i (.box Tb (fS a path x))) else False
  | .row _ _=>
   match ck s.st x,aw (cP s.st (rowsOf x)) i with
   | some x', .row Tr xs=>
    if nk (expand P cj Tr (nth xs k)) path&&gV (expand P cj Tr (nth xs k)) path==off&&wid x'==P.cellsOf T&&wid (mC (expand P cj Tr (nth xs k)) path)==P.cellsOf T&&
      A9 P (fS (expand P cj Tr (nth xs k)) path x') Tr&&pZ x'&&(P.underlying T).isSome then
     K (db (cP s.st (rowsOf x)) i (.row Tr (cg xs k (fS (expand P cj Tr (nth xs k)) path x'))))
    else False
   |_,_=>False
  | .rows Tr E ls (some kp)=>
   (match path,off,x with
    |[],0, .an j (k'+1) m=>if j=i/\T=Tr then aX (decide (k=kp)&&decide (k'=kp)&&decide (m=(bW ls k).length)) (K (db s.st i (.rows Tr E ls none))) else False
    |_,_,_=>False)
  |_=>False
 |_=>False
def fN(a:AV)(n:Nat):List AV:=List.replicate n a
def FM(P:Program)(Te:TypeId)(z:AV)(n:Nat):Obj:=
 match P.underlying Te,z with
 |some (.slice E), .lit (.slice none 0 0)=>if qP P E=true/\P.cellsOf Te=1 then .rows Te E (List.replicate n []) none else .row Te (fN z n)
 |_,_=> .row Te (fN z n)
def kV(P:Program)(T:TypeId)(st:List Obj):List AV->List (Nat×AV)->Option (List AV×List Nat)
 |l,[]=>some (l,[])
 | l,(i,x)::ps=>
  match ck st x with
  | some x'=>
   if A9 P x' T&&decide (i<l.length) then
    match kV P T st (cg l i x') ps with
    |some (m,is)=>some (m,rowsOf x++is)
    |none=>none
   else none
  |none=>none
def j2:List Value->Value->Bool
 |[],_=>false
 |k'::l,k=>di k' k||j2 l k
def kc(ks:List Value):List (Value×AV)->Bool
 |[]=>true
 |(k,_)::es=>j2 ks k&&kc ks es
def BO(P:Program)(Kt Vt:TypeId)(es:List (Value×AV))(ks:List Value)(p:Value->AV->Prop)(q:Prop):Prop:=
 (match P.underlying Kt with
  |some (.int κ)=>∀n v,(Value.int κ n,v)∈es->j2 ks (.int κ n)=false->p (.int κ n) (expand P cj Vt v)
  |some .string=>∀t v,(Value.string t,v)∈es->j2 ks (.string t)=false->p (.string t) (expand P cj Vt v)
  |_=>False)/\(kc ks es=true->q)
def Ra:List AV->Bool
 |[]=>true
 |_::_=>false
def dP:List AV->Nat->Nat->AV->List AV
 |[],_,_,_=>[]
 |a::l,0,0,_=>a::l
 |_::l,0,n+1,z=>z::dP l 0 n z
 |a::l,lo+1,n,z=>a::dP l lo n z
def mB(P:Program)(st:List Obj)(T:TypeId)(y:Operand)(a:AV)(K:Bool->Prop):Prop:=
 match y,P.underlying T with
 | .const (.slice none 0 0),some (.slice _)=>
  (match a with
   | .lit (.slice none 0 0)=>K true
   | .ad _ l=>(Ra l=true->K true)/\K false
   | .an i _ n=>(match OJ (aw st i) with|true=>(Nat.beq n 0=true->K true)/\K false|false=>False)
   |_=>False)
 |_,_=>False
def cr (P:Program)(s:S)(dst:Option Tmp)(o:Op)(K:S->Prop):Prop:=
 match o with
 | .alloc T=>
  (match gS P T with
   |some z=>K (put {s with st:=s.st++[.box T z]} dst (.ptr s.st.length 0 [] 0))
   |none=>False)
 | .box T x=>if pZ (ev s x) then K (put {s with st:=s.st++[.box T (ev s x)]} dst (.ptr s.st.length 0 [] 0)) else False
 | .store T p x=>qa P s T (ev s p) (ev s x) fun st=>K (put {s with st} dst .cG)
 | .buildSlice T len parts=>
  (match P.underlying T with
   | some (.slice Te)=>
    (match gS P Te with
    | some z=>
     (match kV P Te s.st (fN z len) (fv s parts.toList) with
      | some (l,is)=>
       if decide (len*P.cellsOf Te<=16777216)&&decide (0<P.cellsOf Te) then
        K (put {s with st:=cP s.st is++[.row Te l]} dst (.an s.st.length 0 len))
       else False
      |none=>False)
    |none=>False)
   |_=>False)
 | .makeSlice T ln cp=>
  (match P.underlying T,PM (ev s ln),PM (ev s cp) with
   | some (.slice Te),some (.i64,n),some (.i64,c)=>
    (match gS P Te with
    | some z=>
     aX (decide (0<=n)&&decide (n<=c)&&decide ((c.toNat+1)*(P.bytesOf Te+1)<=tI)&&decide (0<P.cellsOf Te))
      (K (put {s with st:=s.st++[FM P Te z n.toNat]} dst (.an s.st.length 0 n.toNat)))
    |none=>False)
   |_,_,_=>False)
 | .makeMap T none=>
  (match P.underlying T with
   |some (.map Kt Vt)=>K (put {s with st:=s.st++[.map Kt Vt []]} dst (.mp s.st.length))
   |_=>False)
 | .mapUpdate T m k x=>
  (match P.underlying T,ev s m,ev s k,ck s.st (ev s x) with
   | some (.map Kt Vt), .mp i, .lit kv,some v=>
    (match aw (cP s.st (rowsOf (ev s x))) i with
    | .map K' V' es=>
     if K'=Kt/\V'=Vt/\plainKey P Kt kv=true/\A9 P v Vt=true then
      K (put {s with st:=db (cP s.st (rowsOf (ev s x))) i (.map Kt Vt (eX es kv v))} dst .cG)
     else False
    |_=>False)
   |_,_,_,_=>False)
 | .mapEntry T m k=>
  (match P.underlying T,ev s m,ev s k with
   | some (.map Kt Vt), .mp i, .lit kv=>
    (match aw s.st i,gS P Vt with
    | .map K' V' es,some z=>
     if K'=Kt/\V'=Vt/\plainKey P Kt kv=true then
      let v:=expand P cj Vt (dp es kv z)
      K (put {s with st:=db s.st i (.map Kt Vt (eX es kv v))} dst (.bh [v, .ku i kv]))
     else False
    |_,_=>False)
   |_,_,_=>False)
 | .entryStore T m ku x=>
  (match P.underlying T,ev s m,ev s ku,ck s.st (ev s x) with
   | some (.map Kt Vt), .mp i, .ku j kv,some v=>
    (match aw (cP s.st (rowsOf (ev s x))) i with
    | .map K' V' es=>
     if i=j/\K'=Kt/\V'=Vt/\plainKey P Kt kv=true/\A9 P v Vt=true then
      K (put {s with st:=db (cP s.st (rowsOf (ev s x))) i (.map Kt Vt (eX es kv v))} dst .cG)
     else False
    |_=>False)
   |_,_,_,_=>False)
 | .range T x=>
  (match P.underlying T,ev s x with
   |some (.map _ _), .mp i=>
    (match aw s.st i with
    | .map _ _ es=>K (put {s with st:=s.st++[.iter i es.length []]} dst (.ptr s.st.length 0 [] 0))
    |_=>False)
   |some (.map _ _), .jE Kt Vt ks vs=>K (put {s with st:=s.st++[.fit Kt Vt ks vs []]} dst (.ptr s.st.length 0 [] 0))
   |some (.map _ _), .lit (.map none)=>K (put {s with st:=s.st++[.iter s.st.length 0 [.map none]]} dst (.ptr s.st.length 0 [] 0))
   |some .string, .lit (.string b)=>K (put {s with st:=s.st++[.dy b 0]} dst (.ptr s.st.length 0 [] 0))
   |_,_=>False)
 | .next it false=>
  (match ev s it with
   | .ptr j 0 _ 0=>
    (match aw s.st j with
    | .iter i n ks=>
     (match aw s.st i with
      | .map Kt Vt es=>
       aX (Nat.beq es.length n) (BO P Kt Vt es ks (fun k v=>K (put {s with st:=db s.st j (.iter i n (k::ks))} dst (.bh [.lit (.bool true), .lit k,v]))) (K (put s dst (.bh [.lit (.bool false)]))))
      |_=>
       (match ks with
       |[.map none]=>K (put s dst (.bh [.lit (.bool false)]))
       |_=>False))
    | .fit Kt Vt ks vs met=>BO P Kt Vt (ks.zip vs) met (fun k v=>K (put {s with st:=db s.st j (.fit Kt Vt ks vs (k::met))} dst (.bh [.lit (.bool true), .lit k,v]))) (K (put s dst (.bh [.lit (.bool false)])))
    |_=>False)
   |_=>False)
 | .next it true=>
  (match ev s it with
   | .ptr j 0 _ 0=>
    (match aw s.st j with
    | .dy b p=>
     aD (Nat.blt p b.size) (K (put {s with st:=db s.st j (.dy b (p+(Utf8.decode b p).2))} dst (.bh [.lit (.bool true), .lit (.int .i64 p), .lit (.int .i32 (Utf8.decode b p).1)]))) (K (put s dst (.bh [.lit (.bool false)])))
    |_=>False)
   |_=>False)
 | .binOp .eql T x y _=>mB P s.st T y (ev s x) fun b=>K (put s dst (.lit (.bool b)))
 | .binOp .neq T x y _=>mB P s.st T y (ev s x) fun b=>K (put s dst (.lit (.bool (!b))))
 | .call {callee:= .builtin .clear,args,argTypes}=>
  (match np s args.toList,argTypes.toList with
   | [.an i lo n],[T]=>
    (match P.underlying T,aw s.st i with
    | some (.slice Te), .row Tr xs=>
     (match gS P Te with
      |some z=>if Tr=Te/\0<P.cellsOf Te then K (put {s with st:=db s.st i (.row Te (dP xs lo n z))} dst (.bh [])) else False
      |none=>False)
    |_,_=>False)
   |_,_=>False)
 | .entry it=>
  (match ev s it with
   | .ptr j 0 _ 0=>
    (match aw s.st j with
    | .iter i n (k::_)=>
     (match aw s.st i with
      | .map _ Vt es=>
       (match gS P Vt with
       |some z=>aX (Nat.beq es.length n) (K (put s dst (.bh [.lit k,expand P cj Vt (dp es k z)])))
       |none=>False)
      |_=>False)
    | .fit _ Vt ks vs (k::_)=>
     (match gS P Vt with
      |some z=>K (put s dst (.bh [.lit k,expand P cj Vt (dp (ks.zip vs) k z)]))
      |none=>False)
    |_=>False)
   |_=>False)
 | .call {callee:= .builtin .append,args,argTypes}=>
  (match np s args.toList,argTypes.toList with
   |[x,y],[T,T']=>if T=T' then oT P s T x y fun st a=>K (put {s with st} dst a) else False
   |_,_=>False)
 |_=>False
def xp:Nat->(Nat->Prop)->Prop
 |0,k=>k 0
 |n+1,k=>xp n fun m=>k (m+1)
def NI:List Nat->(List Nat->Prop)->Prop
 |[],k=>k []
 |n::l,k=>xp n fun n'=>NI l fun l'=>k (n'::l')
theorem zw: ∀(n:Nat) (k:Nat->Prop),xp n k=k n
 |0,_=>rfl
 |n+1,k=>by simp only[xp,zw n]
theorem Hc: ∀(l:List Nat) (k:List Nat->Prop),NI l k=k l
 |[],_=>rfl
 |n::l,k=>by simp only[NI,zw,Hc l]
mutual
def xf:AV->(AV->Prop)->Prop
 | .agg l,k=>zO l fun l'=>k (.agg l')
 | .bh l,k=>zO l fun l'=>k (.bh l')
 | .bL f l,k=>zO l fun l'=>k (.bL f l')
 | .jj T a,k=>xf a fun a'=>k (.jj T a')
 | .lit v,k=>k (.lit v)
 | .cG,k=>k .cG
 | .ad T l,k=>k (.ad T l)
 | .an i lo n,k=>xp i fun i'=>k (.an i' lo n)
 | .ptr i x p o,k=>xp i fun i'=>NI p fun p'=>xp o fun o'=>k (.ptr i' x p' o')
 | .jS T a,k=>k (.jS T a)
 | .mp i,k=>xp i fun i'=>k (.mp i')
 | .cD i,k=>xp i fun i'=>k (.cD i')
 | .ku i x,k=>xp i fun i'=>k (.ku i' x)
 | .jE K V ks vs,k=>k (.jE K V ks vs)
def zO:List AV->(List AV->Prop)->Prop
 |[],k=>k []
 |a::l,k=>xf a fun a'=>zO l fun l'=>k (a'::l')
end
def Rn:Obj->(Obj->Prop)->Prop
 | .dead,k=>k .dead
 | .box T a,k=>xf a fun a'=>k (.box T a')
 | .row T xs,k=>k (.row T xs)
 | .mq T xs,k=>k (.mq T xs)
 | .map K V es,k=>k (.map K V es)
 | .loop r,k=>zO r.bn fun l=>k (.loop {state:=r.state,pending:=r.pending,fn:=r.fn,bn:=l,params:=r.params,assign:=r.assign,body:=r.body})
 | .iter i n ks,k=>k (.iter i n ks)
 | .ext t,k=>k (.ext t)
 | .dy s p,k=>k (.dy s p)
 | .rows T E ls pd,k=>k (.rows T E ls pd)
 | .fit K V ks vs met,k=>k (.fit K V ks vs met)
def uw:List Obj->(List Obj->Prop)->Prop
 |[],k=>k []
 |o::l,k=>Rn o fun o'=>uw l fun l'=>k (o'::l')
def Bg(s:S)(k:S->Prop):Prop:=zO s.bn fun r=>uw s.st fun t=>k {bn:=r,st:=t}
mutual
theorem mP: ∀(a:AV) (k:AV->Prop),xf a k=k a
 | .agg l,k=>by simp only[xf,oO l]
 | .bh l,k=>by simp only[xf,oO l]
 | .bL f l,k=>by simp only[xf,oO l]
 | .jj T a,k=>by simp only[xf,mP a]
 | .lit _,_| .cG,_| .ad _ _,_| .an _ _ _,_| .ptr _ _ _ _,_| .jS _ _,_| .mp _,_| .cD _,_| .ku _ _,_| .jE _ _ _ _,_=>by simp only[xf,zw,Hc]
theorem oO: ∀(l:List AV) (k:List AV->Prop),zO l k=k l
 |[],k=>by simp only[zO]
 |a::l,k=>by simp only[zO,mP a,oO l]
end
theorem Ny(o:Obj)(k:Obj->Prop):Rn o k=k o:=by
 cases o<;>simp only[Rn,mP,oO]
theorem kK: ∀(l:List Obj) (k:List Obj->Prop),uw l k=k l
 |[],k=>rfl
 |o::l,k=>by simp only[uw,Ny,kK l]
theorem lu(s:S)(k:S->Prop):Bg s k=k s:=by simp only[Bg,oO,kK]
abbrev Rec:=FuncId->Option Nat->Nat->Code->S->(Exit->S->Prop)->Prop
def bG:Nat->List AV
 |0=>[]
 |n+1=> .cG::bG n
def w8(P:Program)(s:S):List ResultVar->Option (List AV)
 |[]=>some []
 | .tmp t::l=>(match w8 P s l with|some m=>some (nth s.bn t::m)|none=>none)
 | .cell a T::l=>
  (match nj P s.st T (nth s.bn a),w8 P s l with
   |some (true,x),some m=>some (x::m)
   |_,_=>none)
def mF:List AV->AV
 |[a]=>a
 |l=> .bh l
def mN(E:Env)(rec:Rec)(f:FuncId)(args:List AV)(st:List Obj)(K:AV->List Obj->Prop):Prop:=
 match E.P.funcs[f]? with
 | some fn=>
  (match fn.body with
   | some c=>
    rec f none st.length c {bn:=args++bG (fn.ntmps - args.length),st} fun e s=>
     match e with
     | .normal| .ret=>(match w8 E.P s fn.results.toList with|some l=>K (mF l) s.st|none=>False)
     |_=>False
   |none=>False)
 |none=>False
def pT(E:Env)(f:FuncId)(args:List AV)(st:List Obj)(K:AV->List Obj->Prop):Prop:=
 let ids:=reach st (st.length*st.length+st.length+20) (cW args) []
 let ρ:=fun i=>jZ i ids 0
 let β:=jl ids st.length
 aX (pw 0 st (cW args) ids) (Bg {bn:=fU ρ args,st:=gA ρ (gT st ids)} fun s=>E.call f s.bn s.st fun r sub=>xf (lG β r) fun r'=>uw (fg st ids β sub) fun st'=>K r' st')
def vq(st:List Obj):List AV->Option (List AV×List Nat)
 |[]=>some ([],[])
 | a::l=>
  match vq st l with
  |none=>none
  |some (m,is)=>
   match a with
   | .an _ _ _=>(match ck st a with|some b=>some (b::m,rowsOf a++is)|none=>none)
   | .agg _=>(match ck st a with|some b=>some (b::m,rowsOf a++is)|none=>none)
   |_=>some (a::m,is)
def Mr(P:Program)(Ts:List TypeId):AV->AV
 | .bh l=> .bh (pE P Ts l)
 |a=>(match Ts with|[T]=>GM P T a|_=>a)
def jy:List Tmp->List AV->List AV->List AV
 |p::ps,a::as,bn=>jy ps as (cg bn p a)
 |_,_,bn=>bn
def gW (rec:Rec)(l:Nat)(args:List AV)(st:List Obj)(K:AV->List Obj->Prop):Prop:=
 match aw st l with
 | .loop r=>
  if r.state= .ready/\r.params.size=args.length then
   rec r.fn (some l) st.length r.assign {bn:=jy r.params.toList args r.bn,st} fun e s1=>
    match e with
    | .normal=>
     (match aw s1.st l with
      | .loop r1=>
       if r1.state= .ready then
        rec r.fn (some l) st.length r.body {s1 with st:=db s1.st l (.loop {r1 with state:= .busy})} fun e2 s2=>
         match aw s2.st l with
         | .loop r2=>
          (match e2 with
          | .normal=>K (.lit (.bool true)) (db s2.st l (.loop {r2 with state:= .ready,pending:=none}))
          | .ret=>K (.lit (.bool false)) (db s2.st l (.loop {r2 with state:= .done,pending:=some .ret}))
          | .exit id=>K (.lit (.bool false)) (db s2.st l (.loop {r2 with state:= .done,pending:=some (.exit id)}))
          |_=>False)
         |_=>False
       else False
      |_=>False)
    |_=>False
  else False
 |_=>False
def Lk:List Nat->Bool
 |[]=>true
 |_=>false
def y5(l:Nat)(todo:Option (List AV))(args:List AV)(st:List Obj)(K:AV->List Obj->Prop):Prop:=
 match todo,vq st args with
 |some xs,some (as,is)=>
  aX (Lk (cW as)) (∃rest,xs= .bh as::rest/\K (.lit (.bool true)) (db (cP st is) l (.ext (some rest)))/\K (.lit (.bool false)) (db (cP st is) l (.ext none)))
 |_,_=>False
def oG(E:Env)(rec:Rec)(g:AV)(args:List AV)(st:List Obj)(K:AV->List Obj->Prop):Prop:=
 match g with
 | .bL f caps=>
  if E.inl f then mN E rec f (args++caps) st K
  else if E.own f then pT E f (args++caps) st K
  else
   (match vq st (args++caps) with
    |some (as,is)=>pT E f (pE E.P (kB E.P f) as) (cP st is) K
    |none=>False)
 | .cD l=>
  (match aw st l with
   | .ext t=>y5 l t args st K
   |_=>gW rec l args st K)
 |_=>False
def eC(s:S)(t:Option Tmp)(b:Bool):S:=
 match t with
 |none=>s
 |some d=>{s with bn:=cg s.bn d (.lit (.bool b))}
def lE:List Oper->Nat->Option Tmp
 |[],_=>none
 |o::_,0=>o.dst
 |_::l,n+1=>lE l n
def qN:Operand->Option Tmp
 | .tmp t=>some t
 |_=>none
def gx(s:S):Op->Option (AV×List AV)
 | .call {callee:= .value g,args, .. }=>some (ev s g,np s args.toList)
 |_=>none
def N3(E:Env)(rec:Rec)(s:S)(dst:Option Tmp)(o:Op)(K:S->Prop):Prop:=
 match bJ E s o with
 |some (c,a)=>aX c (K (put s dst a))
 | none=>
  match o with
  | .pick c a b=>
   (match ev s c with
    | .lit (.bool t)=>aD t (K (put (eC s (qN c) true) dst (ev s a))) (K (put (eC s (qN c) false) dst (ev s b)))
    |_=>False)
  |o=>
   match gx s o with
   |some (g,args)=>oG E rec g args s.st fun a st=>K (put {s with st} dst a)
   |none=>cr E.P s dst o K
def rE(E:Env)(rec:Rec)(ops:List Oper):List Oper->S->(S->Prop)->Prop
 |[],s,K=>K s
 | o :: l, s, K=>
  match o.guard with
  |none=>N3 E rec s o.dst o.op fun s'=>rE E rec ops l s' K
  | some (j, want)=>
   match lE ops j with
   |none=>False
   | some t=>
    match nth s.bn t with
    | .lit (.bool b)=>
     match want with
     |true=>aD b (N3 E rec (eC s (some t) true) o.dst o.op fun s'=>rE E rec ops l s' K)
             (rE E rec ops l (put (eC s (some t) false) o.dst (.bh [])) K)
     |false=>aD b (rE E rec ops l (put (eC s (some t) true) o.dst (.bh [])) K)
              (N3 E rec (eC s (some t) false) o.dst o.op fun s'=>rE E rec ops l s' K)
    | .bh []=>rE E rec ops l (put s o.dst (.bh [])) K
    |_=>False
def ql:Option Operand->List Operand
 |none=>[]
 |some x=>[x]
def opsOf:Op->List Operand
 | .move x| .assign x| .load _ x| .nilCheck x| .unOp _ _ x| .fieldAddr _ x _| .field _ x _| .extract x _| .box _ x| .makeInterface _ x| .convert _ _ x=>[x]
 | .pick c a b=>[c,a,b]
 | .binOp _ _ x y _| .indexAddr _ x y| .index _ x y| .lookup _ x y _| .store _ x y| .makeSlice _ x y| .mapEntry _ x y=>[x,y]
 | .slice _ x lo hi m=>x::(ql lo++ql hi++ql m)
 | .makeFunc _ _ caps=>caps.toList
 | .build _ ps| .buildSlice _ _ ps=>ps.toList.map (·.2)
 | .mapUpdate _ x y z| .entryStore _ x y z=>[x,y,z]
 | .range _ x| .next x _| .entry x=>[x]
 | .call {callee:= .value g,args, .. }=>g::args.toList
 | .call {args, .. }=>args.toList
 |_=>[]
def Jf:List Operand->Bool
 |[]=>true
 | .const _::l=>Jf l
 |_=>false
def er(quiet:FuncId->Bool):Op->Nat
 | .move _| .assign _| .binOp .. | .unOp .. | .extract .. | .makeFunc .. | .pick .. | .makeInterface .. | .convert .. | .field .. | .build .. | .index .. =>0
 | .load .. | .nilCheck _| .slice .. | .fieldAddr .. | .indexAddr .. | .lookup .. =>1
 | .call {callee:= .builtin .len, .. }=>1
 | .call {callee:= .builtin .min, .. }=>1
 | .call {callee:= .builtin .max, .. }=>1
 | .call {callee:= .value (.func f),args, .. }=>bif quiet f then(bif Jf args.toList then 0 else 1) else 2
 |_=>2
def rD:List Obj->List Obj->Prop
 |[],_=>True
 |_::_,[]=>False
 | .box T a::l,o::l'=>o= .box T a/\rD l l'
 | .rows T E ls pd::l,o::l'=>o= .rows T E ls pd/\rD l l'
 |_::l,_::l'=>rD l l'
def Wy(b:Bool)(st st':List Obj)(p:Prop):Prop:=
 match b with
 |true=>rD st st'/\p
 |false=>p
def II(E:Env)(g:AV)(args:List AV)(st:List Obj):Bool:=
 match g with
 | .bL f caps=>!E.inl f&& !E.own f&&(match vq st (args++caps) with
  |some (as,[])=>Lk (cW (pE E.P (kB E.P f) as))
  |_=>false)
 |_=>false
def xa(calm:FuncId->Bool):Op->Bool
 | .call {callee:= .value (.func f), .. }=>calm f
 |_=>false
def tw(E:Env)(rec:Rec)(s:S)(dst:Option Tmp)(o:Op)(K:S->Prop):Prop:=
 match er E.quiet o with
 | 2=>
  (match gx s o with
   |some (g,args)=>oG E rec g args s.st fun a st=>Wy (xa E.calm o&& !II E g args s.st) s.st st (K (put {s with st} dst a))
   |none=>cr E.P s dst o K)
 | _ =>
  (match bJ E s o with
   |some (c,a)=>aX c (K (put s dst a))
   | none=>
    (match o with
    | .pick c a b=>
     (match ev s c with
      | .lit (.bool t)=>aD t (K (put (eC s (qN c) true) dst (ev s a))) (K (put (eC s (qN c) false) dst (ev s b)))
      |_=>False)
    |_=>False))
def dn(E:Env)(rec:Rec)(ops:List Oper)(o:Oper)(s:S)(K:S->Prop):Prop:=
 match o.guard with
 |none=>tw E rec s o.dst o.op K
 | some (j,want)=>
  match lE ops j with
  |none=>False
  | some t=>
   match nth s.bn t with
   | .lit (.bool b)=>
    match want with
    |true=>aD b (tw E rec (eC s (some t) true) o.dst o.op K) (K (put (eC s (some t) false) o.dst (.bh [])))
    |false=>aD b (K (put (eC s (some t) true) o.dst (.bh []))) (tw E rec (eC s (some t) false) o.dst o.op K)
   | .bh []=>K (put s o.dst (.bh []))
   |_=>False
def jn:Nat->List Bool
 |0=>[]
 |n+1=>false::jn n
def fh:List Bool->Nat->Bool
 |[],_=>true
 |b::_,0=>b
 |_::l,n+1=>fh l n
def fb:List Bool->Nat->List Bool
 |[],_=>[]
 |_::l,0=>true::l
 |b::l,n+1=>b::fb l n
def ld(listed:List Bool):List Edge->Bool
 |[]=>true
 |e::l=>(!Region.binds .any e||(Nat.blt e.on listed.length&&fh listed e.on))&&ld listed l
def jY(listed:List Bool):List Oper->Nat->List (Nat×Oper)
 |[],_=>[]
 |o::l,i=>bif !fh listed i&&ld listed o.after.toList then(i,o)::jY listed l (i+1) else jY listed l (i+1)
def yu(t:Nat):List Operand->Bool
 |[]=>false
 | .tmp u::l=>Nat.beq t u||yu t l
 |_::l=>yu t l
def Ay(ops:List Oper)(o:Oper)(t:Nat):Bool:=
 yu t (opsOf o.op)||(match o.guard with|none=>false|some (j,_)=>(match lE ops j with|none=>false|some u=>Nat.beq t u))
def Aq(ops:List Oper)(o:Oper):Option Tmp->Bool
 |none=>false
 |some t=>Ay ops o t
def vI:Option Tmp->Option Tmp->Bool
 |some t,some u=>!Nat.beq t u
 |_,_=>true
def si(ops:List Oper)(a b:Oper):Bool:=
 !Aq ops b a.dst&& !Aq ops a b.dst&&vI a.dst b.dst
def CM:Op->Bool
 | .alloc _| .box _ _| .makeSlice .. | .makeMap _ none=>true
 |_=>false
def wI(quiet:FuncId->Bool)(ops:List Oper)(a b:Oper):Bool:=
 si ops a b&&(match er quiet a.op with|0=>true|1=>Nat.blt (er quiet b.op) 2||CM b.op|_=>false)
def xQ(acc:List Nat):List Edge->Bool
 |[]=>false
 |e::l=>(Region.binds .any e&&jm e.on acc)||xQ acc l
def fwd:List Oper->Nat->List Nat->List Nat
 |[],_,acc=>acc
 |o::l,j,acc=>bif xQ acc o.after.toList then fwd l (j+1) (j::acc) else fwd l (j+1) acc
def fV(quiet:FuncId->Bool)(ops:List Oper)(listed:List Bool)(i:Nat)(o:Oper)(fs:List Nat):List Oper->Nat->Bool
 |[],_=>true
 |b::l,j=>(Nat.beq i j||fh listed j||jm j fs||wI quiet ops o b)&&fV quiet ops listed i o fs l (j+1)
def ot(quiet:FuncId->Bool)(ops:List Oper)(listed:List Bool):List (Nat×Oper)->Option (Nat×Oper)
 |[]=>none
 |(i,o)::l=>bif fV quiet ops listed i o (fwd ops 0 [i]) ops 0 then some (i,o) else ot quiet ops listed l
def jP:Obj->Bool
 | .box _ _=>true
 |_=>false
def zc:Obj->Bool
 | .rows _ _ _ _=>true
 |_=>false
def nQ(s:S)(o:Oper):Bool:=
 match o.guard,o.op with
 |none, .load _ x=>(match ev s x with| .ptr k _ _ _=>jP (aw s.st k)| .jS _ _=>true| .lit _=>true|_=>false)
 |none, .call {callee:= .builtin .len,args, .. }=>(match np s args.toList with|[.ad _ _]=>true|_=>false)
 |none, .nilCheck x=>(match ev s x with| .ptr k _ _ _=>jP (aw s.st k)|_=>false)
 |none, .fieldAddr _ x _=>(match ev s x with| .ptr k _ _ _=>jP (aw s.st k)|_=>false)
 |none, .indexAddr _ x _=>(match ev s x with| .an k 0 _=>zc (aw s.st k)|_=>false)
 |_,_=>false
def yF:Op->Bool
 | .alloc _| .box _ _| .makeMap _ none=>true
 | .buildSlice .. =>true
 | .makeSlice .. =>true
 | .call {callee:= .builtin .append, .. }=>true
 |_=>false
def w6(quiet calm:FuncId->Bool)(ops:List Oper)(a b:Oper):Bool:=
 si ops a b&&(Nat.blt (er quiet b.op) 2||yF b.op||xa calm b.op)
def x4(quiet calm:FuncId->Bool)(ops:List Oper)(listed:List Bool)(i:Nat)(o:Oper)(fs:List Nat):List Oper->Nat->Bool
 |[],_=>true
 |b::l,j=>(Nat.beq i j||fh listed j||jm j fs||w6 quiet calm ops o b)&&x4 quiet calm ops listed i o fs l (j+1)
def Bi(quiet calm:FuncId->Bool)(ops:List Oper)(listed:List Bool)(s:S):List (Nat×Oper)->Option (Nat×Oper)
 |[]=>none
 |(i,o)::l=>bif nQ s o&&x4 quiet calm ops listed i o (fwd ops 0 [i]) ops 0 then some (i,o) else Bi quiet calm ops listed s l
def nL(P:Program)(s:S)(o:Oper):Option (Option TypeId):=
 match o.guard,o.op with
 | none, .load T x=>
  (match ev s x with
   | .ptr k _ path _=>(match aw s.st k with| .box Tb _=>bif vB P Tb path T&& !fx P T then some (some T) else none|_=>none)
   |_=>none)
 |none, .nilCheck x=>(match ev s x with| .ptr k _ _ _=>bif jP (aw s.st k) then some none else none|_=>none)
 |none, .fieldAddr _ x _=>(match ev s x with| .ptr k _ _ _=>bif jP (aw s.st k) then some none else none|_=>none)
 |_,_=>none
def zK(P:Program):Option TypeId->Op->Bool
 |none, .store _ _ _=>true
 |some T, .store U _ _=>!Nat.beq U T&& !fx P U
 |_,_=>false
def wq(P:Program)(quiet calm:FuncId->Bool)(T:Option TypeId)(ops:List Oper)(a b:Oper):Bool:=
 si ops a b&&(Nat.blt (er quiet b.op) 2||yF b.op||xa calm b.op||zK P T b.op)
def uC(P:Program)(quiet calm:FuncId->Bool)(T:Option TypeId)(ops:List Oper)(listed:List Bool)(i:Nat)(o:Oper)(fs:List Nat):List Oper->Nat->Bool
 |[],_=>true
 |b::l,j=>(Nat.beq i j||fh listed j||jm j fs||wq P quiet calm T ops o b)&&uC P quiet calm T ops listed i o fs l (j+1)
def sQ(P:Program)(quiet calm:FuncId->Bool)(ops:List Oper)(listed:List Bool)(s:S):List (Nat×Oper)->Option (Nat×Oper)
 |[]=>none
 |(i,o)::l=>match nL P s o with
  |some T=>bif uC P quiet calm T ops listed i o (fwd ops 0 [i]) ops 0 then some (i,o) else sQ P quiet calm ops listed s l
  |none=>sQ P quiet calm ops listed s l
def HF(p:Nat->Oper->Prop):List (Nat×Oper)->Prop
 |[]=>True
 |[(i,o)]=>p i o
 |(i,o)::l=>p i o/\HF p l
def qe(E:Env)(rec:Rec)(ops:List Oper):Nat->List Bool->S->(S->Prop)->Prop
 |0,listed,s,K=>match jY listed ops 0 with|[]=>K s|_=>False
 | n +1,listed,s,K=>
  match jY listed ops 0 with
  |[]=>K s
  | r=>
   match ot E.quiet ops listed r with
   |some (i,o)=>dn E rec ops o s fun s'=>qe E rec ops n (fb listed i) s' K
   | none=>
    match Bi E.quiet E.calm ops listed s r with
    |some (i,o)=>dn E rec ops o s fun s'=>qe E rec ops n (fb listed i) s' K
    |none=>
     match bif E.calm 888888 then sQ E.P.toProgram E.quiet E.calm ops listed s r else none with
     |some (i,o)=>dn E rec ops o s fun s'=>qe E rec ops n (fb listed i) s' K
     |none=>HF (fun i o=>dn E rec ops o s fun s'=>qe E rec ops n (fb listed i) s' K) r
def Yz(p:S->(Exit->S->Prop)->Prop)(K:Exit->S->Prop):Exit->S->Prop
 | .normal,s=>p s K
 |e,s=>K e s
def zZ(id:Nat)(K:Exit->S->Prop):Exit->S->Prop
 | .exit i,s=>bif Nat.beq i id then K .normal s else K (.exit i) s
 |e,s=>K e s
def Rz(K:Exit->S->Prop):Exit->S->Prop
 | .goto _,_=>False
 |e,s=>K e s
def lH:Code->Option Nat
 | .region id _ _=>some id
 | .seq a b=>(match lH a with|some n=>some n|none=>lH b)
 | .block _ c| .scope c| .loop c=>lH c
 | .cond _ a b=>(match lH a with|some n=>some n|none=>lH b)
 | .rangeFunc _ _ a _=>lH a
 |_=>none
def qo(l:Nat)(s:S)(K:Exit->S->Prop)(st:List Obj):Prop:=
 match aw st l with
 | .loop r=>
  (match r.state,r.pending with
   | .busy,_=>False
   |_,none=>K .normal {s with st:=db st l .dead}
   |_,some .ret=>K .ret {s with st:=db st l .dead}
   |_,some (.exit id)=>K (.exit id) {s with st:=db st l .dead}
   |_,_=>False)
 |_=>False
def E3(rd:Option Nat)(st:List Obj):Bool:=
 match rd with
 |none=>true
 |some l=>match aw st l with| .loop _=>true|_=>false
def j3(E:Env)(rec:Rec)(f:FuncId)(rd:Option Nat)(base:Nat):Code->S->(Exit->S->Prop)->Prop
 | .skip,s,K=>K .normal s
 | .label _,s,K=>K .normal s
 | .region _ ops false,s,K=>rE E rec ops.toList ops.toList s (K .normal)
 | .region _ ops true,s,K=>qe E rec ops.toList ops.toList.length (jn ops.toList.length) s (K .normal)
 | .seq a b,s,K=>j3 E rec f rd base a s (Yz (j3 E rec f rd base b) K)
 | .cond c x y,s,K=>
  match ev s c with
  | .lit (.bool t)=>aD t (j3 E rec f rd base x (eC s (qN c) true) K) (j3 E rec f rd base y (eC s (qN c) false) K)
  |_=>False
 | .block id c,s,K=>j3 E rec f rd base c s (zZ id K)
 | .loop c,s,K=>
  match lH c with
  |some n=>aX (jD E.P (E.live f n) base s) (Bg (canon E.P (E.live f n) base s) fun s'=>E.loop f n c rd base s' K)
  |none=>False
 | .rangeFunc g ps asg body,s,K=>
  match ev s g with
  | .bL f' caps=>
   aX (E3 rd s.st) (match E.gen f' with
    |true=>E.ke f (match lH asg with|some n=>n|none=>0) f' caps
     (s.st++[.loop {state:= .ready,pending:=none,fn:=f,bn:=s.bn,params:=ps,assign:=asg,body:=body}]) (qo s.st.length s K)
    |false=>mN E rec f' (.cD s.st.length::caps)
     (s.st++[.loop {state:= .ready,pending:=none,fn:=f,bn:=s.bn,params:=ps,assign:=asg,body:=body}])
     fun _ st=>qo s.st.length s K st)
  |_=>False
 | .exit id,s,K=>K (.exit id) s
 | .goto _,_,_=>False
 | .scope c,s,K=>j3 E rec f rd base c s (Rz K)
 | .ret,s,K=>K .ret s
 | .refuse _,_,_=>False
def vc(E:Env):Nat->Rec
 |0=>fun _ _ _ _ _ _=>False
 |n+1=>fun f rd base c s K=>j3 E (vc E n) f rd base c s K
end Go.Dn
