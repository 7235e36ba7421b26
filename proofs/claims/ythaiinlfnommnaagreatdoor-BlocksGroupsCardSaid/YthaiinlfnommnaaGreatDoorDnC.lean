import Derived.Test.YthaiinlfnommnaaGreatDoorDnB
namespace Go.Dn
open Go
mutual
def refs:AV->List Nat
 | .ar i _ _=>[i]
 | .ptr i _ _ _=>[i]
 | .mp i=>[i]
 | .cu i=>[i]
 | .kg i _=>[i]
 | .agg l=>cO l
 | .ba l=>cO l
 | .bI _ l=>cO l
 | .iX _ a=>refs a
 |_=>[]
def cO:List AV->List Nat
 |[]=>[]
 |a::l=>refs a++cO l
end
def xH:Obj->List Nat
 | .box _ a=>refs a
 | .loop r=>cO r.bk
 | .iter i _ _=>[i]
 |_=>[]
def jM(i:Nat):List Nat->Bool
 |[]=>false
 |j::l=>Nat.beq i j||jM i l
def reach(st:List Obj):Nat->List Nat->List Nat->List Nat
 |0,_,acc=>acc
 |_+1,[],acc=>acc
 |n+1,i::todo,acc=>
  bif jM i acc then reach st n todo acc else reach st n (xH (ax st i)++todo) (acc++[i])
def jA(i:Nat):List Nat->Nat->Option Nat
 |[],_=>none
 |j::l,n=>bif Nat.beq i j then some n else jA i l (n+1)
mutual
def ly(ρ:Nat->Option Nat):AV->AV
 | .ar i lo n=>(match ρ i with|some j=> .ar j lo n|none=> .cy)
 | .ptr i k p o=>(match ρ i with|some j=> .ptr j k p o|none=> .cy)
 | .mp i=>(match ρ i with|some j=> .mp j|none=> .cy)
 | .cu i=>(match ρ i with|some j=> .cu j|none=> .cy)
 | .kg i k=>(match ρ i with|some j=> .kg j k|none=> .cy)
 | .agg l=> .agg (fM ρ l)
 | .ba l=> .ba (fM ρ l)
 | .bI f l=> .bI f (fM ρ l)
 | .iX T a=> .iX T (ly ρ a)
 |a=>a
def fM(ρ:Nat->Option Nat):List AV->List AV
 |[]=>[]
 |a::l=>ly ρ a::fM ρ l
end
def eX(ρ:Nat->Option Nat):Obj->Obj
 | .box T a=> .box T (ly ρ a)
 | .loop r=> .loop {r with bk:=fM ρ r.bk}
 | .iter i n ks=> .iter (match ρ i with|some j=>j|none=>i) n ks
 |o=>o
def gE(st:List Obj):List Nat->List Obj
 |[]=>[]
 |i::l=>ax st i::gE st l
def fZ(ρ:Nat->Option Nat):List Obj->List Obj
 |[]=>[]
 |o::l=>eX ρ o::fZ ρ l
def upto:Nat->List Nat
 |0=>[]
 |n+1=>upto n++[n]
def iW(ids:List Nat)(n:Nat)(j:Nat):Option Nat:=
 match idN ids j with
 |some i=>some i
 |none=>some (n+(j - ids.length))
where
 idN:List Nat->Nat->Option Nat
  |[],_=>none
  |i::_,0=>some i
  |_::l,k+1=>idN l k
def eY(st:List Obj)(ids:List Nat)(ρ:Nat->Option Nat):List Obj->List Obj
 |sub=>go st ids sub
where
 go:List Obj->List Nat->List Obj->List Obj
  |st,i::ids,o::sub=>go (db st i (eX ρ o)) ids sub
  |st,[],sub=>st++fZ ρ sub
  |st,_::_,[]=>st
def fL(live:List (Nat×Option TypeId)):List AV->Nat->List AV
 |[],_=>[]
 |a::l,n=>(bif memL n live then a else .cy)::fL live l (n+1)
where
 memL (n:Nat):List (Nat×Option TypeId)->Bool
  |[]=>false
  |(j,_)::l=>Nat.beq n j||memL n l
def Mg:Nat:=1000000000
def jW:List (Nat×Option TypeId)->S->S
 |[],s=>s
 |(_,none)::l,s=>jW l s
 | (r,some T)::l,s=>
  match nth s.bk r with
  | .lit (.slice none 0 0)=>
   (match Nat.ble Mg T with
    |true=>jW l {bk:=b8 s.bk r (.ad (T - Mg) []),st:=s.st}
    |false=>jW l {bk:=b8 s.bk r (.ar s.st.length 0 0),st:=s.st++[.row T []]})
  |_=>jW l s
def Ei(P:Program)(i:Nat)(s:S):S:=
 match ax s.st i with
 | .box Tb (.lit (.slice none 0 0))=>
  match P.underlying Tb with
  |some (.slice Te)=>{s with st:=db s.st i (.box Tb (.ar s.st.length 0 0))++[.row Te []]}
  |_=>s
 |_=>s
def nq(P:Program):List Nat->S->S
 |[],s=>s
 |i::l,s=>nq P l (Ei P i s)
def Pu(i j:Nat)(T:TypeId)(st:List Obj):List Obj:=
 match ax st i with
 | .box Tb (.agg fs)=>
  match nth fs j with
  | .lit (.slice none 0 0)=>db st i (.box Tb (.agg (b8 fs j (.ar st.length 0 0))))++[.row T []]
  |_=>st
 |_=>st
def oR:List (Nat×Nat×TypeId)->List Obj->List Obj
 |[],st=>st
 |(i,j,T)::l,st=>oR l (Pu i j T st)
def y9:List (Nat×Option TypeId)->List (Nat×Nat×TypeId)
 |[]=>[]
 |(r,t)::l=>match Nat.ble 1000 r,t with
  |true,some T=>((r - 1000) / 64,(r - 1000) % 64,T)::y9 l
  |_,_=>y9 l
def uZ(st:List Obj):List Nat->List Nat
 |[]=>[]
 |i::l=>xH (ax st i)++uZ st l
def gQ(base:Nat)(st:List Obj)(roots:List Nat):List Nat:=
 reach st (st.length*st.length+st.length+20) (uZ st (upto base)++roots) (upto base)
def Bg(ids:List Nat):List Nat->Bool
 |[]=>true
 |i::l=>jM i ids&&Bg ids l
def EY(n:Nat):List Nat->Bool
 |[]=>true
 |i::l=>decide (i<n)&&EY n l
def z0:List Nat->Bool
 |[]=>true
 |i::l=>!jM i l&&z0 l
def tf(ids:List Nat):List Nat->Bool
 |[]=>true
 |i::l=>(match jA i ids 0 with|some j=>Nat.beq i j|none=>false)&&tf ids l
def oQ(base:Nat)(st:List Obj)(roots ids:List Nat):Bool:=
 z0 ids&&EY st.length ids&&tf ids (upto base)&&Bg ids roots&&Bg ids (uZ st ids)
def zK(l:List (Nat×Nat×TypeId))(s:S):S:=
 match l with
 |[]=>s
 |_=>{s with st:=oR l s.st}
def gK(P:Program)(live:List (Nat×Option TypeId))(s:S):S:=
 let s1:=jW live {s with bk:=fL live s.bk 0}
 zK (y9 live) (nq P (upto s1.st.length) s1)
def jn(P:Program)(live:List (Nat×Option TypeId))(base:Nat)(s:S):Bool:=
 oQ base (gK P live s).st (cO (gK P live s).bk) (gQ base (gK P live s).st (cO (gK P live s).bk))
def tg(ids:List Nat)(s:S):S:=
 {bk:=fM (fun i=>jA i ids 0) s.bk,st:=fZ (fun i=>jA i ids 0) (gE s.st ids)}
def canon(P:Program)(live:List (Nat×Option TypeId))(base:Nat)(s:S):S:=
 tg (gQ base (gK P live s).st (cO (gK P live s).bk)) (gK P live s)
def En(P:Program)(T:TypeId):List AV->Bool
 |[]=>true
 |a::l=>z6 P a T&&En P T l
def sM:Nat:=70368744177664
def mT(Ty:Option TypeId)(Te:TypeId):Bool:=
 match Ty with
 |none=>true
 |some U=>U==Te
def qG(P:Program)(E:TypeId):Bool:=
 match P.underlying E with
 |some (.int _)|some .bool|some .string=>P.cellsOf E==1
 |_=>false
def ia:List AV->Option (List Value)
 |[]=>some []
 | .lit v::l=>(match ia l with|some m=>some (v::m)|none=>none)
 |_=>none
def oq (P:Program)(s:S)(T:TypeId)(x y:AV)(K:List Obj->AV->Prop):Prop:=
 match P.underlying T with
 | some (.slice Te)=>
  match ov s.st y,gD P Te with
  | some (Ty,ys),some _=>
   match mT Ty Te&&decide (0<P.cellsOf Te) with
   |false=>False
   | true=>
    match x with
    | .lit (.slice none 0 0)=>
     a7 (decide ((ys.length+1)*(P.bytesOf Te+1)<=sM)) (K (s.st++[.row Te ys]) (.ar s.st.length 0 ys.length))
    | .ar i lo n=>
     match ax s.st i with
     | .row Tr xs=>
      if Tr=Te/\lo=0 then
       a7 (decide ((n+ys.length+1)*(P.bytesOf Te+1)<=sM))
        (K (db s.st i .dead++[.row Te ((xs.take n)++ys)]) (.ar s.st.length 0 (n+ys.length)))
      else False
     | .rows Tr E ls none=>
      match lo,ia ys with
      | k+1,some vs=>
       if E=Te/\En P Te ys=true then
        a7 (decide (n=(bQ ls k).length)&&decide ((n+ys.length+1)*(P.bytesOf Te+1)<=sM))
         (K (db s.st i (.rows Tr E (jw ls k (bQ ls k++vs)) (some k))) (.ar i (Nat.succ k) (n+ys.length)))
       else False
      |_,_=>False
     |_=>False
    |_=>False
  |_,_=>False
 |_=>False
def jf(P:Program):TypeId->List Nat->Option TypeId
 |T,[]=>some T
 |T,j::p=>match mv (fieldsOf P T) j with
  |some fd=>jf P fd.type p
  |none=>none
def vH(P:Program)(Tb:TypeId)(path:List Nat)(T:TypeId):Bool:=
 match jf P Tb path with
 |some U=>Nat.beq U T
 |none=>false
def ph(P:Program)(s:S)(T:TypeId)(p x:AV)(K:List Obj->Prop):Prop:=
 match p with
 | .ptr i k path off=>
  match ax s.st i with
  | .box Tb a=>
   if mN a path&&gH a path==off&&wid x==P.cellsOf T&&wid (me a path)==P.cellsOf T&&pH x&&(P.underlying T).isSome&&vH P Tb path T then K (db s.st i (.box Tb (fv a path x))) else False
  | .row _ _=>
   match cf s.st x,ax (cI s.st (rowsOf x)) i with
   | some x', .row Tr xs=>
    if mN (expand P b9 Tr (nth xs k)) path&&gH (expand P b9 Tr (nth xs k)) path==off&&wid x'==P.cellsOf T&&wid (me (expand P b9 Tr (nth xs k)) path)==P.cellsOf T&&
      z6 P (fv (expand P b9 Tr (nth xs k)) path x') Tr&&pH x'&&(P.underlying T).isSome then
     K (db (cI s.st (rowsOf x)) i (.row Tr (b8 xs k (fv (expand P b9 Tr (nth xs k)) path x'))))
    else False
   |_,_=>False
  | .rows Tr E ls (some kp)=>
   (match path,off,x with
    |[],0, .ar j (k'+1) m=>if j=i/\T=Tr then a7 (decide (k=kp)&&decide (k'=kp)&&decide (m=(bQ ls k).length)) (K (db s.st i (.rows Tr E ls none))) else False
    |_,_,_=>False)
  |_=>False
 |_=>False
def fC(a:AV)(n:Nat):List AV:=List.replicate n a
def F5(P:Program)(Te:TypeId)(z:AV)(n:Nat):Obj:=
 match P.underlying Te,z with
 |some (.slice E), .lit (.slice none 0 0)=>if qG P E=true/\P.cellsOf Te=1 then .rows Te E (List.replicate n []) none else .row Te (fC z n)
 |_,_=> .row Te (fC z n)
def kk(P:Program)(T:TypeId)(st:List Obj):List AV->List (Nat×AV)->Option (List AV×List Nat)
 |l,[]=>some (l,[])
 | l,(i,x)::ps=>
  match cf st x with
  | some x'=>
   if z6 P x' T&&decide (i<l.length) then
    match kk P T st (b8 l i x') ps with
    |some (m,is)=>some (m,rowsOf x++is)
    |none=>none
   else none
  |none=>none
def jN:List Value->Value->Bool
 |[],_=>false
 |k'::l,k=>dc k' k||jN l k
def j3(ks:List Value):List (Value×AV)->Bool
 |[]=>true
 |(k,_)::es=>jN ks k&&j3 ks es
def Bn(P:Program)(Kt Vt:TypeId)(es:List (Value×AV))(ks:List Value)(p:Value->AV->Prop)(q:Prop):Prop:=
 (match P.underlying Kt with
  |some (.int κ)=>∀n v,(Value.int κ n,v)∈es->jN ks (.int κ n)=false->p (.int κ n) (expand P b9 Vt v)
  |some .string=>∀t v,(Value.string t,v)∈es->jN ks (.string t)=false->p (.string t) (expand P b9 Vt v)
  |_=>False)/\(j3 ks es=true->q)
def O6:List AV->Bool
 |[]=>true
 |_::_=>false
def dH:List AV->Nat->Nat->AV->List AV
 |[],_,_,_=>[]
 |a::l,0,0,_=>a::l
 |_::l,0,n+1,z=>z::dH l 0 n z
 |a::l,lo+1,n,z=>a::dH l lo n z
def mA(P:Program)(st:List Obj)(T:TypeId)(y:Operand)(a:AV)(K:Bool->Prop):Prop:=
 match y,P.underlying T with
 | .const (.slice none 0 0),some (.slice _)=>
  (match a with
   | .lit (.slice none 0 0)=>K true
   | .ad _ l=>(O6 l=true->K true)/\K false
   | .ar i _ n=>(match MU (ax st i) with|true=>(Nat.beq n 0=true->K true)/\K false|false=>False)
   |_=>False)
 |_,_=>False
def ck (P:Program)(s:S)(dst:Option Tmp)(o:Op)(K:S->Prop):Prop:=
 match o with
 | .alloc T=>
  (match gD P T with
   |some z=>K (put {s with st:=s.st++[.box T z]} dst (.ptr s.st.length 0 [] 0))
   |none=>False)
 | .box T x=>if pH (ev s x) then K (put {s with st:=s.st++[.box T (ev s x)]} dst (.ptr s.st.length 0 [] 0)) else False
 | .store T p x=>ph P s T (ev s p) (ev s x) fun st=>K (put {s with st} dst .cy)
 | .buildSlice T len parts=>
  (match P.underlying T with
   | some (.slice Te)=>
    (match gD P Te with
    | some z=>
     (match kk P Te s.st (fC z len) (ff s parts.toList) with
      | some (l,is)=>
       if decide (len*P.cellsOf Te<=16777216)&&decide (0<P.cellsOf Te) then
        K (put {s with st:=cI s.st is++[.row Te l]} dst (.ar s.st.length 0 len))
       else False
      |none=>False)
    |none=>False)
   |_=>False)
 | .makeSlice T ln cp=>
  (match P.underlying T,NV (ev s ln),NV (ev s cp) with
   | some (.slice Te),some (.i64,n),some (.i64,c)=>
    (match gD P Te with
    | some z=>
     a7 (decide (0<=n)&&decide (n<=c)&&decide ((c.toNat+1)*(P.bytesOf Te+1)<=sM)&&decide (0<P.cellsOf Te))
      (K (put {s with st:=s.st++[F5 P Te z n.toNat]} dst (.ar s.st.length 0 n.toNat)))
    |none=>False)
   |_,_,_=>False)
 | .makeMap T none=>
  (match P.underlying T with
   |some (.map Kt Vt)=>K (put {s with st:=s.st++[.map Kt Vt []]} dst (.mp s.st.length))
   |_=>False)
 | .mapUpdate T m k x=>
  (match P.underlying T,ev s m,ev s k,cf s.st (ev s x) with
   | some (.map Kt Vt), .mp i, .lit kv,some v=>
    (match ax (cI s.st (rowsOf (ev s x))) i with
    | .map K' V' es=>
     if K'=Kt/\V'=Vt/\plainKey P Kt kv=true/\z6 P v Vt=true then
      K (put {s with st:=db (cI s.st (rowsOf (ev s x))) i (.map Kt Vt (eM es kv v))} dst .cy)
     else False
    |_=>False)
   |_,_,_,_=>False)
 | .mapEntry T m k=>
  (match P.underlying T,ev s m,ev s k with
   | some (.map Kt Vt), .mp i, .lit kv=>
    (match ax s.st i,gD P Vt with
    | .map K' V' es,some z=>
     if K'=Kt/\V'=Vt/\plainKey P Kt kv=true then
      let v:=expand P b9 Vt (dh es kv z)
      K (put {s with st:=db s.st i (.map Kt Vt (eM es kv v))} dst (.ba [v, .kg i kv]))
     else False
    |_,_=>False)
   |_,_,_=>False)
 | .entryStore T m kg x=>
  (match P.underlying T,ev s m,ev s kg,cf s.st (ev s x) with
   | some (.map Kt Vt), .mp i, .kg j kv,some v=>
    (match ax (cI s.st (rowsOf (ev s x))) i with
    | .map K' V' es=>
     if i=j/\K'=Kt/\V'=Vt/\plainKey P Kt kv=true/\z6 P v Vt=true then
      K (put {s with st:=db (cI s.st (rowsOf (ev s x))) i (.map Kt Vt (eM es kv v))} dst .cy)
     else False
    |_=>False)
   |_,_,_,_=>False)
 | .range T x=>
  (match P.underlying T,ev s x with
   |some (.map _ _), .mp i=>
    (match ax s.st i with
    | .map _ _ es=>K (put {s with st:=s.st++[.iter i es.length []]} dst (.ptr s.st.length 0 [] 0))
    |_=>False)
   |some (.map _ _), .js Kt Vt ks vs=>K (put {s with st:=s.st++[.fit Kt Vt ks vs []]} dst (.ptr s.st.length 0 [] 0))
   |some (.map _ _), .lit (.map none)=>K (put {s with st:=s.st++[.iter s.st.length 0 [.map none]]} dst (.ptr s.st.length 0 [] 0))
   |some .string, .lit (.string b)=>K (put {s with st:=s.st++[.dw b 0]} dst (.ptr s.st.length 0 [] 0))
   |_,_=>False)
 | .next it false=>
  (match ev s it with
   | .ptr j 0 _ 0=>
    (match ax s.st j with
    | .iter i n ks=>
     (match ax s.st i with
      | .map Kt Vt es=>
       a7 (Nat.beq es.length n) (Bn P Kt Vt es ks (fun k v=>K (put {s with st:=db s.st j (.iter i n (k::ks))} dst (.ba [.lit (.bool true), .lit k,v]))) (K (put s dst (.ba [.lit (.bool false)]))))
      |_=>
       (match ks with
       |[.map none]=>K (put s dst (.ba [.lit (.bool false)]))
       |_=>False))
    | .fit Kt Vt ks vs met=>Bn P Kt Vt (ks.zip vs) met (fun k v=>K (put {s with st:=db s.st j (.fit Kt Vt ks vs (k::met))} dst (.ba [.lit (.bool true), .lit k,v]))) (K (put s dst (.ba [.lit (.bool false)])))
    |_=>False)
   |_=>False)
 | .next it true=>
  (match ev s it with
   | .ptr j 0 _ 0=>
    (match ax s.st j with
    | .dw b p=>
     aD (Nat.blt p b.size) (K (put {s with st:=db s.st j (.dw b (p+(Utf8.decode b p).2))} dst (.ba [.lit (.bool true), .lit (.int .i64 p), .lit (.int .i32 (Utf8.decode b p).1)]))) (K (put s dst (.ba [.lit (.bool false)])))
    |_=>False)
   |_=>False)
 | .binOp .eql T x y _=>mA P s.st T y (ev s x) fun b=>K (put s dst (.lit (.bool b)))
 | .binOp .neq T x y _=>mA P s.st T y (ev s x) fun b=>K (put s dst (.lit (.bool (!b))))
 | .call {callee:= .builtin .clear,args,argTypes}=>
  (match mO s args.toList,argTypes.toList with
   | [.ar i lo n],[T]=>
    (match P.underlying T,ax s.st i with
    | some (.slice Te), .row Tr xs=>
     (match gD P Te with
      |some z=>if Tr=Te/\0<P.cellsOf Te then K (put {s with st:=db s.st i (.row Te (dH xs lo n z))} dst (.ba [])) else False
      |none=>False)
    |_,_=>False)
   |_,_=>False)
 | .entry it=>
  (match ev s it with
   | .ptr j 0 _ 0=>
    (match ax s.st j with
    | .iter i n (k::_)=>
     (match ax s.st i with
      | .map _ Vt es=>
       (match gD P Vt with
       |some z=>a7 (Nat.beq es.length n) (K (put s dst (.ba [.lit k,expand P b9 Vt (dh es k z)])))
       |none=>False)
      |_=>False)
    | .fit _ Vt ks vs (k::_)=>
     (match gD P Vt with
      |some z=>K (put s dst (.ba [.lit k,expand P b9 Vt (dh (ks.zip vs) k z)]))
      |none=>False)
    |_=>False)
   |_=>False)
 | .call {callee:= .builtin .append,args,argTypes}=>
  (match mO s args.toList,argTypes.toList with
   |[x,y],[T,T']=>if T=T' then oq P s T x y fun st a=>K (put {s with st} dst a) else False
   |_,_=>False)
 |_=>False
def wz:Nat->(Nat->Prop)->Prop
 |0,k=>k 0
 |n+1,k=>wz n fun m=>k (m+1)
def NB:List Nat->(List Nat->Prop)->Prop
 |[],k=>k []
 |n::l,k=>wz n fun n'=>NB l fun l'=>k (n'::l')
theorem zW: ∀(n:Nat) (k:Nat->Prop),wz n k=k n
 |0,_=>rfl
 |n+1,k=>by simp only[wz,zW n]
theorem FD: ∀(l:List Nat) (k:List Nat->Prop),NB l k=k l
 |[],_=>rfl
 |n::l,k=>by simp only[NB,zW,FD l]
mutual
def vq:AV->(AV->Prop)->Prop
 | .agg l,k=>zq l fun l'=>k (.agg l')
 | .ba l,k=>zq l fun l'=>k (.ba l')
 | .bI f l,k=>zq l fun l'=>k (.bI f l')
 | .iX T a,k=>vq a fun a'=>k (.iX T a')
 | .lit v,k=>k (.lit v)
 | .cy,k=>k .cy
 | .ad T l,k=>k (.ad T l)
 | .ar i lo n,k=>wz i fun i'=>k (.ar i' lo n)
 | .ptr i x p o,k=>wz i fun i'=>NB p fun p'=>wz o fun o'=>k (.ptr i' x p' o')
 | .jO T a,k=>k (.jO T a)
 | .mp i,k=>wz i fun i'=>k (.mp i')
 | .cu i,k=>wz i fun i'=>k (.cu i')
 | .kg i x,k=>wz i fun i'=>k (.kg i' x)
 | .js K V ks vs,k=>k (.js K V ks vs)
def zq:List AV->(List AV->Prop)->Prop
 |[],k=>k []
 |a::l,k=>vq a fun a'=>zq l fun l'=>k (a'::l')
end
def Pk:Obj->(Obj->Prop)->Prop
 | .dead,k=>k .dead
 | .box T a,k=>vq a fun a'=>k (.box T a')
 | .row T xs,k=>k (.row T xs)
 | .l4 T xs,k=>k (.l4 T xs)
 | .map K V es,k=>k (.map K V es)
 | .loop r,k=>zq r.bk fun l=>k (.loop {state:=r.state,pending:=r.pending,fn:=r.fn,bk:=l,params:=r.params,assign:=r.assign,body:=r.body})
 | .iter i n ks,k=>k (.iter i n ks)
 | .ext t,k=>k (.ext t)
 | .dw s p,k=>k (.dw s p)
 | .rows T E ls pd,k=>k (.rows T E ls pd)
 | .fit K V ks vs met,k=>k (.fit K V ks vs met)
def tI:List Obj->(List Obj->Prop)->Prop
 |[],k=>k []
 |o::l,k=>Pk o fun o'=>tI l fun l'=>k (o'::l')
def Bt(s:S)(k:S->Prop):Prop:=zq s.bk fun r=>tI s.st fun t=>k {bk:=r,st:=t}
mutual
theorem mj: ∀(a:AV) (k:AV->Prop),vq a k=k a
 | .agg l,k=>by simp only[vq,oE l]
 | .ba l,k=>by simp only[vq,oE l]
 | .bI f l,k=>by simp only[vq,oE l]
 | .iX T a,k=>by simp only[vq,mj a]
 | .lit _,_| .cy,_| .ad _ _,_| .ar _ _ _,_| .ptr _ _ _ _,_| .jO _ _,_| .mp _,_| .cu _,_| .kg _ _,_| .js _ _ _ _,_=>by simp only[vq,zW,FD]
theorem oE: ∀(l:List AV) (k:List AV->Prop),zq l k=k l
 |[],k=>by simp only[zq]
 |a::l,k=>by simp only[zq,mj a,oE l]
end
theorem Nc(o:Obj)(k:Obj->Prop):Pk o k=k o:=by
 cases o<;>simp only[Pk,mj,oE]
theorem kG: ∀(l:List Obj) (k:List Obj->Prop),tI l k=k l
 |[],k=>rfl
 |o::l,k=>by simp only[tI,Nc,kG l]
theorem kV(s:S)(k:S->Prop):Bt s k=k s:=by simp only[Bt,oE,kG]
abbrev Rec:=FuncId->Option Nat->Nat->Code->S->(Exit->S->Prop)->Prop
def bz:Nat->List AV
 |0=>[]
 |n+1=> .cy::bz n
def uC(P:Program)(s:S):List ResultVar->Option (List AV)
 |[]=>some []
 | .tmp t::l=>(match uC P s l with|some m=>some (nth s.bk t::m)|none=>none)
 | .cell a T::l=>
  (match mL P s.st T (nth s.bk a),uC P s l with
   |some (true,x),some m=>some (x::m)
   |_,_=>none)
def mC:List AV->AV
 |[a]=>a
 |l=> .ba l
def mI(E:Env)(rec:Rec)(f:FuncId)(args:List AV)(st:List Obj)(K:AV->List Obj->Prop):Prop:=
 match E.P.funcs[f]? with
 | some fn=>
  (match fn.body with
   | some c=>
    rec f none st.length c {bk:=args++bz (fn.ntmps - args.length),st} fun e s=>
     match e with
     | .normal| .ret=>(match uC E.P s fn.results.toList with|some l=>K (mC l) s.st|none=>False)
     |_=>False
   |none=>False)
 |none=>False
def pE(E:Env)(f:FuncId)(args:List AV)(st:List Obj)(K:AV->List Obj->Prop):Prop:=
 let ids:=reach st (st.length*st.length+st.length+20) (cO args) []
 let ρ:=fun i=>jA i ids 0
 let β:=iW ids st.length
 a7 (oQ 0 st (cO args) ids) (Bt {bk:=fM ρ args,st:=fZ ρ (gE st ids)} fun s=>E.call f s.bk s.st fun r sub=>vq (ly β r) fun r'=>tI (eY st ids β sub) fun st'=>K r' st')
def uL(st:List Obj):List AV->Option (List AV×List Nat)
 |[]=>some ([],[])
 | a::l=>
  match uL st l with
  |none=>none
  |some (m,is)=>
   match a with
   | .ar _ _ _=>(match cf st a with|some b=>some (b::m,rowsOf a++is)|none=>none)
   | .agg _=>(match cf st a with|some b=>some (b::m,rowsOf a++is)|none=>none)
   |_=>some (a::m,is)
def I6(P:Program)(Ts:List TypeId):AV->AV
 | .ba l=> .ba (o4 P Ts l)
 |a=>(match Ts with|[T]=>FX P T a|_=>a)
def jb:List Tmp->List AV->List AV->List AV
 |p::ps,a::as,bk=>jb ps as (b8 bk p a)
 |_,_,bk=>bk
def gG (rec:Rec)(l:Nat)(args:List AV)(st:List Obj)(K:AV->List Obj->Prop):Prop:=
 match ax st l with
 | .loop r=>
  if r.state= .ready/\r.params.size=args.length then
   rec r.fn (some l) st.length r.assign {bk:=jb r.params.toList args r.bk,st} fun e s1=>
    match e with
    | .normal=>
     (match ax s1.st l with
      | .loop r1=>
       if r1.state= .ready then
        rec r.fn (some l) st.length r.body {s1 with st:=db s1.st l (.loop {r1 with state:= .busy})} fun e2 s2=>
         match ax s2.st l with
         | .loop r2=>
          (match e2 with
          | .normal=>K (.lit (.bool true)) (db s2.st l (.loop {r2 with state:= .ready,pending:=none}))
          | .ret=>K (.lit (.bool false)) (db s2.st l (.loop {r2 with state:= .done,pending:=some .ret}))
          | .exit id=>K (.lit (.bool false)) (db s2.st l (.loop {r2 with state:= .done,pending:=some (.exit id)}))
          |_=>False)
         |_=>False
       else False
      |_=>False)
    |_=>False
  else False
 |_=>False
def JL:List Nat->Bool
 |[]=>true
 |_=>false
def zp(l:Nat)(todo:Option (List AV))(args:List AV)(st:List Obj)(K:AV->List Obj->Prop):Prop:=
 match todo,uL st args with
 |some xs,some (as,is)=>
  a7 (JL (cO as)) (∃rest,xs= .ba as::rest/\K (.lit (.bool true)) (db (cI st is) l (.ext (some rest)))/\K (.lit (.bool false)) (db (cI st is) l (.ext none)))
 |_,_=>False
def nF(E:Env)(rec:Rec)(g:AV)(args:List AV)(st:List Obj)(K:AV->List Obj->Prop):Prop:=
 match g with
 | .bI f caps=>
  if E.inl f then mI E rec f (args++caps) st K
  else if E.own f then pE E f (args++caps) st K
  else
   (match uL st (args++caps) with
    |some (as,is)=>pE E f (o4 E.P (ki E.P f) as) (cI st is) K
    |none=>False)
 | .cu l=>
  (match ax st l with
   | .ext t=>zp l t args st K
   |_=>gG rec l args st K)
 |_=>False
def ec(s:S)(t:Option Tmp)(b:Bool):S:=
 match t with
 |none=>s
 |some d=>{s with bk:=b8 s.bk d (.lit (.bool b))}
def lb:List Oper->Nat->Option Tmp
 |[],_=>none
 |o::_,0=>o.dst
 |_::l,n+1=>lb l n
def ql:Operand->Option Tmp
 | .tmp t=>some t
 |_=>none
def gh(s:S):Op->Option (AV×List AV)
 | .call {callee:= .value g,args, .. }=>some (ev s g,mO s args.toList)
 |_=>none
def LW(E:Env)(rec:Rec)(s:S)(dst:Option Tmp)(o:Op)(K:S->Prop):Prop:=
 match bG E s o with
 |some (c,a)=>a7 c (K (put s dst a))
 | none=>
  match o with
  | .pick c a b=>
   (match ev s c with
    | .lit (.bool t)=>aD t (K (put (ec s (ql c) true) dst (ev s a))) (K (put (ec s (ql c) false) dst (ev s b)))
    |_=>False)
  |o=>
   match gh s o with
   |some (g,args)=>nF E rec g args s.st fun a st=>K (put {s with st} dst a)
   |none=>ck E.P s dst o K
def qi(E:Env)(rec:Rec)(ops:List Oper):List Oper->S->(S->Prop)->Prop
 |[],s,K=>K s
 | o :: l, s, K=>
  match o.guard with
  |none=>LW E rec s o.dst o.op fun s'=>qi E rec ops l s' K
  | some (j, want)=>
   match lb ops j with
   |none=>False
   | some t=>
    match nth s.bk t with
    | .lit (.bool b)=>
     match want with
     |true=>aD b (LW E rec (ec s (some t) true) o.dst o.op fun s'=>qi E rec ops l s' K)
             (qi E rec ops l (put (ec s (some t) false) o.dst (.ba [])) K)
     |false=>aD b (qi E rec ops l (put (ec s (some t) true) o.dst (.ba [])) K)
              (LW E rec (ec s (some t) false) o.dst o.op fun s'=>qi E rec ops l s' K)
    | .ba []=>qi E rec ops l (put s o.dst (.ba [])) K
    |_=>False
def pK:Option Operand->List Operand
 |none=>[]
 |some x=>[x]
def opsOf:Op->List Operand
 | .move x| .assign x| .load _ x| .nilCheck x| .unOp _ _ x| .fieldAddr _ x _| .field _ x _| .extract x _| .box _ x| .makeInterface _ x| .convert _ _ x=>[x]
 | .pick c a b=>[c,a,b]
 | .binOp _ _ x y _| .indexAddr _ x y| .index _ x y| .lookup _ x y _| .store _ x y| .makeSlice _ x y| .mapEntry _ x y=>[x,y]
 | .slice _ x lo hi m=>x::(pK lo++pK hi++pK m)
 | .makeFunc _ _ caps=>caps.toList
 | .build _ ps| .buildSlice _ _ ps=>ps.toList.map (·.2)
 | .mapUpdate _ x y z| .entryStore _ x y z=>[x,y,z]
 | .range _ x| .next x _| .entry x=>[x]
 | .call {callee:= .value g,args, .. }=>g::args.toList
 | .call {args, .. }=>args.toList
 |_=>[]
def G4:List Operand->Bool
 |[]=>true
 | .const _::l=>G4 l
 |_=>false
def ea(quiet:FuncId->Bool):Op->Nat
 | .move _| .assign _| .binOp .. | .unOp .. | .extract .. | .makeFunc .. | .pick .. | .makeInterface .. | .convert .. | .field .. | .build .. | .index .. =>0
 | .load .. | .nilCheck _| .slice .. | .fieldAddr .. | .indexAddr .. | .lookup .. =>1
 | .call {callee:= .builtin .len, .. }=>1
 | .call {callee:= .builtin .min, .. }=>1
 | .call {callee:= .builtin .max, .. }=>1
 | .call {callee:= .value (.func f),args, .. }=>bif quiet f then(bif G4 args.toList then 0 else 1) else 2
 |_=>2
def qn:List Obj->List Obj->Prop
 |[],_=>True
 |_::_,[]=>False
 | .box T a::l,o::l'=>o= .box T a/\qn l l'
 | .rows T E ls pd::l,o::l'=>o= .rows T E ls pd/\qn l l'
 |_::l,_::l'=>qn l l'
def V4(b:Bool)(st st':List Obj)(p:Prop):Prop:=
 match b with
 |true=>qn st st'/\p
 |false=>p
def Hf(E:Env)(g:AV)(args:List AV)(st:List Obj):Bool:=
 match g with
 | .bI f caps=>!E.inl f&& !E.own f&&(match uL st (args++caps) with
  |some (as,[])=>JL (cO (o4 E.P (ki E.P f) as))
  |_=>false)
 |_=>false
def ua(calm:FuncId->Bool):Op->Bool
 | .call {callee:= .value (.func f), .. }=>calm f
 |_=>false
def sO(E:Env)(rec:Rec)(s:S)(dst:Option Tmp)(o:Op)(K:S->Prop):Prop:=
 match ea E.quiet o with
 | 2=>
  (match gh s o with
   |some (g,args)=>nF E rec g args s.st fun a st=>V4 (ua E.calm o&& !Hf E g args s.st) s.st st (K (put {s with st} dst a))
   |none=>ck E.P s dst o K)
 | _ =>
  (match bG E s o with
   |some (c,a)=>a7 c (K (put s dst a))
   | none=>
    (match o with
    | .pick c a b=>
     (match ev s c with
      | .lit (.bool t)=>aD t (K (put (ec s (ql c) true) dst (ev s a))) (K (put (ec s (ql c) false) dst (ev s b)))
      |_=>False)
    |_=>False))
def dg(E:Env)(rec:Rec)(ops:List Oper)(o:Oper)(s:S)(K:S->Prop):Prop:=
 match o.guard with
 |none=>sO E rec s o.dst o.op K
 | some (j,want)=>
  match lb ops j with
  |none=>False
  | some t=>
   match nth s.bk t with
   | .lit (.bool b)=>
    match want with
    |true=>aD b (sO E rec (ec s (some t) true) o.dst o.op K) (K (put (ec s (some t) false) o.dst (.ba [])))
    |false=>aD b (K (put (ec s (some t) true) o.dst (.ba []))) (sO E rec (ec s (some t) false) o.dst o.op K)
   | .ba []=>K (put s o.dst (.ba []))
   |_=>False
def iY:Nat->List Bool
 |0=>[]
 |n+1=>false::iY n
def eQ:List Bool->Nat->Bool
 |[],_=>true
 |b::_,0=>b
 |_::l,n+1=>eQ l n
def eS:List Bool->Nat->List Bool
 |[],_=>[]
 |_::l,0=>true::l
 |b::l,n+1=>b::eS l n
def ll(listed:List Bool):List Edge->Bool
 |[]=>true
 |e::l=>(!Region.binds .any e||(Nat.blt e.on listed.length&&eQ listed e.on))&&ll listed l
def jF(listed:List Bool):List Oper->Nat->List (Nat×Oper)
 |[],_=>[]
 |o::l,i=>bif !eQ listed i&&ll listed o.after.toList then(i,o)::jF listed l (i+1) else jF listed l (i+1)
def xX(t:Nat):List Operand->Bool
 |[]=>false
 | .tmp u::l=>Nat.beq t u||xX t l
 |_::l=>xX t l
def zj(ops:List Oper)(o:Oper)(t:Nat):Bool:=
 xX t (opsOf o.op)||(match o.guard with|none=>false|some (j,_)=>(match lb ops j with|none=>false|some u=>Nat.beq t u))
def zZ(ops:List Oper)(o:Oper):Option Tmp->Bool
 |none=>false
 |some t=>zj ops o t
def vd:Option Tmp->Option Tmp->Bool
 |some t,some u=>!Nat.beq t u
 |_,_=>true
def rK(ops:List Oper)(a b:Oper):Bool:=
 !zZ ops b a.dst&& !zZ ops a b.dst&&vd a.dst b.dst
def Bu:Op->Bool
 | .alloc _| .box _ _| .makeSlice .. | .makeMap _ none=>true
 |_=>false
def tk(quiet:FuncId->Bool)(ops:List Oper)(a b:Oper):Bool:=
 rK ops a b&&(match ea quiet a.op with|0=>true|1=>Nat.blt (ea quiet b.op) 2||Bu b.op|_=>false)
def wU(acc:List Nat):List Edge->Bool
 |[]=>false
 |e::l=>(Region.binds .any e&&jM e.on acc)||wU acc l
def fwd:List Oper->Nat->List Nat->List Nat
 |[],_,acc=>acc
 |o::l,j,acc=>bif wU acc o.after.toList then fwd l (j+1) (j::acc) else fwd l (j+1) acc
def iV(quiet:FuncId->Bool)(ops:List Oper)(listed:List Bool)(i:Nat)(o:Oper)(fs:List Nat):List Oper->Nat->Bool
 |[],_=>true
 |b::l,j=>(Nat.beq i j||eQ listed j||jM j fs||tk quiet ops o b)&&iV quiet ops listed i o fs l (j+1)
def nd(quiet:FuncId->Bool)(ops:List Oper)(listed:List Bool):List (Nat×Oper)->Option (Nat×Oper)
 |[]=>none
 |(i,o)::l=>bif iV quiet ops listed i o (fwd ops 0 [i]) ops 0 then some (i,o) else nd quiet ops listed l
def jz:Obj->Bool
 | .box _ _=>true
 |_=>false
def yk:Obj->Bool
 | .rows _ _ _ _=>true
 |_=>false
def nb(s:S)(o:Oper):Bool:=
 match o.guard,o.op with
 |none, .load _ x=>(match ev s x with| .ptr k _ _ _=>jz (ax s.st k)| .jO _ _=>true| .lit _=>true|_=>false)
 |none, .call {callee:= .builtin .len,args, .. }=>(match mO s args.toList with|[.ad _ _]=>true|_=>false)
 |none, .nilCheck x=>(match ev s x with| .ptr k _ _ _=>jz (ax s.st k)|_=>false)
 |none, .fieldAddr _ x _=>(match ev s x with| .ptr k _ _ _=>jz (ax s.st k)|_=>false)
 |none, .indexAddr _ x _=>(match ev s x with| .ar k 0 _=>yk (ax s.st k)|_=>false)
 |_,_=>false
def wX:Op->Bool
 | .alloc _| .box _ _| .makeMap _ none=>true
 | .buildSlice .. =>true
 | .makeSlice .. =>true
 | .call {callee:= .builtin .append, .. }=>true
 |_=>false
def v9(quiet calm:FuncId->Bool)(ops:List Oper)(a b:Oper):Bool:=
 rK ops a b&&(Nat.blt (ea quiet b.op) 2||wX b.op||ua calm b.op)
def xL(quiet calm:FuncId->Bool)(ops:List Oper)(listed:List Bool)(i:Nat)(o:Oper)(fs:List Nat):List Oper->Nat->Bool
 |[],_=>true
 |b::l,j=>(Nat.beq i j||eQ listed j||jM j fs||v9 quiet calm ops o b)&&xL quiet calm ops listed i o fs l (j+1)
def Ag(quiet calm:FuncId->Bool)(ops:List Oper)(listed:List Bool)(s:S):List (Nat×Oper)->Option (Nat×Oper)
 |[]=>none
 |(i,o)::l=>bif nb s o&&xL quiet calm ops listed i o (fwd ops 0 [i]) ops 0 then some (i,o) else Ag quiet calm ops listed s l
def ni(P:Program)(s:S)(o:Oper):Option (Option TypeId):=
 match o.guard,o.op with
 | none, .load T x=>
  (match ev s x with
   | .ptr k _ path _=>(match ax s.st k with| .box Tb _=>bif vH P Tb path T&& !fj P T then some (some T) else none|_=>none)
   |_=>none)
 |none, .nilCheck x=>(match ev s x with| .ptr k _ _ _=>bif jz (ax s.st k) then some none else none|_=>none)
 |none, .fieldAddr _ x _=>(match ev s x with| .ptr k _ _ _=>bif jz (ax s.st k) then some none else none|_=>none)
 |_,_=>none
def zG(P:Program):Option TypeId->Op->Bool
 |none, .store _ _ _=>true
 |some T, .store U _ _=>!Nat.beq U T&& !fj P U
 |_,_=>false
def tB(P:Program)(quiet calm:FuncId->Bool)(T:Option TypeId)(ops:List Oper)(a b:Oper):Bool:=
 rK ops a b&&(Nat.blt (ea quiet b.op) 2||wX b.op||ua calm b.op||zG P T b.op)
def vW(P:Program)(quiet calm:FuncId->Bool)(T:Option TypeId)(ops:List Oper)(listed:List Bool)(i:Nat)(o:Oper)(fs:List Nat):List Oper->Nat->Bool
 |[],_=>true
 |b::l,j=>(Nat.beq i j||eQ listed j||jM j fs||tB P quiet calm T ops o b)&&vW P quiet calm T ops listed i o fs l (j+1)
def sm(P:Program)(quiet calm:FuncId->Bool)(ops:List Oper)(listed:List Bool)(s:S):List (Nat×Oper)->Option (Nat×Oper)
 |[]=>none
 |(i,o)::l=>match ni P s o with
  |some T=>bif vW P quiet calm T ops listed i o (fwd ops 0 [i]) ops 0 then some (i,o) else sm P quiet calm ops listed s l
  |none=>sm P quiet calm ops listed s l
def GQ(p:Nat->Oper->Prop):List (Nat×Oper)->Prop
 |[]=>True
 |[(i,o)]=>p i o
 |(i,o)::l=>p i o/\GQ p l
def pP(E:Env)(rec:Rec)(ops:List Oper):Nat->List Bool->S->(S->Prop)->Prop
 |0,listed,s,K=>match jF listed ops 0 with|[]=>K s|_=>False
 | n +1,listed,s,K=>
  match jF listed ops 0 with
  |[]=>K s
  | r=>
   match nd E.quiet ops listed r with
   |some (i,o)=>dg E rec ops o s fun s'=>pP E rec ops n (eS listed i) s' K
   | none=>
    match Ag E.quiet E.calm ops listed s r with
    |some (i,o)=>dg E rec ops o s fun s'=>pP E rec ops n (eS listed i) s' K
    |none=>
     match bif E.calm 888888 then sm E.P.toProgram E.quiet E.calm ops listed s r else none with
     |some (i,o)=>dg E rec ops o s fun s'=>pP E rec ops n (eS listed i) s' K
     |none=>GQ (fun i o=>dg E rec ops o s fun s'=>pP E rec ops n (eS listed i) s' K) r
def V9(p:S->(Exit->S->Prop)->Prop)(K:Exit->S->Prop):Exit->S->Prop
 | .normal,s=>p s K
 |e,s=>K e s
def zd(id:Nat)(K:Exit->S->Prop):Exit->S->Prop
 | .exit i,s=>bif Nat.beq i id then K .normal s else K (.exit i) s
 |e,s=>K e s
def PD(K:Exit->S->Prop):Exit->S->Prop
 | .goto _,_=>False
 |e,s=>K e s
def lu:Code->Option Nat
 | .region id _ _=>some id
 | .seq a b=>(match lu a with|some n=>some n|none=>lu b)
 | .block _ c| .scope c| .loop c=>lu c
 | .cond _ a b=>(match lu a with|some n=>some n|none=>lu b)
 | .rangeFunc _ _ a _=>lu a
 |_=>none
def pn(l:Nat)(s:S)(K:Exit->S->Prop)(st:List Obj):Prop:=
 match ax st l with
 | .loop r=>
  (match r.state,r.pending with
   | .busy,_=>False
   |_,none=>K .normal {s with st:=db st l .dead}
   |_,some .ret=>K .ret {s with st:=db st l .dead}
   |_,some (.exit id)=>K (.exit id) {s with st:=db st l .dead}
   |_,_=>False)
 |_=>False
def CA(rd:Option Nat)(st:List Obj):Bool:=
 match rd with
 |none=>true
 |some l=>match ax st l with| .loop _=>true|_=>false
def jQ(E:Env)(rec:Rec)(f:FuncId)(rd:Option Nat)(base:Nat):Code->S->(Exit->S->Prop)->Prop
 | .skip,s,K=>K .normal s
 | .label _,s,K=>K .normal s
 | .region _ ops false,s,K=>qi E rec ops.toList ops.toList s (K .normal)
 | .region _ ops true,s,K=>pP E rec ops.toList ops.toList.length (iY ops.toList.length) s (K .normal)
 | .seq a b,s,K=>jQ E rec f rd base a s (V9 (jQ E rec f rd base b) K)
 | .cond c x y,s,K=>
  match ev s c with
  | .lit (.bool t)=>aD t (jQ E rec f rd base x (ec s (ql c) true) K) (jQ E rec f rd base y (ec s (ql c) false) K)
  |_=>False
 | .block id c,s,K=>jQ E rec f rd base c s (zd id K)
 | .loop c,s,K=>
  match lu c with
  |some n=>a7 (jn E.P (E.live f n) base s) (Bt (canon E.P (E.live f n) base s) fun s'=>E.loop f n c rd base s' K)
  |none=>False
 | .rangeFunc g ps asg body,s,K=>
  match ev s g with
  | .bI f' caps=>
   a7 (CA rd s.st) (match E.gen f' with
    |true=>E.lF f (match lu asg with|some n=>n|none=>0) f' caps
     (s.st++[.loop {state:= .ready,pending:=none,fn:=f,bk:=s.bk,params:=ps,assign:=asg,body:=body}]) (pn s.st.length s K)
    |false=>mI E rec f' (.cu s.st.length::caps)
     (s.st++[.loop {state:= .ready,pending:=none,fn:=f,bk:=s.bk,params:=ps,assign:=asg,body:=body}])
     fun _ st=>pn s.st.length s K st)
  |_=>False
 | .exit id,s,K=>K (.exit id) s
 | .goto _,_,_=>False
 | .scope c,s,K=>jQ E rec f rd base c s (PD K)
 | .ret,s,K=>K .ret s
 | .refuse _,_,_=>False
def vc(E:Env):Nat->Rec
 |0=>fun _ _ _ _ _ _=>False
 |n+1=>fun f rd base c s K=>jQ E (vc E n) f rd base c s K
end Go.Dn
