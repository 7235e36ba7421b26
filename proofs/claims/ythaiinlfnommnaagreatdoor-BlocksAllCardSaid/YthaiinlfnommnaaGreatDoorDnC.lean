import Derived.Test.YthaiinlfnommnaaGreatDoorDnB
namespace Go.Dn
open Go
mutual
def refs:AV->List Nat
 | .ar i _ _=>[i]
 | .ptr i _ _ _=>[i]
 | .mp i=>[i]
 | .cK i=>[i]
 | .kx i _=>[i]
 | .agg l=>de l
 | .bp l=>de l
 | .bQ _ l=>de l
 | .jq _ a=>refs a
 |_=>[]
def de:List AV->List Nat
 |[]=>[]
 |a::l=>refs a++de l
end
def yg:Obj->List Nat
 | .box _ a=>refs a
 | .loop r=>de r.bt
 | .iter i _ _=>[i]
 |_=>[]
def jH(i:Nat):List Nat->Bool
 |[]=>false
 |j::l=>Nat.beq i j||jH i l
def reach(st:List Obj):Nat->List Nat->List Nat->List Nat
 |0,_,acc=>acc
 |_+1,[],acc=>acc
 |n+1,i::todo,acc=>
  bif jH i acc then reach st n todo acc else reach st n (yg (az st i)++todo) (acc++[i])
def jU(i:Nat):List Nat->Nat->Option Nat
 |[],_=>none
 |j::l,n=>bif Nat.beq i j then some n else jU i l (n+1)
mutual
def lP(ρ:Nat->Option Nat):AV->AV
 | .ar i lo n=>(match ρ i with|some j=> .ar j lo n|none=> .cP)
 | .ptr i k p o=>(match ρ i with|some j=> .ptr j k p o|none=> .cP)
 | .mp i=>(match ρ i with|some j=> .mp j|none=> .cP)
 | .cK i=>(match ρ i with|some j=> .cK j|none=> .cP)
 | .kx i k=>(match ρ i with|some j=> .kx j k|none=> .cP)
 | .agg l=> .agg (fW ρ l)
 | .bp l=> .bp (fW ρ l)
 | .bQ f l=> .bQ f (fW ρ l)
 | .jq T a=> .jq T (lP ρ a)
 |a=>a
def fW(ρ:Nat->Option Nat):List AV->List AV
 |[]=>[]
 |a::l=>lP ρ a::fW ρ l
end
def fj(ρ:Nat->Option Nat):Obj->Obj
 | .box T a=> .box T (lP ρ a)
 | .loop r=> .loop {r with bt:=fW ρ r.bt}
 | .iter i n ks=> .iter (match ρ i with|some j=>j|none=>i) n ks
 |o=>o
def gU(st:List Obj):List Nat->List Obj
 |[]=>[]
 |i::l=>az st i::gU st l
def gH(ρ:Nat->Option Nat):List Obj->List Obj
 |[]=>[]
 |o::l=>fj ρ o::gH ρ l
def upto:Nat->List Nat
 |0=>[]
 |n+1=>upto n++[n]
def jr(ids:List Nat)(n:Nat)(j:Nat):Option Nat:=
 match idN ids j with
 |some i=>some i
 |none=>some (n+(j - ids.length))
where
 idN:List Nat->Nat->Option Nat
  |[],_=>none
  |i::_,0=>some i
  |_::l,k+1=>idN l k
def fh(st:List Obj)(ids:List Nat)(ρ:Nat->Option Nat):List Obj->List Obj
 |sub=>go st ids sub
where
 go:List Obj->List Nat->List Obj->List Obj
  |st,i::ids,o::sub=>go (dj st i (fj ρ o)) ids sub
  |st,[],sub=>st++gH ρ sub
  |st,_::_,[]=>st
def fS(live:List (Nat×Option TypeId)):List AV->Nat->List AV
 |[],_=>[]
 |a::l,n=>(bif memL n live then a else .cP)::fS live l (n+1)
where
 memL (n:Nat):List (Nat×Option TypeId)->Bool
  |[]=>false
  |(j,_)::l=>Nat.beq n j||memL n l
def OV:Nat:=1000000000
def ki:List (Nat×Option TypeId)->S->S
 |[],s=>s
 |(_,none)::l,s=>ki l s
 | (r,some T)::l,s=>
  match nth s.bt r with
  | .lit (.slice none 0 0)=>
   (match Nat.ble OV T with
    |true=>ki l {bt:=cm s.bt r (.ad (T - OV) []),st:=s.st}
    |false=>ki l {bt:=cm s.bt r (.ar s.st.length 0 0),st:=s.st++[.row T []]})
  |_=>ki l s
def DJ(P:Program)(i:Nat)(s:S):S:=
 match az s.st i with
 | .box Tb (.lit (.slice none 0 0))=>
  match P.underlying Tb with
  |some (.slice Te)=>{s with st:=dj s.st i (.box Tb (.ar s.st.length 0 0))++[.row Te []]}
  |_=>s
 |_=>s
def nZ(P:Program):List Nat->S->S
 |[],s=>s
 |i::l,s=>nZ P l (DJ P i s)
def QS(i j:Nat)(T:TypeId)(st:List Obj):List Obj:=
 match az st i with
 | .box Tb (.agg fs)=>
  match nth fs j with
  | .lit (.slice none 0 0)=>dj st i (.box Tb (.agg (cm fs j (.ar st.length 0 0))))++[.row T []]
  |_=>st
 |_=>st
def pC:List (Nat×Nat×TypeId)->List Obj->List Obj
 |[],st=>st
 |(i,j,T)::l,st=>pC l (QS i j T st)
def zy:List (Nat×Option TypeId)->List (Nat×Nat×TypeId)
 |[]=>[]
 |(r,t)::l=>match Nat.ble 1000 r,t with
  |true,some T=>((r - 1000) / 64,(r - 1000) % 64,T)::zy l
  |_,_=>zy l
def vu(st:List Obj):List Nat->List Nat
 |[]=>[]
 |i::l=>yg (az st i)++vu st l
def ib(base:Nat)(st:List Obj)(roots:List Nat):List Nat:=
 reach st (st.length*st.length+st.length+20) (vu st (upto base)++roots) (upto base)
def Cp(ids:List Nat):List Nat->Bool
 |[]=>true
 |i::l=>jH i ids&&Cp ids l
def FV(n:Nat):List Nat->Bool
 |[]=>true
 |i::l=>decide (i<n)&&FV n l
def z8:List Nat->Bool
 |[]=>true
 |i::l=>!jH i l&&z8 l
def tR(ids:List Nat):List Nat->Bool
 |[]=>true
 |i::l=>(match jU i ids 0 with|some j=>Nat.beq i j|none=>false)&&tR ids l
def pt(base:Nat)(st:List Obj)(roots ids:List Nat):Bool:=
 z8 ids&&FV st.length ids&&tR ids (upto base)&&Cp ids roots&&Cp ids (vu st ids)
def zP(l:List (Nat×Nat×TypeId))(s:S):S:=
 match l with
 |[]=>s
 |_=>{s with st:=pC l s.st}
def ij(P:Program)(live:List (Nat×Option TypeId))(s:S):S:=
 let s1:=ki live {s with bt:=fS live s.bt 0}
 zP (zy live) (nZ P (upto s1.st.length) s1)
def jF(P:Program)(live:List (Nat×Option TypeId))(base:Nat)(s:S):Bool:=
 pt base (ij P live s).st (de (ij P live s).bt) (ib base (ij P live s).st (de (ij P live s).bt))
def tX(ids:List Nat)(s:S):S:=
 {bt:=fW (fun i=>jU i ids 0) s.bt,st:=gH (fun i=>jU i ids 0) (gU s.st ids)}
def canon(P:Program)(live:List (Nat×Option TypeId))(base:Nat)(s:S):S:=
 tX (ib base (ij P live s).st (de (ij P live s).bt)) (ij P live s)
def Gq(P:Program)(T:TypeId):List AV->Bool
 |[]=>true
 |a::l=>A6 P a T&&Gq P T l
def tu:Nat:=70368744177664
def oh(Ty:Option TypeId)(Te:TypeId):Bool:=
 match Ty with
 |none=>true
 |some U=>U==Te
def ru(P:Program)(E:TypeId):Bool:=
 match P.underlying E with
 |some (.int _)|some .bool|some .string=>P.cellsOf E==1
 |_=>false
def iH:List AV->Option (List Value)
 |[]=>some []
 | .lit v::l=>(match iH l with|some m=>some (v::m)|none=>none)
 |_=>none
def oI (P:Program)(s:S)(T:TypeId)(x y:AV)(K:List Obj->AV->Prop):Prop:=
 match P.underlying T with
 | some (.slice Te)=>
  match oT s.st y,gT P Te with
  | some (Ty,ys),some _=>
   match oh Ty Te&&decide (0<P.cellsOf Te) with
   |false=>False
   | true=>
    match x with
    | .lit (.slice none 0 0)=>
     ba (decide ((ys.length+1)*(P.bytesOf Te+1)<=tu)) (K (s.st++[.row Te ys]) (.ar s.st.length 0 ys.length))
    | .ar i lo n=>
     match az s.st i with
     | .row Tr xs=>
      if Tr=Te/\lo=0 then
       ba (decide ((n+ys.length+1)*(P.bytesOf Te+1)<=tu))
        (K (dj s.st i .dead++[.row Te ((xs.take n)++ys)]) (.ar s.st.length 0 (n+ys.length)))
      else False
     | .rows Tr E ls none=>
      match lo,iH ys with
      | k+1,some vs=>
       if E=Te/\Gq P Te ys=true then
        ba (decide (n=(cd ls k).length)&&decide ((n+ys.length+1)*(P.bytesOf Te+1)<=tu))
         (K (dj s.st i (.rows Tr E (jI ls k (cd ls k++vs)) (some k))) (.ar i (Nat.succ k) (n+ys.length)))
       else False
      |_,_=>False
     |_=>False
    |_=>False
  |_,_=>False
 |_=>False
def jz(P:Program):TypeId->List Nat->Option TypeId
 |T,[]=>some T
 |T,j::p=>match mC (fieldsOf P T) j with
  |some fd=>jz P fd.type p
  |none=>none
def uZ(P:Program)(Tb:TypeId)(path:List Nat)(T:TypeId):Bool:=
 match jz P Tb path with
 |some U=>Nat.beq U T
 |none=>false
def qg(P:Program)(s:S)(T:TypeId)(p x:AV)(K:List Obj->Prop):Prop:=
 match p with
 | .ptr i k path off=>
  match az s.st i with
  | .box Tb a=>
   if nr a path&&gW a path==off&&wid x==P.cellsOf T&&wid (nb a path)==P.cellsOf T&&pW x&&(P.underlying T).isSome&&uZ P Tb path T then K (dj s.st i (.box Tb (fN a path x))) else False
  | .row _ _=>
   match cr s.st x,az (cX s.st (rowsOf x)) i with
   | some x', .row Tr xs=>
    if nr (expand P cn Tr (nth xs k)) path&&gW (expand P cn Tr (nth xs k)) path==off&&wid x'==P.cellsOf T&&wid (nb (expand P cn Tr (nth xs k)) path)==P.cellsOf T&&
      A6 P (fN (expand P cn Tr (nth xs k)) path x') Tr&&pW x'&&(P.underlying T).isSome then
     K (dj (cX s.st (rowsOf x)) i (.row Tr (cm xs k (fN (expand P cn Tr (nth xs k)) path x'))))
    else False
   |_,_=>False
  | .rows Tr E ls (some kp)=>
   (match path,off,x with
    |[],0, .ar j (k'+1) m=>if j=i/\T=Tr then ba (decide (k=kp)&&decide (k'=kp)&&decide (m=(cd ls k).length)) (K (dj s.st i (.rows Tr E ls none))) else False
    |_,_,_=>False)
  |_=>False
 |_=>False
def fO(a:AV)(n:Nat):List AV:=List.replicate n a
def F7(P:Program)(Te:TypeId)(z:AV)(n:Nat):Obj:=
 match P.underlying Te,z with
 |some (.slice E), .lit (.slice none 0 0)=>if ru P E=true/\P.cellsOf Te=1 then .rows Te E (List.replicate n []) none else .row Te (fO z n)
 |_,_=> .row Te (fO z n)
def k9(P:Program)(T:TypeId)(st:List Obj):List AV->List (Nat×AV)->Option (List AV×List Nat)
 |l,[]=>some (l,[])
 | l,(i,x)::ps=>
  match cr st x with
  | some x'=>
   if A6 P x' T&&decide (i<l.length) then
    match k9 P T st (cm l i x') ps with
    |some (m,is)=>some (m,rowsOf x++is)
    |none=>none
   else none
  |none=>none
def jY:List Value->Value->Bool
 |[],_=>false
 |k'::l,k=>dn k' k||jY l k
def kl(ks:List Value):List (Value×AV)->Bool
 |[]=>true
 |(k,_)::es=>jY ks k&&kl ks es
def CP(P:Program)(Kt Vt:TypeId)(es:List (Value×AV))(ks:List Value)(p:Value->AV->Prop)(q:Prop):Prop:=
 (match P.underlying Kt with
  |some (.int κ)=>∀n v,(Value.int κ n,v)∈es->jY ks (.int κ n)=false->p (.int κ n) (expand P cn Vt v)
  |some .string=>∀t v,(Value.string t,v)∈es->jY ks (.string t)=false->p (.string t) (expand P cn Vt v)
  |_=>False)/\(kl ks es=true->q)
def RW:List AV->Bool
 |[]=>true
 |_::_=>false
def dR:List AV->Nat->Nat->AV->List AV
 |[],_,_,_=>[]
 |a::l,0,0,_=>a::l
 |_::l,0,n+1,z=>z::dR l 0 n z
 |a::l,lo+1,n,z=>a::dR l lo n z
def mS(P:Program)(st:List Obj)(T:TypeId)(y:Operand)(a:AV)(K:Bool->Prop):Prop:=
 match y,P.underlying T with
 | .const (.slice none 0 0),some (.slice _)=>
  (match a with
   | .lit (.slice none 0 0)=>K true
   | .ad _ l=>(RW l=true->K true)/\K false
   | .ar i _ n=>(match O0 (az st i) with|true=>(Nat.beq n 0=true->K true)/\K false|false=>False)
   |_=>False)
 |_,_=>False
def cu (P:Program)(s:S)(dst:Option Tmp)(o:Op)(K:S->Prop):Prop:=
 match o with
 | .alloc T=>
  (match gT P T with
   |some z=>K (put {s with st:=s.st++[.box T z]} dst (.ptr s.st.length 0 [] 0))
   |none=>False)
 | .box T x=>if pW (ev s x) then K (put {s with st:=s.st++[.box T (ev s x)]} dst (.ptr s.st.length 0 [] 0)) else False
 | .store T p x=>qg P s T (ev s p) (ev s x) fun st=>K (put {s with st} dst .cP)
 | .buildSlice T len parts=>
  (match P.underlying T with
   | some (.slice Te)=>
    (match gT P Te with
    | some z=>
     (match k9 P Te s.st (fO z len) (fx s parts.toList) with
      | some (l,is)=>
       if decide (len*P.cellsOf Te<=16777216)&&decide (0<P.cellsOf Te) then
        K (put {s with st:=cX s.st is++[.row Te l]} dst (.ar s.st.length 0 len))
       else False
      |none=>False)
    |none=>False)
   |_=>False)
 | .makeSlice T ln cp=>
  (match P.underlying T,Qm (ev s ln),Qm (ev s cp) with
   | some (.slice Te),some (.i64,n),some (.i64,c)=>
    (match gT P Te with
    | some z=>
     ba (decide (0<=n)&&decide (n<=c)&&decide ((c.toNat+1)*(P.bytesOf Te+1)<=tu)&&decide (0<P.cellsOf Te))
      (K (put {s with st:=s.st++[F7 P Te z n.toNat]} dst (.ar s.st.length 0 n.toNat)))
    |none=>False)
   |_,_,_=>False)
 | .makeMap T none=>
  (match P.underlying T with
   |some (.map Kt Vt)=>K (put {s with st:=s.st++[.map Kt Vt []]} dst (.mp s.st.length))
   |_=>False)
 | .mapUpdate T m k x=>
  (match P.underlying T,ev s m,ev s k,cr s.st (ev s x) with
   | some (.map Kt Vt), .mp i, .lit kv,some v=>
    (match az (cX s.st (rowsOf (ev s x))) i with
    | .map K' V' es=>
     if K'=Kt/\V'=Vt/\plainKey P Kt kv=true/\A6 P v Vt=true then
      K (put {s with st:=dj (cX s.st (rowsOf (ev s x))) i (.map Kt Vt (ff es kv v))} dst .cP)
     else False
    |_=>False)
   |_,_,_,_=>False)
 | .mapEntry T m k=>
  (match P.underlying T,ev s m,ev s k with
   | some (.map Kt Vt), .mp i, .lit kv=>
    (match az s.st i,gT P Vt with
    | .map K' V' es,some z=>
     if K'=Kt/\V'=Vt/\plainKey P Kt kv=true then
      let v:=expand P cn Vt (dt es kv z)
      K (put {s with st:=dj s.st i (.map Kt Vt (ff es kv v))} dst (.bp [v, .kx i kv]))
     else False
    |_,_=>False)
   |_,_,_=>False)
 | .entryStore T m kx x=>
  (match P.underlying T,ev s m,ev s kx,cr s.st (ev s x) with
   | some (.map Kt Vt), .mp i, .kx j kv,some v=>
    (match az (cX s.st (rowsOf (ev s x))) i with
    | .map K' V' es=>
     if i=j/\K'=Kt/\V'=Vt/\plainKey P Kt kv=true/\A6 P v Vt=true then
      K (put {s with st:=dj (cX s.st (rowsOf (ev s x))) i (.map Kt Vt (ff es kv v))} dst .cP)
     else False
    |_=>False)
   |_,_,_,_=>False)
 | .range T x=>
  (match P.underlying T,ev s x with
   |some (.map _ _), .mp i=>
    (match az s.st i with
    | .map _ _ es=>K (put {s with st:=s.st++[.iter i es.length []]} dst (.ptr s.st.length 0 [] 0))
    |_=>False)
   |some (.map _ _), .jJ Kt Vt ks vs=>K (put {s with st:=s.st++[.fit Kt Vt ks vs []]} dst (.ptr s.st.length 0 [] 0))
   |some (.map _ _), .lit (.map none)=>K (put {s with st:=s.st++[.iter s.st.length 0 [.map none]]} dst (.ptr s.st.length 0 [] 0))
   |some .string, .lit (.string b)=>K (put {s with st:=s.st++[.dC b 0]} dst (.ptr s.st.length 0 [] 0))
   |_,_=>False)
 | .next it false=>
  (match ev s it with
   | .ptr j 0 _ 0=>
    (match az s.st j with
    | .iter i n ks=>
     (match az s.st i with
      | .map Kt Vt es=>
       ba (Nat.beq es.length n) (CP P Kt Vt es ks (fun k v=>K (put {s with st:=dj s.st j (.iter i n (k::ks))} dst (.bp [.lit (.bool true), .lit k,v]))) (K (put s dst (.bp [.lit (.bool false)]))))
      |_=>
       (match ks with
       |[.map none]=>K (put s dst (.bp [.lit (.bool false)]))
       |_=>False))
    | .fit Kt Vt ks vs met=>CP P Kt Vt (ks.zip vs) met (fun k v=>K (put {s with st:=dj s.st j (.fit Kt Vt ks vs (k::met))} dst (.bp [.lit (.bool true), .lit k,v]))) (K (put s dst (.bp [.lit (.bool false)])))
    |_=>False)
   |_=>False)
 | .next it true=>
  (match ev s it with
   | .ptr j 0 _ 0=>
    (match az s.st j with
    | .dC b p=>
     aC (Nat.blt p b.size) (K (put {s with st:=dj s.st j (.dC b (p+(Utf8.decode b p).2))} dst (.bp [.lit (.bool true), .lit (.int .i64 p), .lit (.int .i32 (Utf8.decode b p).1)]))) (K (put s dst (.bp [.lit (.bool false)])))
    |_=>False)
   |_=>False)
 | .binOp .eql T x y _=>mS P s.st T y (ev s x) fun b=>K (put s dst (.lit (.bool b)))
 | .binOp .neq T x y _=>mS P s.st T y (ev s x) fun b=>K (put s dst (.lit (.bool (!b))))
 | .call {callee:= .builtin .clear,args,argTypes}=>
  (match nt s args.toList,argTypes.toList with
   | [.ar i lo n],[T]=>
    (match P.underlying T,az s.st i with
    | some (.slice Te), .row Tr xs=>
     (match gT P Te with
      |some z=>if Tr=Te/\0<P.cellsOf Te then K (put {s with st:=dj s.st i (.row Te (dR xs lo n z))} dst (.bp [])) else False
      |none=>False)
    |_,_=>False)
   |_,_=>False)
 | .entry it=>
  (match ev s it with
   | .ptr j 0 _ 0=>
    (match az s.st j with
    | .iter i n (k::_)=>
     (match az s.st i with
      | .map _ Vt es=>
       (match gT P Vt with
       |some z=>ba (Nat.beq es.length n) (K (put s dst (.bp [.lit k,expand P cn Vt (dt es k z)])))
       |none=>False)
      |_=>False)
    | .fit _ Vt ks vs (k::_)=>
     (match gT P Vt with
      |some z=>K (put s dst (.bp [.lit k,expand P cn Vt (dt (ks.zip vs) k z)]))
      |none=>False)
    |_=>False)
   |_=>False)
 | .call {callee:= .builtin .append,args,argTypes}=>
  (match nt s args.toList,argTypes.toList with
   |[x,y],[T,T']=>if T=T' then oI P s T x y fun st a=>K (put {s with st} dst a) else False
   |_,_=>False)
 |_=>False
def xv:Nat->(Nat->Prop)->Prop
 |0,k=>k 0
 |n+1,k=>xv n fun m=>k (m+1)
def NR:List Nat->(List Nat->Prop)->Prop
 |[],k=>k []
 |n::l,k=>xv n fun n'=>NR l fun l'=>k (n'::l')
theorem AK: ∀(n:Nat) (k:Nat->Prop),xv n k=k n
 |0,_=>rfl
 |n+1,k=>by simp only[xv,AK n]
theorem GM: ∀(l:List Nat) (k:List Nat->Prop),NR l k=k l
 |[],_=>rfl
 |n::l,k=>by simp only[NR,AK,GM l]
mutual
def vQ:AV->(AV->Prop)->Prop
 | .agg l,k=>zY l fun l'=>k (.agg l')
 | .bp l,k=>zY l fun l'=>k (.bp l')
 | .bQ f l,k=>zY l fun l'=>k (.bQ f l')
 | .jq T a,k=>vQ a fun a'=>k (.jq T a')
 | .lit v,k=>k (.lit v)
 | .cP,k=>k .cP
 | .ad T l,k=>k (.ad T l)
 | .ar i lo n,k=>xv i fun i'=>k (.ar i' lo n)
 | .ptr i x p o,k=>xv i fun i'=>NR p fun p'=>xv o fun o'=>k (.ptr i' x p' o')
 | .jX T a,k=>k (.jX T a)
 | .mp i,k=>xv i fun i'=>k (.mp i')
 | .cK i,k=>xv i fun i'=>k (.cK i')
 | .kx i x,k=>xv i fun i'=>k (.kx i' x)
 | .jJ K V ks vs,k=>k (.jJ K V ks vs)
def zY:List AV->(List AV->Prop)->Prop
 |[],k=>k []
 |a::l,k=>vQ a fun a'=>zY l fun l'=>k (a'::l')
end
def Sv:Obj->(Obj->Prop)->Prop
 | .dead,k=>k .dead
 | .box T a,k=>vQ a fun a'=>k (.box T a')
 | .row T xs,k=>k (.row T xs)
 | .mv T xs,k=>k (.mv T xs)
 | .map K V es,k=>k (.map K V es)
 | .loop r,k=>zY r.bt fun l=>k (.loop {state:=r.state,pending:=r.pending,fn:=r.fn,bt:=l,params:=r.params,assign:=r.assign,body:=r.body})
 | .iter i n ks,k=>k (.iter i n ks)
 | .ext t,k=>k (.ext t)
 | .dC s p,k=>k (.dC s p)
 | .rows T E ls pd,k=>k (.rows T E ls pd)
 | .fit K V ks vs met,k=>k (.fit K V ks vs met)
def vh:List Obj->(List Obj->Prop)->Prop
 |[],k=>k []
 |o::l,k=>Sv o fun o'=>vh l fun l'=>k (o'::l')
def BL(s:S)(k:S->Prop):Prop:=zY s.bt fun r=>vh s.st fun t=>k {bt:=r,st:=t}
mutual
theorem mI: ∀(a:AV) (k:AV->Prop),vQ a k=k a
 | .agg l,k=>by simp only[vQ,oP l]
 | .bp l,k=>by simp only[vQ,oP l]
 | .bQ f l,k=>by simp only[vQ,oP l]
 | .jq T a,k=>by simp only[vQ,mI a]
 | .lit _,_| .cP,_| .ad _ _,_| .ar _ _ _,_| .ptr _ _ _ _,_| .jX _ _,_| .mp _,_| .cK _,_| .kx _ _,_| .jJ _ _ _ _,_=>by simp only[vQ,AK,GM]
theorem oP: ∀(l:List AV) (k:List AV->Prop),zY l k=k l
 |[],k=>by simp only[zY]
 |a::l,k=>by simp only[zY,mI a,oP l]
end
theorem N9(o:Obj)(k:Obj->Prop):Sv o k=k o:=by
 cases o<;>simp only[Sv,mI,oP]
theorem kQ: ∀(l:List Obj) (k:List Obj->Prop),vh l k=k l
 |[],k=>rfl
 |o::l,k=>by simp only[vh,N9,kQ l]
theorem lL(s:S)(k:S->Prop):BL s k=k s:=by simp only[BL,oP,kQ]
abbrev Rec:=FuncId->Option Nat->Nat->Code->S->(Exit->S->Prop)->Prop
def bJ:Nat->List AV
 |0=>[]
 |n+1=> .cP::bJ n
def wO(P:Program)(s:S):List ResultVar->Option (List AV)
 |[]=>some []
 | .tmp t::l=>(match wO P s l with|some m=>some (nth s.bt t::m)|none=>none)
 | .cell a T::l=>
  (match np P s.st T (nth s.bt a),wO P s l with
   |some (true,x),some m=>some (x::m)
   |_,_=>none)
def mB:List AV->AV
 |[a]=>a
 |l=> .bp l
def mL(E:Env)(rec:Rec)(f:FuncId)(args:List AV)(st:List Obj)(K:AV->List Obj->Prop):Prop:=
 match E.P.funcs[f]? with
 | some fn=>
  (match fn.body with
   | some c=>
    rec f none st.length c {bt:=args++bJ (fn.ntmps - args.length),st} fun e s=>
     match e with
     | .normal| .ret=>(match wO E.P s fn.results.toList with|some l=>K (mB l) s.st|none=>False)
     |_=>False
   |none=>False)
 |none=>False
def pR(E:Env)(f:FuncId)(args:List AV)(st:List Obj)(K:AV->List Obj->Prop):Prop:=
 let ids:=reach st (st.length*st.length+st.length+20) (de args) []
 let ρ:=fun i=>jU i ids 0
 let β:=jr ids st.length
 ba (pt 0 st (de args) ids) (BL {bt:=fW ρ args,st:=gH ρ (gU st ids)} fun s=>E.call f s.bt s.st fun r sub=>vQ (lP β r) fun r'=>vh (fh st ids β sub) fun st'=>K r' st')
def xf(st:List Obj):List AV->Option (List AV×List Nat)
 |[]=>some ([],[])
 | a::l=>
  match xf st l with
  |none=>none
  |some (m,is)=>
   match a with
   | .ar _ _ _=>(match cr st a with|some b=>some (b::m,rowsOf a++is)|none=>none)
   | .agg _=>(match cr st a with|some b=>some (b::m,rowsOf a++is)|none=>none)
   |_=>some (a::m,is)
def Mj(P:Program)(Ts:List TypeId):AV->AV
 | .bp l=> .bp (pB P Ts l)
 |a=>(match Ts with|[T]=>FR P T a|_=>a)
def ju:List Tmp->List AV->List AV->List AV
 |p::ps,a::as,bt=>ju ps as (cm bt p a)
 |_,_,bt=>bt
def gX (rec:Rec)(l:Nat)(args:List AV)(st:List Obj)(K:AV->List Obj->Prop):Prop:=
 match az st l with
 | .loop r=>
  if r.state= .ready/\r.params.size=args.length then
   rec r.fn (some l) st.length r.assign {bt:=ju r.params.toList args r.bt,st} fun e s1=>
    match e with
    | .normal=>
     (match az s1.st l with
      | .loop r1=>
       if r1.state= .ready then
        rec r.fn (some l) st.length r.body {s1 with st:=dj s1.st l (.loop {r1 with state:= .busy})} fun e2 s2=>
         match az s2.st l with
         | .loop r2=>
          (match e2 with
          | .normal=>K (.lit (.bool true)) (dj s2.st l (.loop {r2 with state:= .ready,pending:=none}))
          | .ret=>K (.lit (.bool false)) (dj s2.st l (.loop {r2 with state:= .done,pending:=some .ret}))
          | .exit id=>K (.lit (.bool false)) (dj s2.st l (.loop {r2 with state:= .done,pending:=some (.exit id)}))
          |_=>False)
         |_=>False
       else False
      |_=>False)
    |_=>False
  else False
 |_=>False
def L0:List Nat->Bool
 |[]=>true
 |_=>false
def Ax(l:Nat)(todo:Option (List AV))(args:List AV)(st:List Obj)(K:AV->List Obj->Prop):Prop:=
 match todo,xf st args with
 |some xs,some (as,is)=>
  ba (L0 (de as)) (∃rest,xs= .bp as::rest/\K (.lit (.bool true)) (dj (cX st is) l (.ext (some rest)))/\K (.lit (.bool false)) (dj (cX st is) l (.ext none)))
 |_,_=>False
def oB(E:Env)(rec:Rec)(g:AV)(args:List AV)(st:List Obj)(K:AV->List Obj->Prop):Prop:=
 match g with
 | .bQ f caps=>
  if E.inl f then mL E rec f (args++caps) st K
  else if E.own f then pR E f (args++caps) st K
  else
   (match xf st (args++caps) with
    |some (as,is)=>pR E f (pB E.P (ld E.P f) as) (cX st is) K
    |none=>False)
 | .cK l=>
  (match az st l with
   | .ext t=>Ax l t args st K
   |_=>gX rec l args st K)
 |_=>False
def eI(s:S)(t:Option Tmp)(b:Bool):S:=
 match t with
 |none=>s
 |some d=>{s with bt:=cm s.bt d (.lit (.bool b))}
def lM:List Oper->Nat->Option Tmp
 |[],_=>none
 |o::_,0=>o.dst
 |_::l,n+1=>lM l n
def rD:Operand->Option Tmp
 | .tmp t=>some t
 |_=>none
def gB(s:S):Op->Option (AV×List AV)
 | .call {callee:= .value g,args, .. }=>some (ev s g,nt s args.toList)
 |_=>none
def OJ(E:Env)(rec:Rec)(s:S)(dst:Option Tmp)(o:Op)(K:S->Prop):Prop:=
 match bO E s o with
 |some (c,a)=>ba c (K (put s dst a))
 | none=>
  match o with
  | .pick c a b=>
   (match ev s c with
    | .lit (.bool t)=>aC t (K (put (eI s (rD c) true) dst (ev s a))) (K (put (eI s (rD c) false) dst (ev s b)))
    |_=>False)
  |o=>
   match gB s o with
   |some (g,args)=>oB E rec g args s.st fun a st=>K (put {s with st} dst a)
   |none=>cu E.P s dst o K
def rf(E:Env)(rec:Rec)(ops:List Oper):List Oper->S->(S->Prop)->Prop
 |[],s,K=>K s
 | o :: l, s, K=>
  match o.guard with
  |none=>OJ E rec s o.dst o.op fun s'=>rf E rec ops l s' K
  | some (j, want)=>
   match lM ops j with
   |none=>False
   | some t=>
    match nth s.bt t with
    | .lit (.bool b)=>
     match want with
     |true=>aC b (OJ E rec (eI s (some t) true) o.dst o.op fun s'=>rf E rec ops l s' K)
             (rf E rec ops l (put (eI s (some t) false) o.dst (.bp [])) K)
     |false=>aC b (rf E rec ops l (put (eI s (some t) true) o.dst (.bp [])) K)
              (OJ E rec (eI s (some t) false) o.dst o.op fun s'=>rf E rec ops l s' K)
    | .bp []=>rf E rec ops l (put s o.dst (.bp [])) K
    |_=>False
def pY:Option Operand->List Operand
 |none=>[]
 |some x=>[x]
def opsOf:Op->List Operand
 | .move x| .assign x| .load _ x| .nilCheck x| .unOp _ _ x| .fieldAddr _ x _| .field _ x _| .extract x _| .box _ x| .makeInterface _ x| .convert _ _ x=>[x]
 | .pick c a b=>[c,a,b]
 | .binOp _ _ x y _| .indexAddr _ x y| .index _ x y| .lookup _ x y _| .store _ x y| .makeSlice _ x y| .mapEntry _ x y=>[x,y]
 | .slice _ x lo hi m=>x::(pY lo++pY hi++pY m)
 | .makeFunc _ _ caps=>caps.toList
 | .build _ ps| .buildSlice _ _ ps=>ps.toList.map (·.2)
 | .mapUpdate _ x y z| .entryStore _ x y z=>[x,y,z]
 | .range _ x| .next x _| .entry x=>[x]
 | .call {callee:= .value g,args, .. }=>g::args.toList
 | .call {args, .. }=>args.toList
 |_=>[]
def Is:List Operand->Bool
 |[]=>true
 | .const _::l=>Is l
 |_=>false
def eC(quiet:FuncId->Bool):Op->Nat
 | .move _| .assign _| .binOp .. | .unOp .. | .extract .. | .makeFunc .. | .pick .. | .makeInterface .. | .convert .. | .field .. | .build .. | .index .. =>0
 | .load .. | .nilCheck _| .slice .. | .fieldAddr .. | .indexAddr .. | .lookup .. =>1
 | .call {callee:= .builtin .len, .. }=>1
 | .call {callee:= .builtin .min, .. }=>1
 | .call {callee:= .builtin .max, .. }=>1
 | .call {callee:= .value (.func f),args, .. }=>bif quiet f then(bif Is args.toList then 0 else 1) else 2
 |_=>2
def qz:List Obj->List Obj->Prop
 |[],_=>True
 |_::_,[]=>False
 | .box T a::l,o::l'=>o= .box T a/\qz l l'
 | .rows T E ls pd::l,o::l'=>o= .rows T E ls pd/\qz l l'
 |_::l,_::l'=>qz l l'
def WL(b:Bool)(st st':List Obj)(p:Prop):Prop:=
 match b with
 |true=>qz st st'/\p
 |false=>p
def HF(E:Env)(g:AV)(args:List AV)(st:List Obj):Bool:=
 match g with
 | .bQ f caps=>!E.inl f&& !E.own f&&(match xf st (args++caps) with
  |some (as,[])=>L0 (de (pB E.P (ld E.P f) as))
  |_=>false)
 |_=>false
def wz(calm:FuncId->Bool):Op->Bool
 | .call {callee:= .value (.func f), .. }=>calm f
 |_=>false
def tF(E:Env)(rec:Rec)(s:S)(dst:Option Tmp)(o:Op)(K:S->Prop):Prop:=
 match eC E.quiet o with
 | 2=>
  (match gB s o with
   |some (g,args)=>oB E rec g args s.st fun a st=>WL (wz E.calm o&& !HF E g args s.st) s.st st (K (put {s with st} dst a))
   |none=>cu E.P s dst o K)
 | _ =>
  (match bO E s o with
   |some (c,a)=>ba c (K (put s dst a))
   | none=>
    (match o with
    | .pick c a b=>
     (match ev s c with
      | .lit (.bool t)=>aC t (K (put (eI s (rD c) true) dst (ev s a))) (K (put (eI s (rD c) false) dst (ev s b)))
      |_=>False)
    |_=>False))
def dr(E:Env)(rec:Rec)(ops:List Oper)(o:Oper)(s:S)(K:S->Prop):Prop:=
 match o.guard with
 |none=>tF E rec s o.dst o.op K
 | some (j,want)=>
  match lM ops j with
  |none=>False
  | some t=>
   match nth s.bt t with
   | .lit (.bool b)=>
    match want with
    |true=>aC b (tF E rec (eI s (some t) true) o.dst o.op K) (K (put (eI s (some t) false) o.dst (.bp [])))
    |false=>aC b (K (put (eI s (some t) true) o.dst (.bp []))) (tF E rec (eI s (some t) false) o.dst o.op K)
   | .bp []=>K (put s o.dst (.bp []))
   |_=>False
def jv:Nat->List Bool
 |0=>[]
 |n+1=>false::jv n
def fr:List Bool->Nat->Bool
 |[],_=>true
 |b::_,0=>b
 |_::l,n+1=>fr l n
def fk:List Bool->Nat->List Bool
 |[],_=>[]
 |_::l,0=>true::l
 |b::l,n+1=>b::fk l n
def lB(listed:List Bool):List Edge->Bool
 |[]=>true
 |e::l=>(!Region.binds .any e||(Nat.blt e.on listed.length&&fr listed e.on))&&lB listed l
def jW(listed:List Bool):List Oper->Nat->List (Nat×Oper)
 |[],_=>[]
 |o::l,i=>bif !fr listed i&&lB listed o.after.toList then(i,o)::jW listed l (i+1) else jW listed l (i+1)
def yb(t:Nat):List Operand->Bool
 |[]=>false
 | .tmp u::l=>Nat.beq t u||yb t l
 |_::l=>yb t l
def AG(ops:List Oper)(o:Oper)(t:Nat):Bool:=
 yb t (opsOf o.op)||(match o.guard with|none=>false|some (j,_)=>(match lM ops j with|none=>false|some u=>Nat.beq t u))
def Av(ops:List Oper)(o:Oper):Option Tmp->Bool
 |none=>false
 |some t=>AG ops o t
def vW:Option Tmp->Option Tmp->Bool
 |some t,some u=>!Nat.beq t u
 |_,_=>true
def sh(ops:List Oper)(a b:Oper):Bool:=
 !Av ops b a.dst&& !Av ops a b.dst&&vW a.dst b.dst
def Cq:Op->Bool
 | .alloc _| .box _ _| .makeSlice .. | .makeMap _ none=>true
 |_=>false
def wZ(quiet:FuncId->Bool)(ops:List Oper)(a b:Oper):Bool:=
 sh ops a b&&(match eC quiet a.op with|0=>true|1=>Nat.blt (eC quiet b.op) 2||Cq b.op|_=>false)
def xE(acc:List Nat):List Edge->Bool
 |[]=>false
 |e::l=>(Region.binds .any e&&jH e.on acc)||xE acc l
def fwd:List Oper->Nat->List Nat->List Nat
 |[],_,acc=>acc
 |o::l,j,acc=>bif xE acc o.after.toList then fwd l (j+1) (j::acc) else fwd l (j+1) acc
def gk(quiet:FuncId->Bool)(ops:List Oper)(listed:List Bool)(i:Nat)(o:Oper)(fs:List Nat):List Oper->Nat->Bool
 |[],_=>true
 |b::l,j=>(Nat.beq i j||fr listed j||jH j fs||wZ quiet ops o b)&&gk quiet ops listed i o fs l (j+1)
def ot(quiet:FuncId->Bool)(ops:List Oper)(listed:List Bool):List (Nat×Oper)->Option (Nat×Oper)
 |[]=>none
 |(i,o)::l=>bif gk quiet ops listed i o (fwd ops 0 [i]) ops 0 then some (i,o) else ot quiet ops listed l
def jP:Obj->Bool
 | .box _ _=>true
 |_=>false
def z6:Obj->Bool
 | .rows _ _ _ _=>true
 |_=>false
def nJ(s:S)(o:Oper):Bool:=
 match o.guard,o.op with
 |none, .load _ x=>(match ev s x with| .ptr k _ _ _=>jP (az s.st k)| .jX _ _=>true| .lit _=>true|_=>false)
 |none, .call {callee:= .builtin .len,args, .. }=>(match nt s args.toList with|[.ad _ _]=>true|_=>false)
 |none, .nilCheck x=>(match ev s x with| .ptr k _ _ _=>jP (az s.st k)|_=>false)
 |none, .fieldAddr _ x _=>(match ev s x with| .ptr k _ _ _=>jP (az s.st k)|_=>false)
 |none, .indexAddr _ x _=>(match ev s x with| .ar k 0 _=>z6 (az s.st k)|_=>false)
 |_,_=>false
def xW:Op->Bool
 | .alloc _| .box _ _| .makeMap _ none=>true
 | .buildSlice .. =>true
 | .makeSlice .. =>true
 | .call {callee:= .builtin .append, .. }=>true
 |_=>false
def uV(quiet calm:FuncId->Bool)(ops:List Oper)(a b:Oper):Bool:=
 sh ops a b&&(Nat.blt (eC quiet b.op) 2||xW b.op||wz calm b.op)
def yf(quiet calm:FuncId->Bool)(ops:List Oper)(listed:List Bool)(i:Nat)(o:Oper)(fs:List Nat):List Oper->Nat->Bool
 |[],_=>true
 |b::l,j=>(Nat.beq i j||fr listed j||jH j fs||uV quiet calm ops o b)&&yf quiet calm ops listed i o fs l (j+1)
def Dd(quiet calm:FuncId->Bool)(ops:List Oper)(listed:List Bool)(s:S):List (Nat×Oper)->Option (Nat×Oper)
 |[]=>none
 |(i,o)::l=>bif nJ s o&&yf quiet calm ops listed i o (fwd ops 0 [i]) ops 0 then some (i,o) else Dd quiet calm ops listed s l
def oF(P:Program)(s:S)(o:Oper):Option (Option TypeId):=
 match o.guard,o.op with
 | none, .load T x=>
  (match ev s x with
   | .ptr k _ path _=>(match az s.st k with| .box Tb _=>bif uZ P Tb path T&& !fF P T then some (some T) else none|_=>none)
   |_=>none)
 |none, .nilCheck x=>(match ev s x with| .ptr k _ _ _=>bif jP (az s.st k) then some none else none|_=>none)
 |none, .fieldAddr _ x _=>(match ev s x with| .ptr k _ _ _=>bif jP (az s.st k) then some none else none|_=>none)
 |_,_=>none
def Af(P:Program):Option TypeId->Op->Bool
 |none, .store _ _ _=>true
 |some T, .store U _ _=>!Nat.beq U T&& !fF P U
 |_,_=>false
def uG(P:Program)(quiet calm:FuncId->Bool)(T:Option TypeId)(ops:List Oper)(a b:Oper):Bool:=
 sh ops a b&&(Nat.blt (eC quiet b.op) 2||xW b.op||wz calm b.op||Af P T b.op)
def we(P:Program)(quiet calm:FuncId->Bool)(T:Option TypeId)(ops:List Oper)(listed:List Bool)(i:Nat)(o:Oper)(fs:List Nat):List Oper->Nat->Bool
 |[],_=>true
 |b::l,j=>(Nat.beq i j||fr listed j||jH j fs||uG P quiet calm T ops o b)&&we P quiet calm T ops listed i o fs l (j+1)
def tk(P:Program)(quiet calm:FuncId->Bool)(ops:List Oper)(listed:List Bool)(s:S):List (Nat×Oper)->Option (Nat×Oper)
 |[]=>none
 |(i,o)::l=>match oF P s o with
  |some T=>bif we P quiet calm T ops listed i o (fwd ops 0 [i]) ops 0 then some (i,o) else tk P quiet calm ops listed s l
  |none=>tk P quiet calm ops listed s l
def Jb(p:Nat->Oper->Prop):List (Nat×Oper)->Prop
 |[]=>True
 |[(i,o)]=>p i o
 |(i,o)::l=>p i o/\Jb p l
def pL(E:Env)(rec:Rec)(ops:List Oper):Nat->List Bool->S->(S->Prop)->Prop
 |0,listed,s,K=>match jW listed ops 0 with|[]=>K s|_=>False
 | n +1,listed,s,K=>
  match jW listed ops 0 with
  |[]=>K s
  | r=>
   match ot E.quiet ops listed r with
   |some (i,o)=>dr E rec ops o s fun s'=>pL E rec ops n (fk listed i) s' K
   | none=>
    match Dd E.quiet E.calm ops listed s r with
    |some (i,o)=>dr E rec ops o s fun s'=>pL E rec ops n (fk listed i) s' K
    |none=>
     match bif E.calm 888888 then tk E.P.toProgram E.quiet E.calm ops listed s r else none with
     |some (i,o)=>dr E rec ops o s fun s'=>pL E rec ops n (fk listed i) s' K
     |none=>Jb (fun i o=>dr E rec ops o s fun s'=>pL E rec ops n (fk listed i) s' K) r
def YI(p:S->(Exit->S->Prop)->Prop)(K:Exit->S->Prop):Exit->S->Prop
 | .normal,s=>p s K
 |e,s=>K e s
def zn(id:Nat)(K:Exit->S->Prop):Exit->S->Prop
 | .exit i,s=>bif Nat.beq i id then K .normal s else K (.exit i) s
 |e,s=>K e s
def Rm(K:Exit->S->Prop):Exit->S->Prop
 | .goto _,_=>False
 |e,s=>K e s
def lN:Code->Option Nat
 | .region id _ _=>some id
 | .seq a b=>(match lN a with|some n=>some n|none=>lN b)
 | .block _ c| .scope c| .loop c=>lN c
 | .cond _ a b=>(match lN a with|some n=>some n|none=>lN b)
 | .rangeFunc _ _ a _=>lN a
 |_=>none
def pT(l:Nat)(s:S)(K:Exit->S->Prop)(st:List Obj):Prop:=
 match az st l with
 | .loop r=>
  (match r.state,r.pending with
   | .busy,_=>False
   |_,none=>K .normal {s with st:=dj st l .dead}
   |_,some .ret=>K .ret {s with st:=dj st l .dead}
   |_,some (.exit id)=>K (.exit id) {s with st:=dj st l .dead}
   |_,_=>False)
 |_=>False
def EY(rd:Option Nat)(st:List Obj):Bool:=
 match rd with
 |none=>true
 |some l=>match az st l with| .loop _=>true|_=>false
def ka(E:Env)(rec:Rec)(f:FuncId)(rd:Option Nat)(base:Nat):Code->S->(Exit->S->Prop)->Prop
 | .skip,s,K=>K .normal s
 | .label _,s,K=>K .normal s
 | .region _ ops false,s,K=>rf E rec ops.toList ops.toList s (K .normal)
 | .region _ ops true,s,K=>pL E rec ops.toList ops.toList.length (jv ops.toList.length) s (K .normal)
 | .seq a b,s,K=>ka E rec f rd base a s (YI (ka E rec f rd base b) K)
 | .cond c x y,s,K=>
  match ev s c with
  | .lit (.bool t)=>aC t (ka E rec f rd base x (eI s (rD c) true) K) (ka E rec f rd base y (eI s (rD c) false) K)
  |_=>False
 | .block id c,s,K=>ka E rec f rd base c s (zn id K)
 | .loop c,s,K=>
  match lN c with
  |some n=>ba (jF E.P (E.live f n) base s) (BL (canon E.P (E.live f n) base s) fun s'=>E.loop f n c rd base s' K)
  |none=>False
 | .rangeFunc g ps asg body,s,K=>
  match ev s g with
  | .bQ f' caps=>
   ba (EY rd s.st) (match E.gen f' with
    |true=>E.lk f (match lN asg with|some n=>n|none=>0) f' caps
     (s.st++[.loop {state:= .ready,pending:=none,fn:=f,bt:=s.bt,params:=ps,assign:=asg,body:=body}]) (pT s.st.length s K)
    |false=>mL E rec f' (.cK s.st.length::caps)
     (s.st++[.loop {state:= .ready,pending:=none,fn:=f,bt:=s.bt,params:=ps,assign:=asg,body:=body}])
     fun _ st=>pT s.st.length s K st)
  |_=>False
 | .exit id,s,K=>K (.exit id) s
 | .goto _,_,_=>False
 | .scope c,s,K=>ka E rec f rd base c s (Rm K)
 | .ret,s,K=>K .ret s
 | .refuse _,_,_=>False
def vc(E:Env):Nat->Rec
 |0=>fun _ _ _ _ _ _=>False
 |n+1=>fun f rd base c s K=>ka E (vc E n) f rd base c s K
end Go.Dn
