import Derived.Test.YtioeffnadipbaaaGreatDoorDnB
namespace Go.Dn
open Go
mutual
def refs:AV->List Nat
 | .aB i _ _=>[i]
 | .ptr i _ _ _=>[i]
 | .mp i=>[i]
 | .de i=>[i]
 | .jV i _=>[i]
 | .agg l=>cW l
 | .aX l=>cW l
 | .bq _ l=>cW l
 | .iN _ a=>refs a
 |_=>[]
def cW:List AV->List Nat
 |[]=>[]
 |a::l=>refs a++cW l
end
def wR:Obj->List Nat
 | .box _ a=>refs a
 | .loop r=>cW r.bg
 | .iter i _ _=>[i]
 |_=>[]
def gL(i:Nat):List Nat->Bool
 |[]=>false
 |j::l=>Nat.beq i j||gL i l
def reach(st:List Obj):Nat->List Nat->List Nat->List Nat
 |0,_,acc=>acc
 |_+1,[],acc=>acc
 |n+1,i::todo,acc=>
  bif gL i acc then reach st n todo acc else reach st n (wR (an st i)++todo) (acc++[i])
def jt(i:Nat):List Nat->Nat->Option Nat
 |[],_=>none
 |j::l,n=>bif Nat.beq i j then some n else jt i l (n+1)
mutual
def ll(ρ:Nat->Option Nat):AV->AV
 | .aB i lo n=>(match ρ i with|some j=> .aB j lo n|none=> .cK)
 | .ptr i k p o=>(match ρ i with|some j=> .ptr j k p o|none=> .cK)
 | .mp i=>(match ρ i with|some j=> .mp j|none=> .cK)
 | .de i=>(match ρ i with|some j=> .de j|none=> .cK)
 | .jV i k=>(match ρ i with|some j=> .jV j k|none=> .cK)
 | .agg l=> .agg (fY ρ l)
 | .aX l=> .aX (fY ρ l)
 | .bq f l=> .bq f (fY ρ l)
 | .iN T a=> .iN T (ll ρ a)
 |a=>a
def fY(ρ:Nat->Option Nat):List AV->List AV
 |[]=>[]
 |a::l=>ll ρ a::fY ρ l
end
def eY(ρ:Nat->Option Nat):Obj->Obj
 | .box T a=> .box T (ll ρ a)
 | .loop r=> .loop {r with bg:=fY ρ r.bg}
 | .iter i n ks=> .iter (match ρ i with|some j=>j|none=>i) n ks
 |o=>o
def ik(st:List Obj):List Nat->List Obj
 |[]=>[]
 |i::l=>an st i::ik st l
def gK(ρ:Nat->Option Nat):List Obj->List Obj
 |[]=>[]
 |o::l=>eY ρ o::gK ρ l
def upto:Nat->List Nat
 |0=>[]
 |n+1=>upto n++[n]
def iO(ids:List Nat)(n:Nat)(j:Nat):Option Nat:=
 match idN ids j with
 |some i=>some i
 |none=>some (n+(j - ids.length))
where
 idN:List Nat->Nat->Option Nat
  |[],_=>none
  |i::_,0=>some i
  |_::l,k+1=>idN l k
def e9(st:List Obj)(ids:List Nat)(ρ:Nat->Option Nat):List Obj->List Obj
 |sub=>go st ids sub
where
 go:List Obj->List Nat->List Obj->List Obj
  |st,i::ids,o::sub=>go (c9 st i (eY ρ o)) ids sub
  |st,[],sub=>st++gK ρ sub
  |st,_::_,[]=>st
def fM(live:List (Nat×Option TypeId)):List AV->Nat->List AV
 |[],_=>[]
 |a::l,n=>(bif memL n live then a else .cK)::fM live l (n+1)
where
 memL (n:Nat):List (Nat×Option TypeId)->Bool
  |[]=>false
  |(j,_)::l=>Nat.beq n j||memL n l
def Lu:Nat:=1000000000
def gB:List (Nat×Option TypeId)->S->S
 |[],s=>s
 |(_,none)::l,s=>gB l s
 | (r,some T)::l,s=>
  match nth s.bg r with
  | .lit (.slice none 0 0)=>
   (match Nat.ble Lu T with
    |true=>gB l {bg:=bJ s.bg r (.ad (T - Lu) []),st:=s.st}
    |false=>gB l {bg:=bJ s.bg r (.aB s.st.length 0 0),st:=s.st++[.row T []]})
  |_=>gB l s
def CH(P:Program)(i:Nat)(s:S):S:=
 match an s.st i with
 | .box Tb (.lit (.slice none 0 0))=>
  match P.underlying Tb with
  |some (.slice Te)=>{s with st:=c9 s.st i (.box Tb (.aB s.st.length 0 0))++[.row Te []]}
  |_=>s
 |_=>s
def nM(P:Program):List Nat->S->S
 |[],s=>s
 |i::l,s=>nM P l (CH P i s)
def OG(i j:Nat)(T:TypeId)(st:List Obj):List Obj:=
 match an st i with
 | .box Tb (.agg fs)=>
  match nth fs j with
  | .lit (.slice none 0 0)=>c9 st i (.box Tb (.agg (bJ fs j (.aB st.length 0 0))))++[.row T []]
  |_=>st
 |_=>st
def o5:List (Nat×Nat×TypeId)->List Obj->List Obj
 |[],st=>st
 |(i,j,T)::l,st=>o5 l (OG i j T st)
def zS:List (Nat×Option TypeId)->List (Nat×Nat×TypeId)
 |[]=>[]
 |(r,t)::l=>match Nat.ble 1000 r,t with
  |true,some T=>((r - 1000) / 64,(r - 1000) % 64,T)::zS l
  |_,_=>zS l
def uC(st:List Obj):List Nat->List Nat
 |[]=>[]
 |i::l=>wR (an st i)++uC st l
def gV(base:Nat)(st:List Obj)(roots:List Nat):List Nat:=
 reach st (st.length*st.length+st.length+20) (uC st (upto base)++roots) (upto base)
def A7(ids:List Nat):List Nat->Bool
 |[]=>true
 |i::l=>gL i ids&&A7 ids l
def Fa(n:Nat):List Nat->Bool
 |[]=>true
 |i::l=>decide (i<n)&&Fa n l
def zG:List Nat->Bool
 |[]=>true
 |i::l=>!gL i l&&zG l
def tF(ids:List Nat):List Nat->Bool
 |[]=>true
 |i::l=>(match jt i ids 0 with|some j=>Nat.beq i j|none=>false)&&tF ids l
def oV(base:Nat)(st:List Obj)(roots ids:List Nat):Bool:=
 zG ids&&Fa st.length ids&&tF ids (upto base)&&A7 ids roots&&A7 ids (uC st ids)
def zZ(l:List (Nat×Nat×TypeId))(s:S):S:=
 match l with
 |[]=>s
 |_=>{s with st:=o5 l s.st}
def gO(P:Program)(live:List (Nat×Option TypeId))(s:S):S:=
 let s1:=gB live {s with bg:=fM live s.bg 0}
 zZ (zS live) (nM P (upto s1.st.length) s1)
def ji(P:Program)(live:List (Nat×Option TypeId))(base:Nat)(s:S):Bool:=
 oV base (gO P live s).st (cW (gO P live s).bg) (gV base (gO P live s).st (cW (gO P live s).bg))
def tr(ids:List Nat)(s:S):S:=
 {bg:=fY (fun i=>jt i ids 0) s.bg,st:=gK (fun i=>jt i ids 0) (ik s.st ids)}
def canon(P:Program)(live:List (Nat×Option TypeId))(base:Nat)(s:S):S:=
 tr (gV base (gO P live s).st (cW (gO P live s).bg)) (gO P live s)
def DW(P:Program)(T:TypeId):List AV->Bool
 |[]=>true
 |a::l=>ux P a T&&DW P T l
def sW:Nat:=70368744177664
def mV(Ty:Option TypeId)(Te:TypeId):Bool:=
 match Ty with
 |none=>true
 |some U=>U==Te
def qz(P:Program)(E:TypeId):Bool:=
 match P.underlying E with
 |some (.int _)|some .bool|some .string=>P.cellsOf E==1
 |_=>false
def ia:List AV->Option (List Value)
 |[]=>some []
 | .lit v::l=>(match ia l with|some m=>some (v::m)|none=>none)
 |_=>none
def oE (P:Program)(s:S)(T:TypeId)(x y:AV)(K:List Obj->AV->Prop):Prop:=
 match P.underlying T with
 | some (.slice Te)=>
  match oN s.st y,gG P Te with
  | some (Ty,ys),some _=>
   match mV Ty Te&&decide (0<P.cellsOf Te) with
   |false=>False
   | true=>
    match x with
    | .lit (.slice none 0 0)=>
     aP (decide ((ys.length+1)*(P.bytesOf Te+1)<=sW)) (K (s.st++[.row Te ys]) (.aB s.st.length 0 ys.length))
    | .aB i lo n=>
     match an s.st i with
     | .row Tr xs=>
      if Tr=Te/\lo=0 then
       aP (decide ((n+ys.length+1)*(P.bytesOf Te+1)<=sW))
        (K (c9 s.st i .dead++[.row Te ((xs.take n)++ys)]) (.aB s.st.length 0 (n+ys.length)))
      else False
     | .rows Tr E ls none=>
      match lo,ia ys with
      | k+1,some vs=>
       if E=Te/\DW P Te ys=true then
        aP (decide (n=(ej ls k).length)&&decide ((n+ys.length+1)*(P.bytesOf Te+1)<=sW))
         (K (c9 s.st i (.rows Tr E (lL ls k (ej ls k++vs)) (some k))) (.aB i (Nat.succ k) (n+ys.length)))
       else False
      |_,_=>False
     |_=>False
    |_=>False
  |_,_=>False
 |_=>False
def iX(P:Program):TypeId->List Nat->Option TypeId
 |T,[]=>some T
 |T,j::p=>match mA (fieldsOf P T) j with
  |some fd=>iX P fd.type p
  |none=>none
def tK(P:Program)(Tb:TypeId)(path:List Nat)(T:TypeId):Bool:=
 match iX P Tb path with
 |some U=>Nat.beq U T
 |none=>false
def pD(P:Program)(s:S)(T:TypeId)(p x:AV)(K:List Obj->Prop):Prop:=
 match p with
 | .ptr i k path off=>
  match an s.st i with
  | .box Tb a=>
   if mL a path&&gH a path==off&&wid x==P.cellsOf T&&wid (lT a path)==P.cellsOf T&&pU x&&(P.underlying T).isSome&&tK P Tb path T then K (c9 s.st i (.box Tb (fF a path x))) else False
  | .row _ _=>
   match bW s.st x,an (cD s.st (rowsOf x)) i with
   | some x', .row Tr xs=>
    if mL (expand P bX Tr (nth xs k)) path&&gH (expand P bX Tr (nth xs k)) path==off&&wid x'==P.cellsOf T&&wid (lT (expand P bX Tr (nth xs k)) path)==P.cellsOf T&&
      ux P (fF (expand P bX Tr (nth xs k)) path x') Tr&&pU x'&&(P.underlying T).isSome then
     K (c9 (cD s.st (rowsOf x)) i (.row Tr (bJ xs k (fF (expand P bX Tr (nth xs k)) path x'))))
    else False
   |_,_=>False
  | .rows Tr E ls (some kp)=>
   (match path,off,x with
    |[],0, .aB j (k'+1) m=>if j=i/\T=Tr then aP (decide (k=kp)&&decide (k'=kp)&&decide (m=(ej ls k).length)) (K (c9 s.st i (.rows Tr E ls none))) else False
    |_,_,_=>False)
  |_=>False
 |_=>False
def eM(a:AV)(n:Nat):List AV:=List.replicate n a
def D3(P:Program)(Te:TypeId)(z:AV)(n:Nat):Obj:=
 match P.underlying Te,z with
 |some (.slice E), .lit (.slice none 0 0)=>if qz P E=true/\P.cellsOf Te=1 then .rows Te E (List.replicate n []) none else .row Te (eM z n)
 |_,_=> .row Te (eM z n)
def ka(P:Program)(T:TypeId)(st:List Obj):List AV->List (Nat×AV)->Option (List AV×List Nat)
 |l,[]=>some (l,[])
 | l,(i,x)::ps=>
  match bW st x with
  | some x'=>
   if ux P x' T&&decide (i<l.length) then
    match ka P T st (bJ l i x') ps with
    |some (m,is)=>some (m,rowsOf x++is)
    |none=>none
   else none
  |none=>none
def qH:List Value->Value->Bool
 |[],_=>false
 |k'::l,k=>dm k' k||qH l k
def oJ(ks:List Value):List (Value×AV)->Bool
 |[]=>true
 |(k,_)::es=>qH ks k&&oJ ks es
def A4(P:Program)(Kt Vt:TypeId)(es:List (Value×AV))(ks:List Value)(p:Value->AV->Prop)(q:Prop):Prop:=
 (match P.underlying Kt with
  |some (.int κ)=>∀n v,(Value.int κ n,v)∈es->qH ks (.int κ n)=false->p (.int κ n) (expand P bX Vt v)
  |some .string=>∀t v,(Value.string t,v)∈es->qH ks (.string t)=false->p (.string t) (expand P bX Vt v)
  |_=>False)/\(oJ ks es=true->q)
def Kd:List AV->Bool
 |[]=>true
 |_::_=>false
def cO:List AV->Nat->Nat->AV->List AV
 |[],_,_,_=>[]
 |a::l,0,0,_=>a::l
 |_::l,0,n+1,z=>z::cO l 0 n z
 |a::l,lo+1,n,z=>a::cO l lo n z
def mh(P:Program)(st:List Obj)(T:TypeId)(y:Operand)(a:AV)(K:Bool->Prop):Prop:=
 match y,P.underlying T with
 | .const (.slice none 0 0),some (.slice _)=>
  (match a with
   | .lit (.slice none 0 0)=>K true
   | .ad _ l=>(Kd l=true->K true)/\K false
   | .aB i _ n=>(match LC (an st i) with|true=>(Nat.beq n 0=true->K true)/\K false|false=>False)
   |_=>False)
 |_,_=>False
def b8 (P:Pg)(s:S)(dst:Option Tmp)(o:Op)(K:S->Prop):Prop:=
 match o with
 | .alloc T=>
  (match gG P T with
   |some z=>K (put {s with st:=s.st++[.box T z]} dst (.ptr s.st.length 0 [] 0))
   |none=>False)
 | .box T x=>
  if pU (ev s x) then
   match P.UA T with
   |true=>aP (ux P (ev s x) T) (K (put {s with st:=s.st++[.dead]} dst (.iY T (ev s x))))
   |false=>K (put {s with st:=s.st++[.box T (ev s x)]} dst (.ptr s.st.length 0 [] 0))
  else False
 | .store T p x=>pD P s T (ev s p) (ev s x) fun st=>K (put {s with st} dst .cK)
 | .buildSlice T len parts=>
  (match P.underlying T with
   | some (.slice Te)=>
    (match gG P Te with
    | some z=>
     (match ka P Te s.st (eM z len) (fh s parts.toList) with
      | some (l,is)=>
       if decide (len*P.cellsOf Te<=16777216)&&decide (0<P.cellsOf Te) then
        K (put {s with st:=cD s.st is++[.row Te l]} dst (.aB s.st.length 0 len))
       else False
      |none=>False)
    |none=>False)
   |_=>False)
 | .makeSlice T ln cp=>
  (match P.underlying T,ND (ev s ln),ND (ev s cp) with
   | some (.slice Te),some (.i64,n),some (.i64,c)=>
    (match gG P Te with
    | some z=>
     aP (decide (0<=n)&&decide (n<=c)&&decide ((c.toNat+1)*(P.bytesOf Te+1)<=sW)&&decide (0<P.cellsOf Te))
      (K (put {s with st:=s.st++[D3 P Te z n.toNat]} dst (.aB s.st.length 0 n.toNat)))
    |none=>False)
   |_,_,_=>False)
 | .makeMap T none=>
  (match P.underlying T with
   |some (.map Kt Vt)=>K (put {s with st:=s.st++[.map Kt Vt []]} dst (.mp s.st.length))
   |_=>False)
 | .mapUpdate T m k x=>
  (match P.underlying T,ev s m,ev s k,bW s.st (ev s x) with
   | some (.map Kt Vt), .mp i, .lit kv,some v=>
    (match an (cD s.st (rowsOf (ev s x))) i with
    | .map K' V' es=>
     if K'=Kt/\V'=Vt/\plainKey P Kt kv=true/\ux P v Vt=true then
      K (put {s with st:=c9 (cD s.st (rowsOf (ev s x))) i (.map Kt Vt (eX es kv v))} dst .cK)
     else False
    |_=>False)
   |_,_,_,_=>False)
 | .mapEntry T m k=>
  (match P.underlying T,ev s m,ev s k with
   | some (.map Kt Vt), .mp i, .lit kv=>
    (match an s.st i,gG P Vt with
    | .map K' V' es,some z=>
     if K'=Kt/\V'=Vt/\plainKey P Kt kv=true then
      let v:=expand P bX Vt (dO es kv z)
      K (put {s with st:=c9 s.st i (.map Kt Vt (eX es kv v))} dst (.aX [v, .jV i kv]))
     else False
    |_,_=>False)
   |_,_,_=>False)
 | .entryStore T m jV x=>
  (match P.underlying T,ev s m,ev s jV,bW s.st (ev s x) with
   | some (.map Kt Vt), .mp i, .jV j kv,some v=>
    (match an (cD s.st (rowsOf (ev s x))) i with
    | .map K' V' es=>
     if i=j/\K'=Kt/\V'=Vt/\plainKey P Kt kv=true/\ux P v Vt=true then
      K (put {s with st:=c9 (cD s.st (rowsOf (ev s x))) i (.map Kt Vt (eX es kv v))} dst .cK)
     else False
    |_=>False)
   |_,_,_,_=>False)
 | .range T x=>
  (match P.underlying T,ev s x with
   |some (.map _ _), .mp i=>
    (match an s.st i with
    | .map _ _ es=>K (put {s with st:=s.st++[.iter i es.length []]} dst (.ptr s.st.length 0 [] 0))
    |_=>False)
   |some (.map _ _), .fJ Kt Vt ks vs=>K (put {s with st:=s.st++[.fit Kt Vt ks vs []]} dst (.ptr s.st.length 0 [] 0))
   |some (.map _ _), .lit (.map none)=>K (put {s with st:=s.st++[.iter s.st.length 0 [.map none]]} dst (.ptr s.st.length 0 [] 0))
   |some .string, .lit (.string b)=>K (put {s with st:=s.st++[.dq b 0]} dst (.ptr s.st.length 0 [] 0))
   |_,_=>False)
 | .next it false=>
  (match ev s it with
   | .ptr j 0 _ 0=>
    (match an s.st j with
    | .iter i n ks=>
     (match an s.st i with
      | .map Kt Vt es=>
       aP (Nat.beq es.length n) (A4 P Kt Vt es ks (fun k v=>K (put {s with st:=c9 s.st j (.iter i n (k::ks))} dst (.aX [.lit (.bool true), .lit k,v]))) (K (put s dst (.aX [.lit (.bool false)]))))
      |_=>
       (match ks with
       |[.map none]=>K (put s dst (.aX [.lit (.bool false)]))
       |_=>False))
    | .fit Kt Vt ks vs met=>A4 P Kt Vt (ks.zip vs) met (fun k v=>K (put {s with st:=c9 s.st j (.fit Kt Vt ks vs (k::met))} dst (.aX [.lit (.bool true), .lit k,v]))) (K (put s dst (.aX [.lit (.bool false)])))
    |_=>False)
   |_=>False)
 | .next it true=>
  (match ev s it with
   | .ptr j 0 _ 0=>
    (match an s.st j with
    | .dq b p=>
     aw (Nat.blt p b.size) (K (put {s with st:=c9 s.st j (.dq b (p+(Utf8.decode b p).2))} dst (.aX [.lit (.bool true), .lit (.int .i64 p), .lit (.int .i32 (Utf8.decode b p).1)]))) (K (put s dst (.aX [.lit (.bool false)])))
    |_=>False)
   |_=>False)
 | .binOp .eql T x y _=>mh P s.st T y (ev s x) fun b=>K (put s dst (.lit (.bool b)))
 | .binOp .neq T x y _=>mh P s.st T y (ev s x) fun b=>K (put s dst (.lit (.bool (!b))))
 | .call {callee:= .builtin .clear,args,argTypes}=>
  (match mQ s args.toList,argTypes.toList with
   | [.aB i lo n],[T]=>
    (match P.underlying T,an s.st i with
    | some (.slice Te), .row Tr xs=>
     (match gG P Te with
      |some z=>if Tr=Te/\0<P.cellsOf Te then K (put {s with st:=c9 s.st i (.row Te (cO xs lo n z))} dst (.aX [])) else False
      |none=>False)
    |_,_=>False)
   |_,_=>False)
 | .entry it=>
  (match ev s it with
   | .ptr j 0 _ 0=>
    (match an s.st j with
    | .iter i n (k::_)=>
     (match an s.st i with
      | .map _ Vt es=>
       (match gG P Vt with
       |some z=>aP (Nat.beq es.length n) (K (put s dst (.aX [.lit k,expand P bX Vt (dO es k z)])))
       |none=>False)
      |_=>False)
    | .fit _ Vt ks vs (k::_)=>
     (match gG P Vt with
      |some z=>K (put s dst (.aX [.lit k,expand P bX Vt (dO (ks.zip vs) k z)]))
      |none=>False)
    |_=>False)
   |_=>False)
 | .call {callee:= .builtin .append,args,argTypes}=>
  (match mQ s args.toList,argTypes.toList with
   |[x,y],[T,T']=>if T=T' then oE P s T x y fun st a=>K (put {s with st} dst a) else False
   |_,_=>False)
 |_=>False
def wN:Nat->(Nat->Prop)->Prop
 |0,k=>k 0
 |n+1,k=>wN n fun m=>k (m+1)
def Nt:List Nat->(List Nat->Prop)->Prop
 |[],k=>k []
 |n::l,k=>wN n fun n'=>Nt l fun l'=>k (n'::l')
theorem zo: ∀(n:Nat) (k:Nat->Prop),wN n k=k n
 |0,_=>rfl
 |n+1,k=>by simp only[wN,zo n]
theorem Fe: ∀(l:List Nat) (k:List Nat->Prop),Nt l k=k l
 |[],_=>rfl
 |n::l,k=>by simp only[Nt,zo,Fe l]
mutual
def vI:AV->(AV->Prop)->Prop
 | .agg l,k=>yS l fun l'=>k (.agg l')
 | .aX l,k=>yS l fun l'=>k (.aX l')
 | .bq f l,k=>yS l fun l'=>k (.bq f l')
 | .iN T a,k=>vI a fun a'=>k (.iN T a')
 | .lit v,k=>k (.lit v)
 | .cK,k=>k .cK
 | .ad T l,k=>k (.ad T l)
 | .aB i lo n,k=>wN i fun i'=>k (.aB i' lo n)
 | .ptr i x p o,k=>wN i fun i'=>Nt p fun p'=>wN o fun o'=>k (.ptr i' x p' o')
 | .iY T a,k=>k (.iY T a)
 | .mp i,k=>wN i fun i'=>k (.mp i')
 | .de i,k=>wN i fun i'=>k (.de i')
 | .jV i x,k=>wN i fun i'=>k (.jV i' x)
 | .fJ K V ks vs,k=>k (.fJ K V ks vs)
def yS:List AV->(List AV->Prop)->Prop
 |[],k=>k []
 |a::l,k=>vI a fun a'=>yS l fun l'=>k (a'::l')
end
def PY:Obj->(Obj->Prop)->Prop
 | .dead,k=>k .dead
 | .box T a,k=>vI a fun a'=>k (.box T a')
 | .row T xs,k=>k (.row T xs)
 | .kC T xs,k=>k (.kC T xs)
 | .map K V es,k=>k (.map K V es)
 | .loop r,k=>yS r.bg fun l=>k (.loop {state:=r.state,pending:=r.pending,fn:=r.fn,bg:=l,params:=r.params,assign:=r.assign,body:=r.body})
 | .iter i n ks,k=>k (.iter i n ks)
 | .ext t,k=>k (.ext t)
 | .dq s p,k=>k (.dq s p)
 | .rows T E ls pd,k=>k (.rows T E ls pd)
 | .fit K V ks vs met,k=>k (.fit K V ks vs met)
def vW:List Obj->(List Obj->Prop)->Prop
 |[],k=>k []
 |o::l,k=>PY o fun o'=>vW l fun l'=>k (o'::l')
def BX(s:S)(k:S->Prop):Prop:=yS s.bg fun r=>vW s.st fun t=>k {bg:=r,st:=t}
mutual
theorem mu: ∀(a:AV) (k:AV->Prop),vI a k=k a
 | .agg l,k=>by simp only[vI,oq l]
 | .aX l,k=>by simp only[vI,oq l]
 | .bq f l,k=>by simp only[vI,oq l]
 | .iN T a,k=>by simp only[vI,mu a]
 | .lit _,_| .cK,_| .ad _ _,_| .aB _ _ _,_| .ptr _ _ _ _,_| .iY _ _,_| .mp _,_| .de _,_| .jV _ _,_| .fJ _ _ _ _,_=>by simp only[vI,zo,Fe]
theorem oq: ∀(l:List AV) (k:List AV->Prop),yS l k=k l
 |[],k=>by simp only[yS]
 |a::l,k=>by simp only[yS,mu a,oq l]
end
theorem Lv(o:Obj)(k:Obj->Prop):PY o k=k o:=by
 cases o<;>simp only[PY,mu,oq]
theorem kf: ∀(l:List Obj) (k:List Obj->Prop),vW l k=k l
 |[],k=>rfl
 |o::l,k=>by simp only[vW,Lv,kf l]
theorem jQ(s:S)(k:S->Prop):BX s k=k s:=by simp only[BX,oq,kf]
def MY:List AV->(List AV->Prop)->Prop
 |[],k=>k []
 |a::l,k=>MY l fun l'=>k (a::l')
def wH(K:S->Prop)(s:S):Prop:=MY s.bg fun r=>K {bg:=r,st:=s.st}
theorem E3: ∀(l:List AV) (k:List AV->Prop),MY l k=k l
 |[],_=>rfl
 |a::l,k=>by simp only[MY,E3 l]
theorem tx(K:S->Prop):wH K=K:=by
 funext s
 simp only[wH,E3]
abbrev Rec:=FuncId->Option Nat->Nat->Code->S->(Exit->S->Prop)->Prop
def bM:Nat->List AV
 |0=>[]
 |n+1=> .cK::bM n
def vq(P:Program)(s:S):List ResultVar->Option (List AV)
 |[]=>some []
 | .tmp t::l=>(match vq P s l with|some m=>some (nth s.bg t::m)|none=>none)
 | .cell a T::l=>
  (match mG P s.st T (nth s.bg a),vq P s l with
   |some (true,x),some m=>some (x::m)
   |_,_=>none)
def mr:List AV->AV
 |[a]=>a
 |l=> .aX l
def l6(E:Env)(rec:Rec)(f:FuncId)(args:List AV)(st:List Obj)(K:AV->List Obj->Prop):Prop:=
 match E.P.funcs[f]? with
 | some fn=>
  (match fn.body with
   | some c=>
    rec f none st.length c {bg:=args++bM (fn.ntmps - args.length),st} fun e s=>
     match e with
     | .normal| .ret=>(match vq E.P s fn.results.toList with|some l=>K (mr l) s.st|none=>False)
     |_=>False
   |none=>False)
 |none=>False
def pO(E:Env)(f:FuncId)(args:List AV)(st:List Obj)(K:AV->List Obj->Prop):Prop:=
 let ids:=reach st (st.length*st.length+st.length+20) (cW args) []
 let ρ:=fun i=>jt i ids 0
 let β:=iO ids st.length
 aP (oV 0 st (cW args) ids) (BX {bg:=fY ρ args,st:=gK ρ (ik st ids)} fun s=>E.call f s.bg s.st fun r sub=>vI (ll β r) fun r'=>vW (e9 st ids β sub) fun st'=>K r' st')
def wj(st:List Obj):List AV->Option (List AV×List Nat)
 |[]=>some ([],[])
 | a::l=>
  match wj st l with
  |none=>none
  |some (m,is)=>
   match a with
   | .aB _ _ _=>(match bW st a with|some b=>some (b::m,rowsOf a++is)|none=>none)
   | .agg _=>(match bW st a with|some b=>some (b::m,rowsOf a++is)|none=>none)
   |_=>some (a::m,is)
def Jw(P:Program)(Ts:List TypeId):AV->AV
 | .aX l=> .aX (pg P Ts l)
 |a=>(match Ts with|[T]=>DY P T a|_=>a)
def iP:List Tmp->List AV->List AV->List AV
 |p::ps,a::as,bg=>iP ps as (bJ bg p a)
 |_,_,bg=>bg
def iS (rec:Rec)(l:Nat)(args:List AV)(st:List Obj)(K:AV->List Obj->Prop):Prop:=
 match an st l with
 | .loop r=>
  if r.state= .ready/\r.params.size=args.length then
   rec r.fn (some l) st.length r.assign {bg:=iP r.params.toList args r.bg,st} fun e s1=>
    match e with
    | .normal=>
     (match an s1.st l with
      | .loop r1=>
       if r1.state= .ready then
        rec r.fn (some l) st.length r.body {s1 with st:=c9 s1.st l (.loop {r1 with state:= .busy})} fun e2 s2=>
         match an s2.st l with
         | .loop r2=>
          (match e2 with
          | .normal=>K (.lit (.bool true)) (c9 s2.st l (.loop {r2 with state:= .ready,pending:=none}))
          | .ret=>K (.lit (.bool false)) (c9 s2.st l (.loop {r2 with state:= .done,pending:=some .ret}))
          | .exit id=>K (.lit (.bool false)) (c9 s2.st l (.loop {r2 with state:= .done,pending:=some (.exit id)}))
          |_=>False)
         |_=>False
       else False
      |_=>False)
    |_=>False
  else False
 |_=>False
def Ix:List Nat->Bool
 |[]=>true
 |_=>false
def zy(l:Nat)(todo:Option (List AV))(args:List AV)(st:List Obj)(K:AV->List Obj->Prop):Prop:=
 match todo,wj st args with
 |some xs,some (as,is)=>
  aP (Ix (cW as)) (∃rest,xs= .aX as::rest/\K (.lit (.bool true)) (c9 (cD st is) l (.ext (some rest)))/\K (.lit (.bool false)) (c9 (cD st is) l (.ext none)))
 |_,_=>False
def nC(E:Env)(rec:Rec)(g:AV)(args:List AV)(st:List Obj)(K:AV->List Obj->Prop):Prop:=
 match g with
 | .bq f caps=>
  if E.inl f then l6 E rec f (args++caps) st K
  else if E.own f then pO E f (args++caps) st K
  else
   (match wj st (args++caps) with
    |some (as,is)=>pO E f (pg E.P (ku E.P f) as) (cD st is) K
    |none=>False)
 | .de l=>
  (match an st l with
   | .ext t=>zy l t args st K
   |_=>iS rec l args st K)
 |_=>False
def eo(s:S)(t:Option Tmp)(b:Bool):S:=
 match t with
 |none=>s
 |some d=>{s with bg:=bJ s.bg d (.lit (.bool b))}
def mH:List Oper->Nat->Option Tmp
 |[],_=>none
 |o::_,0=>o.dst
 |_::l,n+1=>mH l n
def qY:Operand->Option Tmp
 | .tmp t=>some t
 |_=>none
def gi(s:S):Op->Option (AV×List AV)
 | .call {callee:= .value g,args, .. }=>some (ev s g,mQ s args.toList)
 |_=>none
def M1(E:Env)(rec:Rec)(s:S)(dst:Option Tmp)(o:Op)(K:S->Prop):Prop:=
 match bF E s o with
 |some (c,a)=>aP c (K (put s dst a))
 | none=>
  match o with
  | .pick c a b=>
   (match ev s c with
    | .lit (.bool t)=>aw t (K (put (eo s (qY c) true) dst (ev s a))) (K (put (eo s (qY c) false) dst (ev s b)))
    |_=>False)
  |o=>
   match gi s o with
   |some (g,args)=>nC E rec g args s.st fun a st=>K (put {s with st} dst a)
   |none=>b8 E.P s dst o K
def nr(E:Env)(rec:Rec)(ops:List Oper):List Oper->S->(S->Prop)->Prop
 |[],s,K=>K s
 | o :: l, s, K=>
  match o.guard with
  |none=>M1 E rec s o.dst o.op fun s'=>nr E rec ops l s' K
  | some (j, want)=>
   match mH ops j with
   |none=>False
   | some t=>
    match nth s.bg t with
    | .lit (.bool b)=>
     match want with
     |true=>aw b (M1 E rec (eo s (some t) true) o.dst o.op fun s'=>nr E rec ops l s' K)
             (nr E rec ops l (put (eo s (some t) false) o.dst (.aX [])) K)
     |false=>aw b (nr E rec ops l (put (eo s (some t) true) o.dst (.aX [])) K)
              (M1 E rec (eo s (some t) false) o.dst o.op fun s'=>nr E rec ops l s' K)
    | .aX []=>nr E rec ops l (put s o.dst (.aX [])) K
    |_=>False
def pE:Option Operand->List Operand
 |none=>[]
 |some x=>[x]
def opsOf:Op->List Operand
 | .move x| .assign x| .load _ x| .nilCheck x| .unOp _ _ x| .fieldAddr _ x _| .field _ x _| .extract x _| .box _ x| .makeInterface _ x| .convert _ _ x=>[x]
 | .pick c a b=>[c,a,b]
 | .binOp _ _ x y _| .indexAddr _ x y| .index _ x y| .lookup _ x y _| .store _ x y| .makeSlice _ x y| .mapEntry _ x y=>[x,y]
 | .slice _ x lo hi m=>x::(pE lo++pE hi++pE m)
 | .makeFunc _ _ caps=>caps.toList
 | .build _ ps| .buildSlice _ _ ps=>ps.toList.map (·.2)
 | .mapUpdate _ x y z| .entryStore _ x y z=>[x,y,z]
 | .range _ x| .next x _| .entry x=>[x]
 | .call {callee:= .value g,args, .. }=>g::args.toList
 | .call {args, .. }=>args.toList
 |_=>[]
def He:List Operand->Bool
 |[]=>true
 | .const _::l=>He l
 |_=>false
def eb(quiet:FuncId->Bool):Op->Nat
 | .move _| .assign _| .binOp .. | .unOp .. | .extract .. | .makeFunc .. | .pick .. | .makeInterface .. | .field .. | .build .. | .index .. =>0
 | .load .. | .nilCheck _| .convert .. | .slice .. | .fieldAddr .. | .indexAddr .. | .lookup .. =>1
 | .call {callee:= .builtin .len, .. }=>1
 | .call {callee:= .builtin .min, .. }=>1
 | .call {callee:= .builtin .max, .. }=>1
 | .call {callee:= .value (.func f),args, .. }=>bif quiet f then(bif He args.toList then 0 else 1) else 2
 |_=>2
def qC:List Obj->List Obj->Prop
 |[],_=>True
 |_::_,[]=>False
 | .box T a::l,o::l'=>o= .box T a/\qC l l'
 | .rows T E ls pd::l,o::l'=>o= .rows T E ls pd/\qC l l'
 |_::l,_::l'=>qC l l'
def U9(b:Bool)(st st':List Obj)(p:Prop):Prop:=
 match b with
 |true=>qC st st'/\p
 |false=>p
def Gs(E:Env)(g:AV)(args:List AV)(st:List Obj):Bool:=
 match g with
 | .bq f caps=>!E.inl f&& !E.own f&&(match wj st (args++caps) with
  |some (as,[])=>Ix (cW (pg E.P (ku E.P f) as))
  |_=>false)
 |_=>false
def ug(calm:FuncId->Bool):Op->Bool
 | .call {callee:= .value (.func f), .. }=>calm f
 |_=>false
def sR(E:Env)(rec:Rec)(s:S)(dst:Option Tmp)(o:Op)(K:S->Prop):Prop:=
 match eb E.quiet o with
 | 2=>
  (match gi s o with
   |some (g,args)=>nC E rec g args s.st fun a st=>U9 (ug E.calm o&& !Gs E g args s.st) s.st st (K (put {s with st} dst a))
   |none=>b8 E.P s dst o K)
 | _ =>
  (match bF E s o with
   |some (c,a)=>aP c (K (put s dst a))
   | none=>
    (match o with
    | .pick c a b=>
     (match ev s c with
      | .lit (.bool t)=>aw t (K (put (eo s (qY c) true) dst (ev s a))) (K (put (eo s (qY c) false) dst (ev s b)))
      |_=>False)
    |_=>False))
def dd(E:Env)(rec:Rec)(ops:List Oper)(o:Oper)(s:S)(K:S->Prop):Prop:=
 match o.guard with
 |none=>sR E rec s o.dst o.op K
 | some (j,want)=>
  match mH ops j with
  |none=>False
  | some t=>
   match nth s.bg t with
   | .lit (.bool b)=>
    match want with
    |true=>aw b (sR E rec (eo s (some t) true) o.dst o.op K) (K (put (eo s (some t) false) o.dst (.aX [])))
    |false=>aw b (K (put (eo s (some t) true) o.dst (.aX []))) (sR E rec (eo s (some t) false) o.dst o.op K)
   | .aX []=>K (put s o.dst (.aX []))
   |_=>False
def gI:Nat->List Bool
 |0=>[]
 |n+1=>false::gI n
def eZ:List Bool->Nat->Bool
 |[],_=>true
 |b::_,0=>b
 |_::l,n+1=>eZ l n
def eU:List Bool->Nat->List Bool
 |[],_=>[]
 |_::l,0=>true::l
 |b::l,n+1=>b::eU l n
def kG(listed:List Bool):List Edge->Bool
 |[]=>true
 |e::l=>(!Region.binds .any e||(Nat.blt e.on listed.length&&eZ listed e.on))&&kG listed l
def jz(listed:List Bool):List Oper->Nat->List (Nat×Oper)
 |[],_=>[]
 |o::l,i=>bif !eZ listed i&&kG listed o.after.toList then(i,o)::jz listed l (i+1) else jz listed l (i+1)
def xh(t:Nat):List Operand->Bool
 |[]=>false
 | .tmp u::l=>Nat.beq t u||xh t l
 |_::l=>xh t l
def zi(ops:List Oper)(o:Oper)(t:Nat):Bool:=
 xh t (opsOf o.op)||(match o.guard with|none=>false|some (j,_)=>(match mH ops j with|none=>false|some u=>Nat.beq t u))
def zY(ops:List Oper)(o:Oper):Option Tmp->Bool
 |none=>false
 |some t=>zi ops o t
def vv:Option Tmp->Option Tmp->Bool
 |some t,some u=>!Nat.beq t u
 |_,_=>true
def rC(ops:List Oper)(a b:Oper):Bool:=
 !zY ops b a.dst&& !zY ops a b.dst&&vv a.dst b.dst
def Bl:Op->Bool
 | .alloc _| .box _ _| .makeSlice .. | .makeMap _ none=>true
 |_=>false
def vl(quiet:FuncId->Bool)(ops:List Oper)(a b:Oper):Bool:=
 rC ops a b&&(match eb quiet a.op with|0=>true|1=>Nat.blt (eb quiet b.op) 2||Bl b.op|_=>false)
def wP(acc:List Nat):List Edge->Bool
 |[]=>false
 |e::l=>(Region.binds .any e&&gL e.on acc)||wP acc l
def fwd:List Oper->Nat->List Nat->List Nat
 |[],_,acc=>acc
 |o::l,j,acc=>bif wP acc o.after.toList then fwd l (j+1) (j::acc) else fwd l (j+1) acc
def xj(quiet:FuncId->Bool)(ops:List Oper)(listed:List Bool)(i:Nat)(o:Oper)(fs:List Nat):List Oper->Nat->Bool
 |[],_=>true
 |b::l,j=>(Nat.beq i j||eZ listed j||gL j fs||vl quiet ops o b)&&xj quiet ops listed i o fs l (j+1)
def nI(quiet:FuncId->Bool)(ops:List Oper)(listed:List Bool):List (Nat×Oper)->Option (Nat×Oper)
 |[]=>none
 |(i,o)::l=>bif xj quiet ops listed i o (fwd ops 0 [i]) ops 0 then some (i,o) else nI quiet ops listed l
def jB:Obj->Bool
 | .box _ _=>true
 |_=>false
def yV:Obj->Bool
 | .rows _ _ _ _=>true
 |_=>false
def nf(s:S)(o:Oper):Bool:=
 match o.guard,o.op with
 |none, .load _ x=>(match ev s x with| .ptr k _ _ _=>jB (an s.st k)| .iY _ _=>true| .lit _=>true|_=>false)
 |none, .call {callee:= .builtin .len,args, .. }=>(match mQ s args.toList with|[.ad _ _]=>true|_=>false)
 |none, .nilCheck x=>(match ev s x with| .ptr k _ _ _=>jB (an s.st k)|_=>false)
 |none, .fieldAddr _ x _=>(match ev s x with| .ptr k _ _ _=>jB (an s.st k)|_=>false)
 |none, .indexAddr _ x _=>(match ev s x with| .aB k 0 _=>yV (an s.st k)|_=>false)
 |_,_=>false
def wV:Op->Bool
 | .alloc _| .box _ _| .makeMap _ none=>true
 | .buildSlice .. =>true
 | .makeSlice .. =>true
 | .call {callee:= .builtin .append, .. }=>true
 |_=>false
def vD(quiet calm:FuncId->Bool)(ops:List Oper)(a b:Oper):Bool:=
 rC ops a b&&(Nat.blt (eb quiet b.op) 2||wV b.op||ug calm b.op)
def x5(quiet calm:FuncId->Bool)(ops:List Oper)(listed:List Bool)(i:Nat)(o:Oper)(fs:List Nat):List Oper->Nat->Bool
 |[],_=>true
 |b::l,j=>(Nat.beq i j||eZ listed j||gL j fs||vD quiet calm ops o b)&&x5 quiet calm ops listed i o fs l (j+1)
def AB(quiet calm:FuncId->Bool)(ops:List Oper)(listed:List Bool)(s:S):List (Nat×Oper)->Option (Nat×Oper)
 |[]=>none
 |(i,o)::l=>bif nf s o&&x5 quiet calm ops listed i o (fwd ops 0 [i]) ops 0 then some (i,o) else AB quiet calm ops listed s l
def nh(P:Program)(s:S)(o:Oper):Option (Option TypeId):=
 match o.guard,o.op with
 | none, .load T x=>
  (match ev s x with
   | .ptr k _ path _=>(match an s.st k with| .box Tb _=>bif tK P Tb path T&& !dK P T then some (some T) else none|_=>none)
   |_=>none)
 |none, .nilCheck x=>(match ev s x with| .ptr k _ _ _=>bif jB (an s.st k) then some none else none|_=>none)
 |none, .fieldAddr _ x _=>(match ev s x with| .ptr k _ _ _=>bif jB (an s.st k) then some none else none|_=>none)
 |_,_=>none
def yO(P:Program):Option TypeId->Op->Bool
 |none, .store _ _ _=>true
 |some T, .store U _ _=>!Nat.beq U T&& !dK P U
 |_,_=>false
def uN(P:Program)(quiet calm:FuncId->Bool)(T:Option TypeId)(ops:List Oper)(a b:Oper):Bool:=
 rC ops a b&&(Nat.blt (eb quiet b.op) 2||wV b.op||ug calm b.op||yO P T b.op)
def vM(P:Program)(quiet calm:FuncId->Bool)(T:Option TypeId)(ops:List Oper)(listed:List Bool)(i:Nat)(o:Oper)(fs:List Nat):List Oper->Nat->Bool
 |[],_=>true
 |b::l,j=>(Nat.beq i j||eZ listed j||gL j fs||uN P quiet calm T ops o b)&&vM P quiet calm T ops listed i o fs l (j+1)
def sG(P:Program)(quiet calm:FuncId->Bool)(ops:List Oper)(listed:List Bool)(s:S):List (Nat×Oper)->Option (Nat×Oper)
 |[]=>none
 |(i,o)::l=>match nh P s o with
  |some T=>bif vM P quiet calm T ops listed i o (fwd ops 0 [i]) ops 0 then some (i,o) else sG P quiet calm ops listed s l
  |none=>sG P quiet calm ops listed s l
def GQ(p:Nat->Oper->Prop):List (Nat×Oper)->Prop
 |[]=>True
 |[(i,o)]=>p i o
 |(i,o)::l=>p i o/\GQ p l
def mN(E:Env)(rec:Rec)(ops:List Oper):Nat->List Bool->S->(S->Prop)->Prop
 |0,listed,s,K=>match jz listed ops 0 with|[]=>K s|_=>False
 | n +1,listed,s,K=>
  match jz listed ops 0 with
  |[]=>K s
  | r=>
   match nI E.quiet ops listed r with
   |some (i,o)=>dd E rec ops o s fun s'=>mN E rec ops n (eU listed i) s' K
   | none=>
    match AB E.quiet E.calm ops listed s r with
    |some (i,o)=>dd E rec ops o s fun s'=>mN E rec ops n (eU listed i) s' K
    |none=>
     match bif E.calm 888888 then sG E.P.toProgram E.quiet E.calm ops listed s r else none with
     |some (i,o)=>dd E rec ops o s fun s'=>mN E rec ops n (eU listed i) s' K
     |none=>GQ (fun i o=>dd E rec ops o s fun s'=>mN E rec ops n (eU listed i) s' K) r
def VJ(p:S->(Exit->S->Prop)->Prop)(K:Exit->S->Prop):Exit->S->Prop
 | .normal,s=>p s K
 |e,s=>K e s
def yQ(id:Nat)(K:Exit->S->Prop):Exit->S->Prop
 | .exit i,s=>bif Nat.beq i id then K .normal s else K (.exit i) s
 |e,s=>K e s
def OP(K:Exit->S->Prop):Exit->S->Prop
 | .goto _,_=>False
 |e,s=>K e s
def lh:Code->Option Nat
 | .region id _ _=>some id
 | .seq a b=>(match lh a with|some n=>some n|none=>lh b)
 | .block _ c| .scope c| .loop c=>lh c
 | .cond _ a b=>(match lh a with|some n=>some n|none=>lh b)
 | .rangeFunc _ _ a _=>lh a
 |_=>none
def px(l:Nat)(s:S)(K:Exit->S->Prop)(st:List Obj):Prop:=
 match an st l with
 | .loop r=>
  (match r.state,r.pending with
   | .busy,_=>False
   |_,none=>K .normal {s with st:=c9 st l .dead}
   |_,some .ret=>K .ret {s with st:=c9 st l .dead}
   |_,some (.exit id)=>K (.exit id) {s with st:=c9 st l .dead}
   |_,_=>False)
 |_=>False
def Cf(rd:Option Nat)(st:List Obj):Bool:=
 match rd with
 |none=>true
 |some l=>match an st l with| .loop _=>true|_=>false
def jH(E:Env)(rec:Rec)(f:FuncId)(rd:Option Nat)(base:Nat):Code->S->(Exit->S->Prop)->Prop
 | .skip,s,K=>K .normal s
 | .label _,s,K=>K .normal s
 | .region _ ops false,s,K=>nr E rec ops.toList ops.toList s (wH (K .normal))
 | .region _ ops true,s,K=>mN E rec ops.toList ops.toList.length (gI ops.toList.length) s (wH (K .normal))
 | .seq a b,s,K=>jH E rec f rd base a s (VJ (jH E rec f rd base b) K)
 | .cond c x y,s,K=>
  match ev s c with
  | .lit (.bool t)=>aw t (jH E rec f rd base x (eo s (qY c) true) K) (jH E rec f rd base y (eo s (qY c) false) K)
  |_=>False
 | .block id c,s,K=>jH E rec f rd base c s (yQ id K)
 | .loop c,s,K=>
  match lh c with
  |some n=>aP (ji E.P (E.live f n) base s) (BX (canon E.P (E.live f n) base s) fun s'=>E.loop f n c rd base s' K)
  |none=>False
 | .rangeFunc g ps asg body,s,K=>
  match ev s g with
  | .bq f' caps=>
   aP (Cf rd s.st) (match E.gen f' with
    |true=>E.kW f (match lh asg with|some n=>n|none=>0) f' caps
     (s.st++[.loop {state:= .ready,pending:=none,fn:=f,bg:=s.bg,params:=ps,assign:=asg,body:=body}]) (px s.st.length s K)
    |false=>l6 E rec f' (.de s.st.length::caps)
     (s.st++[.loop {state:= .ready,pending:=none,fn:=f,bg:=s.bg,params:=ps,assign:=asg,body:=body}])
     fun _ st=>px s.st.length s K st)
  |_=>False
 | .exit id,s,K=>K (.exit id) s
 | .goto _,_,_=>False
 | .scope c,s,K=>jH E rec f rd base c s (OP K)
 | .ret,s,K=>K .ret s
 | .refuse _,_,_=>False
def vc(E:Env):Nat->Rec
 |0=>fun _ _ _ _ _ _=>False
 |n+1=>fun f rd base c s K=>jH E (vc E n) f rd base c s K
end Go.Dn
