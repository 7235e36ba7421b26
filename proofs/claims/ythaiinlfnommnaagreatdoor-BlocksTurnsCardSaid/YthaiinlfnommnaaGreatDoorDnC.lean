import Derived.Test.YthaiinlfnommnaaGreatDoorDnB
namespace Go.Dn
open Go
mutual
def refs:AV->List Nat
 | .aq i _ _=>[i]
 | .ptr i _ _ _=>[i]
 | .mp i=>[i]
 | .cD i=>[i]
 | .kq i _=>[i]
 | .agg l=>cZ l
 | .bh l=>cZ l
 | .bL _ l=>cZ l
 | .jj _ a=>refs a
 |_=>[]
def cZ:List AV->List Nat
 |[]=>[]
 |a::l=>refs a++cZ l
end
def x0:Obj->List Nat
 | .box _ a=>refs a
 | .loop r=>cZ r.bp
 | .iter i _ _=>[i]
 |_=>[]
def jk(i:Nat):List Nat->Bool
 |[]=>false
 |j::l=>Nat.beq i j||jk i l
def reach(st:List Obj):Nat->List Nat->List Nat->List Nat
 |0,_,acc=>acc
 |_+1,[],acc=>acc
 |n+1,i::todo,acc=>
  bif jk i acc then reach st n todo acc else reach st n (x0 (ax st i)++todo) (acc++[i])
def jL(i:Nat):List Nat->Nat->Option Nat
 |[],_=>none
 |j::l,n=>bif Nat.beq i j then some n else jL i l (n+1)
mutual
def lB(ρ:Nat->Option Nat):AV->AV
 | .aq i lo n=>(match ρ i with|some j=> .aq j lo n|none=> .cH)
 | .ptr i k p o=>(match ρ i with|some j=> .ptr j k p o|none=> .cH)
 | .mp i=>(match ρ i with|some j=> .mp j|none=> .cH)
 | .cD i=>(match ρ i with|some j=> .cD j|none=> .cH)
 | .kq i k=>(match ρ i with|some j=> .kq j k|none=> .cH)
 | .agg l=> .agg (fS ρ l)
 | .bh l=> .bh (fS ρ l)
 | .bL f l=> .bL f (fS ρ l)
 | .jj T a=> .jj T (lB ρ a)
 |a=>a
def fS(ρ:Nat->Option Nat):List AV->List AV
 |[]=>[]
 |a::l=>lB ρ a::fS ρ l
end
def fh(ρ:Nat->Option Nat):Obj->Obj
 | .box T a=> .box T (lB ρ a)
 | .loop r=> .loop {r with bp:=fS ρ r.bp}
 | .iter i n ks=> .iter (match ρ i with|some j=>j|none=>i) n ks
 |o=>o
def gR(st:List Obj):List Nat->List Obj
 |[]=>[]
 |i::l=>ax st i::gR st l
def gq(ρ:Nat->Option Nat):List Obj->List Obj
 |[]=>[]
 |o::l=>fh ρ o::gq ρ l
def upto:Nat->List Nat
 |0=>[]
 |n+1=>upto n++[n]
def ji(ids:List Nat)(n:Nat)(j:Nat):Option Nat:=
 match idN ids j with
 |some i=>some i
 |none=>some (n+(j - ids.length))
where
 idN:List Nat->Nat->Option Nat
  |[],_=>none
  |i::_,0=>some i
  |_::l,k+1=>idN l k
def fg(st:List Obj)(ids:List Nat)(ρ:Nat->Option Nat):List Obj->List Obj
 |sub=>go st ids sub
where
 go:List Obj->List Nat->List Obj->List Obj
  |st,i::ids,o::sub=>go (df st i (fh ρ o)) ids sub
  |st,[],sub=>st++gq ρ sub
  |st,_::_,[]=>st
def fQ(live:List (Nat×Option TypeId)):List AV->Nat->List AV
 |[],_=>[]
 |a::l,n=>(bif memL n live then a else .cH)::fQ live l (n+1)
where
 memL (n:Nat):List (Nat×Option TypeId)->Bool
  |[]=>false
  |(j,_)::l=>Nat.beq n j||memL n l
def OT:Nat:=1000000000
def ka:List (Nat×Option TypeId)->S->S
 |[],s=>s
 |(_,none)::l,s=>ka l s
 | (r,some T)::l,s=>
  match nth s.bp r with
  | .lit (.slice none 0 0)=>
   (match Nat.ble OT T with
    |true=>ka l {bp:=cg s.bp r (.ad (T - OT) []),st:=s.st}
    |false=>ka l {bp:=cg s.bp r (.aq s.st.length 0 0),st:=s.st++[.row T []]})
  |_=>ka l s
def D9(P:Program)(i:Nat)(s:S):S:=
 match ax s.st i with
 | .box Tb (.lit (.slice none 0 0))=>
  match P.underlying Tb with
  |some (.slice Te)=>{s with st:=df s.st i (.box Tb (.aq s.st.length 0 0))++[.row Te []]}
  |_=>s
 |_=>s
def nt(P:Program):List Nat->S->S
 |[],s=>s
 |i::l,s=>nt P l (D9 P i s)
def RT(i j:Nat)(T:TypeId)(st:List Obj):List Obj:=
 match ax st i with
 | .box Tb (.agg fs)=>
  match nth fs j with
  | .lit (.slice none 0 0)=>df st i (.box Tb (.agg (cg fs j (.aq st.length 0 0))))++[.row T []]
  |_=>st
 |_=>st
def o6:List (Nat×Nat×TypeId)->List Obj->List Obj
 |[],st=>st
 |(i,j,T)::l,st=>o6 l (RT i j T st)
def zt:List (Nat×Option TypeId)->List (Nat×Nat×TypeId)
 |[]=>[]
 |(r,t)::l=>match Nat.ble 1000 r,t with
  |true,some T=>((r - 1000) / 64,(r - 1000) % 64,T)::zt l
  |_,_=>zt l
def wD(st:List Obj):List Nat->List Nat
 |[]=>[]
 |i::l=>x0 (ax st i)++wD st l
def ic(base:Nat)(st:List Obj)(roots:List Nat):List Nat:=
 reach st (st.length*st.length+st.length+20) (wD st (upto base)++roots) (upto base)
def CD(ids:List Nat):List Nat->Bool
 |[]=>true
 |i::l=>jk i ids&&CD ids l
def Fm(n:Nat):List Nat->Bool
 |[]=>true
 |i::l=>decide (i<n)&&Fm n l
def zr:List Nat->Bool
 |[]=>true
 |i::l=>!jk i l&&zr l
def tB(ids:List Nat):List Nat->Bool
 |[]=>true
 |i::l=>(match jL i ids 0 with|some j=>Nat.beq i j|none=>false)&&tB ids l
def pj(base:Nat)(st:List Obj)(roots ids:List Nat):Bool:=
 zr ids&&Fm st.length ids&&tB ids (upto base)&&CD ids roots&&CD ids (wD st ids)
def yX(l:List (Nat×Nat×TypeId))(s:S):S:=
 match l with
 |[]=>s
 |_=>{s with st:=o6 l s.st}
def ie(P:Program)(live:List (Nat×Option TypeId))(s:S):S:=
 let s1:=ka live {s with bp:=fQ live s.bp 0}
 yX (zt live) (nt P (upto s1.st.length) s1)
def jB(P:Program)(live:List (Nat×Option TypeId))(base:Nat)(s:S):Bool:=
 pj base (ie P live s).st (cZ (ie P live s).bp) (ic base (ie P live s).st (cZ (ie P live s).bp))
def tI(ids:List Nat)(s:S):S:=
 {bp:=fS (fun i=>jL i ids 0) s.bp,st:=gq (fun i=>jL i ids 0) (gR s.st ids)}
def canon(P:Program)(live:List (Nat×Option TypeId))(base:Nat)(s:S):S:=
 tI (ic base (ie P live s).st (cZ (ie P live s).bp)) (ie P live s)
def Hd(P:Program)(T:TypeId):List AV->Bool
 |[]=>true
 |a::l=>AO P a T&&Hd P T l
def s8:Nat:=70368744177664
def nW(Ty:Option TypeId)(Te:TypeId):Bool:=
 match Ty with
 |none=>true
 |some U=>U==Te
def qT(P:Program)(E:TypeId):Bool:=
 match P.underlying E with
 |some (.int _)|some .bool|some .string=>P.cellsOf E==1
 |_=>false
def iz:List AV->Option (List Value)
 |[]=>some []
 | .lit v::l=>(match iz l with|some m=>some (v::m)|none=>none)
 |_=>none
def oV (P:Program)(s:S)(T:TypeId)(x y:AV)(K:List Obj->AV->Prop):Prop:=
 match P.underlying T with
 | some (.slice Te)=>
  match ow s.st y,gM P Te with
  | some (Ty,ys),some _=>
   match nW Ty Te&&decide (0<P.cellsOf Te) with
   |false=>False
   | true=>
    match x with
    | .lit (.slice none 0 0)=>
     a7 (decide ((ys.length+1)*(P.bytesOf Te+1)<=s8)) (K (s.st++[.row Te ys]) (.aq s.st.length 0 ys.length))
    | .aq i lo n=>
     match ax s.st i with
     | .row Tr xs=>
      if Tr=Te/\lo=0 then
       a7 (decide ((n+ys.length+1)*(P.bytesOf Te+1)<=s8))
        (K (df s.st i .dead++[.row Te ((xs.take n)++ys)]) (.aq s.st.length 0 (n+ys.length)))
      else False
     | .rows Tr E ls none=>
      match lo,iz ys with
      | k+1,some vs=>
       if E=Te/\Hd P Te ys=true then
        a7 (decide (n=(bW ls k).length)&&decide ((n+ys.length+1)*(P.bytesOf Te+1)<=s8))
         (K (df s.st i (.rows Tr E (jC ls k (bW ls k++vs)) (some k))) (.aq i (Nat.succ k) (n+ys.length)))
       else False
      |_,_=>False
     |_=>False
    |_=>False
  |_,_=>False
 |_=>False
def jl(P:Program):TypeId->List Nat->Option TypeId
 |T,[]=>some T
 |T,j::p=>match mf (fieldsOf P T) j with
  |some fd=>jl P fd.type p
  |none=>none
def vf(P:Program)(Tb:TypeId)(path:List Nat)(T:TypeId):Bool:=
 match jl P Tb path with
 |some U=>Nat.beq U T
 |none=>false
def pE(P:Program)(s:S)(T:TypeId)(p x:AV)(K:List Obj->Prop):Prop:=
 match p with
 | .ptr i k path off=>
  match ax s.st i with
  | .box Tb a=>
   if mY a path&&gW a path==off&&wid x==P.cellsOf T&&wid (mz a path)==P.cellsOf T&&pB x&&(P.underlying T).isSome&&vf P Tb path T then K (df s.st i (.box Tb (fJ a path x))) else False
  | .row _ _=>
   match ck s.st x,ax (cP s.st (rowsOf x)) i with
   | some x', .row Tr xs=>
    if mY (expand P cj Tr (nth xs k)) path&&gW (expand P cj Tr (nth xs k)) path==off&&wid x'==P.cellsOf T&&wid (mz (expand P cj Tr (nth xs k)) path)==P.cellsOf T&&
      AO P (fJ (expand P cj Tr (nth xs k)) path x') Tr&&pB x'&&(P.underlying T).isSome then
     K (df (cP s.st (rowsOf x)) i (.row Tr (cg xs k (fJ (expand P cj Tr (nth xs k)) path x'))))
    else False
   |_,_=>False
  | .rows Tr E ls (some kp)=>
   (match path,off,x with
    |[],0, .aq j (k'+1) m=>if j=i/\T=Tr then a7 (decide (k=kp)&&decide (k'=kp)&&decide (m=(bW ls k).length)) (K (df s.st i (.rows Tr E ls none))) else False
    |_,_,_=>False)
  |_=>False
 |_=>False
def fM(a:AV)(n:Nat):List AV:=List.replicate n a
def Gy(P:Program)(Te:TypeId)(z:AV)(n:Nat):Obj:=
 match P.underlying Te,z with
 |some (.slice E), .lit (.slice none 0 0)=>if qT P E=true/\P.cellsOf Te=1 then .rows Te E (List.replicate n []) none else .row Te (fM z n)
 |_,_=> .row Te (fM z n)
def kH(P:Program)(T:TypeId)(st:List Obj):List AV->List (Nat×AV)->Option (List AV×List Nat)
 |l,[]=>some (l,[])
 | l,(i,x)::ps=>
  match ck st x with
  | some x'=>
   if AO P x' T&&decide (i<l.length) then
    match kH P T st (cg l i x') ps with
    |some (m,is)=>some (m,rowsOf x++is)
    |none=>none
   else none
  |none=>none
def jU:List Value->Value->Bool
 |[],_=>false
 |k'::l,k=>di k' k||jU l k
def j7(ks:List Value):List (Value×AV)->Bool
 |[]=>true
 |(k,_)::es=>jU ks k&&j7 ks es
def Cu(P:Program)(Kt Vt:TypeId)(es:List (Value×AV))(ks:List Value)(p:Value->AV->Prop)(q:Prop):Prop:=
 (match P.underlying Kt with
  |some (.int κ)=>∀n v,(Value.int κ n,v)∈es->jU ks (.int κ n)=false->p (.int κ n) (expand P cj Vt v)
  |some .string=>∀t v,(Value.string t,v)∈es->jU ks (.string t)=false->p (.string t) (expand P cj Vt v)
  |_=>False)/\(j7 ks es=true->q)
def RH:List AV->Bool
 |[]=>true
 |_::_=>false
def dN:List AV->Nat->Nat->AV->List AV
 |[],_,_,_=>[]
 |a::l,0,0,_=>a::l
 |_::l,0,n+1,z=>z::dN l 0 n z
 |a::l,lo+1,n,z=>a::dN l lo n z
def mO(P:Program)(st:List Obj)(T:TypeId)(y:Operand)(a:AV)(K:Bool->Prop):Prop:=
 match y,P.underlying T with
 | .const (.slice none 0 0),some (.slice _)=>
  (match a with
   | .lit (.slice none 0 0)=>K true
   | .ad _ l=>(RH l=true->K true)/\K false
   | .aq i _ n=>(match O2 (ax st i) with|true=>(Nat.beq n 0=true->K true)/\K false|false=>False)
   |_=>False)
 |_,_=>False
def cr (P:Program)(s:S)(dst:Option Tmp)(o:Op)(K:S->Prop):Prop:=
 match o with
 | .alloc T=>
  (match gM P T with
   |some z=>K (put {s with st:=s.st++[.box T z]} dst (.ptr s.st.length 0 [] 0))
   |none=>False)
 | .box T x=>if pB (ev s x) then K (put {s with st:=s.st++[.box T (ev s x)]} dst (.ptr s.st.length 0 [] 0)) else False
 | .store T p x=>pE P s T (ev s p) (ev s x) fun st=>K (put {s with st} dst .cH)
 | .buildSlice T len parts=>
  (match P.underlying T with
   | some (.slice Te)=>
    (match gM P Te with
    | some z=>
     (match kH P Te s.st (fM z len) (fp s parts.toList) with
      | some (l,is)=>
       if decide (len*P.cellsOf Te<=16777216)&&decide (0<P.cellsOf Te) then
        K (put {s with st:=cP s.st is++[.row Te l]} dst (.aq s.st.length 0 len))
       else False
      |none=>False)
    |none=>False)
   |_=>False)
 | .makeSlice T ln cp=>
  (match P.underlying T,Pv (ev s ln),Pv (ev s cp) with
   | some (.slice Te),some (.i64,n),some (.i64,c)=>
    (match gM P Te with
    | some z=>
     a7 (decide (0<=n)&&decide (n<=c)&&decide ((c.toNat+1)*(P.bytesOf Te+1)<=s8)&&decide (0<P.cellsOf Te))
      (K (put {s with st:=s.st++[Gy P Te z n.toNat]} dst (.aq s.st.length 0 n.toNat)))
    |none=>False)
   |_,_,_=>False)
 | .makeMap T none=>
  (match P.underlying T with
   |some (.map Kt Vt)=>K (put {s with st:=s.st++[.map Kt Vt []]} dst (.mp s.st.length))
   |_=>False)
 | .mapUpdate T m k x=>
  (match P.underlying T,ev s m,ev s k,ck s.st (ev s x) with
   | some (.map Kt Vt), .mp i, .lit kv,some v=>
    (match ax (cP s.st (rowsOf (ev s x))) i with
    | .map K' V' es=>
     if K'=Kt/\V'=Vt/\plainKey P Kt kv=true/\AO P v Vt=true then
      K (put {s with st:=df (cP s.st (rowsOf (ev s x))) i (.map Kt Vt (eR es kv v))} dst .cH)
     else False
    |_=>False)
   |_,_,_,_=>False)
 | .mapEntry T m k=>
  (match P.underlying T,ev s m,ev s k with
   | some (.map Kt Vt), .mp i, .lit kv=>
    (match ax s.st i,gM P Vt with
    | .map K' V' es,some z=>
     if K'=Kt/\V'=Vt/\plainKey P Kt kv=true then
      let v:=expand P cj Vt (dp es kv z)
      K (put {s with st:=df s.st i (.map Kt Vt (eR es kv v))} dst (.bh [v, .kq i kv]))
     else False
    |_,_=>False)
   |_,_,_=>False)
 | .entryStore T m kq x=>
  (match P.underlying T,ev s m,ev s kq,ck s.st (ev s x) with
   | some (.map Kt Vt), .mp i, .kq j kv,some v=>
    (match ax (cP s.st (rowsOf (ev s x))) i with
    | .map K' V' es=>
     if i=j/\K'=Kt/\V'=Vt/\plainKey P Kt kv=true/\AO P v Vt=true then
      K (put {s with st:=df (cP s.st (rowsOf (ev s x))) i (.map Kt Vt (eR es kv v))} dst .cH)
     else False
    |_=>False)
   |_,_,_,_=>False)
 | .range T x=>
  (match P.underlying T,ev s x with
   |some (.map _ _), .mp i=>
    (match ax s.st i with
    | .map _ _ es=>K (put {s with st:=s.st++[.iter i es.length []]} dst (.ptr s.st.length 0 [] 0))
    |_=>False)
   |some (.map _ _), .jG Kt Vt ks vs=>K (put {s with st:=s.st++[.fit Kt Vt ks vs []]} dst (.ptr s.st.length 0 [] 0))
   |some (.map _ _), .lit (.map none)=>K (put {s with st:=s.st++[.iter s.st.length 0 [.map none]]} dst (.ptr s.st.length 0 [] 0))
   |some .string, .lit (.string b)=>K (put {s with st:=s.st++[.dC b 0]} dst (.ptr s.st.length 0 [] 0))
   |_,_=>False)
 | .next it false=>
  (match ev s it with
   | .ptr j 0 _ 0=>
    (match ax s.st j with
    | .iter i n ks=>
     (match ax s.st i with
      | .map Kt Vt es=>
       a7 (Nat.beq es.length n) (Cu P Kt Vt es ks (fun k v=>K (put {s with st:=df s.st j (.iter i n (k::ks))} dst (.bh [.lit (.bool true), .lit k,v]))) (K (put s dst (.bh [.lit (.bool false)]))))
      |_=>
       (match ks with
       |[.map none]=>K (put s dst (.bh [.lit (.bool false)]))
       |_=>False))
    | .fit Kt Vt ks vs met=>Cu P Kt Vt (ks.zip vs) met (fun k v=>K (put {s with st:=df s.st j (.fit Kt Vt ks vs (k::met))} dst (.bh [.lit (.bool true), .lit k,v]))) (K (put s dst (.bh [.lit (.bool false)])))
    |_=>False)
   |_=>False)
 | .next it true=>
  (match ev s it with
   | .ptr j 0 _ 0=>
    (match ax s.st j with
    | .dC b p=>
     aD (Nat.blt p b.size) (K (put {s with st:=df s.st j (.dC b (p+(Utf8.decode b p).2))} dst (.bh [.lit (.bool true), .lit (.int .i64 p), .lit (.int .i32 (Utf8.decode b p).1)]))) (K (put s dst (.bh [.lit (.bool false)])))
    |_=>False)
   |_=>False)
 | .binOp .eql T x y _=>mO P s.st T y (ev s x) fun b=>K (put s dst (.lit (.bool b)))
 | .binOp .neq T x y _=>mO P s.st T y (ev s x) fun b=>K (put s dst (.lit (.bool (!b))))
 | .call {callee:= .builtin .clear,args,argTypes}=>
  (match mZ s args.toList,argTypes.toList with
   | [.aq i lo n],[T]=>
    (match P.underlying T,ax s.st i with
    | some (.slice Te), .row Tr xs=>
     (match gM P Te with
      |some z=>if Tr=Te/\0<P.cellsOf Te then K (put {s with st:=df s.st i (.row Te (dN xs lo n z))} dst (.bh [])) else False
      |none=>False)
    |_,_=>False)
   |_,_=>False)
 | .entry it=>
  (match ev s it with
   | .ptr j 0 _ 0=>
    (match ax s.st j with
    | .iter i n (k::_)=>
     (match ax s.st i with
      | .map _ Vt es=>
       (match gM P Vt with
       |some z=>a7 (Nat.beq es.length n) (K (put s dst (.bh [.lit k,expand P cj Vt (dp es k z)])))
       |none=>False)
      |_=>False)
    | .fit _ Vt ks vs (k::_)=>
     (match gM P Vt with
      |some z=>K (put s dst (.bh [.lit k,expand P cj Vt (dp (ks.zip vs) k z)]))
      |none=>False)
    |_=>False)
   |_=>False)
 | .call {callee:= .builtin .append,args,argTypes}=>
  (match mZ s args.toList,argTypes.toList with
   |[x,y],[T,T']=>if T=T' then oV P s T x y fun st a=>K (put {s with st} dst a) else False
   |_,_=>False)
 |_=>False
def xe:Nat->(Nat->Prop)->Prop
 |0,k=>k 0
 |n+1,k=>xe n fun m=>k (m+1)
def M6:List Nat->(List Nat->Prop)->Prop
 |[],k=>k []
 |n::l,k=>xe n fun n'=>M6 l fun l'=>k (n'::l')
theorem Ac: ∀(n:Nat) (k:Nat->Prop),xe n k=k n
 |0,_=>rfl
 |n+1,k=>by simp only[xe,Ac n]
theorem FX: ∀(l:List Nat) (k:List Nat->Prop),M6 l k=k l
 |[],_=>rfl
 |n::l,k=>by simp only[M6,Ac,FX l]
mutual
def vE:AV->(AV->Prop)->Prop
 | .agg l,k=>yH l fun l'=>k (.agg l')
 | .bh l,k=>yH l fun l'=>k (.bh l')
 | .bL f l,k=>yH l fun l'=>k (.bL f l')
 | .jj T a,k=>vE a fun a'=>k (.jj T a')
 | .lit v,k=>k (.lit v)
 | .cH,k=>k .cH
 | .ad T l,k=>k (.ad T l)
 | .aq i lo n,k=>xe i fun i'=>k (.aq i' lo n)
 | .ptr i x p o,k=>xe i fun i'=>M6 p fun p'=>xe o fun o'=>k (.ptr i' x p' o')
 | .jO T a,k=>k (.jO T a)
 | .mp i,k=>xe i fun i'=>k (.mp i')
 | .cD i,k=>xe i fun i'=>k (.cD i')
 | .kq i x,k=>xe i fun i'=>k (.kq i' x)
 | .jG K V ks vs,k=>k (.jG K V ks vs)
def yH:List AV->(List AV->Prop)->Prop
 |[],k=>k []
 |a::l,k=>vE a fun a'=>yH l fun l'=>k (a'::l')
end
def RN:Obj->(Obj->Prop)->Prop
 | .dead,k=>k .dead
 | .box T a,k=>vE a fun a'=>k (.box T a')
 | .row T xs,k=>k (.row T xs)
 | .me T xs,k=>k (.me T xs)
 | .map K V es,k=>k (.map K V es)
 | .loop r,k=>yH r.bp fun l=>k (.loop {state:=r.state,pending:=r.pending,fn:=r.fn,bp:=l,params:=r.params,assign:=r.assign,body:=r.body})
 | .iter i n ks,k=>k (.iter i n ks)
 | .ext t,k=>k (.ext t)
 | .dC s p,k=>k (.dC s p)
 | .rows T E ls pd,k=>k (.rows T E ls pd)
 | .fit K V ks vs met,k=>k (.fit K V ks vs met)
def wz:List Obj->(List Obj->Prop)->Prop
 |[],k=>k []
 |o::l,k=>RN o fun o'=>wz l fun l'=>k (o'::l')
def BY(s:S)(k:S->Prop):Prop:=yH s.bp fun r=>wz s.st fun t=>k {bp:=r,st:=t}
mutual
theorem mL: ∀(a:AV) (k:AV->Prop),vE a k=k a
 | .agg l,k=>by simp only[vE,oL l]
 | .bh l,k=>by simp only[vE,oL l]
 | .bL f l,k=>by simp only[vE,oL l]
 | .jj T a,k=>by simp only[vE,mL a]
 | .lit _,_| .cH,_| .ad _ _,_| .aq _ _ _,_| .ptr _ _ _ _,_| .jO _ _,_| .mp _,_| .cD _,_| .kq _ _,_| .jG _ _ _ _,_=>by simp only[vE,Ac,FX]
theorem oL: ∀(l:List AV) (k:List AV->Prop),yH l k=k l
 |[],k=>by simp only[yH]
 |a::l,k=>by simp only[yH,mL a,oL l]
end
theorem NU(o:Obj)(k:Obj->Prop):RN o k=k o:=by
 cases o<;>simp only[RN,mL,oL]
theorem kF: ∀(l:List Obj) (k:List Obj->Prop),wz l k=k l
 |[],k=>rfl
 |o::l,k=>by simp only[wz,NU,kF l]
theorem lg(s:S)(k:S->Prop):BY s k=k s:=by simp only[BY,oL,kF]
abbrev Rec:=FuncId->Option Nat->Nat->Code->S->(Exit->S->Prop)->Prop
def bF:Nat->List AV
 |0=>[]
 |n+1=> .cH::bF n
def ug(P:Program)(s:S):List ResultVar->Option (List AV)
 |[]=>some []
 | .tmp t::l=>(match ug P s l with|some m=>some (nth s.bp t::m)|none=>none)
 | .cell a T::l=>
  (match mW P s.st T (nth s.bp a),ug P s l with
   |some (true,x),some m=>some (x::m)
   |_,_=>none)
def mg:List AV->AV
 |[a]=>a
 |l=> .bh l
def mH(E:Env)(rec:Rec)(f:FuncId)(args:List AV)(st:List Obj)(K:AV->List Obj->Prop):Prop:=
 match E.P.funcs[f]? with
 | some fn=>
  (match fn.body with
   | some c=>
    rec f none st.length c {bp:=args++bF (fn.ntmps - args.length),st} fun e s=>
     match e with
     | .normal| .ret=>(match ug E.P s fn.results.toList with|some l=>K (mg l) s.st|none=>False)
     |_=>False
   |none=>False)
 |none=>False
def pI(E:Env)(f:FuncId)(args:List AV)(st:List Obj)(K:AV->List Obj->Prop):Prop:=
 let ids:=reach st (st.length*st.length+st.length+20) (cZ args) []
 let ρ:=fun i=>jL i ids 0
 let β:=ji ids st.length
 a7 (pj 0 st (cZ args) ids) (BY {bp:=fS ρ args,st:=gq ρ (gR st ids)} fun s=>E.call f s.bp s.st fun r sub=>vE (lB β r) fun r'=>wz (fg st ids β sub) fun st'=>K r' st')
def uZ(st:List Obj):List AV->Option (List AV×List Nat)
 |[]=>some ([],[])
 | a::l=>
  match uZ st l with
  |none=>none
  |some (m,is)=>
   match a with
   | .aq _ _ _=>(match ck st a with|some b=>some (b::m,rowsOf a++is)|none=>none)
   | .agg _=>(match ck st a with|some b=>some (b::m,rowsOf a++is)|none=>none)
   |_=>some (a::m,is)
def KP(P:Program)(Ts:List TypeId):AV->AV
 | .bh l=> .bh (pc P Ts l)
 |a=>(match Ts with|[T]=>FL P T a|_=>a)
def jy:List Tmp->List AV->List AV->List AV
 |p::ps,a::as,bp=>jy ps as (cg bp p a)
 |_,_,bp=>bp
def gT (rec:Rec)(l:Nat)(args:List AV)(st:List Obj)(K:AV->List Obj->Prop):Prop:=
 match ax st l with
 | .loop r=>
  if r.state= .ready/\r.params.size=args.length then
   rec r.fn (some l) st.length r.assign {bp:=jy r.params.toList args r.bp,st} fun e s1=>
    match e with
    | .normal=>
     (match ax s1.st l with
      | .loop r1=>
       if r1.state= .ready then
        rec r.fn (some l) st.length r.body {s1 with st:=df s1.st l (.loop {r1 with state:= .busy})} fun e2 s2=>
         match ax s2.st l with
         | .loop r2=>
          (match e2 with
          | .normal=>K (.lit (.bool true)) (df s2.st l (.loop {r2 with state:= .ready,pending:=none}))
          | .ret=>K (.lit (.bool false)) (df s2.st l (.loop {r2 with state:= .done,pending:=some .ret}))
          | .exit id=>K (.lit (.bool false)) (df s2.st l (.loop {r2 with state:= .done,pending:=some (.exit id)}))
          |_=>False)
         |_=>False
       else False
      |_=>False)
    |_=>False
  else False
 |_=>False
def K3:List Nat->Bool
 |[]=>true
 |_=>false
def yP(l:Nat)(todo:Option (List AV))(args:List AV)(st:List Obj)(K:AV->List Obj->Prop):Prop:=
 match todo,uZ st args with
 |some xs,some (as,is)=>
  a7 (K3 (cZ as)) (∃rest,xs= .bh as::rest/\K (.lit (.bool true)) (df (cP st is) l (.ext (some rest)))/\K (.lit (.bool false)) (df (cP st is) l (.ext none)))
 |_,_=>False
def nu(E:Env)(rec:Rec)(g:AV)(args:List AV)(st:List Obj)(K:AV->List Obj->Prop):Prop:=
 match g with
 | .bL f caps=>
  if E.inl f then mH E rec f (args++caps) st K
  else if E.own f then pI E f (args++caps) st K
  else
   (match uZ st (args++caps) with
    |some (as,is)=>pI E f (pc E.P (ku E.P f) as) (cP st is) K
    |none=>False)
 | .cD l=>
  (match ax st l with
   | .ext t=>yP l t args st K
   |_=>gT rec l args st K)
 |_=>False
def eD(s:S)(t:Option Tmp)(b:Bool):S:=
 match t with
 |none=>s
 |some d=>{s with bp:=cg s.bp d (.lit (.bool b))}
def lb:List Oper->Nat->Option Tmp
 |[],_=>none
 |o::_,0=>o.dst
 |_::l,n+1=>lb l n
def qV:Operand->Option Tmp
 | .tmp t=>some t
 |_=>none
def gy(s:S):Op->Option (AV×List AV)
 | .call {callee:= .value g,args, .. }=>some (ev s g,mZ s args.toList)
 |_=>none
def Nf(E:Env)(rec:Rec)(s:S)(dst:Option Tmp)(o:Op)(K:S->Prop):Prop:=
 match bK E s o with
 |some (c,a)=>a7 c (K (put s dst a))
 | none=>
  match o with
  | .pick c a b=>
   (match ev s c with
    | .lit (.bool t)=>aD t (K (put (eD s (qV c) true) dst (ev s a))) (K (put (eD s (qV c) false) dst (ev s b)))
    |_=>False)
  |o=>
   match gy s o with
   |some (g,args)=>nu E rec g args s.st fun a st=>K (put {s with st} dst a)
   |none=>cr E.P s dst o K
def qy(E:Env)(rec:Rec)(ops:List Oper):List Oper->S->(S->Prop)->Prop
 |[],s,K=>K s
 | o :: l, s, K=>
  match o.guard with
  |none=>Nf E rec s o.dst o.op fun s'=>qy E rec ops l s' K
  | some (j, want)=>
   match lb ops j with
   |none=>False
   | some t=>
    match nth s.bp t with
    | .lit (.bool b)=>
     match want with
     |true=>aD b (Nf E rec (eD s (some t) true) o.dst o.op fun s'=>qy E rec ops l s' K)
             (qy E rec ops l (put (eD s (some t) false) o.dst (.bh [])) K)
     |false=>aD b (qy E rec ops l (put (eD s (some t) true) o.dst (.bh [])) K)
              (Nf E rec (eD s (some t) false) o.dst o.op fun s'=>qy E rec ops l s' K)
    | .bh []=>qy E rec ops l (put s o.dst (.bh [])) K
    |_=>False
def pX:Option Operand->List Operand
 |none=>[]
 |some x=>[x]
def opsOf:Op->List Operand
 | .move x| .assign x| .load _ x| .nilCheck x| .unOp _ _ x| .fieldAddr _ x _| .field _ x _| .extract x _| .box _ x| .makeInterface _ x| .convert _ _ x=>[x]
 | .pick c a b=>[c,a,b]
 | .binOp _ _ x y _| .indexAddr _ x y| .index _ x y| .lookup _ x y _| .store _ x y| .makeSlice _ x y| .mapEntry _ x y=>[x,y]
 | .slice _ x lo hi m=>x::(pX lo++pX hi++pX m)
 | .makeFunc _ _ caps=>caps.toList
 | .build _ ps| .buildSlice _ _ ps=>ps.toList.map (·.2)
 | .mapUpdate _ x y z| .entryStore _ x y z=>[x,y,z]
 | .range _ x| .next x _| .entry x=>[x]
 | .call {callee:= .value g,args, .. }=>g::args.toList
 | .call {args, .. }=>args.toList
 |_=>[]
def HK:List Operand->Bool
 |[]=>true
 | .const _::l=>HK l
 |_=>false
def ei(quiet:FuncId->Bool):Op->Nat
 | .move _| .assign _| .binOp .. | .unOp .. | .extract .. | .makeFunc .. | .pick .. | .makeInterface .. | .convert .. | .field .. | .build .. | .index .. =>0
 | .load .. | .nilCheck _| .slice .. | .fieldAddr .. | .indexAddr .. | .lookup .. =>1
 | .call {callee:= .builtin .len, .. }=>1
 | .call {callee:= .builtin .min, .. }=>1
 | .call {callee:= .builtin .max, .. }=>1
 | .call {callee:= .value (.func f),args, .. }=>bif quiet f then(bif HK args.toList then 0 else 1) else 2
 |_=>2
def qq:List Obj->List Obj->Prop
 |[],_=>True
 |_::_,[]=>False
 | .box T a::l,o::l'=>o= .box T a/\qq l l'
 | .rows T E ls pd::l,o::l'=>o= .rows T E ls pd/\qq l l'
 |_::l,_::l'=>qq l l'
def XQ(b:Bool)(st st':List Obj)(p:Prop):Prop:=
 match b with
 |true=>qq st st'/\p
 |false=>p
def Im(E:Env)(g:AV)(args:List AV)(st:List Obj):Bool:=
 match g with
 | .bL f caps=>!E.inl f&& !E.own f&&(match uZ st (args++caps) with
  |some (as,[])=>K3 (cZ (pc E.P (ku E.P f) as))
  |_=>false)
 |_=>false
def vM(calm:FuncId->Bool):Op->Bool
 | .call {callee:= .value (.func f), .. }=>calm f
 |_=>false
def th(E:Env)(rec:Rec)(s:S)(dst:Option Tmp)(o:Op)(K:S->Prop):Prop:=
 match ei E.quiet o with
 | 2=>
  (match gy s o with
   |some (g,args)=>nu E rec g args s.st fun a st=>XQ (vM E.calm o&& !Im E g args s.st) s.st st (K (put {s with st} dst a))
   |none=>cr E.P s dst o K)
 | _ =>
  (match bK E s o with
   |some (c,a)=>a7 c (K (put s dst a))
   | none=>
    (match o with
    | .pick c a b=>
     (match ev s c with
      | .lit (.bool t)=>aD t (K (put (eD s (qV c) true) dst (ev s a))) (K (put (eD s (qV c) false) dst (ev s b)))
      |_=>False)
    |_=>False))
def dn(E:Env)(rec:Rec)(ops:List Oper)(o:Oper)(s:S)(K:S->Prop):Prop:=
 match o.guard with
 |none=>th E rec s o.dst o.op K
 | some (j,want)=>
  match lb ops j with
  |none=>False
  | some t=>
   match nth s.bp t with
   | .lit (.bool b)=>
    match want with
    |true=>aD b (th E rec (eD s (some t) true) o.dst o.op K) (K (put (eD s (some t) false) o.dst (.bh [])))
    |false=>aD b (K (put (eD s (some t) true) o.dst (.bh []))) (th E rec (eD s (some t) false) o.dst o.op K)
   | .bh []=>K (put s o.dst (.bh []))
   |_=>False
def js:Nat->List Bool
 |0=>[]
 |n+1=>false::js n
def eZ:List Bool->Nat->Bool
 |[],_=>true
 |b::_,0=>b
 |_::l,n+1=>eZ l n
def eX:List Bool->Nat->List Bool
 |[],_=>[]
 |_::l,0=>true::l
 |b::l,n+1=>b::eX l n
def lj(listed:List Bool):List Edge->Bool
 |[]=>true
 |e::l=>(!Region.binds .any e||(Nat.blt e.on listed.length&&eZ listed e.on))&&lj listed l
def jS(listed:List Bool):List Oper->Nat->List (Nat×Oper)
 |[],_=>[]
 |o::l,i=>bif !eZ listed i&&lj listed o.after.toList then(i,o)::jS listed l (i+1) else jS listed l (i+1)
def xz(t:Nat):List Operand->Bool
 |[]=>false
 | .tmp u::l=>Nat.beq t u||xz t l
 |_::l=>xz t l
def Aa(ops:List Oper)(o:Oper)(t:Nat):Bool:=
 xz t (opsOf o.op)||(match o.guard with|none=>false|some (j,_)=>(match lb ops j with|none=>false|some u=>Nat.beq t u))
def zi(ops:List Oper)(o:Oper):Option Tmp->Bool
 |none=>false
 |some t=>Aa ops o t
def uq:Option Tmp->Option Tmp->Bool
 |some t,some u=>!Nat.beq t u
 |_,_=>true
def rK(ops:List Oper)(a b:Oper):Bool:=
 !zi ops b a.dst&& !zi ops a b.dst&&uq a.dst b.dst
def Bk:Op->Bool
 | .alloc _| .box _ _| .makeSlice .. | .makeMap _ none=>true
 |_=>false
def uN(quiet:FuncId->Bool)(ops:List Oper)(a b:Oper):Bool:=
 rK ops a b&&(match ei quiet a.op with|0=>true|1=>Nat.blt (ei quiet b.op) 2||Bk b.op|_=>false)
def yd(acc:List Nat):List Edge->Bool
 |[]=>false
 |e::l=>(Region.binds .any e&&jk e.on acc)||yd acc l
def fwd:List Oper->Nat->List Nat->List Nat
 |[],_,acc=>acc
 |o::l,j,acc=>bif yd acc o.after.toList then fwd l (j+1) (j::acc) else fwd l (j+1) acc
def jh(quiet:FuncId->Bool)(ops:List Oper)(listed:List Bool)(i:Nat)(o:Oper)(fs:List Nat):List Oper->Nat->Bool
 |[],_=>true
 |b::l,j=>(Nat.beq i j||eZ listed j||jk j fs||uN quiet ops o b)&&jh quiet ops listed i o fs l (j+1)
def nq(quiet:FuncId->Bool)(ops:List Oper)(listed:List Bool):List (Nat×Oper)->Option (Nat×Oper)
 |[]=>none
 |(i,o)::l=>bif jh quiet ops listed i o (fwd ops 0 [i]) ops 0 then some (i,o) else nq quiet ops listed l
def jV:Obj->Bool
 | .box _ _=>true
 |_=>false
def Ad:Obj->Bool
 | .rows _ _ _ _=>true
 |_=>false
def nQ(s:S)(o:Oper):Bool:=
 match o.guard,o.op with
 |none, .load _ x=>(match ev s x with| .ptr k _ _ _=>jV (ax s.st k)| .jO _ _=>true| .lit _=>true|_=>false)
 |none, .call {callee:= .builtin .len,args, .. }=>(match mZ s args.toList with|[.ad _ _]=>true|_=>false)
 |none, .nilCheck x=>(match ev s x with| .ptr k _ _ _=>jV (ax s.st k)|_=>false)
 |none, .fieldAddr _ x _=>(match ev s x with| .ptr k _ _ _=>jV (ax s.st k)|_=>false)
 |none, .indexAddr _ x _=>(match ev s x with| .aq k 0 _=>Ad (ax s.st k)|_=>false)
 |_,_=>false
def xW:Op->Bool
 | .alloc _| .box _ _| .makeMap _ none=>true
 | .buildSlice .. =>true
 | .makeSlice .. =>true
 | .call {callee:= .builtin .append, .. }=>true
 |_=>false
def uu(quiet calm:FuncId->Bool)(ops:List Oper)(a b:Oper):Bool:=
 rK ops a b&&(Nat.blt (ei quiet b.op) 2||xW b.op||vM calm b.op)
def x6(quiet calm:FuncId->Bool)(ops:List Oper)(listed:List Bool)(i:Nat)(o:Oper)(fs:List Nat):List Oper->Nat->Bool
 |[],_=>true
 |b::l,j=>(Nat.beq i j||eZ listed j||jk j fs||uu quiet calm ops o b)&&x6 quiet calm ops listed i o fs l (j+1)
def Cm(quiet calm:FuncId->Bool)(ops:List Oper)(listed:List Bool)(s:S):List (Nat×Oper)->Option (Nat×Oper)
 |[]=>none
 |(i,o)::l=>bif nQ s o&&x6 quiet calm ops listed i o (fwd ops 0 [i]) ops 0 then some (i,o) else Cm quiet calm ops listed s l
def nP(P:Program)(s:S)(o:Oper):Option (Option TypeId):=
 match o.guard,o.op with
 | none, .load T x=>
  (match ev s x with
   | .ptr k _ path _=>(match ax s.st k with| .box Tb _=>bif vf P Tb path T&& !fu P T then some (some T) else none|_=>none)
   |_=>none)
 |none, .nilCheck x=>(match ev s x with| .ptr k _ _ _=>bif jV (ax s.st k) then some none else none|_=>none)
 |none, .fieldAddr _ x _=>(match ev s x with| .ptr k _ _ _=>bif jV (ax s.st k) then some none else none|_=>none)
 |_,_=>none
def zE(P:Program):Option TypeId->Op->Bool
 |none, .store _ _ _=>true
 |some T, .store U _ _=>!Nat.beq U T&& !fu P U
 |_,_=>false
def wJ(P:Program)(quiet calm:FuncId->Bool)(T:Option TypeId)(ops:List Oper)(a b:Oper):Bool:=
 rK ops a b&&(Nat.blt (ei quiet b.op) 2||xW b.op||vM calm b.op||zE P T b.op)
def u7(P:Program)(quiet calm:FuncId->Bool)(T:Option TypeId)(ops:List Oper)(listed:List Bool)(i:Nat)(o:Oper)(fs:List Nat):List Oper->Nat->Bool
 |[],_=>true
 |b::l,j=>(Nat.beq i j||eZ listed j||jk j fs||wJ P quiet calm T ops o b)&&u7 P quiet calm T ops listed i o fs l (j+1)
def sm(P:Program)(quiet calm:FuncId->Bool)(ops:List Oper)(listed:List Bool)(s:S):List (Nat×Oper)->Option (Nat×Oper)
 |[]=>none
 |(i,o)::l=>match nP P s o with
  |some T=>bif u7 P quiet calm T ops listed i o (fwd ops 0 [i]) ops 0 then some (i,o) else sm P quiet calm ops listed s l
  |none=>sm P quiet calm ops listed s l
def Iw(p:Nat->Oper->Prop):List (Nat×Oper)->Prop
 |[]=>True
 |[(i,o)]=>p i o
 |(i,o)::l=>p i o/\Iw p l
def pD(E:Env)(rec:Rec)(ops:List Oper):Nat->List Bool->S->(S->Prop)->Prop
 |0,listed,s,K=>match jS listed ops 0 with|[]=>K s|_=>False
 | n +1,listed,s,K=>
  match jS listed ops 0 with
  |[]=>K s
  | r=>
   match nq E.quiet ops listed r with
   |some (i,o)=>dn E rec ops o s fun s'=>pD E rec ops n (eX listed i) s' K
   | none=>
    match Cm E.quiet E.calm ops listed s r with
    |some (i,o)=>dn E rec ops o s fun s'=>pD E rec ops n (eX listed i) s' K
    |none=>
     match bif E.calm 888888 then sm E.P.toProgram E.quiet E.calm ops listed s r else none with
     |some (i,o)=>dn E rec ops o s fun s'=>pD E rec ops n (eX listed i) s' K
     |none=>Iw (fun i o=>dn E rec ops o s fun s'=>pD E rec ops n (eX listed i) s' K) r
def Yh(p:S->(Exit->S->Prop)->Prop)(K:Exit->S->Prop):Exit->S->Prop
 | .normal,s=>p s K
 |e,s=>K e s
def zC(id:Nat)(K:Exit->S->Prop):Exit->S->Prop
 | .exit i,s=>bif Nat.beq i id then K .normal s else K (.exit i) s
 |e,s=>K e s
def Ra(K:Exit->S->Prop):Exit->S->Prop
 | .goto _,_=>False
 |e,s=>K e s
def lD:Code->Option Nat
 | .region id _ _=>some id
 | .seq a b=>(match lD a with|some n=>some n|none=>lD b)
 | .block _ c| .scope c| .loop c=>lD c
 | .cond _ a b=>(match lD a with|some n=>some n|none=>lD b)
 | .rangeFunc _ _ a _=>lD a
 |_=>none
def pY(l:Nat)(s:S)(K:Exit->S->Prop)(st:List Obj):Prop:=
 match ax st l with
 | .loop r=>
  (match r.state,r.pending with
   | .busy,_=>False
   |_,none=>K .normal {s with st:=df st l .dead}
   |_,some .ret=>K .ret {s with st:=df st l .dead}
   |_,some (.exit id)=>K (.exit id) {s with st:=df st l .dead}
   |_,_=>False)
 |_=>False
def DX(rd:Option Nat)(st:List Obj):Bool:=
 match rd with
 |none=>true
 |some l=>match ax st l with| .loop _=>true|_=>false
def jZ(E:Env)(rec:Rec)(f:FuncId)(rd:Option Nat)(base:Nat):Code->S->(Exit->S->Prop)->Prop
 | .skip,s,K=>K .normal s
 | .label _,s,K=>K .normal s
 | .region _ ops false,s,K=>qy E rec ops.toList ops.toList s (K .normal)
 | .region _ ops true,s,K=>pD E rec ops.toList ops.toList.length (js ops.toList.length) s (K .normal)
 | .seq a b,s,K=>jZ E rec f rd base a s (Yh (jZ E rec f rd base b) K)
 | .cond c x y,s,K=>
  match ev s c with
  | .lit (.bool t)=>aD t (jZ E rec f rd base x (eD s (qV c) true) K) (jZ E rec f rd base y (eD s (qV c) false) K)
  |_=>False
 | .block id c,s,K=>jZ E rec f rd base c s (zC id K)
 | .loop c,s,K=>
  match lD c with
  |some n=>a7 (jB E.P (E.live f n) base s) (BY (canon E.P (E.live f n) base s) fun s'=>E.loop f n c rd base s' K)
  |none=>False
 | .rangeFunc g ps asg body,s,K=>
  match ev s g with
  | .bL f' caps=>
   a7 (DX rd s.st) (match E.gen f' with
    |true=>E.kZ f (match lD asg with|some n=>n|none=>0) f' caps
     (s.st++[.loop {state:= .ready,pending:=none,fn:=f,bp:=s.bp,params:=ps,assign:=asg,body:=body}]) (pY s.st.length s K)
    |false=>mH E rec f' (.cD s.st.length::caps)
     (s.st++[.loop {state:= .ready,pending:=none,fn:=f,bp:=s.bp,params:=ps,assign:=asg,body:=body}])
     fun _ st=>pY s.st.length s K st)
  |_=>False
 | .exit id,s,K=>K (.exit id) s
 | .goto _,_,_=>False
 | .scope c,s,K=>jZ E rec f rd base c s (Ra K)
 | .ret,s,K=>K .ret s
 | .refuse _,_,_=>False
def vc(E:Env):Nat->Rec
 |0=>fun _ _ _ _ _ _=>False
 |n+1=>fun f rd base c s K=>jZ E (vc E n) f rd base c s K
end Go.Dn
