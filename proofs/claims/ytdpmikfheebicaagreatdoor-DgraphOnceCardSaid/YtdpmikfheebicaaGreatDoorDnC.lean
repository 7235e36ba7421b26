import Derived.Test.YtdpmikfheebicaaGreatDoorDnB
namespace Go.Dn
open Go
mutual
def refs:AV->List Nat
 | .az i _ _=>[i]
 | .ptr i _ _ _=>[i]
 | .mp i=>[i]
 | .cx i=>[i]
 | .jJ i _=>[i]
 | .agg l=>cB l
 | .bp l=>cB l
 | .bP _ l=>cB l
 | .iq _ a=>refs a
 |_=>[]
def cB:List AV->List Nat
 |[]=>[]
 |a::l=>refs a++cB l
end
def xb:Obj->List Nat
 | .box _ a=>refs a
 | .loop r=>cB r.a9
 | .iter i _ _=>[i]
 |_=>[]
def kh(i:Nat):List Nat->Bool
 |[]=>false
 |j::l=>Nat.beq i j||kh i l
def reach(st:List Obj):Nat->List Nat->List Nat->List Nat
 |0,_,acc=>acc
 |_+1,[],acc=>acc
 |n+1,i::todo,acc=>
  bif kh i acc then reach st n todo acc else reach st n (xb (ar st i)++todo) (acc++[i])
def jn(i:Nat):List Nat->Nat->Option Nat
 |[],_=>none
 |j::l,n=>bif Nat.beq i j then some n else jn i l (n+1)
mutual
def kD(ρ:Nat->Option Nat):AV->AV
 | .az i lo n=>(match ρ i with|some j=> .az j lo n|none=> .cf)
 | .ptr i k p o=>(match ρ i with|some j=> .ptr j k p o|none=> .cf)
 | .mp i=>(match ρ i with|some j=> .mp j|none=> .cf)
 | .cx i=>(match ρ i with|some j=> .cx j|none=> .cf)
 | .jJ i k=>(match ρ i with|some j=> .jJ j k|none=> .cf)
 | .agg l=> .agg (fB ρ l)
 | .bp l=> .bp (fB ρ l)
 | .bP f l=> .bP f (fB ρ l)
 | .iq T a=> .iq T (kD ρ a)
 |a=>a
def fB(ρ:Nat->Option Nat):List AV->List AV
 |[]=>[]
 |a::l=>kD ρ a::fB ρ l
end
def eu(ρ:Nat->Option Nat):Obj->Obj
 | .box T a=> .box T (kD ρ a)
 | .loop r=> .loop {r with a9:=fB ρ r.a9}
 | .iter i n ks=> .iter (match ρ i with|some j=>j|none=>i) n ks
 |o=>o
def gQ(st:List Obj):List Nat->List Obj
 |[]=>[]
 |i::l=>ar st i::gQ st l
def gJ(ρ:Nat->Option Nat):List Obj->List Obj
 |[]=>[]
 |o::l=>eu ρ o::gJ ρ l
def upto:Nat->List Nat
 |0=>[]
 |n+1=>upto n++[n]
def iu(ids:List Nat)(n:Nat)(j:Nat):Option Nat:=
 match idN ids j with
 |some i=>some i
 |none=>some (n+(j - ids.length))
where
 idN:List Nat->Nat->Option Nat
  |[],_=>none
  |i::_,0=>some i
  |_::l,k+1=>idN l k
def fe(st:List Obj)(ids:List Nat)(ρ:Nat->Option Nat):List Obj->List Obj
 |sub=>go st ids sub
where
 go:List Obj->List Nat->List Obj->List Obj
  |st,i::ids,o::sub=>go (da st i (eu ρ o)) ids sub
  |st,[],sub=>st++gJ ρ sub
  |st,_::_,[]=>st
def fm(live:List (Nat×Option TypeId)):List AV->Nat->List AV
 |[],_=>[]
 |a::l,n=>(bif memL n live then a else .cf)::fm live l (n+1)
where
 memL (n:Nat):List (Nat×Option TypeId)->Bool
  |[]=>false
  |(j,_)::l=>Nat.beq n j||memL n l
def Kv:Nat:=1000000000
def jA:List (Nat×Option TypeId)->S->S
 |[],s=>s
 |(_,none)::l,s=>jA l s
 | (r,some T)::l,s=>
  match nth s.a9 r with
  | .lit (.slice none 0 0)=>
   (match Nat.ble Kv T with
    |true=>jA l {a9:=bQ s.a9 r (.ae (T - Kv) []),st:=s.st}
    |false=>jA l {a9:=bQ s.a9 r (.az s.st.length 0 0),st:=s.st++[.row T []]})
  |_=>jA l s
def CS(P:Program)(i:Nat)(s:S):S:=
 match ar s.st i with
 | .box Tb (.lit (.slice none 0 0))=>
  match P.underlying Tb with
  |some (.slice Te)=>{s with st:=da s.st i (.box Tb (.az s.st.length 0 0))++[.row Te []]}
  |_=>s
 |_=>s
def nz(P:Program):List Nat->S->S
 |[],s=>s
 |i::l,s=>nz P l (CS P i s)
def vd(st:List Obj):List Nat->List Nat
 |[]=>[]
 |i::l=>xb (ar st i)++vd st l
def gf(base:Nat)(st:List Obj)(roots:List Nat):List Nat:=
 reach st (st.length*st.length+st.length+20) (vd st (upto base)++roots) (upto base)
def AY(ids:List Nat):List Nat->Bool
 |[]=>true
 |i::l=>kh i ids&&AY ids l
def Ee(n:Nat):List Nat->Bool
 |[]=>true
 |i::l=>decide (i<n)&&Ee n l
def yW:List Nat->Bool
 |[]=>true
 |i::l=>!kh i l&&yW l
def sl(ids:List Nat):List Nat->Bool
 |[]=>true
 |i::l=>(match jn i ids 0 with|some j=>Nat.beq i j|none=>false)&&sl ids l
def oz(base:Nat)(st:List Obj)(roots ids:List Nat):Bool:=
 yW ids&&Ee st.length ids&&sl ids (upto base)&&AY ids roots&&AY ids (vd st ids)
def gk(P:Program)(live:List (Nat×Option TypeId))(s:S):S:=
 let s1:=jA live {s with a9:=fm live s.a9 0}
 nz P (upto s1.st.length) s1
def iL(P:Program)(live:List (Nat×Option TypeId))(base:Nat)(s:S):Bool:=
 oz base (gk P live s).st (cB (gk P live s).a9) (gf base (gk P live s).st (cB (gk P live s).a9))
def sH(ids:List Nat)(s:S):S:=
 {a9:=fB (fun i=>jn i ids 0) s.a9,st:=gJ (fun i=>jn i ids 0) (gQ s.st ids)}
def canon(P:Program)(live:List (Nat×Option TypeId))(base:Nat)(s:S):S:=
 sH (gf base (gk P live s).st (cB (gk P live s).a9)) (gk P live s)
def Dr(P:Program)(T:TypeId):List AV->Bool
 |[]=>true
 |a::l=>zc P a T&&Dr P T l
def r7:Nat:=70368744177664
def mA(Ty:Option TypeId)(Te:TypeId):Bool:=
 match Ty with
 |none=>true
 |some U=>U==Te
def pY(P:Program)(E:TypeId):Bool:=
 match P.underlying E with
 |some (.int _)|some .bool|some .string=>P.cellsOf E==1
 |_=>false
def gH:List AV->Option (List Value)
 |[]=>some []
 | .lit v::l=>(match gH l with|some m=>some (v::m)|none=>none)
 |_=>none
def nK (P:Program)(s:S)(T:TypeId)(x y:AV)(K:List Obj->AV->Prop):Prop:=
 match P.underlying T with
 | some (.slice Te)=>
  match nP s.st y,fS P Te with
  | some (Ty,ys),some _=>
   match mA Ty Te&&decide (0<P.cellsOf Te) with
   |false=>False
   | true=>
    match x with
    | .lit (.slice none 0 0)=>
     aO (decide ((ys.length+1)*(P.bytesOf Te+1)<=r7)) (K (s.st++[.row Te ys]) (.az s.st.length 0 ys.length))
    | .az i lo n=>
     match ar s.st i with
     | .row Tr xs=>
      if Tr=Te/\lo=0 then
       aO (decide ((n+ys.length+1)*(P.bytesOf Te+1)<=r7))
        (K (da s.st i .dead++[.row Te ((xs.take n)++ys)]) (.az s.st.length 0 (n+ys.length)))
      else False
     | .rows Tr E ls none=>
      match lo,gH ys with
      | k+1,some vs=>
       if E=Te/\Dr P Te ys=true then
        aO (decide (n=(bB ls k).length)&&decide ((n+ys.length+1)*(P.bytesOf Te+1)<=r7))
         (K (da s.st i (.rows Tr E (iV ls k (bB ls k++vs)) (some k))) (.az i (Nat.succ k) (n+ys.length)))
       else False
      |_,_=>False
     |_=>False
    |_=>False
  |_,_=>False
 |_=>False
def qy(P:Program)(s:S)(T:TypeId)(p x:AV)(K:List Obj->Prop):Prop:=
 match p with
 | .ptr i k path off=>
  match ar s.st i with
  | .box Tb a=>
   if qx a path&&im a path==off&&wid x==P.cellsOf T&&wid (ph a path)==P.cellsOf T&&oQ x&&(P.underlying T).isSome then K (da s.st i (.box Tb (iC a path x))) else False
  | .row _ _=>
   match bV s.st x,ar (cQ s.st (rowsOf x)) i with
   | some x', .row Tr xs=>
    if qx (expand P bR Tr (nth xs k)) path&&im (expand P bR Tr (nth xs k)) path==off&&wid x'==P.cellsOf T&&wid (ph (expand P bR Tr (nth xs k)) path)==P.cellsOf T&&
      zc P (iC (expand P bR Tr (nth xs k)) path x') Tr&&oQ x'&&(P.underlying T).isSome then
     K (da (cQ s.st (rowsOf x)) i (.row Tr (bQ xs k (iC (expand P bR Tr (nth xs k)) path x'))))
    else False
   |_,_=>False
  | .rows Tr E ls (some kp)=>
   (match path,off,x with
    |[],0, .az j (k'+1) m=>if j=i/\T=Tr then aO (decide (k=kp)&&decide (k'=kp)&&decide (m=(bB ls k).length)) (K (da s.st i (.rows Tr E ls none))) else False
    |_,_,_=>False)
  |_=>False
 |_=>False
def ee(a:AV)(n:Nat):List AV:=List.replicate n a
def D8(P:Program)(Te:TypeId)(z:AV)(n:Nat):Obj:=
 match P.underlying Te,z with
 |some (.slice E), .lit (.slice none 0 0)=>if pY P E=true/\P.cellsOf Te=1 then .rows Te E (List.replicate n []) none else .row Te (ee z n)
 |_,_=> .row Te (ee z n)
def jS(P:Program)(T:TypeId)(st:List Obj):List AV->List (Nat×AV)->Option (List AV×List Nat)
 |l,[]=>some (l,[])
 | l,(i,x)::ps=>
  match bV st x with
  | some x'=>
   if zc P x' T&&decide (i<l.length) then
    match jS P T st (bQ l i x') ps with
    |some (m,is)=>some (m,rowsOf x++is)
    |none=>none
   else none
  |none=>none
def jm:List Value->Value->Bool
 |[],_=>false
 |k'::l,k=>cD k' k||jm l k
def jC(ks:List Value):List (Value×AV)->Bool
 |[]=>true
 |(k,_)::es=>jm ks k&&jC ks es
def Bh(P:Program)(Kt Vt:TypeId)(es:List (Value×AV))(ks:List Value)(p:Value->AV->Prop)(q:Prop):Prop:=
 (match P.underlying Kt with
  |some (.int κ)=>∀n v,(Value.int κ n,v)∈es->jm ks (.int κ n)=false->p (.int κ n) (expand P bR Vt v)
  |some .string=>∀t v,(Value.string t,v)∈es->jm ks (.string t)=false->p (.string t) (expand P bR Vt v)
  |_=>False)/\(jC ks es=true->q)
def M3:List AV->Bool
 |[]=>true
 |_::_=>false
def dI:List AV->Nat->Nat->AV->List AV
 |[],_,_,_=>[]
 |a::l,0,0,_=>a::l
 |_::l,0,n+1,z=>z::dI l 0 n z
 |a::l,lo+1,n,z=>a::dI l lo n z
def l5(P:Program)(st:List Obj)(T:TypeId)(y:Operand)(a:AV)(K:Bool->Prop):Prop:=
 match y,P.underlying T with
 | .const (.slice none 0 0),some (.slice _)=>
  (match a with
   | .lit (.slice none 0 0)=>K true
   | .ae _ l=>(M3 l=true->K true)/\K false
   | .az i _ n=>(match K3 (ar st i) with|true=>(Nat.beq n 0=true->K true)/\K false|false=>False)
   |_=>False)
 |_,_=>False
def b7 (P:Program)(s:S)(dst:Option Tmp)(o:Op)(K:S->Prop):Prop:=
 match o with
 | .alloc T=>
  (match fS P T with
   |some z=>K (put {s with st:=s.st++[.box T z]} dst (.ptr s.st.length 0 [] 0))
   |none=>False)
 | .box T x=>if oQ (ev s x) then K (put {s with st:=s.st++[.box T (ev s x)]} dst (.ptr s.st.length 0 [] 0)) else False
 | .store T p x=>qy P s T (ev s p) (ev s x) fun st=>K (put {s with st} dst .cf)
 | .buildSlice T len parts=>
  (match P.underlying T with
   | some (.slice Te)=>
    (match fS P Te with
    | some z=>
     (match jS P Te s.st (ee z len) (eL s parts.toList) with
      | some (l,is)=>
       if decide (len*P.cellsOf Te<=16777216)&&decide (0<P.cellsOf Te) then
        K (put {s with st:=cQ s.st is++[.row Te l]} dst (.az s.st.length 0 len))
       else False
      |none=>False)
    |none=>False)
   |_=>False)
 | .makeSlice T ln cp=>
  (match P.underlying T,Mr (ev s ln),Mr (ev s cp) with
   | some (.slice Te),some (.i64,n),some (.i64,c)=>
    (match fS P Te with
    | some z=>
     aO (decide (0<=n)&&decide (n<=c)&&decide ((c.toNat+1)*(P.bytesOf Te+1)<=r7)&&decide (0<P.cellsOf Te))
      (K (put {s with st:=s.st++[D8 P Te z n.toNat]} dst (.az s.st.length 0 n.toNat)))
    |none=>False)
   |_,_,_=>False)
 | .makeMap T none=>
  (match P.underlying T with
   |some (.map Kt Vt)=>K (put {s with st:=s.st++[.map Kt Vt []]} dst (.mp s.st.length))
   |_=>False)
 | .mapUpdate T m k x=>
  (match P.underlying T,ev s m,ev s k,bV s.st (ev s x) with
   | some (.map Kt Vt), .mp i, .lit kv,some v=>
    (match ar (cQ s.st (rowsOf (ev s x))) i with
    | .map K' V' es=>
     if K'=Kt/\V'=Vt/\plainKey P Kt kv=true/\zc P v Vt=true then
      K (put {s with st:=da (cQ s.st (rowsOf (ev s x))) i (.map Kt Vt (eh es kv v))} dst .cf)
     else False
    |_=>False)
   |_,_,_,_=>False)
 | .mapEntry T m k=>
  (match P.underlying T,ev s m,ev s k with
   | some (.map Kt Vt), .mp i, .lit kv=>
    (match ar s.st i,fS P Vt with
    | .map K' V' es,some z=>
     if K'=Kt/\V'=Vt/\plainKey P Kt kv=true then
      let v:=expand P bR Vt (cM es kv z)
      K (put {s with st:=da s.st i (.map Kt Vt (eh es kv v))} dst (.bp [v, .jJ i kv]))
     else False
    |_,_=>False)
   |_,_,_=>False)
 | .entryStore T m jJ x=>
  (match P.underlying T,ev s m,ev s jJ,bV s.st (ev s x) with
   | some (.map Kt Vt), .mp i, .jJ j kv,some v=>
    (match ar (cQ s.st (rowsOf (ev s x))) i with
    | .map K' V' es=>
     if i=j/\K'=Kt/\V'=Vt/\plainKey P Kt kv=true/\zc P v Vt=true then
      K (put {s with st:=da (cQ s.st (rowsOf (ev s x))) i (.map Kt Vt (eh es kv v))} dst .cf)
     else False
    |_=>False)
   |_,_,_,_=>False)
 | .range T x=>
  (match P.underlying T,ev s x with
   |some (.map _ _), .mp i=>
    (match ar s.st i with
    | .map _ _ es=>K (put {s with st:=s.st++[.iter i es.length []]} dst (.ptr s.st.length 0 [] 0))
    |_=>False)
   |some (.map _ _), .iZ Kt Vt ks vs=>K (put {s with st:=s.st++[.fit Kt Vt ks vs []]} dst (.ptr s.st.length 0 [] 0))
   |some (.map _ _), .lit (.map none)=>K (put {s with st:=s.st++[.iter s.st.length 0 [.map none]]} dst (.ptr s.st.length 0 [] 0))
   |some .string, .lit (.string b)=>K (put {s with st:=s.st++[.cR b 0]} dst (.ptr s.st.length 0 [] 0))
   |_,_=>False)
 | .next it false=>
  (match ev s it with
   | .ptr j 0 _ 0=>
    (match ar s.st j with
    | .iter i n ks=>
     (match ar s.st i with
      | .map Kt Vt es=>
       aO (Nat.beq es.length n) (Bh P Kt Vt es ks (fun k v=>K (put {s with st:=da s.st j (.iter i n (k::ks))} dst (.bp [.lit (.bool true), .lit k,v]))) (K (put s dst (.bp [.lit (.bool false)]))))
      |_=>
       (match ks with
       |[.map none]=>K (put s dst (.bp [.lit (.bool false)]))
       |_=>False))
    | .fit Kt Vt ks vs met=>Bh P Kt Vt (ks.zip vs) met (fun k v=>K (put {s with st:=da s.st j (.fit Kt Vt ks vs (k::met))} dst (.bp [.lit (.bool true), .lit k,v]))) (K (put s dst (.bp [.lit (.bool false)])))
    |_=>False)
   |_=>False)
 | .next it true=>
  (match ev s it with
   | .ptr j 0 _ 0=>
    (match ar s.st j with
    | .cR b p=>
     ax (Nat.blt p b.size) (K (put {s with st:=da s.st j (.cR b (p+(Utf8.decode b p).2))} dst (.bp [.lit (.bool true), .lit (.int .i64 p), .lit (.int .i32 (Utf8.decode b p).1)]))) (K (put s dst (.bp [.lit (.bool false)])))
    |_=>False)
   |_=>False)
 | .binOp .eql T x y _=>l5 P s.st T y (ev s x) fun b=>K (put s dst (.lit (.bool b)))
 | .binOp .neq T x y _=>l5 P s.st T y (ev s x) fun b=>K (put s dst (.lit (.bool (!b))))
 | .call {callee:= .builtin .clear,args,argTypes}=>
  (match mq s args.toList,argTypes.toList with
   | [.az i lo n],[T]=>
    (match P.underlying T,ar s.st i with
    | some (.slice Te), .row Tr xs=>
     (match fS P Te with
      |some z=>if Tr=Te/\0<P.cellsOf Te then K (put {s with st:=da s.st i (.row Te (dI xs lo n z))} dst (.bp [])) else False
      |none=>False)
    |_,_=>False)
   |_,_=>False)
 | .entry it=>
  (match ev s it with
   | .ptr j 0 _ 0=>
    (match ar s.st j with
    | .iter i n (k::_)=>
     (match ar s.st i with
      | .map _ Vt es=>
       (match fS P Vt with
       |some z=>aO (Nat.beq es.length n) (K (put s dst (.bp [.lit k,expand P bR Vt (cM es k z)])))
       |none=>False)
      |_=>False)
    | .fit _ Vt ks vs (k::_)=>
     (match fS P Vt with
      |some z=>K (put s dst (.bp [.lit k,expand P bR Vt (cM (ks.zip vs) k z)]))
      |none=>False)
    |_=>False)
   |_=>False)
 | .call {callee:= .builtin .append,args,argTypes}=>
  (match mq s args.toList,argTypes.toList with
   |[x,y],[T,T']=>if T=T' then nK P s T x y fun st a=>K (put {s with st} dst a) else False
   |_,_=>False)
 |_=>False
def vu:Nat->(Nat->Prop)->Prop
 |0,k=>k 0
 |n+1,k=>vu n fun m=>k (m+1)
def Kz:List Nat->(List Nat->Prop)->Prop
 |[],k=>k []
 |n::l,k=>vu n fun n'=>Kz l fun l'=>k (n'::l')
theorem x2: ∀(n:Nat) (k:Nat->Prop),vu n k=k n
 |0,_=>rfl
 |n+1,k=>by simp only[vu,x2 n]
theorem DV: ∀(l:List Nat) (k:List Nat->Prop),Kz l k=k l
 |[],_=>rfl
 |n::l,k=>by simp only[Kz,x2,DV l]
mutual
def uD:AV->(AV->Prop)->Prop
 | .agg l,k=>xC l fun l'=>k (.agg l')
 | .bp l,k=>xC l fun l'=>k (.bp l')
 | .bP f l,k=>xC l fun l'=>k (.bP f l')
 | .iq T a,k=>uD a fun a'=>k (.iq T a')
 | .lit v,k=>k (.lit v)
 | .cf,k=>k .cf
 | .ae T l,k=>k (.ae T l)
 | .az i lo n,k=>vu i fun i'=>k (.az i' lo n)
 | .ptr i x p o,k=>vu i fun i'=>Kz p fun p'=>vu o fun o'=>k (.ptr i' x p' o')
 | .jc T a,k=>k (.jc T a)
 | .mp i,k=>vu i fun i'=>k (.mp i')
 | .cx i,k=>vu i fun i'=>k (.cx i')
 | .jJ i x,k=>vu i fun i'=>k (.jJ i' x)
 | .iZ K V ks vs,k=>k (.iZ K V ks vs)
def xC:List AV->(List AV->Prop)->Prop
 |[],k=>k []
 |a::l,k=>uD a fun a'=>xC l fun l'=>k (a'::l')
end
def Nx:Obj->(Obj->Prop)->Prop
 | .dead,k=>k .dead
 | .box T a,k=>uD a fun a'=>k (.box T a')
 | .row T xs,k=>k (.row T xs)
 | .mo T xs,k=>k (.mo T xs)
 | .map K V es,k=>k (.map K V es)
 | .loop r,k=>xC r.a9 fun l=>k (.loop {state:=r.state,pending:=r.pending,fn:=r.fn,a9:=l,params:=r.params,assign:=r.assign,body:=r.body})
 | .iter i n ks,k=>k (.iter i n ks)
 | .ext t,k=>k (.ext t)
 | .cR s p,k=>k (.cR s p)
 | .rows T E ls pd,k=>k (.rows T E ls pd)
 | .fit K V ks vs met,k=>k (.fit K V ks vs met)
def sR:List Obj->(List Obj->Prop)->Prop
 |[],k=>k []
 |o::l,k=>Nx o fun o'=>sR l fun l'=>k (o'::l')
def zZ(s:S)(k:S->Prop):Prop:=xC s.a9 fun r=>sR s.st fun t=>k {a9:=r,st:=t}
mutual
theorem nI: ∀(a:AV) (k:AV->Prop),uD a k=k a
 | .agg l,k=>by simp only[uD,ob l]
 | .bp l,k=>by simp only[uD,ob l]
 | .bP f l,k=>by simp only[uD,ob l]
 | .iq T a,k=>by simp only[uD,nI a]
 | .lit _,_| .cf,_| .ae _ _,_| .az _ _ _,_| .ptr _ _ _ _,_| .jc _ _,_| .mp _,_| .cx _,_| .jJ _ _,_| .iZ _ _ _ _,_=>by simp only[uD,x2,DV]
theorem ob: ∀(l:List AV) (k:List AV->Prop),xC l k=k l
 |[],k=>by simp only[xC]
 |a::l,k=>by simp only[xC,nI a,ob l]
end
theorem Ls(o:Obj)(k:Obj->Prop):Nx o k=k o:=by
 cases o<;>simp only[Nx,nI,ob]
theorem la: ∀(l:List Obj) (k:List Obj->Prop),sR l k=k l
 |[],k=>rfl
 |o::l,k=>by simp only[sR,Ls,la l]
theorem mc(s:S)(k:S->Prop):zZ s k=k s:=by simp only[zZ,ob,la]
abbrev Rec:=FuncId->Option Nat->Nat->Code->S->(Exit->S->Prop)->Prop
def bK:Nat->List AV
 |0=>[]
 |n+1=> .cf::bK n
def sX(P:Program)(s:S):List ResultVar->Option (List AV)
 |[]=>some []
 | .tmp t::l=>(match sX P s l with|some m=>some (nth s.a9 t::m)|none=>none)
 | .cell a T::l=>
  (match mV P s.st T (nth s.a9 a),sX P s l with
   |some (true,x),some m=>some (x::m)
   |_,_=>none)
def lK:List AV->AV
 |[a]=>a
 |l=> .bp l
def lJ(E:Env)(rec:Rec)(f:FuncId)(args:List AV)(st:List Obj)(K:AV->List Obj->Prop):Prop:=
 match E.P.funcs[f]? with
 | some fn=>
  (match fn.body with
   | some c=>
    rec f none st.length c {a9:=args++bK (fn.ntmps - args.length),st} fun e s=>
     match e with
     | .normal| .ret=>(match sX E.P s fn.results.toList with|some l=>K (lK l) s.st|none=>False)
     |_=>False
   |none=>False)
 |none=>False
def rm(E:Env)(f:FuncId)(args:List AV)(st:List Obj)(K:AV->List Obj->Prop):Prop:=
 let ids:=reach st (st.length*st.length+st.length+20) (cB args) []
 let ρ:=fun i=>jn i ids 0
 let β:=iu ids st.length
 aO (oz 0 st (cB args) ids) (zZ {a9:=fB ρ args,st:=gJ ρ (gQ st ids)} fun s=>E.call f s.a9 s.st fun r sub=>uD (kD β r) fun r'=>sR (fe st ids β sub) fun st'=>K r' st')
def wj(st:List Obj):List AV->Option (List AV×List Nat)
 |[]=>some ([],[])
 | a::l=>
  match wj st l with
  |none=>none
  |some (m,is)=>
   match a with
   | .az _ _ _=>(match bV st a with|some b=>some (b::m,rowsOf a++is)|none=>none)
   | .agg _=>(match bV st a with|some b=>some (b::m,rowsOf a++is)|none=>none)
   |_=>some (a::m,is)
def Hf(P:Program)(Ts:List TypeId):AV->AV
 | .bp l=> .bp (uo P Ts l)
 |a=>(match Ts with|[T]=>DI P T a|_=>a)
def iE:List Tmp->List AV->List AV->List AV
 |p::ps,a::as,a9=>iE ps as (bQ a9 p a)
 |_,_,a9=>a9
def jf (rec:Rec)(l:Nat)(args:List AV)(st:List Obj)(K:AV->List Obj->Prop):Prop:=
 match ar st l with
 | .loop r=>
  if r.state= .ready/\r.params.size=args.length then
   rec r.fn (some l) st.length r.assign {a9:=iE r.params.toList args r.a9,st} fun e s1=>
    match e with
    | .normal=>
     (match ar s1.st l with
      | .loop r1=>
       if r1.state= .ready then
        rec r.fn (some l) st.length r.body {s1 with st:=da s1.st l (.loop {r1 with state:= .busy})} fun e2 s2=>
         match ar s2.st l with
         | .loop r2=>
          (match e2 with
          | .normal=>K (.lit (.bool true)) (da s2.st l (.loop {r2 with state:= .ready,pending:=none}))
          | .ret=>K (.lit (.bool false)) (da s2.st l (.loop {r2 with state:= .done,pending:=some .ret}))
          | .exit id=>K (.lit (.bool false)) (da s2.st l (.loop {r2 with state:= .done,pending:=some (.exit id)}))
          |_=>False)
         |_=>False
       else False
      |_=>False)
    |_=>False
  else False
 |_=>False
def MY:List Nat->Bool
 |[]=>true
 |_=>false
def xP(l:Nat)(todo:Option (List AV))(args:List AV)(st:List Obj)(K:AV->List Obj->Prop):Prop:=
 match todo,wj st args with
 |some xs,some (as,is)=>
  aO (MY (cB as)) (∃rest,xs= .bp as::rest/\K (.lit (.bool true)) (da (cQ st is) l (.ext (some rest)))/\K (.lit (.bool false)) (da (cQ st is) l (.ext none)))
 |_,_=>False
def rQ(E:Env)(rec:Rec)(g:AV)(args:List AV)(st:List Obj)(K:AV->List Obj->Prop):Prop:=
 match g with
 | .bP f caps=>
  if E.inl f then lJ E rec f (args++caps) st K
  else if E.own f then rm E f (args++caps) st K
  else
   (match wj st (args++caps) with
    |some (as,is)=>rm E f (uo E.P (pq E.P f) as) (cQ st is) K
    |none=>False)
 | .cx l=>
  (match ar st l with
   | .ext t=>xP l t args st K
   |_=>jf rec l args st K)
 |_=>False
def dN(s:S)(t:Option Tmp)(b:Bool):S:=
 match t with
 |none=>s
 |some d=>{s with a9:=bQ s.a9 d (.lit (.bool b))}
def ku:List Oper->Nat->Option Tmp
 |[],_=>none
 |o::_,0=>o.dst
 |_::l,n+1=>ku l n
def pr:Operand->Option Tmp
 | .tmp t=>some t
 |_=>none
def gj(s:S):Op->Option (AV×List AV)
 | .call {callee:= .value g,args, .. }=>some (ev s g,mq s args.toList)
 |_=>none
def K0(E:Env)(rec:Rec)(s:S)(dst:Option Tmp)(o:Op)(K:S->Prop):Prop:=
 match bC E s o with
 |some (c,a)=>aO c (K (put s dst a))
 | none=>
  match o with
  | .pick c a b=>
   (match ev s c with
    | .lit (.bool t)=>ax t (K (put (dN s (pr c) true) dst (ev s a))) (K (put (dN s (pr c) false) dst (ev s b)))
    |_=>False)
  |o=>
   match gj s o with
   |some (g,args)=>rQ E rec g args s.st fun a st=>K (put {s with st} dst a)
   |none=>b7 E.P s dst o K
def pt(E:Env)(rec:Rec)(ops:List Oper):List Oper->S->(S->Prop)->Prop
 |[],s,K=>K s
 | o :: l, s, K=>
  match o.guard with
  |none=>K0 E rec s o.dst o.op fun s'=>pt E rec ops l s' K
  | some (j, want)=>
   match ku ops j with
   |none=>False
   | some t=>
    match nth s.a9 t with
    | .lit (.bool b)=>
     match want with
     |true=>ax b (K0 E rec (dN s (some t) true) o.dst o.op fun s'=>pt E rec ops l s' K)
             (pt E rec ops l (put (dN s (some t) false) o.dst (.bp [])) K)
     |false=>ax b (pt E rec ops l (put (dN s (some t) true) o.dst (.bp [])) K)
              (K0 E rec (dN s (some t) false) o.dst o.op fun s'=>pt E rec ops l s' K)
    | .bp []=>pt E rec ops l (put s o.dst (.bp [])) K
    |_=>False
def pf:Option Operand->List Operand
 |none=>[]
 |some x=>[x]
def opsOf:Op->List Operand
 | .move x| .assign x| .load _ x| .nilCheck x| .unOp _ _ x| .fieldAddr _ x _| .field _ x _| .extract x _| .box _ x| .makeInterface _ x| .convert _ _ x=>[x]
 | .pick c a b=>[c,a,b]
 | .binOp _ _ x y _| .indexAddr _ x y| .index _ x y| .lookup _ x y _| .store _ x y| .makeSlice _ x y| .mapEntry _ x y=>[x,y]
 | .slice _ x lo hi m=>x::(pf lo++pf hi++pf m)
 | .makeFunc _ _ caps=>caps.toList
 | .build _ ps| .buildSlice _ _ ps=>ps.toList.map (·.2)
 | .mapUpdate _ x y z| .entryStore _ x y z=>[x,y,z]
 | .range _ x| .next x _| .entry x=>[x]
 | .call {callee:= .value g,args, .. }=>g::args.toList
 | .call {args, .. }=>args.toList
 |_=>[]
def Fw:List Operand->Bool
 |[]=>true
 | .const _::l=>Fw l
 |_=>false
def dZ(quiet:FuncId->Bool):Op->Nat
 | .move _| .assign _| .binOp .. | .unOp .. | .extract .. | .makeFunc .. | .pick .. | .makeInterface .. | .convert .. | .field .. | .build .. | .index .. =>0
 | .load .. | .nilCheck _| .slice .. | .fieldAddr .. | .indexAddr .. | .lookup .. =>1
 | .call {callee:= .builtin .len, .. }=>1
 | .call {callee:= .builtin .min, .. }=>1
 | .call {callee:= .builtin .max, .. }=>1
 | .call {callee:= .value (.func f),args, .. }=>bif quiet f then(bif Fw args.toList then 0 else 1) else 2
 |_=>2
def qq:List Obj->List Obj->Prop
 |[],_=>True
 |_::_,[]=>False
 | .box T a::l,o::l'=>o= .box T a/\qq l l'
 | .rows T E ls pd::l,o::l'=>o= .rows T E ls pd/\qq l l'
 |_::l,_::l'=>qq l l'
def S2(b:Bool)(st st':List Obj)(p:Prop):Prop:=
 match b with
 |true=>qq st st'/\p
 |false=>p
def zR(calm:FuncId->Bool):Op->Bool
 | .call {callee:= .value (.func f), .. }=>calm f
 |_=>false
def vv(E:Env)(rec:Rec)(s:S)(dst:Option Tmp)(o:Op)(K:S->Prop):Prop:=
 match dZ E.quiet o with
 | 2=>
  (match gj s o with
   |some (g,args)=>rQ E rec g args s.st fun a st=>S2 (zR E.calm o) s.st st (K (put {s with st} dst a))
   |none=>b7 E.P s dst o K)
 | _ =>
  (match bC E s o with
   |some (c,a)=>aO c (K (put s dst a))
   | none=>
    (match o with
    | .pick c a b=>
     (match ev s c with
      | .lit (.bool t)=>ax t (K (put (dN s (pr c) true) dst (ev s a))) (K (put (dN s (pr c) false) dst (ev s b)))
      |_=>False)
    |_=>False))
def dB(E:Env)(rec:Rec)(ops:List Oper)(o:Oper)(s:S)(K:S->Prop):Prop:=
 match o.guard with
 |none=>vv E rec s o.dst o.op K
 | some (j,want)=>
  match ku ops j with
  |none=>False
  | some t=>
   match nth s.a9 t with
   | .lit (.bool b)=>
    match want with
    |true=>ax b (vv E rec (dN s (some t) true) o.dst o.op K) (K (put (dN s (some t) false) o.dst (.bp [])))
    |false=>ax b (K (put (dN s (some t) true) o.dst (.bp []))) (vv E rec (dN s (some t) false) o.dst o.op K)
   | .bp []=>K (put s o.dst (.bp []))
   |_=>False
def iv:Nat->List Bool
 |0=>[]
 |n+1=>false::iv n
def eR:List Bool->Nat->Bool
 |[],_=>true
 |b::_,0=>b
 |_::l,n+1=>eR l n
def fr:List Bool->Nat->List Bool
 |[],_=>[]
 |_::l,0=>true::l
 |b::l,n+1=>b::fr l n
def kB(listed:List Bool):List Edge->Bool
 |[]=>true
 |e::l=>(!Region.binds .any e||(Nat.blt e.on listed.length&&eR listed e.on))&&kB listed l
def kb(listed:List Bool):List Oper->Nat->List (Nat×Oper)
 |[],_=>[]
 |o::l,i=>bif !eR listed i&&kB listed o.after.toList then(i,o)::kb listed l (i+1) else kb listed l (i+1)
def wz(t:Nat):List Operand->Bool
 |[]=>false
 | .tmp u::l=>Nat.beq t u||wz t l
 |_::l=>wz t l
def xp(ops:List Oper)(o:Oper)(t:Nat):Bool:=
 wz t (opsOf o.op)||(match o.guard with|none=>false|some (j,_)=>(match ku ops j with|none=>false|some u=>Nat.beq t u))
def yA(ops:List Oper)(o:Oper):Option Tmp->Bool
 |none=>false
 |some t=>xp ops o t
def tw:Option Tmp->Option Tmp->Bool
 |some t,some u=>!Nat.beq t u
 |_,_=>true
def za(ops:List Oper)(a b:Oper):Bool:=
 !yA ops b a.dst&& !yA ops a b.dst&&tw a.dst b.dst
def Ax:Op->Bool
 | .alloc _| .box _ _| .makeSlice .. | .makeMap _ none=>true
 |_=>false
def vj(quiet:FuncId->Bool)(ops:List Oper)(a b:Oper):Bool:=
 za ops a b&&(match dZ quiet a.op with|0=>true|1=>Nat.blt (dZ quiet b.op) 2||Ax b.op|_=>false)
def v7(acc:List Nat):List Edge->Bool
 |[]=>false
 |e::l=>(Region.binds .any e&&kh e.on acc)||v7 acc l
def fwd:List Oper->Nat->List Nat->List Nat
 |[],_,acc=>acc
 |o::l,j,acc=>bif v7 acc o.after.toList then fwd l (j+1) (j::acc) else fwd l (j+1) acc
def ea(quiet:FuncId->Bool)(ops:List Oper)(listed:List Bool)(i:Nat)(o:Oper)(fs:List Nat):List Oper->Nat->Bool
 |[],_=>true
 |b::l,j=>(Nat.beq i j||eR listed j||kh j fs||vj quiet ops o b)&&ea quiet ops listed i o fs l (j+1)
def mu(quiet:FuncId->Bool)(ops:List Oper)(listed:List Bool):List (Nat×Oper)->Option (Nat×Oper)
 |[]=>none
 |(i,o)::l=>bif ea quiet ops listed i o (fwd ops 0 [i]) ops 0 then some (i,o) else mu quiet ops listed l
def qT:Obj->Bool
 | .box _ _=>true
 |_=>false
def xn:Obj->Bool
 | .rows _ _ _ _=>true
 |_=>false
def mS(s:S)(o:Oper):Bool:=
 match o.guard,o.op with
 |none, .load _ x=>(match ev s x with| .ptr k _ _ _=>qT (ar s.st k)| .jc _ _=>true| .lit _=>true|_=>false)
 |none, .call {callee:= .builtin .len,args, .. }=>(match mq s args.toList with|[.ae _ _]=>true|_=>false)
 |none, .nilCheck x=>(match ev s x with| .ptr k _ _ _=>qT (ar s.st k)|_=>false)
 |none, .fieldAddr _ x _=>(match ev s x with| .ptr k _ _ _=>qT (ar s.st k)|_=>false)
 |none, .indexAddr _ x _=>(match ev s x with| .az k 0 _=>xn (ar s.st k)|_=>false)
 |_,_=>false
def E3:Op->Bool
 | .alloc _| .box _ _| .makeMap _ none=>true
 | .buildSlice .. =>true
 | .makeSlice .. =>true
 | .call {callee:= .builtin .append, .. }=>true
 |_=>false
def uE(quiet calm:FuncId->Bool)(ops:List Oper)(a b:Oper):Bool:=
 za ops a b&&(Nat.blt (dZ quiet b.op) 2||E3 b.op||zR calm b.op)
def xf(quiet calm:FuncId->Bool)(ops:List Oper)(listed:List Bool)(i:Nat)(o:Oper)(fs:List Nat):List Oper->Nat->Bool
 |[],_=>true
 |b::l,j=>(Nat.beq i j||eR listed j||kh j fs||uE quiet calm ops o b)&&xf quiet calm ops listed i o fs l (j+1)
def AG(quiet calm:FuncId->Bool)(ops:List Oper)(listed:List Bool)(s:S):List (Nat×Oper)->Option (Nat×Oper)
 |[]=>none
 |(i,o)::l=>bif mS s o&&xf quiet calm ops listed i o (fwd ops 0 [i]) ops 0 then some (i,o) else AG quiet calm ops listed s l
def Gj(p:Nat->Oper->Prop):List (Nat×Oper)->Prop
 |[]=>True
 |[(i,o)]=>p i o
 |(i,o)::l=>p i o/\Gj p l
def pG(E:Env)(rec:Rec)(ops:List Oper):Nat->List Bool->S->(S->Prop)->Prop
 |0,listed,s,K=>match kb listed ops 0 with|[]=>K s|_=>False
 | n+1,listed,s,K=>
  match kb listed ops 0 with
  |[]=>K s
  | r=>
   match mu E.quiet ops listed r with
   |some (i,o)=>dB E rec ops o s fun s'=>pG E rec ops n (fr listed i) s' K
   |none=>
    match AG E.quiet E.calm ops listed s r with
    |some (i,o)=>dB E rec ops o s fun s'=>pG E rec ops n (fr listed i) s' K
    |none=>Gj (fun i o=>dB E rec ops o s fun s'=>pG E rec ops n (fr listed i) s' K) r
def Sn(p:S->(Exit->S->Prop)->Prop)(K:Exit->S->Prop):Exit->S->Prop
 | .normal,s=>p s K
 |e,s=>K e s
def x3(id:Nat)(K:Exit->S->Prop):Exit->S->Prop
 | .exit i,s=>bif Nat.beq i id then K .normal s else K (.exit i) s
 |e,s=>K e s
def MX(K:Exit->S->Prop):Exit->S->Prop
 | .goto _,_=>False
 |e,s=>K e s
def kG:Code->Option Nat
 | .region id _ _=>some id
 | .seq a b=>(match kG a with|some n=>some n|none=>kG b)
 | .block _ c| .scope c| .loop c=>kG c
 | .cond _ a b=>(match kG a with|some n=>some n|none=>kG b)
 | .rangeFunc _ _ a _=>kG a
 |_=>none
def oN(l:Nat)(s:S)(K:Exit->S->Prop)(st:List Obj):Prop:=
 match ar st l with
 | .loop r=>
  (match r.state,r.pending with
   | .busy,_=>False
   |_,none=>K .normal {s with st:=da st l .dead}
   |_,some .ret=>K .ret {s with st:=da st l .dead}
   |_,some (.exit id)=>K (.exit id) {s with st:=da st l .dead}
   |_,_=>False)
 |_=>False
def BA(rd:Option Nat)(st:List Obj):Bool:=
 match rd with
 |none=>true
 |some l=>match ar st l with| .loop _=>true|_=>false
def jx(E:Env)(rec:Rec)(f:FuncId)(rd:Option Nat)(base:Nat):Code->S->(Exit->S->Prop)->Prop
 | .skip,s,K=>K .normal s
 | .label _,s,K=>K .normal s
 | .region _ ops false,s,K=>pt E rec ops.toList ops.toList s (K .normal)
 | .region _ ops true,s,K=>pG E rec ops.toList ops.toList.length (iv ops.toList.length) s (K .normal)
 | .seq a b,s,K=>jx E rec f rd base a s (Sn (jx E rec f rd base b) K)
 | .cond c x y,s,K=>
  match ev s c with
  | .lit (.bool t)=>ax t (jx E rec f rd base x (dN s (pr c) true) K) (jx E rec f rd base y (dN s (pr c) false) K)
  |_=>False
 | .block id c,s,K=>jx E rec f rd base c s (x3 id K)
 | .loop c,s,K=>
  match kG c with
  |some n=>aO (iL E.P (E.live f n) base s) (zZ (canon E.P (E.live f n) base s) fun s'=>E.loop f n c rd base s' K)
  |none=>False
 | .rangeFunc g ps asg body,s,K=>
  match ev s g with
  | .bP f' caps=>
   aO (BA rd s.st) (match E.gen f' with
    |true=>E.jO f (match kG asg with|some n=>n|none=>0) f' caps
     (s.st++[.loop {state:= .ready,pending:=none,fn:=f,a9:=s.a9,params:=ps,assign:=asg,body:=body}]) (oN s.st.length s K)
    |false=>lJ E rec f' (.cx s.st.length::caps)
     (s.st++[.loop {state:= .ready,pending:=none,fn:=f,a9:=s.a9,params:=ps,assign:=asg,body:=body}])
     fun _ st=>oN s.st.length s K st)
  |_=>False
 | .exit id,s,K=>K (.exit id) s
 | .goto _,_,_=>False
 | .scope c,s,K=>jx E rec f rd base c s (MX K)
 | .ret,s,K=>K .ret s
 | .refuse _,_,_=>False
def vc(E:Env):Nat->Rec
 |0=>fun _ _ _ _ _ _=>False
 |n+1=>fun f rd base c s K=>jx E (vc E n) f rd base c s K
end Go.Dn
