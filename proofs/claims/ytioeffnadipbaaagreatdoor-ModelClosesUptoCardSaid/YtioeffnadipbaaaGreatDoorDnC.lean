import Derived.Test.YtioeffnadipbaaaGreatDoorDnB
namespace Go.Dn
open Go
mutual
def refs:AV->List Nat
 | .ak i _ _=>[i]
 | .ptr i _ _ _=>[i]
 | .mp i=>[i]
 | .cn i=>[i]
 | .lZ i _=>[i]
 | .agg l=>df l
 | .aH l=>df l
 | .bo _ l=>df l
 | .jT _ a=>refs a
 |_=>[]
def df:List AV->List Nat
 |[]=>[]
 |a::l=>refs a++df l
end
def A4:Obj->List Nat
 | .box _ a=>refs a
 | .loop r=>df r.bF
 | .iter i _ _=>[i]
 |_=>[]
def jr(i:Nat):List Nat->Bool
 |[]=>false
 |j::l=>Nat.beq i j||jr i l
def reach(st:List Obj):Nat->List Nat->List Nat->List Nat
 |0,_,acc=>acc
 |_+1,[],acc=>acc
 |n+1,i::todo,acc=>
  bif jr i acc then reach st n todo acc else reach st n (A4 (ay st i)++todo) (acc++[i])
def kD(i:Nat):List Nat->Nat->Option Nat
 |[],_=>none
 |j::l,n=>bif Nat.beq i j then some n else kD i l (n+1)
mutual
def nL(ρ:Nat->Option Nat):AV->AV
 | .ak i lo n=>(match ρ i with|some j=> .ak j lo n|none=> .cP)
 | .ptr i k p o=>(match ρ i with|some j=> .ptr j k p o|none=> .cP)
 | .mp i=>(match ρ i with|some j=> .mp j|none=> .cP)
 | .cn i=>(match ρ i with|some j=> .cn j|none=> .cP)
 | .lZ i k=>(match ρ i with|some j=> .lZ j k|none=> .cP)
 | .agg l=> .agg (gf ρ l)
 | .aH l=> .aH (gf ρ l)
 | .bo f l=> .bo f (gf ρ l)
 | .jT T a=> .jT T (nL ρ a)
 |a=>a
def gf(ρ:Nat->Option Nat):List AV->List AV
 |[]=>[]
 |a::l=>nL ρ a::gf ρ l
end
def fI(ρ:Nat->Option Nat):Obj->Obj
 | .box T a=> .box T (nL ρ a)
 | .loop r=> .loop {r with bF:=gf ρ r.bF}
 | .iter i n b=> .iter (match ρ i with|some j=>j|none=>i) n b
 |o=>o
def gF(st:List Obj):List Nat->List Obj
 |[]=>[]
 |i::l=>ay st i::gF st l
def gJ(ρ:Nat->Option Nat):List Obj->List Obj
 |[]=>[]
 |o::l=>fI ρ o::gJ ρ l
def upto:Nat->List Nat
 |0=>[]
 |n+1=>upto n++[n]
def lv(ids:List Nat)(n:Nat)(j:Nat):Option Nat:=
 match idN ids j with
 |some i=>some i
 |none=>some (n+(j - ids.length))
where
 idN:List Nat->Nat->Option Nat
  |[],_=>none
  |i::_,0=>some i
  |_::l,k+1=>idN l k
def fO(st:List Obj)(ids:List Nat)(ρ:Nat->Option Nat):List Obj->List Obj
 |sub=>go st ids sub
where
 go:List Obj->List Nat->List Obj->List Obj
  |st,i::ids,o::sub=>go (dv st i (fI ρ o)) ids sub
  |st,[],sub=>st++gJ ρ sub
  |st,_::_,[]=>st
def iZ(live:List (Nat×Option TypeId)):List AV->Nat->List AV
 |[],_=>[]
 |a::l,n=>(bif memL n live then a else .cP)::iZ live l (n+1)
where
 memL (n:Nat):List (Nat×Option TypeId)->Bool
  |[]=>false
  |(j,_)::l=>Nat.beq n j||memL n l
def TN:=1000000000
def jH:List (Nat×Option TypeId)->S->S
 |[],s=>s
 |(_,none)::l,s=>jH l s
 | (r,some T)::l,s=>
  match nth s.bF r with
  | .lit (.slice none 0 0)=>
   (match Nat.ble TN T with
    |true=>jH l {bF:=bP s.bF r (.ah (T - TN) []),st:=s.st}
    |false=>jH l {bF:=bP s.bF r (.ak s.st.length 0 0),st:=s.st++[.row T []]})
  |_=>jH l s
def Hw(P:Program)(i:Nat)(s:S):S:=
 match ay s.st i with
 | .box a (.lit (.slice none 0 0))=>
  match P.underlying a with
  |some (.slice b)=>{s with st:=dv s.st i (.box a (.ak s.st.length 0 0))++[.row b []]}
  |_=>s
 |_=>s
def sM(P:Program):List Nat->S->S
 |[],s=>s
 |i::l,s=>sM P l (Hw P i s)
def Ye(i j:Nat)(T:TypeId)(st:List Obj):List Obj:=
 match ay st i with
 | .box b (.agg a)=>
  match nth a j with
  | .lit (.slice none 0 0)=>dv st i (.box b (.agg (bP a j (.ak st.length 0 0))))++[.row T []]
  |_=>st
 |_=>st
def yl:List (Nat×Nat×TypeId)->List Obj->List Obj
 |[],st=>st
 |(i,j,T)::l,st=>yl l (Ye i j T st)
def BT:List (Nat×Option TypeId)->List (Nat×Nat×TypeId)
 |[]=>[]
 |(r,t)::l=>match Nat.ble 1000 r,t with
  |true,some T=>((r - 1000) / 64,(r - 1000) % 64,T)::BT l
  |_,_=>BT l
def yW(st:List Obj):List Nat->List Nat
 |[]=>[]
 |i::l=>A4 (ay st i)++yW st l
def jC base st a:=
 reach st (st.length*st.length+st.length+20) (yW st (upto base)++a) (upto base)
def D0(ids:List Nat):List Nat->Bool
 |[]=>true
 |i::l=>jr i ids&&D0 ids l
def I4(n:Nat):List Nat->Bool
 |[]=>true
 |i::l=>decide (i<n)&&I4 n l
def CA:List Nat->Bool
 |[]=>true
 |i::l=>!jr i l&&CA l
def wK(ids:List Nat):List Nat->Bool
 |[]=>true
 |i::l=>(match kD i ids 0 with|some j=>Nat.beq i j|none=>false)&&wK ids l
def qY base st a ids:=
 CA ids&&I4 st.length ids&&wK ids (upto base)&&D0 ids a&&D0 ids (yW st ids)
def Cp(l:List _)(s:S):=
 match l with
 |[]=>s
 |_=>{s with st:=yl l s.st}
def iR P a(s:S):=
 let s1:=jH a {s with bF:=iZ a s.bF 0}
 Cp (BT a) (sM P (upto s1.st.length) s1)
def kc P a base s:=
 qY base (iR P a s).st (df (iR P a s).bF) (jC base (iR P a s).st (df (iR P a s).bF))
def wA(ids:List Nat)(s:S):S:=
 {bF:=gf (fun i=>kD i ids 0) s.bF,st:=gJ (fun i=>kD i ids 0) (gF s.st ids)}
def canon P a base s:=
 wA (jC base (iR P a s).st (df (iR P a s).bF)) (iR P a s)
def Jb(P:Program)(T:TypeId):List AV->Bool
 |[]=>true
 |a::l=>xl P a T&&Jb P T l
def wb:Nat:=70368744177664
def p9(b:Option _)(a:TypeId):=
 match b with
 |none=>true
 |some U=>U==a
def su(P:Program)(E:TypeId):Bool:=
 match P.underlying E with
 |some (.int _)|some .bool|some .string=>P.cellsOf E==1
 |_=>false
def js:List AV->Option (List Value)
 |[]=>some []
 | .lit v::l=>(match js l with|some m=>some (v::m)|none=>none)
 |_=>none
def qi (P:Program)(s:S)(T:TypeId)(x y:AV)(K:List Obj->AV->Prop):Prop:=
 match P.underlying T with
 | some (.slice a)=>
  match qG s.st y,je P a with
  | some (e,b),some _=>
   match p9 e a&&decide (0<P.cellsOf a) with
   |false=>False
   | true=>
    match x with
    | .lit (.slice none 0 0)=>
     aW (decide ((b.length+1)*(P.bytesOf a+1)<=wb)) (K (s.st++[.row a b]) (.ak s.st.length 0 b.length))
    | .ak i lo n=>
     match ay s.st i with
     | .row c xs=>
      if c=a/\lo=0 then
       aW (decide ((n+b.length+1)*(P.bytesOf a+1)<=wb))
        (K (dv s.st i .dead++[.row a (xs.take n++b)]) (.ak s.st.length 0 (n+b.length)))
      else False
     | .rows c E d none=>
      match lo,js b with
      | k+1,some f=>
       if E=a/\Jb P a b=true then
        aW (decide (n=(b8 d k).length)&&decide ((n+b.length+1)*(P.bytesOf a+1)<=wb))
         (K (dv s.st i (.rows c E (iD d k (b8 d k++f)) (some k))) (.ak i (Nat.succ k) (n+b.length)))
       else False
      |_,_=>False
     |_=>False
    |_=>False
  |_,_=>False
 |_=>False
def kG(P:Program):TypeId->List Nat->Option TypeId
 |T,[]=>some T
 |T,j::p=>match rI (fieldsOf P T) j with
  |some a=>kG P a.type p
  |none=>none
def yI(P:Program)(b:TypeId)(a:List Nat)(T:TypeId):Bool:=
 match kG P b a with
 |some U=>Nat.beq U T
 |none=>false
def rZ(P:Program)(s:S)(T:TypeId)(p x:AV)(K:List Obj->Prop):=
 match p with
 | .ptr i k b off=>
  match ay s.st i with
  | .box g a=>
   if oU a b&&jJ a b==off&&wid x==P.cellsOf T&&wid (o5 a b)==P.cellsOf T&&rV x&&(P.underlying T).isSome&&yI P g b T then K (dv s.st i (.box g (jx a b x))) else False
  | .row _ _=>
   match cq s.st x,ay (cV s.st (rowsOf x)) i with
   | some d, .row c xs=>
    if oU (expand P cr c (nth xs k)) b&&jJ (expand P cr c (nth xs k)) b==off&&wid d==P.cellsOf T&&wid (o5 (expand P cr c (nth xs k)) b)==P.cellsOf T&&
      xl P (jx (expand P cr c (nth xs k)) b d) c&&rV d&&(P.underlying T).isSome then
     K (dv (cV s.st (rowsOf x)) i (.row c (bP xs k (jx (expand P cr c (nth xs k)) b d))))
    else False
   |_,_=>False
  | .rows c E e (some f)=>
   match b,off,x with
    |[],0, .ak j (h+1) m=>if j=i/\T=c then aW (decide (k=f)&&decide (h=f)&&decide (m=(b8 e k).length)) (K (dv s.st i (.rows c E e none))) else False
    |_,_,_=>False
  |_=>False
 |_=>False
def gA(a:AV) n:=List.replicate n a
def JI(P:Program)(a:TypeId)(z:AV)(n:Nat):Obj:=
 match P.underlying a,z with
 |some (.slice E), .lit (.slice none 0 0)=>if su P E=true/\P.cellsOf a=1 then .rows a E (List.replicate n []) none else .row a (gA z n)
 |_,_=> .row a (gA z n)
def lQ(P:Program)(T:TypeId)(st:List Obj):List AV->List (Nat×AV)->Option (List AV×List Nat)
 |l,[]=>some (l,[])
 | l,(i,x)::ps=>
  match cq st x with
  | some a=>
   if xl P a T&&decide (i<l.length) then
    match lQ P T st (bP l i a) ps with
    |some (m,b)=>some (m,rowsOf x++b)
    |none=>none
   else none
  |none=>none
def k8:List Value->Value->Bool
 |[],_=>false
 |a::l,k=>eP a k||k8 l k
def kQ(a:List Value):List (Value×AV)->Bool
 |[]=>true
 |(k,_)::b=>k8 a k&&kQ a b
def EO(P:Program) d c a b(p:Value->AV->Prop) q:=
 (match P.underlying d with
  |some (.int κ)=>∀n v,(Value.int κ n,v)∈a->k8 b (.int κ n)=false->p (.int κ n) (expand P cr c v)
  |some .string=>∀t v,(Value.string t,v)∈a->k8 b (.string t)=false->p (.string t) (expand P cr c v)
  |_=>False)/\(kQ b a=true->q)
def Pw:List AV->Bool
 |[]=>true
 |_::_=>false
def dt:List AV->Nat->Nat->AV->List AV
 |[],_,_,_=>[]
 |a::l,0,0,_=>a::l
 |_::l,0,n+1,z=>z::dt l 0 n z
 |a::l,lo+1,n,z=>a::dt l lo n z
def oi(P:Program)(st:List Obj)(T:TypeId)(y:Operand)(a:AV)(K:Bool->Prop):Prop:=
 match y,P.underlying T with
 | .const (.slice none 0 0),some (.slice _)=>
  match a with
   | .lit (.slice none 0 0)=>K true
   | .ah _ l=>(Pw l=true->K true)/\K false
   | .ak i _ n=>match Ul (ay st i) with|true=>(Nat.beq n 0=true->K true)/\K false|false=>False
   |_=>False
 |_,_=>False
def cy (P:Pg)(s:S)(d:Option Tmp)(o:Op)(K:S->Prop):Prop:=
 match o with
 | .alloc T=>
  (match K3 P T with
   |some z=>K (put {s with st:=s.st++[.box T z]} d (.ptr s.st.length 0 [] 0))
   |none=>False)
 | .box T x=>
  if rV (ev s x) then
   match P.imm T with
   |true=>aW (xl P (ev s x) T) (K (put {s with st:=s.st++[.dead]} d (.jK T (ev s x))))
   |false=>K (put {s with st:=s.st++[.box T (ev s x)]} d (.ptr s.st.length 0 [] 0))
  else False
 | .store T p x=>rZ P s T (ev s p) (ev s x) fun st=>K (put {s with st} d .cP)
 | .buildSlice T u t=>
  (match P.underlying T with
   | some (.slice g)=>
    (match je P g with
    | some z=>
     (match lQ P g s.st (gA z u) (fG s t.toList) with
      | some (l,J)=>
       if decide (u*P.cellsOf g<=16777216)&&decide (0<P.cellsOf g) then
        K (put {s with st:=cV s.st J++[.row g l]} d (.ak s.st.length 0 u))
       else False
      |none=>False)
    |none=>False)
   |_=>False)
 | .makeSlice T F E=>
  (match P.underlying T,Vx (ev s F),Vx (ev s E) with
   | some (.slice g),some (.i64,n),some (.i64,c)=>
    (match je P g with
    | some z=>
     aW (decide (0<=n)&&decide (n<=c)&&decide ((c.toNat+1)*(P.bytesOf g+1)<=wb)&&decide (0<P.cellsOf g))
      (K (put {s with st:=s.st++[JI P g z n.toNat]} d (.ak s.st.length 0 n.toNat)))
    |none=>False)
   |_,_,_=>False)
 | .makeMap T none=>
  (match P.underlying T with
   |some (.map f e)=>K (put {s with st:=s.st++[.map f e []]} d (.mp s.st.length))
   |_=>False)
 | .mapUpdate T m k x=>
  (match P.underlying T,ev s m,ev s k,cq s.st (ev s x) with
   | some (.map f e), .mp i, .lit q,some v=>
    (match ay (cV s.st (rowsOf (ev s x))) i with
    | .map D A h=>
     if D=f/\A=e/\plainKey P f q=true/\xl P v e=true then
      K (put {s with st:=dv (cV s.st (rowsOf (ev s x))) i (.map f e (fb h q v))} d .cP)
     else False
    |_=>False)
   |_,_,_,_=>False)
 | .mapEntry T m k=>
  (match P.underlying T,ev s m,ev s k with
   | some (.map f e), .mp i, .lit q=>
    (match ay s.st i,je P e with
    | .map D A h,some z=>
     if D=f/\A=e/\plainKey P f q=true then
      let v:=expand P cr e (dj h q z)
      K (put {s with st:=dv s.st i (.map f e (fb h q v))} d (.aH [v, .lZ i q]))
     else False
    |_,_=>False)
   |_,_,_=>False)
 | .entryStore T m lZ x=>
  (match P.underlying T,ev s m,ev s lZ,cq s.st (ev s x) with
   | some (.map f e), .mp i, .lZ j q,some v=>
    (match ay (cV s.st (rowsOf (ev s x))) i with
    | .map D A h=>
     if i=j/\D=f/\A=e/\plainKey P f q=true/\xl P v e=true then
      K (put {s with st:=dv (cV s.st (rowsOf (ev s x))) i (.map f e (fb h q v))} d .cP)
     else False
    |_=>False)
   |_,_,_,_=>False)
 | .range T x=>
  (match P.underlying T,ev s x with
   |some (.map _ _), .mp i=>
    (match ay s.st i with
    | .map _ _ h=>K (put {s with st:=s.st++[.iter i h.length []]} d (.ptr s.st.length 0 [] 0))
    |_=>False)
   |some (.map _ _), .fh f e r w=>K (put {s with st:=s.st++[.fit f e r w []]} d (.ptr s.st.length 0 [] 0))
   |some (.map _ _), .lit (.map none)=>K (put {s with st:=s.st++[.iter s.st.length 0 [.map none]]} d (.ptr s.st.length 0 [] 0))
   |some .string, .lit (.string b)=>K (put {s with st:=s.st++[.dD b 0]} d (.ptr s.st.length 0 [] 0))
   |_,_=>False)
 | .next B false=>
  (match ev s B with
   | .ptr j 0 _ 0=>
    (match ay s.st j with
    | .iter i n r=>
     (match ay s.st i with
      | .map f e h=>
       aW (Nat.beq h.length n) (EO P f e h r (fun k v=>K (put {s with st:=dv s.st j (.iter i n (k::r))} d (.aH [.lit (.bool true), .lit k,v]))) (K (put s d (.aH [.lit (.bool false)]))))
      |_=>
       (match r with
       |[.map none]=>K (put s d (.aH [.lit (.bool false)]))
       |_=>False))
    | .fit f e r w C=>EO P f e (r.zip w) C (fun k v=>K (put {s with st:=dv s.st j (.fit f e r w (k::C))} d (.aH [.lit (.bool true), .lit k,v]))) (K (put s d (.aH [.lit (.bool false)])))
    |_=>False)
   |_=>False)
 | .next B true=>
  (match ev s B with
   | .ptr j 0 _ 0=>
    (match ay s.st j with
    | .dD b p=>
     aq (Nat.blt p b.size) (K (put {s with st:=dv s.st j (.dD b (p+(Utf8.decode b p).2))} d (.aH [.lit (.bool true), .lit (.int .i64 p), .lit (.int .i32 (Utf8.decode b p).1)]))) (K (put s d (.aH [.lit (.bool false)])))
    |_=>False)
   |_=>False)
 | .binOp .eql T x y _=>oi P s.st T y (ev s x) fun b=>K (put s d (.lit (.bool b)))
 | .binOp .neq T x y _=>oi P s.st T y (ev s x) fun b=>K (put s d (.lit (.bool (!b))))
 | .call {callee:= .builtin .clear,args,argTypes}=>
  (match pj s args.toList,argTypes.toList with
   | [.ak i lo n],[T]=>
    (match P.underlying T,ay s.st i with
    | some (.slice g), .row I xs=>
     (match je P g with
      |some z=>if I=g/\0<P.cellsOf g then K (put {s with st:=dv s.st i (.row g (dt xs lo n z))} d (.aH [])) else False
      |none=>False)
    |_,_=>False)
   |_,_=>False)
 | .entry B=>
  (match ev s B with
   | .ptr j 0 _ 0=>
    (match ay s.st j with
    | .iter i n (k::_)=>
     (match ay s.st i with
      | .map _ e h=>
       (match je P e with
       |some z=>aW (Nat.beq h.length n) (K (put s d (.aH [.lit k,expand P cr e (dj h k z)])))
       |none=>False)
      |_=>False)
    | .fit _ e r w (k::_)=>
     (match je P e with
      |some z=>K (put s d (.aH [.lit k,expand P cr e (dj (r.zip w) k z)]))
      |none=>False)
    |_=>False)
   |_=>False)
 | .call {callee:= .builtin .append,args,argTypes}=>
  (match pj s args.toList,argTypes.toList with
   |[x,y],[T,H]=>if T=H then qi P s T x y fun st a=>K (put {s with st} d a) else False
   |_,_=>False)
 |_=>False
def zE:Nat->(Nat->Prop)->Prop
 |0,k=>k 0
 |n+1,k=>zE n fun m=>k (m+1)
def Tv:List Nat->(List Nat->Prop)->Prop
 |[],k=>k []
 |n::l,k=>zE n fun n'=>Tv l fun l'=>k (n'::l')
theorem BW: ∀n k,zE n k=k n
 |0,_=>rfl
 |n+1,k=>by simp[zE,BW n]
theorem Jk: ∀l k,Tv l k=k l
 |[],_=>rfl
 |n::l,k=>by simp[Tv,BW,Jk l]
mutual
def xC:AV->(AV->Prop)->Prop
 | .agg l,k=>BV l fun l'=>k (.agg l')
 | .aH l,k=>BV l fun l'=>k (.aH l')
 | .bo f l,k=>BV l fun l'=>k (.bo f l')
 | .jT T a,k=>xC a fun a'=>k (.jT T a')
 | .lit v,k=>k (.lit v)
 | .cP,k=>k .cP
 | .ah T l,k=>k (.ah T l)
 | .ak i lo n,k=>zE i fun i'=>k (.ak i' lo n)
 | .ptr i x p o,k=>zE i fun i'=>Tv p fun p'=>zE o fun o'=>k (.ptr i' x p' o')
 | .jK T a,k=>k (.jK T a)
 | .mp i,k=>zE i fun i'=>k (.mp i')
 | .cn i,k=>zE i fun i'=>k (.cn i')
 | .lZ i x,k=>zE i fun i'=>k (.lZ i' x)
 | .fh K V ks vs,k=>k (.fh K V ks vs)
def BV:List AV->(List AV->Prop)->Prop
 |[],k=>k []
 |a::l,k=>xC a fun a'=>BV l fun l'=>k (a'::l')
end
def X1:Obj->(Obj->Prop)->Prop
 | .dead,k=>k .dead
 | .box T a,k=>xC a fun g=>k (.box T g)
 | .row T xs,k=>k (.row T xs)
 | .l3 T xs,k=>k (.l3 T xs)
 | .map K V e,k=>k (.map K V e)
 | .loop r,k=>BV r.bF fun l=>k (.loop {state:=r.state,pending:=r.pending,fn:=r.fn,bF:=l,params:=r.params,assign:=r.assign,body:=r.body})
 | .iter i n b,k=>k (.iter i n b)
 | .ext t,k=>k (.ext t)
 | .dD s p,k=>k (.dD s p)
 | .rows T E f d,k=>k (.rows T E f d)
 | .fit K V b h c,k=>k (.fit K V b h c)
def xD:List Obj->(List Obj->Prop)->Prop
 |[],k=>k []
 |o::l,k=>X1 o fun o'=>xD l fun l'=>k (o'::l')
def Ej(s:S)(k:S->Prop):=BV s.bF fun r=>xD s.st fun t=>k {bF:=r,st:=t}
mutual
theorem nV: ∀(a:AV) (k:AV->Prop),xC a k=k a
 | .agg l,k=>by simp only[xC,qn l]
 | .aH l,k=>by simp only[xC,qn l]
 | .bo f l,k=>by simp only[xC,qn l]
 | .jT T a,k=>by simp only[xC,nV a]
 | .lit _,_| .cP,_| .ah _ _,_| .ak _ _ _,_| .ptr _ _ _ _,_| .jK _ _,_| .mp _,_| .cn _,_| .lZ _ _,_| .fh _ _ _ _,_=>by simp only[xC,BW,Jk]
theorem qn: ∀(l:List AV) (k:List AV->Prop),BV l k=k l
 |[],k=>by simp only[BV]
 |a::l,k=>by simp only[BV,nV a,qn l]
end
theorem Tu o k:X1 o k=k o:=by
 cases o<;>simp[X1,nV,qn]
theorem lF: ∀l k,xD l k=k l
 |[],k=>rfl
 |o::l,k=>by simp[xD,Tu,lF l]
theorem kW s k:Ej s k=k s:=by simp[Ej,qn,lF]
def Tw:List AV->(List AV->Prop)->Prop
 |[],k=>k []
 |a::l,k=>Tw l fun l'=>k (a::l')
def zD(K:S->Prop)(s:S):=Tw s.bF fun r=>K {bF:=r,st:=s.st}
theorem Jl: ∀l k,Tw l k=k l
 |[],_=>rfl
 |a::l,k=>by simp[Tw,Jl l]
theorem wG K:zD K=K:=by
 funext s
 simp[zD,Jl]
abbrev Rec:=FuncId->Option Nat->Nat->Code->S->(Exit->S->Prop)->Prop
def bR:Nat->List AV
 |0=>[]
 |n+1=> .cP::bR n
def yZ(P:Program)(s:S):List ResultVar->Option (List AV)
 |[]=>some []
 | .tmp t::l=>(match yZ P s l with|some m=>some (nth s.bF t::m)|none=>none)
 | .cell a T::l=>
  (match oK P s.st T (nth s.bF a),yZ P s l with
   |some (true,x),some m=>some (x::m)
   |_,_=>none)
def ov:List AV->AV
 |[a]=>a
 |l=> .aH l
def nX(E:Env)(d:Rec)(f:FuncId)(a:List AV)(st:List Obj)(K:AV->List Obj->Prop):Prop:=
 match E.P.funcs[f]? with
 | some b=>
  match b.body with
   | some c=>
    d f none st.length c {bF:=a++bR (b.ntmps - a.length),st} fun e s=>
     match e with
     | .normal| .ret=>match yZ E.P s b.results.toList with|some l=>K (ov l) s.st|none=>False
     |_=>False
   |none=>False
 |none=>False
def r4(E:Env) f args st(K:AV->List _->Prop):=
 let ids:=reach st (st.length*st.length+st.length+20) (df args) []
 let ρ:=fun i=>kD i ids 0
 let β:=lv ids st.length
 aW (qY 0 st (df args) ids) (Ej {bF:=gf ρ args,st:=gJ ρ (gF st ids)} fun s=>E.call f s.bF s.st fun r sub=>xC (nL β r) fun r'=>xD (fO st ids β sub) fun st'=>K r' st')
def ye(st:List Obj):List AV->Option (List AV×List Nat)
 |[]=>some ([],[])
 | a::l=>
  match ye st l with
  |none=>none
  |some (m,is)=>
   match a with
   | .ak _ _ _=>(match cq st a with|some b=>some (b::m,rowsOf a++is)|none=>none)
   | .agg _=>(match cq st a with|some b=>some (b::m,rowsOf a++is)|none=>none)
   |_=>some (a::m,is)
def Oz(P:Program)(Ts:List TypeId):AV->AV
 | .aH l=> .aH (sv P Ts l)
 |a=>match Ts with|[T]=>Jj P T a|_=>a
def lp:List Tmp->List AV->List AV->List AV
 |p::ps,a::c,b=>lp ps c (bP b p a)
 |_,_,b=>b
def gx (b :Rec)(l:Nat)(a:List AV)(st:List Obj)(K:AV->List Obj->Prop):Prop:=
 match ay st l with
 | .loop r=>
  if r.state= .ready/\r.params.size=a.length then
   b r.fn (some l) st.length r.assign {bF:=lp r.params.toList a r.bF,st} fun e s1=>
    match e with
    | .normal=>
     match ay s1.st l with
      | .loop d=>
       if d.state= .ready then
        b r.fn (some l) st.length r.body {s1 with st:=dv s1.st l (.loop {d with state:= .busy})} fun f s2=>
         match ay s2.st l with
         | .loop c=>
          match f with
          | .normal=>K (.lit (.bool true)) (dv s2.st l (.loop {c with state:= .ready,pending:=none}))
          | .ret=>K (.lit (.bool false)) (dv s2.st l (.loop {c with state:= .done,pending:=some .ret}))
          | .exit id=>K (.lit (.bool false)) (dv s2.st l (.loop {c with state:= .done,pending:=some (.exit id)}))
          |_=>False
         |_=>False
       else False
      |_=>False
    |_=>False
  else False
 |_=>False
def Py:List Nat->Bool
 |[]=>true
 |_=>false
def DM(l:Nat)(todo:Option (List AV))(b:List AV)(st:List Obj)(K:AV->List Obj->Prop):Prop:=
 match todo,ye st b with
 |some xs,some (c,d)=>
  aW (Py (df c)) (∃a,xs= .aH c::a/\K (.lit (.bool true)) (dv (cV st d) l (.ext (some a)))/\K (.lit (.bool false)) (dv (cV st d) l (.ext none)))
 |_,_=>False
def o9(E:Env) c(g:AV)(a:List AV)(st:List Obj)(K:AV->List Obj->Prop):=
 match g with
 | .bo f b=>
  if E.inl f then nX E c f (a++b) st K
  else if E.own f then r4 E f (a++b) st K
  else
   match ye st (a++b) with
    |some (d,e)=>r4 E f (sv E.P (nz E.P f) d) (cV st e) K
    |none=>False
 | .cn l=>
  match ay st l with
   | .ext t=>DM l t a st K
   |_=>gx c l a st K
 |_=>False
def fa(s:S)(t:Option Tmp)(b:Bool):=
 match t with
 |none=>s
 |some d=>{s with bF:=bP s.bF d (.lit (.bool b))}
def oH:List Oper->Nat->Option Tmp
 |[],_=>none
 |o::_,0=>o.dst
 |_::l,n+1=>oH l n
def tz:Operand->Option Tmp
 | .tmp t=>some t
 |_=>none
def ic(s:S):Op->Option (AV×List AV)
 | .call {callee:= .value g,args, .. }=>some (ev s g,pj s args.toList)
 |_=>none
def T8(E:Env)(f:Rec)(s:S)(d:Option Tmp)(o:Op)(K:S->Prop):Prop:=
 match bM E s o with
 |some (c,a)=>aW c (K (put s d a))
 | none=>
  match o with
  | .pick c a b=>
   match ev s c with
    | .lit (.bool t)=>aq t (K (put (fa s (tz c) true) d (ev s a))) (K (put (fa s (tz c) false) d (ev s b)))
    |_=>False
  |o=>
   match ic s o with
   |some (g,e)=>o9 E f g e s.st fun a st=>K (put {s with st} d a)
   |none=>cy E.P s d o K
def pI(E:Env)(rec:Rec)(ops:List Oper):List Oper->S->(S->Prop)->Prop
 |[],s,K=>K s
 | o :: l, s, K=>
  match o.guard with
  |none=>T8 E rec s o.dst o.op fun s'=>pI E rec ops l s' K
  | some (j, want)=>
   match oH ops j with
   |none=>False
   | some t=>
    match nth s.bF t with
    | .lit (.bool b)=>
     match want with
     |true=>aq b (T8 E rec (fa s (some t) true) o.dst o.op fun s'=>pI E rec ops l s' K)
             (pI E rec ops l (put (fa s (some t) false) o.dst (.aH [])) K)
     |false=>aq b (pI E rec ops l (put (fa s (some t) true) o.dst (.aH [])) K)
              (T8 E rec (fa s (some t) false) o.dst o.op fun s'=>pI E rec ops l s' K)
    | .aH []=>pI E rec ops l (put s o.dst (.aH [])) K
    |_=>False
def rL:Option Operand->List Operand
 |none=>[]
 |some x=>[x]
def opsOf:Op->List Operand
 | .move x| .assign x| .load _ x| .nilCheck x| .unOp _ _ x| .fieldAddr _ x _| .field _ x _| .extract x _| .box _ x| .makeInterface _ x| .convert _ _ x=>[x]
 | .pick c a b=>[c,a,b]
 | .binOp _ _ x y _| .indexAddr _ x y| .index _ x y| .lookup _ x y _| .store _ x y| .makeSlice _ x y| .mapEntry _ x y=>[x,y]
 | .slice _ x lo e m=>x::(rL lo++rL e++rL m)
 | .makeFunc _ _ d=>d.toList
 | .build _ ps| .buildSlice _ _ ps=>ps.toList.map (·.2)
 | .mapUpdate _ x y z| .entryStore _ x y z=>[x,y,z]
 | .range _ x| .next x _| .entry x=>[x]
 | .call {callee:= .value g,args, .. }=>g::args.toList
 | .call {args, .. }=>args.toList
 |_=>[]
def N6:List Operand->Bool
 |[]=>true
 | .const _::l=>N6 l
 |_=>false
def fE(quiet:FuncId->Bool):Op->Nat
 | .move _| .assign _| .binOp .. | .unOp .. | .extract .. | .makeFunc .. | .pick .. | .makeInterface .. | .field .. | .build .. | .index .. =>0
 | .load .. | .nilCheck _| .convert .. | .slice .. | .fieldAddr .. | .indexAddr .. | .lookup .. =>1
 | .call {callee:= .builtin .len, .. }=>1
 | .call {callee:= .builtin .min, .. }=>1
 | .call {callee:= .builtin .max, .. }=>1
 | .call {callee:= .value (.func f),args, .. }=>bif quiet f then bif N6 args.toList then 0 else 1 else 2
 |_=>2
def si:List Obj->List Obj->Prop
 |[],_=>True
 |_::_,[]=>False
 | .box T a::l,o::b=>o= .box T a/\si l b
 | .rows T E d c::l,o::b=>o= .rows T E d c/\si l b
 |_::l,_::b=>si l b
def frm b(st st':List Obj)(p:Prop):=
 match b with
 |true=>si st st'/\p
 |false=>p
def LZ(E:Env)(g:AV)(b:List AV)(st:List Obj):=
 match g with
 | .bo f a=>!E.inl f&& !E.own f&&match ye st (b++a) with
  |some (c,[])=>Py (df (sv E.P (nz E.P f) c))
  |_=>false
 |_=>false
def xj(a:FuncId->Bool):Op->Bool
 | .call {callee:= .value (.func f), .. }=>a f
 |_=>false
def wk(E:Env)(f:Rec)(s:S)(d:Option Tmp)(o:Op)(K:S->Prop):Prop:=
 match fE E.quiet o with
 | 2=>
  match ic s o with
   |some (g,e)=>o9 E f g e s.st fun a st=>frm (xj E.calm o&& !LZ E g e s.st) s.st st (K (put {s with st} d a))
   |none=>cy E.P s d o K
 | _ =>
  match bM E s o with
   |some (c,a)=>aW c (K (put s d a))
   | none=>
    match o with
    | .pick c a b=>
     match ev s c with
      | .lit (.bool t)=>aq t (K (put (fa s (tz c) true) d (ev s a))) (K (put (fa s (tz c) false) d (ev s b)))
      |_=>False
    |_=>False
def eb E a ops(o:Oper) s K:=
 match o.guard with
 |none=>wk E a s o.dst o.op K
 | some (j,c)=>
  match oH ops j with
  |none=>False
  | some t=>
   match nth s.bF t with
   | .lit (.bool b)=>
    match c with
    |true=>aq b (wk E a (fa s (some t) true) o.dst o.op K) (K (put (fa s (some t) false) o.dst (.aH [])))
    |false=>aq b (K (put (fa s (some t) true) o.dst (.aH []))) (wk E a (fa s (some t) false) o.dst o.op K)
   | .aH []=>K (put s o.dst (.aH []))
   |_=>False
def jm:Nat->List Bool
 |0=>[]
 |n+1=>false::jm n
def fN:List Bool->Nat->Bool
 |[],_=>true
 |b::_,0=>b
 |_::l,n+1=>fN l n
def hG:List Bool->Nat->List Bool
 |[],_=>[]
 |_::l,0=>true::l
 |b::l,n+1=>b::hG l n
def mq(listed:List Bool):List Edge->Bool
 |[]=>true
 |e::l=>(!Region.binds .any e||(Nat.blt e.on listed.length&&fN listed e.on))&&mq listed l
def kI(a:List Bool):List Oper->Nat->List (Nat×Oper)
 |[],_=>[]
 |o::l,i=>bif !fN a i&&mq a o.after.toList then(i,o)::kI a l (i+1) else kI a l (i+1)
def Bj(t:Nat):List Operand->Bool
 |[]=>false
 | .tmp u::l=>Nat.beq t u||Bj t l
 |_::l=>Bj t l
def Cg ops(o:Oper) t:=
 Bj t (opsOf o.op)||match o.guard with|none=>false|some (j,_)=>match oH ops j with|none=>false|some u=>Nat.beq t u
def Ch(ops:List Oper)(o:Oper):Option Tmp->Bool
 |none=>false
 |some t=>Cg ops o t
def xr:Option Tmp->Option Tmp->Bool
 |some t,some u=>!Nat.beq t u
 |_,_=>true
def tO ops a b:=
 !Ch ops b a.dst&& !Ch ops a b.dst&&xr a.dst b.dst
def EG:Op->Bool
 | .alloc _| .box _ _| .makeSlice .. | .makeMap _ none=>true
 |_=>false
def zm quiet ops a b:=
 tO ops a b&&match fE quiet a.op with|0=>true|1=>Nat.blt (fE quiet b.op) 2||EG b.op|_=>false
def AQ(acc:List Nat):List Edge->Bool
 |[]=>false
 |e::l=>(Region.binds .any e&&jr e.on acc)||AQ acc l
def fwd:List Oper->Nat->List Nat->List Nat
 |[],_,a=>a
 |o::l,j,a=>bif AQ a o.after.toList then fwd l (j+1) (j::a) else fwd l (j+1) a
def iG(quiet:FuncId->Bool)(ops:List Oper)(listed:List Bool)(i:Nat)(o:Oper)(fs:List Nat):List Oper->Nat->Bool
 |[],_=>true
 |b::l,j=>(Nat.beq i j||fN listed j||jr j fs||zm quiet ops o b)&&iG quiet ops listed i o fs l (j+1)
def pJ(quiet:FuncId->Bool)(ops:List Oper)(a:List Bool):List (Nat×Oper)->Option (Nat×Oper)
 |[]=>none
 |(i,o)::l=>bif iG quiet ops a i o (fwd ops 0 [i]) ops 0 then some (i,o) else pJ quiet ops a l
def kE:Obj->Bool
 | .box _ _=>true
 |_=>false
def B6:Obj->Bool
 | .rows _ _ _ _=>true
 |_=>false
def pX s(o:Oper):=
 match o.guard,o.op with
 |none, .load _ x=>match ev s x with| .ptr k _ _ _=>kE (ay s.st k)| .jK _ _=>true| .lit _=>true|_=>false
 |none, .call {callee:= .builtin .len,args, .. }=>match pj s args.toList with|[.ah _ _]=>true|_=>false
 |none, .nilCheck x=>match ev s x with| .ptr k _ _ _=>kE (ay s.st k)|_=>false
 |none, .fieldAddr _ x _=>match ev s x with| .ptr k _ _ _=>kE (ay s.st k)|_=>false
 |none, .indexAddr _ x _=>match ev s x with| .ak k 0 _=>B6 (ay s.st k)|_=>false
 |_,_=>false
def Ao:Op->Bool
 | .alloc _| .box _ _| .makeMap _ none=>true
 | .buildSlice .. =>true
 | .makeSlice .. =>true
 | .call {callee:= .builtin .append, .. }=>true
 |_=>false
def w9 quiet c ops a b:=
 tO ops a b&&(Nat.blt (fE quiet b.op) 2||Ao b.op||xj c b.op)
def An(quiet calm:FuncId->Bool)(ops:List Oper)(listed:List Bool)(i:Nat)(o:Oper)(fs:List Nat):List Oper->Nat->Bool
 |[],_=>true
 |b::l,j=>(Nat.beq i j||fN listed j||jr j fs||w9 quiet calm ops o b)&&An quiet calm ops listed i o fs l (j+1)
def Fh(quiet b:FuncId->Bool)(ops:List Oper)(a:List Bool)(s:S):List (Nat×Oper)->Option (Nat×Oper)
 |[]=>none
 |(i,o)::l=>bif pX s o&&An quiet b ops a i o (fwd ops 0 [i]) ops 0 then some (i,o) else Fh quiet b ops a s l
def qa P s(o:Oper):=
 match o.guard,o.op with
 | none, .load T x=>
  match ev s x with
   | .ptr k _ a _=>match ay s.st k with| .box b _=>bif yI P b a T&& !ec P T then some (some T) else none|_=>none
   |_=>none
 |none, .nilCheck x=>match ev s x with| .ptr k _ _ _=>bif kE (ay s.st k) then some none else none|_=>none
 |none, .fieldAddr _ x _=>match ev s x with| .ptr k _ _ _=>bif kE (ay s.st k) then some none else none|_=>none
 |_,_=>none
def CH(P:Program):Option TypeId->Op->Bool
 |none, .store _ _ _=>true
 |some T, .store U _ _=>!Nat.beq U T&& !ec P U
 |_,_=>false
def xa P quiet c T ops a b:=
 tO ops a b&&(Nat.blt (fE quiet b.op) 2||Ao b.op||xj c b.op||CH P T b.op)
def dn(P:Program)(quiet calm:FuncId->Bool)(T:Option TypeId)(ops:List Oper)(listed:List Bool)(i:Nat)(o:Oper)(fs:List Nat):List Oper->Nat->Bool
 |[],_=>true
 |b::l,j=>(Nat.beq i j||fN listed j||jr j fs||xa P quiet calm T ops o b)&&dn P quiet calm T ops listed i o fs l (j+1)
def vw(P:Program)(quiet b:FuncId->Bool)(ops:List Oper)(a:List Bool)(s:S):List (Nat×Oper)->Option (Nat×Oper)
 |[]=>none
 |(i,o)::l=>match qa P s o with
  |some T=>bif dn P quiet b T ops a i o (fwd ops 0 [i]) ops 0 then some (i,o) else vw P quiet b ops a s l
  |none=>vw P quiet b ops a s l
def N7(p:Nat->Oper->Prop):List (Nat×Oper)->Prop
 |[]=>True
 |[(i,o)]=>p i o
 |(i,o)::l=>p i o/\N7 p l
def oQ(E:Env)(rec:Rec)(ops:List Oper):Nat->List Bool->S->(S->Prop)->Prop
 |0,listed,s,K=>match kI listed ops 0 with|[]=>K s|_=>False
 | n +1,listed,s,K=>
  match kI listed ops 0 with
  |[]=>K s
  | r=>
   match pJ E.quiet ops listed r with
   |some (i,o)=>eb E rec ops o s fun s'=>oQ E rec ops n (hG listed i) s' K
   | none=>
    match Fh E.quiet E.calm ops listed s r with
    |some (i,o)=>eb E rec ops o s fun s'=>oQ E rec ops n (hG listed i) s' K
    |none=>
     match bif E.calm 888888 then vw E.P.toProgram E.quiet E.calm ops listed s r else none with
     |some (i,o)=>eb E rec ops o s fun s'=>oQ E rec ops n (hG listed i) s' K
     |none=>N7 (fun i o=>eb E rec ops o s fun s'=>oQ E rec ops n (hG listed i) s' K) r
def az8(p:S->(Exit->S->Prop)->Prop)(K:Exit->S->Prop):Exit->S->Prop
 | .normal,s=>p s K
 |e,s=>K e s
def BD(id:Nat)(K:Exit->S->Prop):Exit->S->Prop
 | .exit i,s=>bif Nat.beq i id then K .normal s else K (.exit i) s
 |e,s=>K e s
def YE(K:Exit->S->Prop):Exit->S->Prop
 | .goto _,_=>False
 |e,s=>K e s
def mK:Code->Option Nat
 | .region id _ _=>some id
 | .seq a b=>(match mK a with|some n=>some n|none=>mK b)
 | .block _ c| .scope c| .loop c=>mK c
 | .cond _ a b=>(match mK a with|some n=>some n|none=>mK b)
 | .rangeFunc _ _ a _=>mK a
 |_=>none
def rN(l:Nat)(s:S)(K:Exit->S->Prop)(st:List Obj):Prop:=
 match ay st l with
 | .loop r=>
  match r.state,r.pending with
   | .busy,_=>False
   |_,none=>K .normal {s with st:=dv st l .dead}
   |_,some .ret=>K .ret {s with st:=dv st l .dead}
   |_,some (.exit id)=>K (.exit id) {s with st:=dv st l .dead}
   |_,_=>False
 |_=>False
def Hi(a:Option _)(st:List Obj):=
 match a with
 |none=>true
 |some l=>match ay st l with| .loop _=>true|_=>false
def kM(E:Env)(rec:Rec)(f:FuncId)(rd:Option Nat)(base:Nat):Code->S->(Exit->S->Prop)->Prop
 | .skip,s,K=>K .normal s
 | .label _,s,K=>K .normal s
 | .region _ ops false,s,K=>pI E rec ops.toList ops.toList s (zD (K .normal))
 | .region _ ops true,s,K=>oQ E rec ops.toList ops.toList.length (jm ops.toList.length) s (zD (K .normal))
 | .seq a b,s,K=>kM E rec f rd base a s (az8 (kM E rec f rd base b) K)
 | .cond c x y,s,K=>
  match ev s c with
  | .lit (.bool t)=>aq t (kM E rec f rd base x (fa s (tz c) true) K) (kM E rec f rd base y (fa s (tz c) false) K)
  |_=>False
 | .block id c,s,K=>kM E rec f rd base c s (BD id K)
 | .loop c,s,K=>
  match mK c with
  |some n=>aW (kc E.P (E.live f n) base s) (Ej (canon E.P (E.live f n) base s) fun s'=>E.loop f n c rd base s' K)
  |none=>False
 | .rangeFunc g ps asg body,s,K=>
  match ev s g with
  | .bo f' caps=>
   aW (Hi rd s.st) (match E.gen f' with
    |true=>E.ll f (match mK asg with|some n=>n|none=>0) f' caps
     (s.st++[.loop {state:= .ready,pending:=none,fn:=f,bF:=s.bF,params:=ps,assign:=asg,body:=body}]) (rN s.st.length s K)
    |false=>nX E rec f' (.cn s.st.length::caps)
     (s.st++[.loop {state:= .ready,pending:=none,fn:=f,bF:=s.bF,params:=ps,assign:=asg,body:=body}])
     fun _ st=>rN s.st.length s K st)
  |_=>False
 | .exit id,s,K=>K (.exit id) s
 | .goto _,_,_=>False
 | .scope c,s,K=>kM E rec f rd base c s (YE K)
 | .ret,s,K=>K .ret s
 | .refuse _,_,_=>False
def vc(E:Env):Nat->Rec
 |0=>fun _ _ _ _ _ _=>False
 |n+1=>fun f a base c s K=>kM E (vc E n) f a base c s K
end Go.Dn
