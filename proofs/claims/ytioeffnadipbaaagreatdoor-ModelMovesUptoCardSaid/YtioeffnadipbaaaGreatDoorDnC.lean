import Derived.Test.YtioeffnadipbaaaGreatDoorDnB
namespace Go.Dn
open Go
mutual
def refs:AV->List Nat
 | .an i _ _=>[i]
 | .ptr i _ _ _=>[i]
 | .mp i=>[i]
 | .cf i=>[i]
 | .lv i _=>[i]
 | .agg l=>cU l
 | .aJ l=>cU l
 | .bn _ l=>cU l
 | .jx _ a=>refs a
 |_=>[]
def cU:List AV->List Nat
 |[]=>[]
 |a::l=>refs a++cU l
end
def zS:Obj->List Nat
 | .box _ a=>refs a
 | .loop r=>cU r.bC
 | .iter i _ _=>[i]
 |_=>[]
def iV(i:Nat):List Nat->Bool
 |[]=>false
 |j::l=>Nat.beq i j||iV i l
def reach(st:List Obj):Nat->List Nat->List Nat->List Nat
 |0,_,acc=>acc
 |_+1,[],acc=>acc
 |n+1,i::todo,acc=>
  bif iV i acc then reach st n todo acc else reach st n (zS (ay st i)++todo) (acc++[i])
def kb(i:Nat):List Nat->Nat->Option Nat
 |[],_=>none
 |j::l,n=>bif Nat.beq i j then some n else kb i l (n+1)
mutual
def mO(ρ:Nat->Option Nat):AV->AV
 | .an i lo n=>(match ρ i with|some j=> .an j lo n|none=> .cC)
 | .ptr i k p o=>(match ρ i with|some j=> .ptr j k p o|none=> .cC)
 | .mp i=>(match ρ i with|some j=> .mp j|none=> .cC)
 | .cf i=>(match ρ i with|some j=> .cf j|none=> .cC)
 | .lv i k=>(match ρ i with|some j=> .lv j k|none=> .cC)
 | .agg l=> .agg (fP ρ l)
 | .aJ l=> .aJ (fP ρ l)
 | .bn f l=> .bn f (fP ρ l)
 | .jx T a=> .jx T (mO ρ a)
 |a=>a
def fP(ρ:Nat->Option Nat):List AV->List AV
 |[]=>[]
 |a::l=>mO ρ a::fP ρ l
end
def fo(ρ:Nat->Option Nat):Obj->Obj
 | .box T a=> .box T (mO ρ a)
 | .loop r=> .loop {r with bC:=fP ρ r.bC}
 | .iter i n b=> .iter (match ρ i with|some j=>j|none=>i) n b
 |o=>o
def gu(st:List Obj):List Nat->List Obj
 |[]=>[]
 |i::l=>ay st i::gu st l
def gx(ρ:Nat->Option Nat):List Obj->List Obj
 |[]=>[]
 |o::l=>fo ρ o::gx ρ l
def upto:Nat->List Nat
 |0=>[]
 |n+1=>upto n++[n]
def lh(ids:List Nat)(n:Nat)(j:Nat):Option Nat:=
 match idN ids j with
 |some i=>some i
 |none=>some (n+(j - ids.length))
where
 idN:List Nat->Nat->Option Nat
  |[],_=>none
  |i::_,0=>some i
  |_::l,k+1=>idN l k
def fy(st:List Obj)(ids:List Nat)(ρ:Nat->Option Nat):List Obj->List Obj
 |sub=>go st ids sub
where
 go:List Obj->List Nat->List Obj->List Obj
  |st,i::ids,o::sub=>go (dd st i (fo ρ o)) ids sub
  |st,[],sub=>st++gx ρ sub
  |st,_::_,[]=>st
def il(live:List (Nat×Option TypeId)):List AV->Nat->List AV
 |[],_=>[]
 |a::l,n=>(bif memL n live then a else .cC)::il live l (n+1)
where
 memL (n:Nat):List (Nat×Option TypeId)->Bool
  |[]=>false
  |(j,_)::l=>Nat.beq n j||memL n l
def R0:=1000000000
def jn:List (Nat×Option TypeId)->S->S
 |[],s=>s
 |(_,none)::l,s=>jn l s
 | (r,some T)::l,s=>
  match nth s.bC r with
  | .lit (.slice none 0 0)=>
   (match Nat.ble R0 T with
    |true=>jn l {bC:=bt s.bC r (.ah (T - R0) []),st:=s.st}
    |false=>jn l {bC:=bt s.bC r (.an s.st.length 0 0),st:=s.st++[.row T []]})
  |_=>jn l s
def FF(P:Program)(i:Nat)(s:S):S:=
 match ay s.st i with
 | .box a (.lit (.slice none 0 0))=>
  match P.underlying a with
  |some (.slice b)=>{s with st:=dd s.st i (.box a (.an s.st.length 0 0))++[.row b []]}
  |_=>s
 |_=>s
def rq(P:Program):List Nat->S->S
 |[],s=>s
 |i::l,s=>rq P l (FF P i s)
def VH(i j:Nat)(T:TypeId)(st:List Obj):List Obj:=
 match ay st i with
 | .box b (.agg a)=>
  match nth a j with
  | .lit (.slice none 0 0)=>dd st i (.box b (.agg (bt a j (.an st.length 0 0))))++[.row T []]
  |_=>st
 |_=>st
def x6:List (Nat×Nat×TypeId)->List Obj->List Obj
 |[],st=>st
 |(i,j,T)::l,st=>x6 l (VH i j T st)
def AF:List (Nat×Option TypeId)->List (Nat×Nat×TypeId)
 |[]=>[]
 |(r,t)::l=>match Nat.ble 1000 r,t with
  |true,some T=>((r - 1000) / 64,(r - 1000) % 64,T)::AF l
  |_,_=>AF l
def wD(st:List Obj):List Nat->List Nat
 |[]=>[]
 |i::l=>zS (ay st i)++wD st l
def ji base st a:=
 reach st (st.length*st.length+st.length+20) (wD st (upto base)++a) (upto base)
def DD(ids:List Nat):List Nat->Bool
 |[]=>true
 |i::l=>iV i ids&&DD ids l
def I0(n:Nat):List Nat->Bool
 |[]=>true
 |i::l=>decide (i<n)&&I0 n l
def Bn:List Nat->Bool
 |[]=>true
 |i::l=>!iV i l&&Bn l
def vh(ids:List Nat):List Nat->Bool
 |[]=>true
 |i::l=>(match kb i ids 0 with|some j=>Nat.beq i j|none=>false)&&vh ids l
def qc base st a ids:=
 Bn ids&&I0 st.length ids&&vh ids (upto base)&&DD ids a&&DD ids (wD st ids)
def BU(l:List _)(s:S):=
 match l with
 |[]=>s
 |_=>{s with st:=x6 l s.st}
def iu P a(s:S):=
 let s1:=jn a {s with bC:=il a s.bC 0}
 BU (AF a) (rq P (upto s1.st.length) s1)
def jL P a base s:=
 qc base (iu P a s).st (cU (iu P a s).bC) (ji base (iu P a s).st (cU (iu P a s).bC))
def u7(ids:List Nat)(s:S):S:=
 {bC:=fP (fun i=>kb i ids 0) s.bC,st:=gx (fun i=>kb i ids 0) (gu s.st ids)}
def canon P a base s:=
 u7 (ji base (iu P a s).st (cU (iu P a s).bC)) (iu P a s)
def HS(P:Program)(T:TypeId):List AV->Bool
 |[]=>true
 |a::l=>yb P a T&&HS P T l
def uM:Nat:=70368744177664
def oq(b:Option _)(a:TypeId):=
 match b with
 |none=>true
 |some U=>U==a
def r6(P:Program)(E:TypeId):Bool:=
 match P.underlying E with
 |some (.int _)|some .bool|some .string=>P.cellsOf E==1
 |_=>false
def iI:List AV->Option (List Value)
 |[]=>some []
 | .lit v::l=>(match iI l with|some m=>some (v::m)|none=>none)
 |_=>none
def pL (P:Program)(s:S)(T:TypeId)(x y:AV)(K:List Obj->AV->Prop):Prop:=
 match P.underlying T with
 | some (.slice a)=>
  match pr s.st y,hJ P a with
  | some (e,b),some _=>
   match oq e a&&decide (0<P.cellsOf a) with
   |false=>False
   | true=>
    match x with
    | .lit (.slice none 0 0)=>
     aR (decide ((b.length+1)*(P.bytesOf a+1)<=uM)) (K (s.st++[.row a b]) (.an s.st.length 0 b.length))
    | .an i lo n=>
     match ay s.st i with
     | .row c xs=>
      if c=a/\lo=0 then
       aR (decide ((n+b.length+1)*(P.bytesOf a+1)<=uM))
        (K (dd s.st i .dead++[.row a (xs.take n++b)]) (.an s.st.length 0 (n+b.length)))
      else False
     | .rows c E d none=>
      match lo,iI b with
      | k+1,some f=>
       if E=a/\HS P a b=true then
        aR (decide (n=(bU d k).length)&&decide ((n+b.length+1)*(P.bytesOf a+1)<=uM))
         (K (dd s.st i (.rows c E (jQ d k (bU d k++f)) (some k))) (.an i (Nat.succ k) (n+b.length)))
       else False
      |_,_=>False
     |_=>False
    |_=>False
  |_,_=>False
 |_=>False
def j7(P:Program):TypeId->List Nat->Option TypeId
 |T,[]=>some T
 |T,j::p=>match qp (fieldsOf P T) j with
  |some a=>j7 P a.type p
  |none=>none
def xg(P:Program)(b:TypeId)(a:List Nat)(T:TypeId):Bool:=
 match j7 P b a with
 |some U=>Nat.beq U T
 |none=>false
def qv(P:Program)(s:S)(T:TypeId)(p x:AV)(K:List Obj->Prop):=
 match p with
 | .ptr i k b off=>
  match ay s.st i with
  | .box g a=>
   if nO a b&&js a b==off&&wid x==P.cellsOf T&&wid (oF a b)==P.cellsOf T&&qQ x&&(P.underlying T).isSome&&xg P g b T then K (dd s.st i (.box g (iS a b x))) else False
  | .row _ _=>
   match cd s.st x,ay (cG s.st (rowsOf x)) i with
   | some d, .row c xs=>
    if nO (expand P cj c (nth xs k)) b&&js (expand P cj c (nth xs k)) b==off&&wid d==P.cellsOf T&&wid (oF (expand P cj c (nth xs k)) b)==P.cellsOf T&&
      yb P (iS (expand P cj c (nth xs k)) b d) c&&qQ d&&(P.underlying T).isSome then
     K (dd (cG s.st (rowsOf x)) i (.row c (bt xs k (iS (expand P cj c (nth xs k)) b d))))
    else False
   |_,_=>False
  | .rows c E e (some f)=>
   match b,off,x with
    |[],0, .an j (h+1) m=>if j=i/\T=c then aR (decide (k=f)&&decide (h=f)&&decide (m=(bU e k).length)) (K (dd s.st i (.rows c E e none))) else False
    |_,_,_=>False
  |_=>False
 |_=>False
def fQ(a:AV) n:=List.replicate n a
def H0(P:Program)(a:TypeId)(z:AV)(n:Nat):Obj:=
 match P.underlying a,z with
 |some (.slice E), .lit (.slice none 0 0)=>if r6 P E=true/\P.cellsOf a=1 then .rows a E (List.replicate n []) none else .row a (fQ z n)
 |_,_=> .row a (fQ z n)
def kO(P:Program)(T:TypeId)(st:List Obj):List AV->List (Nat×AV)->Option (List AV×List Nat)
 |l,[]=>some (l,[])
 | l,(i,x)::ps=>
  match cd st x with
  | some a=>
   if yb P a T&&decide (i<l.length) then
    match kO P T st (bt l i a) ps with
    |some (m,b)=>some (m,rowsOf x++b)
    |none=>none
   else none
  |none=>none
def kz:List Value->Value->Bool
 |[],_=>false
 |a::l,k=>ei a k||kz l k
def ku(a:List Value):List (Value×AV)->Bool
 |[]=>true
 |(k,_)::b=>kz a k&&ku a b
def Cw(P:Program) d c a b(p:Value->AV->Prop) q:=
 (match P.underlying d with
  |some (.int κ)=>∀n v,(Value.int κ n,v)∈a->kz b (.int κ n)=false->p (.int κ n) (expand P cj c v)
  |some .string=>∀t v,(Value.string t,v)∈a->kz b (.string t)=false->p (.string t) (expand P cj c v)
  |_=>False)/\(ku b a=true->q)
def LB:List AV->Bool
 |[]=>true
 |_::_=>false
def db:List AV->Nat->Nat->AV->List AV
 |[],_,_,_=>[]
 |a::l,0,0,_=>a::l
 |_::l,0,n+1,z=>z::db l 0 n z
 |a::l,lo+1,n,z=>a::db l lo n z
def ni(P:Program)(st:List Obj)(T:TypeId)(y:Operand)(a:AV)(K:Bool->Prop):Prop:=
 match y,P.underlying T with
 | .const (.slice none 0 0),some (.slice _)=>
  match a with
   | .lit (.slice none 0 0)=>K true
   | .ah _ l=>(LB l=true->K true)/\K false
   | .an i _ n=>match Qf (ay st i) with|true=>(Nat.beq n 0=true->K true)/\K false|false=>False
   |_=>False
 |_,_=>False
def cm (P:Pg)(s:S)(d:Option Tmp)(o:Op)(K:S->Prop):Prop:=
 match o with
 | .alloc T=>
  (match hJ P T with
   |some z=>K (put {s with st:=s.st++[.box T z]} d (.ptr s.st.length 0 [] 0))
   |none=>False)
 | .box T x=>
  if qQ (ev s x) then
   match P.imm T with
   |true=>aR (yb P (ev s x) T) (K (put {s with st:=s.st++[.dead]} d (.jh T (ev s x))))
   |false=>K (put {s with st:=s.st++[.box T (ev s x)]} d (.ptr s.st.length 0 [] 0))
  else False
 | .store T p x=>qv P s T (ev s p) (ev s x) fun st=>K (put {s with st} d .cC)
 | .buildSlice T u t=>
  (match P.underlying T with
   | some (.slice g)=>
    (match hJ P g with
    | some z=>
     (match kO P g s.st (fQ z u) (fk s t.toList) with
      | some (l,J)=>
       if decide (u*P.cellsOf g<=16777216)&&decide (0<P.cellsOf g) then
        K (put {s with st:=cG s.st J++[.row g l]} d (.an s.st.length 0 u))
       else False
      |none=>False)
    |none=>False)
   |_=>False)
 | .makeSlice T F E=>
  (match P.underlying T,SI (ev s F),SI (ev s E) with
   | some (.slice g),some (.i64,n),some (.i64,c)=>
    (match hJ P g with
    | some z=>
     aR (decide (0<=n)&&decide (n<=c)&&decide ((c.toNat+1)*(P.bytesOf g+1)<=uM)&&decide (0<P.cellsOf g))
      (K (put {s with st:=s.st++[H0 P g z n.toNat]} d (.an s.st.length 0 n.toNat)))
    |none=>False)
   |_,_,_=>False)
 | .makeMap T none=>
  (match P.underlying T with
   |some (.map f e)=>K (put {s with st:=s.st++[.map f e []]} d (.mp s.st.length))
   |_=>False)
 | .mapUpdate T m k x=>
  (match P.underlying T,ev s m,ev s k,cd s.st (ev s x) with
   | some (.map f e), .mp i, .lit q,some v=>
    (match ay (cG s.st (rowsOf (ev s x))) i with
    | .map D A h=>
     if D=f/\A=e/\plainKey P f q=true/\yb P v e=true then
      K (put {s with st:=dd (cG s.st (rowsOf (ev s x))) i (.map f e (eD h q v))} d .cC)
     else False
    |_=>False)
   |_,_,_,_=>False)
 | .mapEntry T m k=>
  (match P.underlying T,ev s m,ev s k with
   | some (.map f e), .mp i, .lit q=>
    (match ay s.st i,hJ P e with
    | .map D A h,some z=>
     if D=f/\A=e/\plainKey P f q=true then
      let v:=expand P cj e (cX h q z)
      K (put {s with st:=dd s.st i (.map f e (eD h q v))} d (.aJ [v, .lv i q]))
     else False
    |_,_=>False)
   |_,_,_=>False)
 | .entryStore T m lv x=>
  (match P.underlying T,ev s m,ev s lv,cd s.st (ev s x) with
   | some (.map f e), .mp i, .lv j q,some v=>
    (match ay (cG s.st (rowsOf (ev s x))) i with
    | .map D A h=>
     if i=j/\D=f/\A=e/\plainKey P f q=true/\yb P v e=true then
      K (put {s with st:=dd (cG s.st (rowsOf (ev s x))) i (.map f e (eD h q v))} d .cC)
     else False
    |_=>False)
   |_,_,_,_=>False)
 | .range T x=>
  (match P.underlying T,ev s x with
   |some (.map _ _), .mp i=>
    (match ay s.st i with
    | .map _ _ h=>K (put {s with st:=s.st++[.iter i h.length []]} d (.ptr s.st.length 0 [] 0))
    |_=>False)
   |some (.map _ _), .eQ f e r w=>K (put {s with st:=s.st++[.fit f e r w []]} d (.ptr s.st.length 0 [] 0))
   |some (.map _ _), .lit (.map none)=>K (put {s with st:=s.st++[.iter s.st.length 0 [.map none]]} d (.ptr s.st.length 0 [] 0))
   |some .string, .lit (.string b)=>K (put {s with st:=s.st++[.dq b 0]} d (.ptr s.st.length 0 [] 0))
   |_,_=>False)
 | .next B false=>
  (match ev s B with
   | .ptr j 0 _ 0=>
    (match ay s.st j with
    | .iter i n r=>
     (match ay s.st i with
      | .map f e h=>
       aR (Nat.beq h.length n) (Cw P f e h r (fun k v=>K (put {s with st:=dd s.st j (.iter i n (k::r))} d (.aJ [.lit (.bool true), .lit k,v]))) (K (put s d (.aJ [.lit (.bool false)]))))
      |_=>
       (match r with
       |[.map none]=>K (put s d (.aJ [.lit (.bool false)]))
       |_=>False))
    | .fit f e r w C=>Cw P f e (r.zip w) C (fun k v=>K (put {s with st:=dd s.st j (.fit f e r w (k::C))} d (.aJ [.lit (.bool true), .lit k,v]))) (K (put s d (.aJ [.lit (.bool false)])))
    |_=>False)
   |_=>False)
 | .next B true=>
  (match ev s B with
   | .ptr j 0 _ 0=>
    (match ay s.st j with
    | .dq b p=>
     ak (Nat.blt p b.size) (K (put {s with st:=dd s.st j (.dq b (p+(Utf8.decode b p).2))} d (.aJ [.lit (.bool true), .lit (.int .i64 p), .lit (.int .i32 (Utf8.decode b p).1)]))) (K (put s d (.aJ [.lit (.bool false)])))
    |_=>False)
   |_=>False)
 | .binOp .eql T x y _=>ni P s.st T y (ev s x) fun b=>K (put s d (.lit (.bool b)))
 | .binOp .neq T x y _=>ni P s.st T y (ev s x) fun b=>K (put s d (.lit (.bool (!b))))
 | .call {callee:= .builtin .clear,args,argTypes}=>
  (match oP s args.toList,argTypes.toList with
   | [.an i lo n],[T]=>
    (match P.underlying T,ay s.st i with
    | some (.slice g), .row I xs=>
     (match hJ P g with
      |some z=>if I=g/\0<P.cellsOf g then K (put {s with st:=dd s.st i (.row g (db xs lo n z))} d (.aJ [])) else False
      |none=>False)
    |_,_=>False)
   |_,_=>False)
 | .entry B=>
  (match ev s B with
   | .ptr j 0 _ 0=>
    (match ay s.st j with
    | .iter i n (k::_)=>
     (match ay s.st i with
      | .map _ e h=>
       (match hJ P e with
       |some z=>aR (Nat.beq h.length n) (K (put s d (.aJ [.lit k,expand P cj e (cX h k z)])))
       |none=>False)
      |_=>False)
    | .fit _ e r w (k::_)=>
     (match hJ P e with
      |some z=>K (put s d (.aJ [.lit k,expand P cj e (cX (r.zip w) k z)]))
      |none=>False)
    |_=>False)
   |_=>False)
 | .call {callee:= .builtin .append,args,argTypes}=>
  (match oP s args.toList,argTypes.toList with
   |[x,y],[T,H]=>if T=H then pL P s T x y fun st a=>K (put {s with st} d a) else False
   |_,_=>False)
 |_=>False
def yF:Nat->(Nat->Prop)->Prop
 |0,k=>k 0
 |n+1,k=>yF n fun m=>k (m+1)
def Q6:List Nat->(List Nat->Prop)->Prop
 |[],k=>k []
 |n::l,k=>yF n fun n'=>Q6 l fun l'=>k (n'::l')
theorem Bl: ∀n k,yF n k=k n
 |0,_=>rfl
 |n+1,k=>by simp[yF,Bl n]
theorem Jl: ∀l k,Q6 l k=k l
 |[],_=>rfl
 |n::l,k=>by simp[Q6,Bl,Jl l]
mutual
def xn:AV->(AV->Prop)->Prop
 | .agg l,k=>Ax l fun l'=>k (.agg l')
 | .aJ l,k=>Ax l fun l'=>k (.aJ l')
 | .bn f l,k=>Ax l fun l'=>k (.bn f l')
 | .jx T a,k=>xn a fun a'=>k (.jx T a')
 | .lit v,k=>k (.lit v)
 | .cC,k=>k .cC
 | .ah T l,k=>k (.ah T l)
 | .an i lo n,k=>yF i fun i'=>k (.an i' lo n)
 | .ptr i x p o,k=>yF i fun i'=>Q6 p fun p'=>yF o fun o'=>k (.ptr i' x p' o')
 | .jh T a,k=>k (.jh T a)
 | .mp i,k=>yF i fun i'=>k (.mp i')
 | .cf i,k=>yF i fun i'=>k (.cf i')
 | .lv i x,k=>yF i fun i'=>k (.lv i' x)
 | .eQ K V ks vs,k=>k (.eQ K V ks vs)
def Ax:List AV->(List AV->Prop)->Prop
 |[],k=>k []
 |a::l,k=>xn a fun a'=>Ax l fun l'=>k (a'::l')
end
def Vp:Obj->(Obj->Prop)->Prop
 | .dead,k=>k .dead
 | .box T a,k=>xn a fun g=>k (.box T g)
 | .row T xs,k=>k (.row T xs)
 | .lx T xs,k=>k (.lx T xs)
 | .map K V e,k=>k (.map K V e)
 | .loop r,k=>Ax r.bC fun l=>k (.loop {state:=r.state,pending:=r.pending,fn:=r.fn,bC:=l,params:=r.params,assign:=r.assign,body:=r.body})
 | .iter i n b,k=>k (.iter i n b)
 | .ext t,k=>k (.ext t)
 | .dq s p,k=>k (.dq s p)
 | .rows T E f d,k=>k (.rows T E f d)
 | .fit K V b h c,k=>k (.fit K V b h c)
def wK:List Obj->(List Obj->Prop)->Prop
 |[],k=>k []
 |o::l,k=>Vp o fun o'=>wK l fun l'=>k (o'::l')
def Dd(s:S)(k:S->Prop):=Ax s.bC fun r=>wK s.st fun t=>k {bC:=r,st:=t}
mutual
theorem nA: ∀(a:AV) (k:AV->Prop),xn a k=k a
 | .agg l,k=>by simp only[xn,pk l]
 | .aJ l,k=>by simp only[xn,pk l]
 | .bn f l,k=>by simp only[xn,pk l]
 | .jx T a,k=>by simp only[xn,nA a]
 | .lit _,_| .cC,_| .ah _ _,_| .an _ _ _,_| .ptr _ _ _ _,_| .jh _ _,_| .mp _,_| .cf _,_| .lv _ _,_| .eQ _ _ _ _,_=>by simp only[xn,Bl,Jl]
theorem pk: ∀(l:List AV) (k:List AV->Prop),Ax l k=k l
 |[],k=>by simp only[Ax]
 |a::l,k=>by simp only[Ax,nA a,pk l]
end
theorem Ql o k:Vp o k=k o:=by
 cases o<;>simp[Vp,nA,pk]
theorem kM: ∀l k,wK l k=k l
 |[],k=>rfl
 |o::l,k=>by simp[wK,Ql,kM l]
theorem kx s k:Dd s k=k s:=by simp[Dd,pk,kM]
def Si:List AV->(List AV->Prop)->Prop
 |[],k=>k []
 |a::l,k=>Si l fun l'=>k (a::l')
def yI(K:S->Prop)(s:S):=Si s.bC fun r=>K {bC:=r,st:=s.st}
theorem Iv: ∀l k,Si l k=k l
 |[],_=>rfl
 |a::l,k=>by simp[Si,Iv l]
theorem vj K:yI K=K:=by
 funext s
 simp[yI,Iv]
abbrev Rec:=FuncId->Option Nat->Nat->Code->S->(Exit->S->Prop)->Prop
def bM:Nat->List AV
 |0=>[]
 |n+1=> .cC::bM n
def wk(P:Program)(s:S):List ResultVar->Option (List AV)
 |[]=>some []
 | .tmp t::l=>(match wk P s l with|some m=>some (nth s.bC t::m)|none=>none)
 | .cell a T::l=>
  (match nG P s.st T (nth s.bC a),wk P s l with
   |some (true,x),some m=>some (x::m)
   |_,_=>none)
def mQ:List AV->AV
 |[a]=>a
 |l=> .aJ l
def nb(E:Env)(d:Rec)(f:FuncId)(a:List AV)(st:List Obj)(K:AV->List Obj->Prop):Prop:=
 match E.P.funcs[f]? with
 | some b=>
  match b.body with
   | some c=>
    d f none st.length c {bC:=a++bM (b.ntmps - a.length),st} fun e s=>
     match e with
     | .normal| .ret=>match wk E.P s b.results.toList with|some l=>K (mQ l) s.st|none=>False
     |_=>False
   |none=>False
 |none=>False
def qA(E:Env) f args st(K:AV->List _->Prop):=
 let ids:=reach st (st.length*st.length+st.length+20) (cU args) []
 let ρ:=fun i=>kb i ids 0
 let β:=lh ids st.length
 aR (qc 0 st (cU args) ids) (Dd {bC:=fP ρ args,st:=gx ρ (gu st ids)} fun s=>E.call f s.bC s.st fun r sub=>xn (mO β r) fun r'=>wK (fy st ids β sub) fun st'=>K r' st')
def wG(st:List Obj):List AV->Option (List AV×List Nat)
 |[]=>some ([],[])
 | a::l=>
  match wG st l with
  |none=>none
  |some (m,is)=>
   match a with
   | .an _ _ _=>(match cd st a with|some b=>some (b::m,rowsOf a++is)|none=>none)
   | .agg _=>(match cd st a with|some b=>some (b::m,rowsOf a++is)|none=>none)
   |_=>some (a::m,is)
def Oy(P:Program)(Ts:List TypeId):AV->AV
 | .aJ l=> .aJ (sg P Ts l)
 |a=>match Ts with|[T]=>I9 P T a|_=>a
def kC:List Tmp->List AV->List AV->List AV
 |p::ps,a::c,b=>kC ps c (bt b p a)
 |_,_,b=>b
def gp (b :Rec)(l:Nat)(a:List AV)(st:List Obj)(K:AV->List Obj->Prop):Prop:=
 match ay st l with
 | .loop r=>
  if r.state= .ready/\r.params.size=a.length then
   b r.fn (some l) st.length r.assign {bC:=kC r.params.toList a r.bC,st} fun e s1=>
    match e with
    | .normal=>
     match ay s1.st l with
      | .loop d=>
       if d.state= .ready then
        b r.fn (some l) st.length r.body {s1 with st:=dd s1.st l (.loop {d with state:= .busy})} fun f s2=>
         match ay s2.st l with
         | .loop c=>
          match f with
          | .normal=>K (.lit (.bool true)) (dd s2.st l (.loop {c with state:= .ready,pending:=none}))
          | .ret=>K (.lit (.bool false)) (dd s2.st l (.loop {c with state:= .done,pending:=some .ret}))
          | .exit id=>K (.lit (.bool false)) (dd s2.st l (.loop {c with state:= .done,pending:=some (.exit id)}))
          |_=>False
         |_=>False
       else False
      |_=>False
    |_=>False
  else False
 |_=>False
def LV:List Nat->Bool
 |[]=>true
 |_=>false
def AD(l:Nat)(todo:Option (List AV))(b:List AV)(st:List Obj)(K:AV->List Obj->Prop):Prop:=
 match todo,wG st b with
 |some xs,some (c,d)=>
  aR (LV (cU c)) (∃a,xs= .aJ c::a/\K (.lit (.bool true)) (dd (cG st d) l (.ext (some a)))/\K (.lit (.bool false)) (dd (cG st d) l (.ext none)))
 |_,_=>False
def o0(E:Env) c(g:AV)(a:List AV)(st:List Obj)(K:AV->List Obj->Prop):=
 match g with
 | .bn f b=>
  if E.inl f then nb E c f (a++b) st K
  else if E.own f then qA E f (a++b) st K
  else
   match wG st (a++b) with
    |some (d,e)=>qA E f (sg E.P (mz E.P f) d) (cG st e) K
    |none=>False
 | .cf l=>
  match ay st l with
   | .ext t=>AD l t a st K
   |_=>gp c l a st K
 |_=>False
def ez(s:S)(t:Option Tmp)(b:Bool):=
 match t with
 |none=>s
 |some d=>{s with bC:=bt s.bC d (.lit (.bool b))}
def nI:List Oper->Nat->Option Tmp
 |[],_=>none
 |o::_,0=>o.dst
 |_::l,n+1=>nI l n
def sf:Operand->Option Tmp
 | .tmp t=>some t
 |_=>none
def gP(s:S):Op->Option (AV×List AV)
 | .call {callee:= .value g,args, .. }=>some (ev s g,oP s args.toList)
 |_=>none
def QD(E:Env)(f:Rec)(s:S)(d:Option Tmp)(o:Op)(K:S->Prop):Prop:=
 match bJ E s o with
 |some (c,a)=>aR c (K (put s d a))
 | none=>
  match o with
  | .pick c a b=>
   match ev s c with
    | .lit (.bool t)=>ak t (K (put (ez s (sf c) true) d (ev s a))) (K (put (ez s (sf c) false) d (ev s b)))
    |_=>False
  |o=>
   match gP s o with
   |some (g,e)=>o0 E f g e s.st fun a st=>K (put {s with st} d a)
   |none=>cm E.P s d o K
def nW(E:Env)(rec:Rec)(ops:List Oper):List Oper->S->(S->Prop)->Prop
 |[],s,K=>K s
 | o :: l, s, K=>
  match o.guard with
  |none=>QD E rec s o.dst o.op fun s'=>nW E rec ops l s' K
  | some (j, want)=>
   match nI ops j with
   |none=>False
   | some t=>
    match nth s.bC t with
    | .lit (.bool b)=>
     match want with
     |true=>ak b (QD E rec (ez s (some t) true) o.dst o.op fun s'=>nW E rec ops l s' K)
             (nW E rec ops l (put (ez s (some t) false) o.dst (.aJ [])) K)
     |false=>ak b (nW E rec ops l (put (ez s (some t) true) o.dst (.aJ [])) K)
              (QD E rec (ez s (some t) false) o.dst o.op fun s'=>nW E rec ops l s' K)
    | .aJ []=>nW E rec ops l (put s o.dst (.aJ [])) K
    |_=>False
def qs:Option Operand->List Operand
 |none=>[]
 |some x=>[x]
def opsOf:Op->List Operand
 | .move x| .assign x| .load _ x| .nilCheck x| .unOp _ _ x| .fieldAddr _ x _| .field _ x _| .extract x _| .box _ x| .makeInterface _ x| .convert _ _ x=>[x]
 | .pick c a b=>[c,a,b]
 | .binOp _ _ x y _| .indexAddr _ x y| .index _ x y| .lookup _ x y _| .store _ x y| .makeSlice _ x y| .mapEntry _ x y=>[x,y]
 | .slice _ x lo e m=>x::(qs lo++qs e++qs m)
 | .makeFunc _ _ d=>d.toList
 | .build _ ps| .buildSlice _ _ ps=>ps.toList.map (·.2)
 | .mapUpdate _ x y z| .entryStore _ x y z=>[x,y,z]
 | .range _ x| .next x _| .entry x=>[x]
 | .call {callee:= .value g,args, .. }=>g::args.toList
 | .call {args, .. }=>args.toList
 |_=>[]
def Pa:List Operand->Bool
 |[]=>true
 | .const _::l=>Pa l
 |_=>false
def fq(quiet:FuncId->Bool):Op->Nat
 | .move _| .assign _| .binOp .. | .unOp .. | .extract .. | .makeFunc .. | .pick .. | .makeInterface .. | .field .. | .build .. | .index .. =>0
 | .load .. | .nilCheck _| .convert .. | .slice .. | .fieldAddr .. | .indexAddr .. | .lookup .. =>1
 | .call {callee:= .builtin .len, .. }=>1
 | .call {callee:= .builtin .min, .. }=>1
 | .call {callee:= .builtin .max, .. }=>1
 | .call {callee:= .value (.func f),args, .. }=>bif quiet f then bif Pa args.toList then 0 else 1 else 2
 |_=>2
def rn:List Obj->List Obj->Prop
 |[],_=>True
 |_::_,[]=>False
 | .box T a::l,o::b=>o= .box T a/\rn l b
 | .rows T E d c::l,o::b=>o= .rows T E d c/\rn l b
 |_::l,_::b=>rn l b
def frm b(st st':List Obj)(p:Prop):=
 match b with
 |true=>rn st st'/\p
 |false=>p
def JR(E:Env)(g:AV)(b:List AV)(st:List Obj):=
 match g with
 | .bn f a=>!E.inl f&& !E.own f&&match wG st (b++a) with
  |some (c,[])=>LV (cU (sg E.P (mz E.P f) c))
  |_=>false
 |_=>false
def w6(a:FuncId->Bool):Op->Bool
 | .call {callee:= .value (.func f), .. }=>a f
 |_=>false
def uG(E:Env)(f:Rec)(s:S)(d:Option Tmp)(o:Op)(K:S->Prop):Prop:=
 match fq E.quiet o with
 | 2=>
  match gP s o with
   |some (g,e)=>o0 E f g e s.st fun a st=>frm (w6 E.calm o&& !JR E g e s.st) s.st st (K (put {s with st} d a))
   |none=>cm E.P s d o K
 | _ =>
  match bJ E s o with
   |some (c,a)=>aR c (K (put s d a))
   | none=>
    match o with
    | .pick c a b=>
     match ev s c with
      | .lit (.bool t)=>ak t (K (put (ez s (sf c) true) d (ev s a))) (K (put (ez s (sf c) false) d (ev s b)))
      |_=>False
    |_=>False
def dD E a ops(o:Oper) s K:=
 match o.guard with
 |none=>uG E a s o.dst o.op K
 | some (j,c)=>
  match nI ops j with
  |none=>False
  | some t=>
   match nth s.bC t with
   | .lit (.bool b)=>
    match c with
    |true=>ak b (uG E a (ez s (some t) true) o.dst o.op K) (K (put (ez s (some t) false) o.dst (.aJ [])))
    |false=>ak b (K (put (ez s (some t) true) o.dst (.aJ []))) (uG E a (ez s (some t) false) o.dst o.op K)
   | .aJ []=>K (put s o.dst (.aJ []))
   |_=>False
def iF:Nat->List Bool
 |0=>[]
 |n+1=>false::iF n
def fx:List Bool->Nat->Bool
 |[],_=>true
 |b::_,0=>b
 |_::l,n+1=>fx l n
def gA:List Bool->Nat->List Bool
 |[],_=>[]
 |_::l,0=>true::l
 |b::l,n+1=>b::gA l n
def lZ(listed:List Bool):List Edge->Bool
 |[]=>true
 |e::l=>(!Region.binds .any e||(Nat.blt e.on listed.length&&fx listed e.on))&&lZ listed l
def ke(a:List Bool):List Oper->Nat->List (Nat×Oper)
 |[],_=>[]
 |o::l,i=>bif !fx a i&&lZ a o.after.toList then(i,o)::ke a l (i+1) else ke a l (i+1)
def zZ(t:Nat):List Operand->Bool
 |[]=>false
 | .tmp u::l=>Nat.beq t u||zZ t l
 |_::l=>zZ t l
def A1 ops(o:Oper) t:=
 zZ t (opsOf o.op)||match o.guard with|none=>false|some (j,_)=>match nI ops j with|none=>false|some u=>Nat.beq t u
def Bq(ops:List Oper)(o:Oper):Option Tmp->Bool
 |none=>false
 |some t=>A1 ops o t
def ym:Option Tmp->Option Tmp->Bool
 |some t,some u=>!Nat.beq t u
 |_,_=>true
def tQ ops a b:=
 !Bq ops b a.dst&& !Bq ops a b.dst&&ym a.dst b.dst
def Em:Op->Bool
 | .alloc _| .box _ _| .makeSlice .. | .makeMap _ none=>true
 |_=>false
def w5 quiet ops a b:=
 tQ ops a b&&match fq quiet a.op with|0=>true|1=>Nat.blt (fq quiet b.op) 2||Em b.op|_=>false
def z7(acc:List Nat):List Edge->Bool
 |[]=>false
 |e::l=>(Region.binds .any e&&iV e.on acc)||z7 acc l
def fwd:List Oper->Nat->List Nat->List Nat
 |[],_,a=>a
 |o::l,j,a=>bif z7 a o.after.toList then fwd l (j+1) (j::a) else fwd l (j+1) a
def iQ(quiet:FuncId->Bool)(ops:List Oper)(listed:List Bool)(i:Nat)(o:Oper)(fs:List Nat):List Oper->Nat->Bool
 |[],_=>true
 |b::l,j=>(Nat.beq i j||fx listed j||iV j fs||w5 quiet ops o b)&&iQ quiet ops listed i o fs l (j+1)
def oI(quiet:FuncId->Bool)(ops:List Oper)(a:List Bool):List (Nat×Oper)->Option (Nat×Oper)
 |[]=>none
 |(i,o)::l=>bif iQ quiet ops a i o (fwd ops 0 [i]) ops 0 then some (i,o) else oI quiet ops a l
def j9:Obj->Bool
 | .box _ _=>true
 |_=>false
def AB:Obj->Bool
 | .rows _ _ _ _=>true
 |_=>false
def oc s(o:Oper):=
 match o.guard,o.op with
 |none, .load _ x=>match ev s x with| .ptr k _ _ _=>j9 (ay s.st k)| .jh _ _=>true| .lit _=>true|_=>false
 |none, .call {callee:= .builtin .len,args, .. }=>match oP s args.toList with|[.ah _ _]=>true|_=>false
 |none, .nilCheck x=>match ev s x with| .ptr k _ _ _=>j9 (ay s.st k)|_=>false
 |none, .fieldAddr _ x _=>match ev s x with| .ptr k _ _ _=>j9 (ay s.st k)|_=>false
 |none, .indexAddr _ x _=>match ev s x with| .an k 0 _=>AB (ay s.st k)|_=>false
 |_,_=>false
def zt:Op->Bool
 | .alloc _| .box _ _| .makeMap _ none=>true
 | .buildSlice .. =>true
 | .makeSlice .. =>true
 | .call {callee:= .builtin .append, .. }=>true
 |_=>false
def x9 quiet c ops a b:=
 tQ ops a b&&(Nat.blt (fq quiet b.op) 2||zt b.op||w6 c b.op)
def zR(quiet calm:FuncId->Bool)(ops:List Oper)(listed:List Bool)(i:Nat)(o:Oper)(fs:List Nat):List Oper->Nat->Bool
 |[],_=>true
 |b::l,j=>(Nat.beq i j||fx listed j||iV j fs||x9 quiet calm ops o b)&&zR quiet calm ops listed i o fs l (j+1)
def CZ(quiet b:FuncId->Bool)(ops:List Oper)(a:List Bool)(s:S):List (Nat×Oper)->Option (Nat×Oper)
 |[]=>none
 |(i,o)::l=>bif oc s o&&zR quiet b ops a i o (fwd ops 0 [i]) ops 0 then some (i,o) else CZ quiet b ops a s l
def ou P s(o:Oper):=
 match o.guard,o.op with
 | none, .load T x=>
  match ev s x with
   | .ptr k _ a _=>match ay s.st k with| .box b _=>bif xg P b a T&& !dH P T then some (some T) else none|_=>none
   |_=>none
 |none, .nilCheck x=>match ev s x with| .ptr k _ _ _=>bif j9 (ay s.st k) then some none else none|_=>none
 |none, .fieldAddr _ x _=>match ev s x with| .ptr k _ _ _=>bif j9 (ay s.st k) then some none else none|_=>none
 |_,_=>none
def Be(P:Program):Option TypeId->Op->Bool
 |none, .store _ _ _=>true
 |some T, .store U _ _=>!Nat.beq U T&& !dH P U
 |_,_=>false
def wS P quiet c T ops a b:=
 tQ ops a b&&(Nat.blt (fq quiet b.op) 2||zt b.op||w6 c b.op||Be P T b.op)
def eO(P:Program)(quiet calm:FuncId->Bool)(T:Option TypeId)(ops:List Oper)(listed:List Bool)(i:Nat)(o:Oper)(fs:List Nat):List Oper->Nat->Bool
 |[],_=>true
 |b::l,j=>(Nat.beq i j||fx listed j||iV j fs||wS P quiet calm T ops o b)&&eO P quiet calm T ops listed i o fs l (j+1)
def ur(P:Program)(quiet b:FuncId->Bool)(ops:List Oper)(a:List Bool)(s:S):List (Nat×Oper)->Option (Nat×Oper)
 |[]=>none
 |(i,o)::l=>match ou P s o with
  |some T=>bif eO P quiet b T ops a i o (fwd ops 0 [i]) ops 0 then some (i,o) else ur P quiet b ops a s l
  |none=>ur P quiet b ops a s l
def Nn(p:Nat->Oper->Prop):List (Nat×Oper)->Prop
 |[]=>True
 |[(i,o)]=>p i o
 |(i,o)::l=>p i o/\Nn p l
def nP(E:Env)(rec:Rec)(ops:List Oper):Nat->List Bool->S->(S->Prop)->Prop
 |0,listed,s,K=>match ke listed ops 0 with|[]=>K s|_=>False
 | n +1,listed,s,K=>
  match ke listed ops 0 with
  |[]=>K s
  | r=>
   match oI E.quiet ops listed r with
   |some (i,o)=>dD E rec ops o s fun s'=>nP E rec ops n (gA listed i) s' K
   | none=>
    match CZ E.quiet E.calm ops listed s r with
    |some (i,o)=>dD E rec ops o s fun s'=>nP E rec ops n (gA listed i) s' K
    |none=>
     match bif E.calm 888888 then ur E.P.toProgram E.quiet E.calm ops listed s r else none with
     |some (i,o)=>dD E rec ops o s fun s'=>nP E rec ops n (gA listed i) s' K
     |none=>Nn (fun i o=>dD E rec ops o s fun s'=>nP E rec ops n (gA listed i) s' K) r
def ad7(p:S->(Exit->S->Prop)->Prop)(K:Exit->S->Prop):Exit->S->Prop
 | .normal,s=>p s K
 |e,s=>K e s
def B0(id:Nat)(K:Exit->S->Prop):Exit->S->Prop
 | .exit i,s=>bif Nat.beq i id then K .normal s else K (.exit i) s
 |e,s=>K e s
def U3(K:Exit->S->Prop):Exit->S->Prop
 | .goto _,_=>False
 |e,s=>K e s
def mg:Code->Option Nat
 | .region id _ _=>some id
 | .seq a b=>(match mg a with|some n=>some n|none=>mg b)
 | .block _ c| .scope c| .loop c=>mg c
 | .cond _ a b=>(match mg a with|some n=>some n|none=>mg b)
 | .rangeFunc _ _ a _=>mg a
 |_=>none
def qV(l:Nat)(s:S)(K:Exit->S->Prop)(st:List Obj):Prop:=
 match ay st l with
 | .loop r=>
  match r.state,r.pending with
   | .busy,_=>False
   |_,none=>K .normal {s with st:=dd st l .dead}
   |_,some .ret=>K .ret {s with st:=dd st l .dead}
   |_,some (.exit id)=>K (.exit id) {s with st:=dd st l .dead}
   |_,_=>False
 |_=>False
def E9(a:Option _)(st:List Obj):=
 match a with
 |none=>true
 |some l=>match ay st l with| .loop _=>true|_=>false
def kk(E:Env)(rec:Rec)(f:FuncId)(rd:Option Nat)(base:Nat):Code->S->(Exit->S->Prop)->Prop
 | .skip,s,K=>K .normal s
 | .label _,s,K=>K .normal s
 | .region _ ops false,s,K=>nW E rec ops.toList ops.toList s (yI (K .normal))
 | .region _ ops true,s,K=>nP E rec ops.toList ops.toList.length (iF ops.toList.length) s (yI (K .normal))
 | .seq a b,s,K=>kk E rec f rd base a s (ad7 (kk E rec f rd base b) K)
 | .cond c x y,s,K=>
  match ev s c with
  | .lit (.bool t)=>ak t (kk E rec f rd base x (ez s (sf c) true) K) (kk E rec f rd base y (ez s (sf c) false) K)
  |_=>False
 | .block id c,s,K=>kk E rec f rd base c s (B0 id K)
 | .loop c,s,K=>
  match mg c with
  |some n=>aR (jL E.P (E.live f n) base s) (Dd (canon E.P (E.live f n) base s) fun s'=>E.loop f n c rd base s' K)
  |none=>False
 | .rangeFunc g ps asg body,s,K=>
  match ev s g with
  | .bn f' caps=>
   aR (E9 rd s.st) (match E.gen f' with
    |true=>E.kQ f (match mg asg with|some n=>n|none=>0) f' caps
     (s.st++[.loop {state:= .ready,pending:=none,fn:=f,bC:=s.bC,params:=ps,assign:=asg,body:=body}]) (qV s.st.length s K)
    |false=>nb E rec f' (.cf s.st.length::caps)
     (s.st++[.loop {state:= .ready,pending:=none,fn:=f,bC:=s.bC,params:=ps,assign:=asg,body:=body}])
     fun _ st=>qV s.st.length s K st)
  |_=>False
 | .exit id,s,K=>K (.exit id) s
 | .goto _,_,_=>False
 | .scope c,s,K=>kk E rec f rd base c s (U3 K)
 | .ret,s,K=>K .ret s
 | .refuse _,_,_=>False
def vc(E:Env):Nat->Rec
 |0=>fun _ _ _ _ _ _=>False
 |n+1=>fun f a base c s K=>kk E (vc E n) f a base c s K
end Go.Dn
