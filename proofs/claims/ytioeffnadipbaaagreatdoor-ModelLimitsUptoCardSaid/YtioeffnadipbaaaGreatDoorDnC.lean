import Derived.Test.YtioeffnadipbaaaGreatDoorDnB
namespace Go.Dn
open Go
mutual
def refs:AV->List Nat
 | .ak i _ _=>[i]
 | .ptr i _ _ _=>[i]
 | .mp i=>[i]
 | .cf i=>[i]
 | .lx i _=>[i]
 | .agg l=>cU l
 | .aJ l=>cU l
 | .bm _ l=>cU l
 | .jz _ a=>refs a
 |_=>[]
def cU:List AV->List Nat
 |[]=>[]
 |a::l=>refs a++cU l
end
def zM:Obj->List Nat
 | .box _ a=>refs a
 | .loop r=>cU r.bB
 | .iter i _ _=>[i]
 |_=>[]
def iS(i:Nat):List Nat->Bool
 |[]=>false
 |j::l=>Nat.beq i j||iS i l
def reach(st:List Obj):Nat->List Nat->List Nat->List Nat
 |0,_,acc=>acc
 |_+1,[],acc=>acc
 |n+1,i::todo,acc=>
  bif iS i acc then reach st n todo acc else reach st n (zM (ay st i)++todo) (acc++[i])
def j9(i:Nat):List Nat->Nat->Option Nat
 |[],_=>none
 |j::l,n=>bif Nat.beq i j then some n else j9 i l (n+1)
mutual
def mQ(ρ:Nat->Option Nat):AV->AV
 | .ak i lo n=>(match ρ i with|some j=> .ak j lo n|none=> .cB)
 | .ptr i k p o=>(match ρ i with|some j=> .ptr j k p o|none=> .cB)
 | .mp i=>(match ρ i with|some j=> .mp j|none=> .cB)
 | .cf i=>(match ρ i with|some j=> .cf j|none=> .cB)
 | .lx i k=>(match ρ i with|some j=> .lx j k|none=> .cB)
 | .agg l=> .agg (fP ρ l)
 | .aJ l=> .aJ (fP ρ l)
 | .bm f l=> .bm f (fP ρ l)
 | .jz T a=> .jz T (mQ ρ a)
 |a=>a
def fP(ρ:Nat->Option Nat):List AV->List AV
 |[]=>[]
 |a::l=>mQ ρ a::fP ρ l
end
def fp(ρ:Nat->Option Nat):Obj->Obj
 | .box T a=> .box T (mQ ρ a)
 | .loop r=> .loop {r with bB:=fP ρ r.bB}
 | .iter i n b=> .iter (match ρ i with|some j=>j|none=>i) n b
 |o=>o
def gz(st:List Obj):List Nat->List Obj
 |[]=>[]
 |i::l=>ay st i::gz st l
def gx(ρ:Nat->Option Nat):List Obj->List Obj
 |[]=>[]
 |o::l=>fp ρ o::gx ρ l
def upto:Nat->List Nat
 |0=>[]
 |n+1=>upto n++[n]
def kV(ids:List Nat)(n:Nat)(j:Nat):Option Nat:=
 match idN ids j with
 |some i=>some i
 |none=>some (n+(j - ids.length))
where
 idN:List Nat->Nat->Option Nat
  |[],_=>none
  |i::_,0=>some i
  |_::l,k+1=>idN l k
def fz(st:List Obj)(ids:List Nat)(ρ:Nat->Option Nat):List Obj->List Obj
 |sub=>go st ids sub
where
 go:List Obj->List Nat->List Obj->List Obj
  |st,i::ids,o::sub=>go (db st i (fp ρ o)) ids sub
  |st,[],sub=>st++gx ρ sub
  |st,_::_,[]=>st
def im(live:List (Nat×Option TypeId)):List AV->Nat->List AV
 |[],_=>[]
 |a::l,n=>(bif memL n live then a else .cB)::im live l (n+1)
where
 memL (n:Nat):List (Nat×Option TypeId)->Bool
  |[]=>false
  |(j,_)::l=>Nat.beq n j||memL n l
def Rf:=1000000000
def je:List (Nat×Option TypeId)->S->S
 |[],s=>s
 |(_,none)::l,s=>je l s
 | (r,some T)::l,s=>
  match nth s.bB r with
  | .lit (.slice none 0 0)=>
   (match Nat.ble Rf T with
    |true=>je l {bB:=bM s.bB r (.ah (T - Rf) []),st:=s.st}
    |false=>je l {bB:=bM s.bB r (.ak s.st.length 0 0),st:=s.st++[.row T []]})
  |_=>je l s
def F6(P:Program)(i:Nat)(s:S):S:=
 match ay s.st i with
 | .box a (.lit (.slice none 0 0))=>
  match P.underlying a with
  |some (.slice b)=>{s with st:=db s.st i (.box a (.ak s.st.length 0 0))++[.row b []]}
  |_=>s
 |_=>s
def rn(P:Program):List Nat->S->S
 |[],s=>s
 |i::l,s=>rn P l (F6 P i s)
def U1(i j:Nat)(T:TypeId)(st:List Obj):List Obj:=
 match ay st i with
 | .box b (.agg a)=>
  match nth a j with
  | .lit (.slice none 0 0)=>db st i (.box b (.agg (bM a j (.ak st.length 0 0))))++[.row T []]
  |_=>st
 |_=>st
def xX:List (Nat×Nat×TypeId)->List Obj->List Obj
 |[],st=>st
 |(i,j,T)::l,st=>xX l (U1 i j T st)
def Cc:List (Nat×Option TypeId)->List (Nat×Nat×TypeId)
 |[]=>[]
 |(r,t)::l=>match Nat.ble 1000 r,t with
  |true,some T=>((r - 1000) / 64,(r - 1000) % 64,T)::Cc l
  |_,_=>Cc l
def vH(st:List Obj):List Nat->List Nat
 |[]=>[]
 |i::l=>zM (ay st i)++vH st l
def jw base st a:=
 reach st (st.length*st.length+st.length+20) (vH st (upto base)++a) (upto base)
def Cq(ids:List Nat):List Nat->Bool
 |[]=>true
 |i::l=>iS i ids&&Cq ids l
def IZ(n:Nat):List Nat->Bool
 |[]=>true
 |i::l=>decide (i<n)&&IZ n l
def Ao:List Nat->Bool
 |[]=>true
 |i::l=>!iS i l&&Ao l
def vD(ids:List Nat):List Nat->Bool
 |[]=>true
 |i::l=>(match j9 i ids 0 with|some j=>Nat.beq i j|none=>false)&&vD ids l
def qv base st a ids:=
 Ao ids&&IZ st.length ids&&vD ids (upto base)&&Cq ids a&&Cq ids (vH st ids)
def BL(l:List _)(s:S):=
 match l with
 |[]=>s
 |_=>{s with st:=xX l s.st}
def iq P a(s:S):=
 let s1:=je a {s with bB:=im a s.bB 0}
 BL (Cc a) (rn P (upto s1.st.length) s1)
def jN P a base s:=
 qv base (iq P a s).st (cU (iq P a s).bB) (jw base (iq P a s).st (cU (iq P a s).bB))
def vr(ids:List Nat)(s:S):S:=
 {bB:=fP (fun i=>j9 i ids 0) s.bB,st:=gx (fun i=>j9 i ids 0) (gz s.st ids)}
def canon P a base s:=
 vr (jw base (iq P a s).st (cU (iq P a s).bB)) (iq P a s)
def Jd(P:Program)(T:TypeId):List AV->Bool
 |[]=>true
 |a::l=>wJ P a T&&Jd P T l
def uW:Nat:=70368744177664
def pt(b:Option _)(a:TypeId):=
 match b with
 |none=>true
 |some U=>U==a
def sO(P:Program)(E:TypeId):Bool:=
 match P.underlying E with
 |some (.int _)|some .bool|some .string=>P.cellsOf E==1
 |_=>false
def iL:List AV->Option (List Value)
 |[]=>some []
 | .lit v::l=>(match iL l with|some m=>some (v::m)|none=>none)
 |_=>none
def pX (P:Program)(s:S)(T:TypeId)(x y:AV)(K:List Obj->AV->Prop):Prop:=
 match P.underlying T with
 | some (.slice a)=>
  match qd s.st y,ib P a with
  | some (e,b),some _=>
   match pt e a&&decide (0<P.cellsOf a) with
   |false=>False
   | true=>
    match x with
    | .lit (.slice none 0 0)=>
     aW (decide ((b.length+1)*(P.bytesOf a+1)<=uW)) (K (s.st++[.row a b]) (.ak s.st.length 0 b.length))
    | .ak i lo n=>
     match ay s.st i with
     | .row c xs=>
      if c=a/\lo=0 then
       aW (decide ((n+b.length+1)*(P.bytesOf a+1)<=uW))
        (K (db s.st i .dead++[.row a (xs.take n++b)]) (.ak s.st.length 0 (n+b.length)))
      else False
     | .rows c E d none=>
      match lo,iL b with
      | k+1,some f=>
       if E=a/\Jd P a b=true then
        aW (decide (n=(bV d k).length)&&decide ((n+b.length+1)*(P.bytesOf a+1)<=uW))
         (K (db s.st i (.rows c E (j4 d k (bV d k++f)) (some k))) (.ak i (Nat.succ k) (n+b.length)))
       else False
      |_,_=>False
     |_=>False
    |_=>False
  |_,_=>False
 |_=>False
def j7(P:Program):TypeId->List Nat->Option TypeId
 |T,[]=>some T
 |T,j::p=>match qY (fieldsOf P T) j with
  |some a=>j7 P a.type p
  |none=>none
def wv(P:Program)(b:TypeId)(a:List Nat)(T:TypeId):Bool:=
 match j7 P b a with
 |some U=>Nat.beq U T
 |none=>false
def qE(P:Program)(s:S)(T:TypeId)(p x:AV)(K:List Obj->Prop):=
 match p with
 | .ptr i k b off=>
  match ay s.st i with
  | .box g a=>
   if oa a b&&jv a b==off&&wid x==P.cellsOf T&&wid (oJ a b)==P.cellsOf T&&qV x&&(P.underlying T).isSome&&wv P g b T then K (db s.st i (.box g (iU a b x))) else False
  | .row _ _=>
   match cd s.st x,ay (cG s.st (rowsOf x)) i with
   | some d, .row c xs=>
    if oa (expand P cg c (nth xs k)) b&&jv (expand P cg c (nth xs k)) b==off&&wid d==P.cellsOf T&&wid (oJ (expand P cg c (nth xs k)) b)==P.cellsOf T&&
      wJ P (iU (expand P cg c (nth xs k)) b d) c&&qV d&&(P.underlying T).isSome then
     K (db (cG s.st (rowsOf x)) i (.row c (bM xs k (iU (expand P cg c (nth xs k)) b d))))
    else False
   |_,_=>False
  | .rows c E e (some f)=>
   match b,off,x with
    |[],0, .ak j (h+1) m=>if j=i/\T=c then aW (decide (k=f)&&decide (h=f)&&decide (m=(bV e k).length)) (K (db s.st i (.rows c E e none))) else False
    |_,_,_=>False
  |_=>False
 |_=>False
def fO(a:AV) n:=List.replicate n a
def Jm(P:Program)(a:TypeId)(z:AV)(n:Nat):Obj:=
 match P.underlying a,z with
 |some (.slice E), .lit (.slice none 0 0)=>if sO P E=true/\P.cellsOf a=1 then .rows a E (List.replicate n []) none else .row a (fO z n)
 |_,_=> .row a (fO z n)
def lh(P:Program)(T:TypeId)(st:List Obj):List AV->List (Nat×AV)->Option (List AV×List Nat)
 |l,[]=>some (l,[])
 | l,(i,x)::ps=>
  match cd st x with
  | some a=>
   if wJ P a T&&decide (i<l.length) then
    match lh P T st (bM l i a) ps with
    |some (m,b)=>some (m,rowsOf x++b)
    |none=>none
   else none
  |none=>none
def ku:List Value->Value->Bool
 |[],_=>false
 |a::l,k=>eg a k||ku l k
def ky(a:List Value):List (Value×AV)->Bool
 |[]=>true
 |(k,_)::b=>ku a k&&ky a b
def Ds(P:Program) d c a b(p:Value->AV->Prop) q:=
 (match P.underlying d with
  |some (.int κ)=>∀n v,(Value.int κ n,v)∈a->ku b (.int κ n)=false->p (.int κ n) (expand P cg c v)
  |some .string=>∀t v,(Value.string t,v)∈a->ku b (.string t)=false->p (.string t) (expand P cg c v)
  |_=>False)/\(ky b a=true->q)
def LB:List AV->Bool
 |[]=>true
 |_::_=>false
def c6:List AV->Nat->Nat->AV->List AV
 |[],_,_,_=>[]
 |a::l,0,0,_=>a::l
 |_::l,0,n+1,z=>z::c6 l 0 n z
 |a::l,lo+1,n,z=>a::c6 l lo n z
def ny(P:Program)(st:List Obj)(T:TypeId)(y:Operand)(a:AV)(K:Bool->Prop):Prop:=
 match y,P.underlying T with
 | .const (.slice none 0 0),some (.slice _)=>
  match a with
   | .lit (.slice none 0 0)=>K true
   | .ah _ l=>(LB l=true->K true)/\K false
   | .ak i _ n=>match QA (ay st i) with|true=>(Nat.beq n 0=true->K true)/\K false|false=>False
   |_=>False
 |_,_=>False
def cn (P:Pg)(s:S)(d:Option Tmp)(o:Op)(K:S->Prop):Prop:=
 match o with
 | .alloc T=>
  (match ib P T with
   |some z=>K (put {s with st:=s.st++[.box T z]} d (.ptr s.st.length 0 [] 0))
   |none=>False)
 | .box T x=>
  if qV (ev s x) then
   match P.imm T with
   |true=>aW (wJ P (ev s x) T) (K (put {s with st:=s.st++[.dead]} d (.js T (ev s x))))
   |false=>K (put {s with st:=s.st++[.box T (ev s x)]} d (.ptr s.st.length 0 [] 0))
  else False
 | .store T p x=>qE P s T (ev s p) (ev s x) fun st=>K (put {s with st} d .cB)
 | .buildSlice T u t=>
  (match P.underlying T with
   | some (.slice g)=>
    (match ib P g with
    | some z=>
     (match lh P g s.st (fO z u) (ff s t.toList) with
      | some (l,J)=>
       if decide (u*P.cellsOf g<=16777216)&&decide (0<P.cellsOf g) then
        K (put {s with st:=cG s.st J++[.row g l]} d (.ak s.st.length 0 u))
       else False
      |none=>False)
    |none=>False)
   |_=>False)
 | .makeSlice T F E=>
  (match P.underlying T,TY (ev s F),TY (ev s E) with
   | some (.slice g),some (.i64,n),some (.i64,c)=>
    (match ib P g with
    | some z=>
     aW (decide (0<=n)&&decide (n<=c)&&decide ((c.toNat+1)*(P.bytesOf g+1)<=uW)&&decide (0<P.cellsOf g))
      (K (put {s with st:=s.st++[Jm P g z n.toNat]} d (.ak s.st.length 0 n.toNat)))
    |none=>False)
   |_,_,_=>False)
 | .makeMap T none=>
  (match P.underlying T with
   |some (.map f e)=>K (put {s with st:=s.st++[.map f e []]} d (.mp s.st.length))
   |_=>False)
 | .mapUpdate T m k x=>
  (match P.underlying T,ev s m,ev s k,cd s.st (ev s x) with
   | some (.map f e), .mp i, .lit q,some v=>
    (match ay (cG s.st (rowsOf (ev s x))) i with
    | .map D A h=>
     if D=f/\A=e/\plainKey P f q=true/\wJ P v e=true then
      K (put {s with st:=db (cG s.st (rowsOf (ev s x))) i (.map f e (eC h q v))} d .cB)
     else False
    |_=>False)
   |_,_,_,_=>False)
 | .mapEntry T m k=>
  (match P.underlying T,ev s m,ev s k with
   | some (.map f e), .mp i, .lit q=>
    (match ay s.st i,ib P e with
    | .map D A h,some z=>
     if D=f/\A=e/\plainKey P f q=true then
      let v:=expand P cg e (cV h q z)
      K (put {s with st:=db s.st i (.map f e (eC h q v))} d (.aJ [v, .lx i q]))
     else False
    |_,_=>False)
   |_,_,_=>False)
 | .entryStore T m lx x=>
  (match P.underlying T,ev s m,ev s lx,cd s.st (ev s x) with
   | some (.map f e), .mp i, .lx j q,some v=>
    (match ay (cG s.st (rowsOf (ev s x))) i with
    | .map D A h=>
     if i=j/\D=f/\A=e/\plainKey P f q=true/\wJ P v e=true then
      K (put {s with st:=db (cG s.st (rowsOf (ev s x))) i (.map f e (eC h q v))} d .cB)
     else False
    |_=>False)
   |_,_,_,_=>False)
 | .range T x=>
  (match P.underlying T,ev s x with
   |some (.map _ _), .mp i=>
    (match ay s.st i with
    | .map _ _ h=>K (put {s with st:=s.st++[.iter i h.length []]} d (.ptr s.st.length 0 [] 0))
    |_=>False)
   |some (.map _ _), .eP f e r w=>K (put {s with st:=s.st++[.fit f e r w []]} d (.ptr s.st.length 0 [] 0))
   |some (.map _ _), .lit (.map none)=>K (put {s with st:=s.st++[.iter s.st.length 0 [.map none]]} d (.ptr s.st.length 0 [] 0))
   |some .string, .lit (.string b)=>K (put {s with st:=s.st++[.dp b 0]} d (.ptr s.st.length 0 [] 0))
   |_,_=>False)
 | .next B false=>
  (match ev s B with
   | .ptr j 0 _ 0=>
    (match ay s.st j with
    | .iter i n r=>
     (match ay s.st i with
      | .map f e h=>
       aW (Nat.beq h.length n) (Ds P f e h r (fun k v=>K (put {s with st:=db s.st j (.iter i n (k::r))} d (.aJ [.lit (.bool true), .lit k,v]))) (K (put s d (.aJ [.lit (.bool false)]))))
      |_=>
       (match r with
       |[.map none]=>K (put s d (.aJ [.lit (.bool false)]))
       |_=>False))
    | .fit f e r w C=>Ds P f e (r.zip w) C (fun k v=>K (put {s with st:=db s.st j (.fit f e r w (k::C))} d (.aJ [.lit (.bool true), .lit k,v]))) (K (put s d (.aJ [.lit (.bool false)])))
    |_=>False)
   |_=>False)
 | .next B true=>
  (match ev s B with
   | .ptr j 0 _ 0=>
    (match ay s.st j with
    | .dp b p=>
     aq (Nat.blt p b.size) (K (put {s with st:=db s.st j (.dp b (p+(Utf8.decode b p).2))} d (.aJ [.lit (.bool true), .lit (.int .i64 p), .lit (.int .i32 (Utf8.decode b p).1)]))) (K (put s d (.aJ [.lit (.bool false)])))
    |_=>False)
   |_=>False)
 | .binOp .eql T x y _=>ny P s.st T y (ev s x) fun b=>K (put s d (.lit (.bool b)))
 | .binOp .neq T x y _=>ny P s.st T y (ev s x) fun b=>K (put s d (.lit (.bool (!b))))
 | .call {callee:= .builtin .clear,args,argTypes}=>
  (match pe s args.toList,argTypes.toList with
   | [.ak i lo n],[T]=>
    (match P.underlying T,ay s.st i with
    | some (.slice g), .row I xs=>
     (match ib P g with
      |some z=>if I=g/\0<P.cellsOf g then K (put {s with st:=db s.st i (.row g (c6 xs lo n z))} d (.aJ [])) else False
      |none=>False)
    |_,_=>False)
   |_,_=>False)
 | .entry B=>
  (match ev s B with
   | .ptr j 0 _ 0=>
    (match ay s.st j with
    | .iter i n (k::_)=>
     (match ay s.st i with
      | .map _ e h=>
       (match ib P e with
       |some z=>aW (Nat.beq h.length n) (K (put s d (.aJ [.lit k,expand P cg e (cV h k z)])))
       |none=>False)
      |_=>False)
    | .fit _ e r w (k::_)=>
     (match ib P e with
      |some z=>K (put s d (.aJ [.lit k,expand P cg e (cV (r.zip w) k z)]))
      |none=>False)
    |_=>False)
   |_=>False)
 | .call {callee:= .builtin .append,args,argTypes}=>
  (match pe s args.toList,argTypes.toList with
   |[x,y],[T,H]=>if T=H then pX P s T x y fun st a=>K (put {s with st} d a) else False
   |_,_=>False)
 |_=>False
def yI:Nat->(Nat->Prop)->Prop
 |0,k=>k 0
 |n+1,k=>yI n fun m=>k (m+1)
def Sc:List Nat->(List Nat->Prop)->Prop
 |[],k=>k []
 |n::l,k=>yI n fun n'=>Sc l fun l'=>k (n'::l')
theorem A5: ∀n k,yI n k=k n
 |0,_=>rfl
 |n+1,k=>by simp[yI,A5 n]
theorem I9: ∀l k,Sc l k=k l
 |[],_=>rfl
 |n::l,k=>by simp[Sc,A5,I9 l]
mutual
def yt:AV->(AV->Prop)->Prop
 | .agg l,k=>Bl l fun l'=>k (.agg l')
 | .aJ l,k=>Bl l fun l'=>k (.aJ l')
 | .bm f l,k=>Bl l fun l'=>k (.bm f l')
 | .jz T a,k=>yt a fun a'=>k (.jz T a')
 | .lit v,k=>k (.lit v)
 | .cB,k=>k .cB
 | .ah T l,k=>k (.ah T l)
 | .ak i lo n,k=>yI i fun i'=>k (.ak i' lo n)
 | .ptr i x p o,k=>yI i fun i'=>Sc p fun p'=>yI o fun o'=>k (.ptr i' x p' o')
 | .js T a,k=>k (.js T a)
 | .mp i,k=>yI i fun i'=>k (.mp i')
 | .cf i,k=>yI i fun i'=>k (.cf i')
 | .lx i x,k=>yI i fun i'=>k (.lx i' x)
 | .eP K V ks vs,k=>k (.eP K V ks vs)
def Bl:List AV->(List AV->Prop)->Prop
 |[],k=>k []
 |a::l,k=>yt a fun a'=>Bl l fun l'=>k (a'::l')
end
def Vu:Obj->(Obj->Prop)->Prop
 | .dead,k=>k .dead
 | .box T a,k=>yt a fun g=>k (.box T g)
 | .row T xs,k=>k (.row T xs)
 | .lz T xs,k=>k (.lz T xs)
 | .map K V e,k=>k (.map K V e)
 | .loop r,k=>Bl r.bB fun l=>k (.loop {state:=r.state,pending:=r.pending,fn:=r.fn,bB:=l,params:=r.params,assign:=r.assign,body:=r.body})
 | .iter i n b,k=>k (.iter i n b)
 | .ext t,k=>k (.ext t)
 | .dp s p,k=>k (.dp s p)
 | .rows T E f d,k=>k (.rows T E f d)
 | .fit K V b h c,k=>k (.fit K V b h c)
def vI:List Obj->(List Obj->Prop)->Prop
 |[],k=>k []
 |o::l,k=>Vu o fun o'=>vI l fun l'=>k (o'::l')
def Dt(s:S)(k:S->Prop):=Bl s.bB fun r=>vI s.st fun t=>k {bB:=r,st:=t}
mutual
theorem nF: ∀(a:AV) (k:AV->Prop),yt a k=k a
 | .agg l,k=>by simp only[yt,pZ l]
 | .aJ l,k=>by simp only[yt,pZ l]
 | .bm f l,k=>by simp only[yt,pZ l]
 | .jz T a,k=>by simp only[yt,nF a]
 | .lit _,_| .cB,_| .ah _ _,_| .ak _ _ _,_| .ptr _ _ _ _,_| .js _ _,_| .mp _,_| .cf _,_| .lx _ _,_| .eP _ _ _ _,_=>by simp only[yt,A5,I9]
theorem pZ: ∀(l:List AV) (k:List AV->Prop),Bl l k=k l
 |[],k=>by simp only[Bl]
 |a::l,k=>by simp only[Bl,nF a,pZ l]
end
theorem RI o k:Vu o k=k o:=by
 cases o<;>simp[Vu,nF,pZ]
theorem lu: ∀l k,vI l k=k l
 |[],k=>rfl
 |o::l,k=>by simp[vI,RI,lu l]
theorem kz s k:Dt s k=k s:=by simp[Dt,pZ,lu]
def QW:List AV->(List AV->Prop)->Prop
 |[],k=>k []
 |a::l,k=>QW l fun l'=>k (a::l')
def yC(K:S->Prop)(s:S):=QW s.bB fun r=>K {bB:=r,st:=s.st}
theorem Ik: ∀l k,QW l k=k l
 |[],_=>rfl
 |a::l,k=>by simp[QW,Ik l]
theorem vw K:yC K=K:=by
 funext s
 simp[yC,Ik]
abbrev Rec:=FuncId->Option Nat->Nat->Code->S->(Exit->S->Prop)->Prop
def bO:Nat->List AV
 |0=>[]
 |n+1=> .cB::bO n
def wS(P:Program)(s:S):List ResultVar->Option (List AV)
 |[]=>some []
 | .tmp t::l=>(match wS P s l with|some m=>some (nth s.bB t::m)|none=>none)
 | .cell a T::l=>
  (match nS P s.st T (nth s.bB a),wS P s l with
   |some (true,x),some m=>some (x::m)
   |_,_=>none)
def nw:List AV->AV
 |[a]=>a
 |l=> .aJ l
def nI(E:Env)(d:Rec)(f:FuncId)(a:List AV)(st:List Obj)(K:AV->List Obj->Prop):Prop:=
 match E.P.funcs[f]? with
 | some b=>
  match b.body with
   | some c=>
    d f none st.length c {bB:=a++bO (b.ntmps - a.length),st} fun e s=>
     match e with
     | .normal| .ret=>match wS E.P s b.results.toList with|some l=>K (nw l) s.st|none=>False
     |_=>False
   |none=>False
 |none=>False
def qL(E:Env) f args st(K:AV->List _->Prop):=
 let ids:=reach st (st.length*st.length+st.length+20) (cU args) []
 let ρ:=fun i=>j9 i ids 0
 let β:=kV ids st.length
 aW (qv 0 st (cU args) ids) (Dt {bB:=fP ρ args,st:=gx ρ (gz st ids)} fun s=>E.call f s.bB s.st fun r sub=>yt (mQ β r) fun r'=>vI (fz st ids β sub) fun st'=>K r' st')
def xg(st:List Obj):List AV->Option (List AV×List Nat)
 |[]=>some ([],[])
 | a::l=>
  match xg st l with
  |none=>none
  |some (m,is)=>
   match a with
   | .ak _ _ _=>(match cd st a with|some b=>some (b::m,rowsOf a++is)|none=>none)
   | .agg _=>(match cd st a with|some b=>some (b::m,rowsOf a++is)|none=>none)
   |_=>some (a::m,is)
def MM(P:Program)(Ts:List TypeId):AV->AV
 | .aJ l=> .aJ (rV P Ts l)
 |a=>match Ts with|[T]=>I7 P T a|_=>a
def kI:List Tmp->List AV->List AV->List AV
 |p::ps,a::c,b=>kI ps c (bM b p a)
 |_,_,b=>b
def gu (b :Rec)(l:Nat)(a:List AV)(st:List Obj)(K:AV->List Obj->Prop):Prop:=
 match ay st l with
 | .loop r=>
  if r.state= .ready/\r.params.size=a.length then
   b r.fn (some l) st.length r.assign {bB:=kI r.params.toList a r.bB,st} fun e s1=>
    match e with
    | .normal=>
     match ay s1.st l with
      | .loop d=>
       if d.state= .ready then
        b r.fn (some l) st.length r.body {s1 with st:=db s1.st l (.loop {d with state:= .busy})} fun f s2=>
         match ay s2.st l with
         | .loop c=>
          match f with
          | .normal=>K (.lit (.bool true)) (db s2.st l (.loop {c with state:= .ready,pending:=none}))
          | .ret=>K (.lit (.bool false)) (db s2.st l (.loop {c with state:= .done,pending:=some .ret}))
          | .exit id=>K (.lit (.bool false)) (db s2.st l (.loop {c with state:= .done,pending:=some (.exit id)}))
          |_=>False
         |_=>False
       else False
      |_=>False
    |_=>False
  else False
 |_=>False
def Mg:List Nat->Bool
 |[]=>true
 |_=>false
def AK(l:Nat)(todo:Option (List AV))(b:List AV)(st:List Obj)(K:AV->List Obj->Prop):Prop:=
 match todo,xg st b with
 |some xs,some (c,d)=>
  aW (Mg (cU c)) (∃a,xs= .aJ c::a/\K (.lit (.bool true)) (db (cG st d) l (.ext (some a)))/\K (.lit (.bool false)) (db (cG st d) l (.ext none)))
 |_,_=>False
def oO(E:Env) c(g:AV)(a:List AV)(st:List Obj)(K:AV->List Obj->Prop):=
 match g with
 | .bm f b=>
  if E.inl f then nI E c f (a++b) st K
  else if E.own f then qL E f (a++b) st K
  else
   match xg st (a++b) with
    |some (d,e)=>qL E f (rV E.P (mw E.P f) d) (cG st e) K
    |none=>False
 | .cf l=>
  match ay st l with
   | .ext t=>AK l t a st K
   |_=>gu c l a st K
 |_=>False
def ep(s:S)(t:Option Tmp)(b:Bool):=
 match t with
 |none=>s
 |some d=>{s with bB:=bM s.bB d (.lit (.bool b))}
def nZ:List Oper->Nat->Option Tmp
 |[],_=>none
 |o::_,0=>o.dst
 |_::l,n+1=>nZ l n
def sd:Operand->Option Tmp
 | .tmp t=>some t
 |_=>none
def gJ(s:S):Op->Option (AV×List AV)
 | .call {callee:= .value g,args, .. }=>some (ev s g,pe s args.toList)
 |_=>none
def Sj(E:Env)(f:Rec)(s:S)(d:Option Tmp)(o:Op)(K:S->Prop):Prop:=
 match bI E s o with
 |some (c,a)=>aW c (K (put s d a))
 | none=>
  match o with
  | .pick c a b=>
   match ev s c with
    | .lit (.bool t)=>aq t (K (put (ep s (sd c) true) d (ev s a))) (K (put (ep s (sd c) false) d (ev s b)))
    |_=>False
  |o=>
   match gJ s o with
   |some (g,e)=>oO E f g e s.st fun a st=>K (put {s with st} d a)
   |none=>cn E.P s d o K
def pD(E:Env)(rec:Rec)(ops:List Oper):List Oper->S->(S->Prop)->Prop
 |[],s,K=>K s
 | o :: l, s, K=>
  match o.guard with
  |none=>Sj E rec s o.dst o.op fun s'=>pD E rec ops l s' K
  | some (j, want)=>
   match nZ ops j with
   |none=>False
   | some t=>
    match nth s.bB t with
    | .lit (.bool b)=>
     match want with
     |true=>aq b (Sj E rec (ep s (some t) true) o.dst o.op fun s'=>pD E rec ops l s' K)
             (pD E rec ops l (put (ep s (some t) false) o.dst (.aJ [])) K)
     |false=>aq b (pD E rec ops l (put (ep s (some t) true) o.dst (.aJ [])) K)
              (Sj E rec (ep s (some t) false) o.dst o.op fun s'=>pD E rec ops l s' K)
    | .aJ []=>pD E rec ops l (put s o.dst (.aJ [])) K
    |_=>False
def rh:Option Operand->List Operand
 |none=>[]
 |some x=>[x]
def opsOf:Op->List Operand
 | .move x| .assign x| .load _ x| .nilCheck x| .unOp _ _ x| .fieldAddr _ x _| .field _ x _| .extract x _| .box _ x| .makeInterface _ x| .convert _ _ x=>[x]
 | .pick c a b=>[c,a,b]
 | .binOp _ _ x y _| .indexAddr _ x y| .index _ x y| .lookup _ x y _| .store _ x y| .makeSlice _ x y| .mapEntry _ x y=>[x,y]
 | .slice _ x lo e m=>x::(rh lo++rh e++rh m)
 | .makeFunc _ _ d=>d.toList
 | .build _ ps| .buildSlice _ _ ps=>ps.toList.map (·.2)
 | .mapUpdate _ x y z| .entryStore _ x y z=>[x,y,z]
 | .range _ x| .next x _| .entry x=>[x]
 | .call {callee:= .value g,args, .. }=>g::args.toList
 | .call {args, .. }=>args.toList
 |_=>[]
def L1:List Operand->Bool
 |[]=>true
 | .const _::l=>L1 l
 |_=>false
def fg(quiet:FuncId->Bool):Op->Nat
 | .move _| .assign _| .binOp .. | .unOp .. | .extract .. | .makeFunc .. | .pick .. | .makeInterface .. | .field .. | .build .. | .index .. =>0
 | .load .. | .nilCheck _| .convert .. | .slice .. | .fieldAddr .. | .indexAddr .. | .lookup .. =>1
 | .call {callee:= .builtin .len, .. }=>1
 | .call {callee:= .builtin .min, .. }=>1
 | .call {callee:= .builtin .max, .. }=>1
 | .call {callee:= .value (.func f),args, .. }=>bif quiet f then bif L1 args.toList then 0 else 1 else 2
 |_=>2
def rU:List Obj->List Obj->Prop
 |[],_=>True
 |_::_,[]=>False
 | .box T a::l,o::b=>o= .box T a/\rU l b
 | .rows T E d c::l,o::b=>o= .rows T E d c/\rU l b
 |_::l,_::b=>rU l b
def frm b(st st':List Obj)(p:Prop):=
 match b with
 |true=>rU st st'/\p
 |false=>p
def JF(E:Env)(g:AV)(b:List AV)(st:List Obj):=
 match g with
 | .bm f a=>!E.inl f&& !E.own f&&match xg st (b++a) with
  |some (c,[])=>Mg (cU (rV E.P (mw E.P f) c))
  |_=>false
 |_=>false
def yf(a:FuncId->Bool):Op->Bool
 | .call {callee:= .value (.func f), .. }=>a f
 |_=>false
def u7(E:Env)(f:Rec)(s:S)(d:Option Tmp)(o:Op)(K:S->Prop):Prop:=
 match fg E.quiet o with
 | 2=>
  match gJ s o with
   |some (g,e)=>oO E f g e s.st fun a st=>frm (yf E.calm o&& !JF E g e s.st) s.st st (K (put {s with st} d a))
   |none=>cn E.P s d o K
 | _ =>
  match bI E s o with
   |some (c,a)=>aW c (K (put s d a))
   | none=>
    match o with
    | .pick c a b=>
     match ev s c with
      | .lit (.bool t)=>aq t (K (put (ep s (sd c) true) d (ev s a))) (K (put (ep s (sd c) false) d (ev s b)))
      |_=>False
    |_=>False
def dC E a ops(o:Oper) s K:=
 match o.guard with
 |none=>u7 E a s o.dst o.op K
 | some (j,c)=>
  match nZ ops j with
  |none=>False
  | some t=>
   match nth s.bB t with
   | .lit (.bool b)=>
    match c with
    |true=>aq b (u7 E a (ep s (some t) true) o.dst o.op K) (K (put (ep s (some t) false) o.dst (.aJ [])))
    |false=>aq b (K (put (ep s (some t) true) o.dst (.aJ []))) (u7 E a (ep s (some t) false) o.dst o.op K)
   | .aJ []=>K (put s o.dst (.aJ []))
   |_=>False
def iH:Nat->List Bool
 |0=>[]
 |n+1=>false::iH n
def fy:List Bool->Nat->Bool
 |[],_=>true
 |b::_,0=>b
 |_::l,n+1=>fy l n
def gC:List Bool->Nat->List Bool
 |[],_=>[]
 |_::l,0=>true::l
 |b::l,n+1=>b::gC l n
def lA(listed:List Bool):List Edge->Bool
 |[]=>true
 |e::l=>(!Region.binds .any e||(Nat.blt e.on listed.length&&fy listed e.on))&&lA listed l
def kc(a:List Bool):List Oper->Nat->List (Nat×Oper)
 |[],_=>[]
 |o::l,i=>bif !fy a i&&lA a o.after.toList then(i,o)::kc a l (i+1) else kc a l (i+1)
def zS(t:Nat):List Operand->Bool
 |[]=>false
 | .tmp u::l=>Nat.beq t u||zS t l
 |_::l=>zS t l
def AG ops(o:Oper) t:=
 zS t (opsOf o.op)||match o.guard with|none=>false|some (j,_)=>match nZ ops j with|none=>false|some u=>Nat.beq t u
def Bh(ops:List Oper)(o:Oper):Option Tmp->Bool
 |none=>false
 |some t=>AG ops o t
def yr:Option Tmp->Option Tmp->Bool
 |some t,some u=>!Nat.beq t u
 |_,_=>true
def uc ops a b:=
 !Bh ops b a.dst&& !Bh ops a b.dst&&yr a.dst b.dst
def Du:Op->Bool
 | .alloc _| .box _ _| .makeSlice .. | .makeMap _ none=>true
 |_=>false
def xa quiet ops a b:=
 uc ops a b&&match fg quiet a.op with|0=>true|1=>Nat.blt (fg quiet b.op) 2||Du b.op|_=>false
def zl(acc:List Nat):List Edge->Bool
 |[]=>false
 |e::l=>(Region.binds .any e&&iS e.on acc)||zl acc l
def fwd:List Oper->Nat->List Nat->List Nat
 |[],_,a=>a
 |o::l,j,a=>bif zl a o.after.toList then fwd l (j+1) (j::a) else fwd l (j+1) a
def kk(quiet:FuncId->Bool)(ops:List Oper)(listed:List Bool)(i:Nat)(o:Oper)(fs:List Nat):List Oper->Nat->Bool
 |[],_=>true
 |b::l,j=>(Nat.beq i j||fy listed j||iS j fs||xa quiet ops o b)&&kk quiet ops listed i o fs l (j+1)
def pn(quiet:FuncId->Bool)(ops:List Oper)(a:List Bool):List (Nat×Oper)->Option (Nat×Oper)
 |[]=>none
 |(i,o)::l=>bif kk quiet ops a i o (fwd ops 0 [i]) ops 0 then some (i,o) else pn quiet ops a l
def kh:Obj->Bool
 | .box _ _=>true
 |_=>false
def Bj:Obj->Bool
 | .rows _ _ _ _=>true
 |_=>false
def pg s(o:Oper):=
 match o.guard,o.op with
 |none, .load _ x=>match ev s x with| .ptr k _ _ _=>kh (ay s.st k)| .js _ _=>true| .lit _=>true|_=>false
 |none, .call {callee:= .builtin .len,args, .. }=>match pe s args.toList with|[.ah _ _]=>true|_=>false
 |none, .nilCheck x=>match ev s x with| .ptr k _ _ _=>kh (ay s.st k)|_=>false
 |none, .fieldAddr _ x _=>match ev s x with| .ptr k _ _ _=>kh (ay s.st k)|_=>false
 |none, .indexAddr _ x _=>match ev s x with| .ak k 0 _=>Bj (ay s.st k)|_=>false
 |_,_=>false
def zY:Op->Bool
 | .alloc _| .box _ _| .makeMap _ none=>true
 | .buildSlice .. =>true
 | .makeSlice .. =>true
 | .call {callee:= .builtin .append, .. }=>true
 |_=>false
def vO quiet c ops a b:=
 uc ops a b&&(Nat.blt (fg quiet b.op) 2||zY b.op||yf c b.op)
def zd(quiet calm:FuncId->Bool)(ops:List Oper)(listed:List Bool)(i:Nat)(o:Oper)(fs:List Nat):List Oper->Nat->Bool
 |[],_=>true
 |b::l,j=>(Nat.beq i j||fy listed j||iS j fs||vO quiet calm ops o b)&&zd quiet calm ops listed i o fs l (j+1)
def DR(quiet b:FuncId->Bool)(ops:List Oper)(a:List Bool)(s:S):List (Nat×Oper)->Option (Nat×Oper)
 |[]=>none
 |(i,o)::l=>bif pg s o&&zd quiet b ops a i o (fwd ops 0 [i]) ops 0 then some (i,o) else DR quiet b ops a s l
def o8 P s(o:Oper):=
 match o.guard,o.op with
 | none, .load T x=>
  match ev s x with
   | .ptr k _ a _=>match ay s.st k with| .box b _=>bif wv P b a T&& !dG P T then some (some T) else none|_=>none
   |_=>none
 |none, .nilCheck x=>match ev s x with| .ptr k _ _ _=>bif kh (ay s.st k) then some none else none|_=>none
 |none, .fieldAddr _ x _=>match ev s x with| .ptr k _ _ _=>bif kh (ay s.st k) then some none else none|_=>none
 |_,_=>none
def AD(P:Program):Option TypeId->Op->Bool
 |none, .store _ _ _=>true
 |some T, .store U _ _=>!Nat.beq U T&& !dG P U
 |_,_=>false
def wa P quiet c T ops a b:=
 uc ops a b&&(Nat.blt (fg quiet b.op) 2||zY b.op||yf c b.op||AD P T b.op)
def eO(P:Program)(quiet calm:FuncId->Bool)(T:Option TypeId)(ops:List Oper)(listed:List Bool)(i:Nat)(o:Oper)(fs:List Nat):List Oper->Nat->Bool
 |[],_=>true
 |b::l,j=>(Nat.beq i j||fy listed j||iS j fs||wa P quiet calm T ops o b)&&eO P quiet calm T ops listed i o fs l (j+1)
def uG(P:Program)(quiet b:FuncId->Bool)(ops:List Oper)(a:List Bool)(s:S):List (Nat×Oper)->Option (Nat×Oper)
 |[]=>none
 |(i,o)::l=>match o8 P s o with
  |some T=>bif eO P quiet b T ops a i o (fwd ops 0 [i]) ops 0 then some (i,o) else uG P quiet b ops a s l
  |none=>uG P quiet b ops a s l
def Ns(p:Nat->Oper->Prop):List (Nat×Oper)->Prop
 |[]=>True
 |[(i,o)]=>p i o
 |(i,o)::l=>p i o/\Ns p l
def n6(E:Env)(rec:Rec)(ops:List Oper):Nat->List Bool->S->(S->Prop)->Prop
 |0,listed,s,K=>match kc listed ops 0 with|[]=>K s|_=>False
 | n +1,listed,s,K=>
  match kc listed ops 0 with
  |[]=>K s
  | r=>
   match pn E.quiet ops listed r with
   |some (i,o)=>dC E rec ops o s fun s'=>n6 E rec ops n (gC listed i) s' K
   | none=>
    match DR E.quiet E.calm ops listed s r with
    |some (i,o)=>dC E rec ops o s fun s'=>n6 E rec ops n (gC listed i) s' K
    |none=>
     match bif E.calm 888888 then uG E.P.toProgram E.quiet E.calm ops listed s r else none with
     |some (i,o)=>dC E rec ops o s fun s'=>n6 E rec ops n (gC listed i) s' K
     |none=>Ns (fun i o=>dC E rec ops o s fun s'=>n6 E rec ops n (gC listed i) s' K) r
def am3(p:S->(Exit->S->Prop)->Prop)(K:Exit->S->Prop):Exit->S->Prop
 | .normal,s=>p s K
 |e,s=>K e s
def AX(id:Nat)(K:Exit->S->Prop):Exit->S->Prop
 | .exit i,s=>bif Nat.beq i id then K .normal s else K (.exit i) s
 |e,s=>K e s
def Vk(K:Exit->S->Prop):Exit->S->Prop
 | .goto _,_=>False
 |e,s=>K e s
def mh:Code->Option Nat
 | .region id _ _=>some id
 | .seq a b=>(match mh a with|some n=>some n|none=>mh b)
 | .block _ c| .scope c| .loop c=>mh c
 | .cond _ a b=>(match mh a with|some n=>some n|none=>mh b)
 | .rangeFunc _ _ a _=>mh a
 |_=>none
def qO(l:Nat)(s:S)(K:Exit->S->Prop)(st:List Obj):Prop:=
 match ay st l with
 | .loop r=>
  match r.state,r.pending with
   | .busy,_=>False
   |_,none=>K .normal {s with st:=db st l .dead}
   |_,some .ret=>K .ret {s with st:=db st l .dead}
   |_,some (.exit id)=>K (.exit id) {s with st:=db st l .dead}
   |_,_=>False
 |_=>False
def EX(a:Option _)(st:List Obj):=
 match a with
 |none=>true
 |some l=>match ay st l with| .loop _=>true|_=>false
def ko(E:Env)(rec:Rec)(f:FuncId)(rd:Option Nat)(base:Nat):Code->S->(Exit->S->Prop)->Prop
 | .skip,s,K=>K .normal s
 | .label _,s,K=>K .normal s
 | .region _ ops false,s,K=>pD E rec ops.toList ops.toList s (yC (K .normal))
 | .region _ ops true,s,K=>n6 E rec ops.toList ops.toList.length (iH ops.toList.length) s (yC (K .normal))
 | .seq a b,s,K=>ko E rec f rd base a s (am3 (ko E rec f rd base b) K)
 | .cond c x y,s,K=>
  match ev s c with
  | .lit (.bool t)=>aq t (ko E rec f rd base x (ep s (sd c) true) K) (ko E rec f rd base y (ep s (sd c) false) K)
  |_=>False
 | .block id c,s,K=>ko E rec f rd base c s (AX id K)
 | .loop c,s,K=>
  match mh c with
  |some n=>aW (jN E.P (E.live f n) base s) (Dt (canon E.P (E.live f n) base s) fun s'=>E.loop f n c rd base s' K)
  |none=>False
 | .rangeFunc g ps asg body,s,K=>
  match ev s g with
  | .bm f' caps=>
   aW (EX rd s.st) (match E.gen f' with
    |true=>E.lF f (match mh asg with|some n=>n|none=>0) f' caps
     (s.st++[.loop {state:= .ready,pending:=none,fn:=f,bB:=s.bB,params:=ps,assign:=asg,body:=body}]) (qO s.st.length s K)
    |false=>nI E rec f' (.cf s.st.length::caps)
     (s.st++[.loop {state:= .ready,pending:=none,fn:=f,bB:=s.bB,params:=ps,assign:=asg,body:=body}])
     fun _ st=>qO s.st.length s K st)
  |_=>False
 | .exit id,s,K=>K (.exit id) s
 | .goto _,_,_=>False
 | .scope c,s,K=>ko E rec f rd base c s (Vk K)
 | .ret,s,K=>K .ret s
 | .refuse _,_,_=>False
def vc(E:Env):Nat->Rec
 |0=>fun _ _ _ _ _ _=>False
 |n+1=>fun f a base c s K=>ko E (vc E n) f a base c s K
end Go.Dn
