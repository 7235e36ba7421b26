import Derived.Test.YtioeffnadipbaaaGreatDoorDnB
namespace Go.Dn
open Go
mutual
def refs:AV->List Nat
 | .ax i _ _=>[i]
 | .ptr i _ _ _=>[i]
 | .mp i=>[i]
 | .bJ i=>[i]
 | .lC i _=>[i]
 | .agg l=>df l
 | .aK l=>df l
 | .bp _ l=>df l
 | .jz _ a=>refs a
 |_=>[]
def df:List AV->List Nat
 |[]=>[]
 |a::l=>refs a++df l
end
def zE:Obj->List Nat
 | .box _ a=>refs a
 | .loop r=>df r.bz
 | .iter i _ _=>[i]
 |_=>[]
def ic(i:Nat):List Nat->Bool
 |[]=>false
 |j::l=>Nat.beq i j||ic i l
def reach(st:List Obj):Nat->List Nat->List Nat->List Nat
 |0,_,acc=>acc
 |_+1,[],acc=>acc
 |n+1,i::todo,acc=>
  bif ic i acc then reach st n todo acc else reach st n (zE (au st i)++todo) (acc++[i])
def j8(i:Nat):List Nat->Nat->Option Nat
 |[],_=>none
 |j::l,n=>bif Nat.beq i j then some n else j8 i l (n+1)
mutual
def nb(ρ:Nat->Option Nat):AV->AV
 | .ax i lo n=>(match ρ i with|some j=> .ax j lo n|none=> .cK)
 | .ptr i k p o=>(match ρ i with|some j=> .ptr j k p o|none=> .cK)
 | .mp i=>(match ρ i with|some j=> .mp j|none=> .cK)
 | .bJ i=>(match ρ i with|some j=> .bJ j|none=> .cK)
 | .lC i k=>(match ρ i with|some j=> .lC j k|none=> .cK)
 | .agg l=> .agg (gG ρ l)
 | .aK l=> .aK (gG ρ l)
 | .bp f l=> .bp f (gG ρ l)
 | .jz T a=> .jz T (nb ρ a)
 |a=>a
def gG(ρ:Nat->Option Nat):List AV->List AV
 |[]=>[]
 |a::l=>nb ρ a::gG ρ l
end
def fp(ρ:Nat->Option Nat):Obj->Obj
 | .box T a=> .box T (nb ρ a)
 | .loop r=> .loop {r with bz:=gG ρ r.bz}
 | .iter i n b=> .iter (match ρ i with|some j=>j|none=>i) n b
 |o=>o
def iw(st:List Obj):List Nat->List Obj
 |[]=>[]
 |i::l=>au st i::iw st l
def iy(ρ:Nat->Option Nat):List Obj->List Obj
 |[]=>[]
 |o::l=>fp ρ o::iy ρ l
def upto:Nat->List Nat
 |0=>[]
 |n+1=>upto n++[n]
def kQ(ids:List Nat)(n:Nat)(j:Nat):Option Nat:=
 match idN ids j with
 |some i=>some i
 |none=>some (n+(j - ids.length))
where
 idN:List Nat->Nat->Option Nat
  |[],_=>none
  |i::_,0=>some i
  |_::l,k+1=>idN l k
def fH(st:List Obj)(ids:List Nat)(ρ:Nat->Option Nat):List Obj->List Obj
 |sub=>go st ids sub
where
 go:List Obj->List Nat->List Obj->List Obj
  |st,i::ids,o::sub=>go (dj st i (fp ρ o)) ids sub
  |st,[],sub=>st++iy ρ sub
  |st,_::_,[]=>st
def ix(live:List (Nat×Option TypeId)):List AV->Nat->List AV
 |[],_=>[]
 |a::l,n=>(bif memL n live then a else .cK)::ix live l (n+1)
where
 memL (n:Nat):List (Nat×Option TypeId)->Bool
  |[]=>false
  |(j,_)::l=>Nat.beq n j||memL n l
def Qh:=1000000000
def jk:List (Nat×Option TypeId)->S->S
 |[],s=>s
 |(_,none)::l,s=>jk l s
 | (r,some T)::l,s=>
  match nth s.bz r with
  | .lit (.slice none 0 0)=>
   (match Nat.ble Qh T with
    |true=>jk l {bz:=bQ s.bz r (.ad (T - Qh) []),st:=s.st}
    |false=>jk l {bz:=bQ s.bz r (.ax s.st.length 0 0),st:=s.st++[.row T []]})
  |_=>jk l s
def Fh(P:Program)(i:Nat)(s:S):S:=
 match au s.st i with
 | .box a (.lit (.slice none 0 0))=>
  match P.underlying a with
  |some (.slice b)=>{s with st:=dj s.st i (.box a (.ax s.st.length 0 0))++[.row b []]}
  |_=>s
 |_=>s
def si(P:Program):List Nat->S->S
 |[],s=>s
 |i::l,s=>si P l (Fh P i s)
def T8(i j:Nat)(T:TypeId)(st:List Obj):List Obj:=
 match au st i with
 | .box b (.agg a)=>
  match nth a j with
  | .lit (.slice none 0 0)=>dj st i (.box b (.agg (bQ a j (.ax st.length 0 0))))++[.row T []]
  |_=>st
 |_=>st
def sj:List (Nat×Nat×TypeId)->List Obj->List Obj
 |[],st=>st
 |(i,j,T)::l,st=>sj l (T8 i j T st)
def AB:List (Nat×Option TypeId)->List (Nat×Nat×TypeId)
 |[]=>[]
 |(r,t)::l=>match Nat.ble 1000 r,t with
  |true,some T=>((r - 1000) / 64,(r - 1000) % 64,T)::AB l
  |_,_=>AB l
def xJ(st:List Obj):List Nat->List Nat
 |[]=>[]
 |i::l=>zE (au st i)++xJ st l
def jc base st a:=
 reach st (st.length*st.length+st.length+20) (xJ st (upto base)++a) (upto base)
def Cg(ids:List Nat):List Nat->Bool
 |[]=>true
 |i::l=>ic i ids&&Cg ids l
def Gy(n:Nat):List Nat->Bool
 |[]=>true
 |i::l=>decide (i<n)&&Gy n l
def Bc:List Nat->Bool
 |[]=>true
 |i::l=>!ic i l&&Bc l
def vr(ids:List Nat):List Nat->Bool
 |[]=>true
 |i::l=>(match j8 i ids 0 with|some j=>Nat.beq i j|none=>false)&&vr ids l
def qt base st a ids:=
 Bc ids&&Gy st.length ids&&vr ids (upto base)&&Cg ids a&&Cg ids (xJ st ids)
def A3(l:List _)(s:S):=
 match l with
 |[]=>s
 |_=>{s with st:=sj l s.st}
def il P a(s:S):=
 let s1:=jk a {s with bz:=ix a s.bz 0}
 A3 (AB a) (si P (upto s1.st.length) s1)
def jN P a base s:=
 qt base (il P a s).st (df (il P a s).bz) (jc base (il P a s).st (df (il P a s).bz))
def vj(ids:List Nat)(s:S):S:=
 {bz:=gG (fun i=>j8 i ids 0) s.bz,st:=iy (fun i=>j8 i ids 0) (iw s.st ids)}
def canon P a base s:=
 vj (jc base (il P a s).st (df (il P a s).bz)) (il P a s)
def GH(P:Program)(T:TypeId):List AV->Bool
 |[]=>true
 |a::l=>wa P a T&&GH P T l
def va:Nat:=70368744177664
def pC(b:Option _)(a:TypeId):=
 match b with
 |none=>true
 |some U=>U==a
def rY(P:Program)(E:TypeId):Bool:=
 match P.underlying E with
 |some (.int _)|some .bool|some .string=>P.cellsOf E==1
 |_=>false
def iO:List AV->Option (List Value)
 |[]=>some []
 | .lit v::l=>(match iO l with|some m=>some (v::m)|none=>none)
 |_=>none
def pL (P:Program)(s:S)(T:TypeId)(x y:AV)(K:List Obj->AV->Prop):Prop:=
 match P.underlying T with
 | some (.slice a)=>
  match qc s.st y,iC P a with
  | some (e,b),some _=>
   match pC e a&&decide (0<P.cellsOf a) with
   |false=>False
   | true=>
    match x with
    | .lit (.slice none 0 0)=>
     aG (decide ((b.length+1)*(P.bytesOf a+1)<=va)) (K (s.st++[.row a b]) (.ax s.st.length 0 b.length))
    | .ax i lo n=>
     match au s.st i with
     | .row c xs=>
      if c=a/\lo=0 then
       aG (decide ((n+b.length+1)*(P.bytesOf a+1)<=va))
        (K (dj s.st i .dead++[.row a (xs.take n++b)]) (.ax s.st.length 0 (n+b.length)))
      else False
     | .rows c E d none=>
      match lo,iO b with
      | k+1,some f=>
       if E=a/\GH P a b=true then
        aG (decide (n=(ez d k).length)&&decide ((n+b.length+1)*(P.bytesOf a+1)<=va))
         (K (dj s.st i (.rows c E (mT d k (ez d k++f)) (some k))) (.ax i (Nat.succ k) (n+b.length)))
       else False
      |_,_=>False
     |_=>False
    |_=>False
  |_,_=>False
 |_=>False
def kg(P:Program):TypeId->List Nat->Option TypeId
 |T,[]=>some T
 |T,j::p=>match qY (fieldsOf P T) j with
  |some a=>kg P a.type p
  |none=>none
def xx(P:Program)(b:TypeId)(a:List Nat)(T:TypeId):Bool:=
 match kg P b a with
 |some U=>Nat.beq U T
 |none=>false
def rC(P:Program)(s:S)(T:TypeId)(p x:AV)(K:List Obj->Prop):=
 match p with
 | .ptr i k b off=>
  match au s.st i with
  | .box g a=>
   if oi a b&&jm a b==off&&wid x==P.cellsOf T&&wid (og a b)==P.cellsOf T&&rr x&&(P.underlying T).isSome&&xx P g b T then K (dj s.st i (.box g (gD a b x))) else False
  | .row _ _=>
   match b9 s.st x,au (cQ s.st (rowsOf x)) i with
   | some d, .row c xs=>
    if oi (expand P cd c (nth xs k)) b&&jm (expand P cd c (nth xs k)) b==off&&wid d==P.cellsOf T&&wid (og (expand P cd c (nth xs k)) b)==P.cellsOf T&&
      wa P (gD (expand P cd c (nth xs k)) b d) c&&rr d&&(P.underlying T).isSome then
     K (dj (cQ s.st (rowsOf x)) i (.row c (bQ xs k (gD (expand P cd c (nth xs k)) b d))))
    else False
   |_,_=>False
  | .rows c E e (some f)=>
   match b,off,x with
    |[],0, .ax j (h+1) m=>if j=i/\T=c then aG (decide (k=f)&&decide (h=f)&&decide (m=(ez e k).length)) (K (dj s.st i (.rows c E e none))) else False
    |_,_,_=>False
  |_=>False
 |_=>False
def gm(a:AV) n:=List.replicate n a
def He(P:Program)(a:TypeId)(z:AV)(n:Nat):Obj:=
 match P.underlying a,z with
 |some (.slice E), .lit (.slice none 0 0)=>if rY P E=true/\P.cellsOf a=1 then .rows a E (List.replicate n []) none else .row a (gm z n)
 |_,_=> .row a (gm z n)
def lr(P:Program)(T:TypeId)(st:List Obj):List AV->List (Nat×AV)->Option (List AV×List Nat)
 |l,[]=>some (l,[])
 | l,(i,x)::ps=>
  match b9 st x with
  | some a=>
   if wa P a T&&decide (i<l.length) then
    match lr P T st (bQ l i a) ps with
    |some (m,b)=>some (m,rowsOf x++b)
    |none=>none
   else none
  |none=>none
def r8:List Value->Value->Bool
 |[],_=>false
 |a::l,k=>eM a k||r8 l k
def pK(a:List Value):List (Value×AV)->Bool
 |[]=>true
 |(k,_)::b=>r8 a k&&pK a b
def uI(P:Program) d c a b(p:Value->AV->Prop) q:=
 (match P.underlying d with
  |some (.int κ)=>∀n v,(Value.int κ n,v)∈a->r8 b (.int κ n)=false->p (.int κ n) (expand P cd c v)
  |some .string=>∀t v,(Value.string t,v)∈a->r8 b (.string t)=false->p (.string t) (expand P cd c v)
  |_=>False)/\(pK b a=true->q)
def My:List AV->Bool
 |[]=>true
 |_::_=>false
def di:List AV->Nat->Nat->AV->List AV
 |[],_,_,_=>[]
 |a::l,0,0,_=>a::l
 |_::l,0,n+1,z=>z::di l 0 n z
 |a::l,lo+1,n,z=>a::di l lo n z
def nI(P:Program)(st:List Obj)(T:TypeId)(y:Operand)(a:AV)(K:Bool->Prop):Prop:=
 match y,P.underlying T with
 | .const (.slice none 0 0),some (.slice _)=>
  match a with
   | .lit (.slice none 0 0)=>K true
   | .ad _ l=>(My l=true->K true)/\K false
   | .ax i _ n=>match QK (au st i) with|true=>(Nat.beq n 0=true->K true)/\K false|false=>False
   |_=>False
 |_,_=>False
def cm (P:Pg)(s:S)(d:Option Tmp)(o:Op)(K:S->Prop):Prop:=
 match o with
 | .alloc T=>
  (match IA P T with
   |some z=>K (put {s with st:=s.st++[.box T z]} d (.ptr s.st.length 0 [] 0))
   |none=>False)
 | .box T x=>
  if rr (ev s x) then
   match P.imm T with
   |true=>aG (wa P (ev s x) T) (K (put {s with st:=s.st++[.dead]} d (.jA T (ev s x))))
   |false=>K (put {s with st:=s.st++[.box T (ev s x)]} d (.ptr s.st.length 0 [] 0))
  else False
 | .store T p x=>rC P s T (ev s p) (ev s x) fun st=>K (put {s with st} d .cK)
 | .buildSlice T u t=>
  (match P.underlying T with
   | some (.slice g)=>
    (match iC P g with
    | some z=>
     (match lr P g s.st (gm z u) (fj s t.toList) with
      | some (l,J)=>
       if decide (u*P.cellsOf g<=16777216)&&decide (0<P.cellsOf g) then
        K (put {s with st:=cQ s.st J++[.row g l]} d (.ax s.st.length 0 u))
       else False
      |none=>False)
    |none=>False)
   |_=>False)
 | .makeSlice T F E=>
  (match P.underlying T,RK (ev s F),RK (ev s E) with
   | some (.slice g),some (.i64,n),some (.i64,c)=>
    (match iC P g with
    | some z=>
     aG (decide (0<=n)&&decide (n<=c)&&decide ((c.toNat+1)*(P.bytesOf g+1)<=va)&&decide (0<P.cellsOf g))
      (K (put {s with st:=s.st++[He P g z n.toNat]} d (.ax s.st.length 0 n.toNat)))
    |none=>False)
   |_,_,_=>False)
 | .makeMap T none=>
  (match P.underlying T with
   |some (.map f e)=>K (put {s with st:=s.st++[.map f e []]} d (.mp s.st.length))
   |_=>False)
 | .mapUpdate T m k x=>
  (match P.underlying T,ev s m,ev s k,b9 s.st (ev s x) with
   | some (.map f e), .mp i, .lit q,some v=>
    (match au (cQ s.st (rowsOf (ev s x))) i with
    | .map D A h=>
     if D=f/\A=e/\plainKey P f q=true/\wa P v e=true then
      K (put {s with st:=dj (cQ s.st (rowsOf (ev s x))) i (.map f e (fw h q v))} d .cK)
     else False
    |_=>False)
   |_,_,_,_=>False)
 | .mapEntry T m k=>
  (match P.underlying T,ev s m,ev s k with
   | some (.map f e), .mp i, .lit q=>
    (match au s.st i,iC P e with
    | .map D A h,some z=>
     if D=f/\A=e/\plainKey P f q=true then
      let v:=expand P cd e (de h q z)
      K (put {s with st:=dj s.st i (.map f e (fw h q v))} d (.aK [v, .lC i q]))
     else False
    |_,_=>False)
   |_,_,_=>False)
 | .entryStore T m lC x=>
  (match P.underlying T,ev s m,ev s lC,b9 s.st (ev s x) with
   | some (.map f e), .mp i, .lC j q,some v=>
    (match au (cQ s.st (rowsOf (ev s x))) i with
    | .map D A h=>
     if i=j/\D=f/\A=e/\plainKey P f q=true/\wa P v e=true then
      K (put {s with st:=dj (cQ s.st (rowsOf (ev s x))) i (.map f e (fw h q v))} d .cK)
     else False
    |_=>False)
   |_,_,_,_=>False)
 | .range T x=>
  (match P.underlying T,ev s x with
   |some (.map _ _), .mp i=>
    (match au s.st i with
    | .map _ _ h=>K (put {s with st:=s.st++[.iter i h.length []]} d (.ptr s.st.length 0 [] 0))
    |_=>False)
   |some (.map _ _), .eO f e r w=>K (put {s with st:=s.st++[.fit f e r w []]} d (.ptr s.st.length 0 [] 0))
   |some (.map _ _), .lit (.map none)=>K (put {s with st:=s.st++[.iter s.st.length 0 [.map none]]} d (.ptr s.st.length 0 [] 0))
   |some .string, .lit (.string b)=>K (put {s with st:=s.st++[.dy b 0]} d (.ptr s.st.length 0 [] 0))
   |_,_=>False)
 | .next B false=>
  (match ev s B with
   | .ptr j 0 _ 0=>
    (match au s.st j with
    | .iter i n r=>
     (match au s.st i with
      | .map f e h=>
       aG (Nat.beq h.length n) (uI P f e h r (fun k v=>K (put {s with st:=dj s.st j (.iter i n (k::r))} d (.aK [.lit (.bool true), .lit k,v]))) (K (put s d (.aK [.lit (.bool false)]))))
      |_=>
       (match r with
       |[.map none]=>K (put s d (.aK [.lit (.bool false)]))
       |_=>False))
    | .fit f e r w C=>uI P f e (r.zip w) C (fun k v=>K (put {s with st:=dj s.st j (.fit f e r w (k::C))} d (.aK [.lit (.bool true), .lit k,v]))) (K (put s d (.aK [.lit (.bool false)])))
    |_=>False)
   |_=>False)
 | .next B true=>
  (match ev s B with
   | .ptr j 0 _ 0=>
    (match au s.st j with
    | .dy b p=>
     an (Nat.blt p b.size) (K (put {s with st:=dj s.st j (.dy b (p+(Utf8.decode b p).2))} d (.aK [.lit (.bool true), .lit (.int .i64 p), .lit (.int .i32 (Utf8.decode b p).1)]))) (K (put s d (.aK [.lit (.bool false)])))
    |_=>False)
   |_=>False)
 | .binOp .eql T x y _=>nI P s.st T y (ev s x) fun b=>K (put s d (.lit (.bool b)))
 | .binOp .neq T x y _=>nI P s.st T y (ev s x) fun b=>K (put s d (.lit (.bool (!b))))
 | .call {callee:= .builtin .clear,args,argTypes}=>
  (match oI s args.toList,argTypes.toList with
   | [.ax i lo n],[T]=>
    (match P.underlying T,au s.st i with
    | some (.slice g), .row I xs=>
     (match iC P g with
      |some z=>if I=g/\0<P.cellsOf g then K (put {s with st:=dj s.st i (.row g (di xs lo n z))} d (.aK [])) else False
      |none=>False)
    |_,_=>False)
   |_,_=>False)
 | .entry B=>
  (match ev s B with
   | .ptr j 0 _ 0=>
    (match au s.st j with
    | .iter i n (k::_)=>
     (match au s.st i with
      | .map _ e h=>
       (match iC P e with
       |some z=>aG (Nat.beq h.length n) (K (put s d (.aK [.lit k,expand P cd e (de h k z)])))
       |none=>False)
      |_=>False)
    | .fit _ e r w (k::_)=>
     (match iC P e with
      |some z=>K (put s d (.aK [.lit k,expand P cd e (de (r.zip w) k z)]))
      |none=>False)
    |_=>False)
   |_=>False)
 | .call {callee:= .builtin .append,args,argTypes}=>
  (match oI s args.toList,argTypes.toList with
   |[x,y],[T,H]=>if T=H then pL P s T x y fun st a=>K (put {s with st} d a) else False
   |_,_=>False)
 |_=>False
def yq:Nat->(Nat->Prop)->Prop
 |0,k=>k 0
 |n+1,k=>yq n fun m=>k (m+1)
def P3:List Nat->(List Nat->Prop)->Prop
 |[],k=>k []
 |n::l,k=>yq n fun n'=>P3 l fun l'=>k (n'::l')
theorem AF: ∀n k,yq n k=k n
 |0,_=>rfl
 |n+1,k=>by simp[yq,AF n]
theorem GQ: ∀l k,P3 l k=k l
 |[],_=>rfl
 |n::l,k=>by simp[P3,AF,GQ l]
mutual
def wv:AV->(AV->Prop)->Prop
 | .agg l,k=>AE l fun l'=>k (.agg l')
 | .aK l,k=>AE l fun l'=>k (.aK l')
 | .bp f l,k=>AE l fun l'=>k (.bp f l')
 | .jz T a,k=>wv a fun a'=>k (.jz T a')
 | .lit v,k=>k (.lit v)
 | .cK,k=>k .cK
 | .ad T l,k=>k (.ad T l)
 | .ax i lo n,k=>yq i fun i'=>k (.ax i' lo n)
 | .ptr i x p o,k=>yq i fun i'=>P3 p fun p'=>yq o fun o'=>k (.ptr i' x p' o')
 | .jA T a,k=>k (.jA T a)
 | .mp i,k=>yq i fun i'=>k (.mp i')
 | .bJ i,k=>yq i fun i'=>k (.bJ i')
 | .lC i x,k=>yq i fun i'=>k (.lC i' x)
 | .eO K V ks vs,k=>k (.eO K V ks vs)
def AE:List AV->(List AV->Prop)->Prop
 |[],k=>k []
 |a::l,k=>wv a fun a'=>AE l fun l'=>k (a'::l')
end
def TR:Obj->(Obj->Prop)->Prop
 | .dead,k=>k .dead
 | .box T a,k=>wv a fun g=>k (.box T g)
 | .row T xs,k=>k (.row T xs)
 | .lD T xs,k=>k (.lD T xs)
 | .map K V e,k=>k (.map K V e)
 | .loop r,k=>AE r.bz fun l=>k (.loop {state:=r.state,pending:=r.pending,fn:=r.fn,bz:=l,params:=r.params,assign:=r.assign,body:=r.body})
 | .iter i n b,k=>k (.iter i n b)
 | .ext t,k=>k (.ext t)
 | .dy s p,k=>k (.dy s p)
 | .rows T E f d,k=>k (.rows T E f d)
 | .fit K V b h c,k=>k (.fit K V b h c)
def wx:List Obj->(List Obj->Prop)->Prop
 |[],k=>k []
 |o::l,k=>TR o fun o'=>wx l fun l'=>k (o'::l')
def CA(s:S)(k:S->Prop):=AE s.bz fun r=>wx s.st fun t=>k {bz:=r,st:=t}
mutual
theorem nw: ∀(a:AV) (k:AV->Prop),wv a k=k a
 | .agg l,k=>by simp only[wv,pQ l]
 | .aK l,k=>by simp only[wv,pQ l]
 | .bp f l,k=>by simp only[wv,pQ l]
 | .jz T a,k=>by simp only[wv,nw a]
 | .lit _,_| .cK,_| .ad _ _,_| .ax _ _ _,_| .ptr _ _ _ _,_| .jA _ _,_| .mp _,_| .bJ _,_| .lC _ _,_| .eO _ _ _ _,_=>by simp only[wv,AF,GQ]
theorem pQ: ∀(l:List AV) (k:List AV->Prop),AE l k=k l
 |[],k=>by simp only[AE]
 |a::l,k=>by simp only[AE,nw a,pQ l]
end
theorem P2 o k:TR o k=k o:=by
 cases o<;>simp[TR,nw,pQ]
theorem kW: ∀l k,wx l k=k l
 |[],k=>rfl
 |o::l,k=>by simp[wx,P2,kW l]
theorem jO s k:CA s k=k s:=by simp[CA,pQ,kW]
def P4:List AV->(List AV->Prop)->Prop
 |[],k=>k []
 |a::l,k=>P4 l fun l'=>k (a::l')
def yp(K:S->Prop)(s:S):=P4 s.bz fun r=>K {bz:=r,st:=s.st}
theorem GR: ∀l k,P4 l k=k l
 |[],_=>rfl
 |a::l,k=>by simp[P4,GR l]
theorem vn K:yp K=K:=by
 funext s
 simp[yp,GR]
abbrev Rec:=FuncId->Option Nat->Nat->Code->S->(Exit->S->Prop)->Prop
def bL:Nat->List AV
 |0=>[]
 |n+1=> .cK::bL n
def xM(P:Program)(s:S):List ResultVar->Option (List AV)
 |[]=>some []
 | .tmp t::l=>(match xM P s l with|some m=>some (nth s.bz t::m)|none=>none)
 | .cell a T::l=>
  (match n8 P s.st T (nth s.bz a),xM P s l with
   |some (true,x),some m=>some (x::m)
   |_,_=>none)
def nN:List AV->AV
 |[a]=>a
 |l=> .aK l
def ny(E:Env)(d:Rec)(f:FuncId)(a:List AV)(st:List Obj)(K:AV->List Obj->Prop):Prop:=
 match E.P.funcs[f]? with
 | some b=>
  match b.body with
   | some c=>
    d f none st.length c {bz:=a++bL (b.ntmps - a.length),st} fun e s=>
     match e with
     | .normal| .ret=>match xM E.P s b.results.toList with|some l=>K (nN l) s.st|none=>False
     |_=>False
   |none=>False
 |none=>False
def rD(E:Env) f args st(K:AV->List _->Prop):=
 let ids:=reach st (st.length*st.length+st.length+20) (df args) []
 let ρ:=fun i=>j8 i ids 0
 let β:=kQ ids st.length
 aG (qt 0 st (df args) ids) (CA {bz:=gG ρ args,st:=iy ρ (iw st ids)} fun s=>E.call f s.bz s.st fun r sub=>wv (nb β r) fun r'=>wx (fH st ids β sub) fun st'=>K r' st')
def wU(st:List Obj):List AV->Option (List AV×List Nat)
 |[]=>some ([],[])
 | a::l=>
  match wU st l with
  |none=>none
  |some (m,is)=>
   match a with
   | .ax _ _ _=>(match b9 st a with|some b=>some (b::m,rowsOf a++is)|none=>none)
   | .agg _=>(match b9 st a with|some b=>some (b::m,rowsOf a++is)|none=>none)
   |_=>some (a::m,is)
def LS(P:Program)(Ts:List TypeId):AV->AV
 | .aK l=> .aK (r4 P Ts l)
 |a=>match Ts with|[T]=>GP P T a|_=>a
def kL:List Tmp->List AV->List AV->List AV
 |p::ps,a::c,b=>kL ps c (bQ b p a)
 |_,_,b=>b
def jo (b :Rec)(l:Nat)(a:List AV)(st:List Obj)(K:AV->List Obj->Prop):Prop:=
 match au st l with
 | .loop r=>
  if r.state= .ready/\r.params.size=a.length then
   b r.fn (some l) st.length r.assign {bz:=kL r.params.toList a r.bz,st} fun e s1=>
    match e with
    | .normal=>
     match au s1.st l with
      | .loop d=>
       if d.state= .ready then
        b r.fn (some l) st.length r.body {s1 with st:=dj s1.st l (.loop {d with state:= .busy})} fun f s2=>
         match au s2.st l with
         | .loop c=>
          match f with
          | .normal=>K (.lit (.bool true)) (dj s2.st l (.loop {c with state:= .ready,pending:=none}))
          | .ret=>K (.lit (.bool false)) (dj s2.st l (.loop {c with state:= .done,pending:=some .ret}))
          | .exit id=>K (.lit (.bool false)) (dj s2.st l (.loop {c with state:= .done,pending:=some (.exit id)}))
          |_=>False
         |_=>False
       else False
      |_=>False
    |_=>False
  else False
 |_=>False
def MA:List Nat->Bool
 |[]=>true
 |_=>false
def B6(l:Nat)(todo:Option (List AV))(b:List AV)(st:List Obj)(K:AV->List Obj->Prop):Prop:=
 match todo,wU st b with
 |some xs,some (c,d)=>
  aG (MA (df c)) (∃a,xs= .aK c::a/\K (.lit (.bool true)) (dj (cQ st d) l (.ext (some a)))/\K (.lit (.bool false)) (dj (cQ st d) l (.ext none)))
 |_,_=>False
def oC(E:Env) c(g:AV)(a:List AV)(st:List Obj)(K:AV->List Obj->Prop):=
 match g with
 | .bp f b=>
  if E.inl f then ny E c f (a++b) st K
  else if E.own f then rD E f (a++b) st K
  else
   match wU st (a++b) with
    |some (d,e)=>rD E f (r4 E.P (mN E.P f) d) (cQ st e) K
    |none=>False
 | .bJ l=>
  match au st l with
   | .ext t=>B6 l t a st K
   |_=>jo c l a st K
 |_=>False
def eI(s:S)(t:Option Tmp)(b:Bool):=
 match t with
 |none=>s
 |some d=>{s with bz:=bQ s.bz d (.lit (.bool b))}
def nY:List Oper->Nat->Option Tmp
 |[],_=>none
 |o::_,0=>o.dst
 |_::l,n+1=>nY l n
def sW:Operand->Option Tmp
 | .tmp t=>some t
 |_=>none
def gM(s:S):Op->Option (AV×List AV)
 | .call {callee:= .value g,args, .. }=>some (ev s g,oI s args.toList)
 |_=>none
def Qw(E:Env)(f:Rec)(s:S)(d:Option Tmp)(o:Op)(K:S->Prop):Prop:=
 match bH E s o with
 |some (c,a)=>aG c (K (put s d a))
 | none=>
  match o with
  | .pick c a b=>
   match ev s c with
    | .lit (.bool t)=>an t (K (put (eI s (sW c) true) d (ev s a))) (K (put (eI s (sW c) false) d (ev s b)))
    |_=>False
  |o=>
   match gM s o with
   |some (g,e)=>oC E f g e s.st fun a st=>K (put {s with st} d a)
   |none=>cm E.P s d o K
def oZ(E:Env)(rec:Rec)(ops:List Oper):List Oper->S->(S->Prop)->Prop
 |[],s,K=>K s
 | o :: l, s, K=>
  match o.guard with
  |none=>Qw E rec s o.dst o.op fun s'=>oZ E rec ops l s' K
  | some (j, want)=>
   match nY ops j with
   |none=>False
   | some t=>
    match nth s.bz t with
    | .lit (.bool b)=>
     match want with
     |true=>an b (Qw E rec (eI s (some t) true) o.dst o.op fun s'=>oZ E rec ops l s' K)
             (oZ E rec ops l (put (eI s (some t) false) o.dst (.aK [])) K)
     |false=>an b (oZ E rec ops l (put (eI s (some t) true) o.dst (.aK [])) K)
              (Qw E rec (eI s (some t) false) o.dst o.op fun s'=>oZ E rec ops l s' K)
    | .aK []=>oZ E rec ops l (put s o.dst (.aK [])) K
    |_=>False
def q9:Option Operand->List Operand
 |none=>[]
 |some x=>[x]
def opsOf:Op->List Operand
 | .move x| .assign x| .load _ x| .nilCheck x| .unOp _ _ x| .fieldAddr _ x _| .field _ x _| .extract x _| .box _ x| .makeInterface _ x| .convert _ _ x=>[x]
 | .pick c a b=>[c,a,b]
 | .binOp _ _ x y _| .indexAddr _ x y| .index _ x y| .lookup _ x y _| .store _ x y| .makeSlice _ x y| .mapEntry _ x y=>[x,y]
 | .slice _ x lo e m=>x::(q9 lo++q9 e++q9 m)
 | .makeFunc _ _ d=>d.toList
 | .build _ ps| .buildSlice _ _ ps=>ps.toList.map (·.2)
 | .mapUpdate _ x y z| .entryStore _ x y z=>[x,y,z]
 | .range _ x| .next x _| .entry x=>[x]
 | .call {callee:= .value g,args, .. }=>g::args.toList
 | .call {args, .. }=>args.toList
 |_=>[]
def Lo:List Operand->Bool
 |[]=>true
 | .const _::l=>Lo l
 |_=>false
def fg(quiet:FuncId->Bool):Op->Nat
 | .move _| .assign _| .binOp .. | .unOp .. | .extract .. | .makeFunc .. | .pick .. | .makeInterface .. | .field .. | .build .. | .index .. =>0
 | .load .. | .nilCheck _| .convert .. | .slice .. | .fieldAddr .. | .indexAddr .. | .lookup .. =>1
 | .call {callee:= .builtin .len, .. }=>1
 | .call {callee:= .builtin .min, .. }=>1
 | .call {callee:= .builtin .max, .. }=>1
 | .call {callee:= .value (.func f),args, .. }=>bif quiet f then bif Lo args.toList then 0 else 1 else 2
 |_=>2
def rP:List Obj->List Obj->Prop
 |[],_=>True
 |_::_,[]=>False
 | .box T a::l,o::b=>o= .box T a/\rP l b
 | .rows T E d c::l,o::b=>o= .rows T E d c/\rP l b
 |_::l,_::b=>rP l b
def frm b(st st':List Obj)(p:Prop):=
 match b with
 |true=>rP st st'/\p
 |false=>p
def Js(E:Env)(g:AV)(b:List AV)(st:List Obj):=
 match g with
 | .bp f a=>!E.inl f&& !E.own f&&match wU st (b++a) with
  |some (c,[])=>MA (df (r4 E.P (mN E.P f) c))
  |_=>false
 |_=>false
def v8(a:FuncId->Bool):Op->Bool
 | .call {callee:= .value (.func f), .. }=>a f
 |_=>false
def vb(E:Env)(f:Rec)(s:S)(d:Option Tmp)(o:Op)(K:S->Prop):Prop:=
 match fg E.quiet o with
 | 2=>
  match gM s o with
   |some (g,e)=>oC E f g e s.st fun a st=>frm (v8 E.calm o&& !Js E g e s.st) s.st st (K (put {s with st} d a))
   |none=>cm E.P s d o K
 | _ =>
  match bH E s o with
   |some (c,a)=>aG c (K (put s d a))
   | none=>
    match o with
    | .pick c a b=>
     match ev s c with
      | .lit (.bool t)=>an t (K (put (eI s (sW c) true) d (ev s a))) (K (put (eI s (sW c) false) d (ev s b)))
      |_=>False
    |_=>False
def dI E a ops(o:Oper) s K:=
 match o.guard with
 |none=>vb E a s o.dst o.op K
 | some (j,c)=>
  match nY ops j with
  |none=>False
  | some t=>
   match nth s.bz t with
   | .lit (.bool b)=>
    match c with
    |true=>an b (vb E a (eI s (some t) true) o.dst o.op K) (K (put (eI s (some t) false) o.dst (.aK [])))
    |false=>an b (K (put (eI s (some t) true) o.dst (.aK []))) (vb E a (eI s (some t) false) o.dst o.op K)
   | .aK []=>K (put s o.dst (.aK []))
   |_=>False
def iJ:Nat->List Bool
 |0=>[]
 |n+1=>false::iJ n
def fF:List Bool->Nat->Bool
 |[],_=>true
 |b::_,0=>b
 |_::l,n+1=>fF l n
def gH:List Bool->Nat->List Bool
 |[],_=>[]
 |_::l,0=>true::l
 |b::l,n+1=>b::gH l n
def lT(listed:List Bool):List Edge->Bool
 |[]=>true
 |e::l=>(!Region.binds .any e||(Nat.blt e.on listed.length&&fF listed e.on))&&lT listed l
def ki(a:List Bool):List Oper->Nat->List (Nat×Oper)
 |[],_=>[]
 |o::l,i=>bif !fF a i&&lT a o.after.toList then(i,o)::ki a l (i+1) else ki a l (i+1)
def zS(t:Nat):List Operand->Bool
 |[]=>false
 | .tmp u::l=>Nat.beq t u||zS t l
 |_::l=>zS t l
def AU ops(o:Oper) t:=
 zS t (opsOf o.op)||match o.guard with|none=>false|some (j,_)=>match nY ops j with|none=>false|some u=>Nat.beq t u
def AW(ops:List Oper)(o:Oper):Option Tmp->Bool
 |none=>false
 |some t=>AU ops o t
def wg:Option Tmp->Option Tmp->Bool
 |some t,some u=>!Nat.beq t u
 |_,_=>true
def tc ops a b:=
 !AW ops b a.dst&& !AW ops a b.dst&&wg a.dst b.dst
def CP:Op->Bool
 | .alloc _| .box _ _| .makeSlice .. | .makeMap _ none=>true
 |_=>false
def yc quiet ops a b:=
 tc ops a b&&match fg quiet a.op with|0=>true|1=>Nat.blt (fg quiet b.op) 2||CP b.op|_=>false
def zr(acc:List Nat):List Edge->Bool
 |[]=>false
 |e::l=>(Region.binds .any e&&ic e.on acc)||zr acc l
def fwd:List Oper->Nat->List Nat->List Nat
 |[],_,a=>a
 |o::l,j,a=>bif zr a o.after.toList then fwd l (j+1) (j::a) else fwd l (j+1) a
def yZ(quiet:FuncId->Bool)(ops:List Oper)(listed:List Bool)(i:Nat)(o:Oper)(fs:List Nat):List Oper->Nat->Bool
 |[],_=>true
 |b::l,j=>(Nat.beq i j||fF listed j||ic j fs||yc quiet ops o b)&&yZ quiet ops listed i o fs l (j+1)
def o0(quiet:FuncId->Bool)(ops:List Oper)(a:List Bool):List (Nat×Oper)->Option (Nat×Oper)
 |[]=>none
 |(i,o)::l=>bif yZ quiet ops a i o (fwd ops 0 [i]) ops 0 then some (i,o) else o0 quiet ops a l
def j9:Obj->Bool
 | .box _ _=>true
 |_=>false
def AJ:Obj->Bool
 | .rows _ _ _ _=>true
 |_=>false
def pt s(o:Oper):=
 match o.guard,o.op with
 |none, .load _ x=>match ev s x with| .ptr k _ _ _=>j9 (au s.st k)| .jA _ _=>true| .lit _=>true|_=>false
 |none, .call {callee:= .builtin .len,args, .. }=>match oI s args.toList with|[.ad _ _]=>true|_=>false
 |none, .nilCheck x=>match ev s x with| .ptr k _ _ _=>j9 (au s.st k)|_=>false
 |none, .fieldAddr _ x _=>match ev s x with| .ptr k _ _ _=>j9 (au s.st k)|_=>false
 |none, .indexAddr _ x _=>match ev s x with| .ax k 0 _=>AJ (au s.st k)|_=>false
 |_,_=>false
def y4:Op->Bool
 | .alloc _| .box _ _| .makeMap _ none=>true
 | .buildSlice .. =>true
 | .makeSlice .. =>true
 | .call {callee:= .builtin .append, .. }=>true
 |_=>false
def vP quiet c ops a b:=
 tc ops a b&&(Nat.blt (fg quiet b.op) 2||y4 b.op||v8 c b.op)
def y0(quiet calm:FuncId->Bool)(ops:List Oper)(listed:List Bool)(i:Nat)(o:Oper)(fs:List Nat):List Oper->Nat->Bool
 |[],_=>true
 |b::l,j=>(Nat.beq i j||fF listed j||ic j fs||vP quiet calm ops o b)&&y0 quiet calm ops listed i o fs l (j+1)
def Dg(quiet b:FuncId->Bool)(ops:List Oper)(a:List Bool)(s:S):List (Nat×Oper)->Option (Nat×Oper)
 |[]=>none
 |(i,o)::l=>bif pt s o&&y0 quiet b ops a i o (fwd ops 0 [i]) ops 0 then some (i,o) else Dg quiet b ops a s l
def pD P s(o:Oper):=
 match o.guard,o.op with
 | none, .load T x=>
  match ev s x with
   | .ptr k _ a _=>match au s.st k with| .box b _=>bif xx P b a T&& !dJ P T then some (some T) else none|_=>none
   |_=>none
 |none, .nilCheck x=>match ev s x with| .ptr k _ _ _=>bif j9 (au s.st k) then some none else none|_=>none
 |none, .fieldAddr _ x _=>match ev s x with| .ptr k _ _ _=>bif j9 (au s.st k) then some none else none|_=>none
 |_,_=>none
def Bi(P:Program):Option TypeId->Op->Bool
 |none, .store _ _ _=>true
 |some T, .store U _ _=>!Nat.beq U T&& !dJ P U
 |_,_=>false
def vQ P quiet c T ops a b:=
 tc ops a b&&(Nat.blt (fg quiet b.op) 2||y4 b.op||v8 c b.op||Bi P T b.op)
def oM(P:Program)(quiet calm:FuncId->Bool)(T:Option TypeId)(ops:List Oper)(listed:List Bool)(i:Nat)(o:Oper)(fs:List Nat):List Oper->Nat->Bool
 |[],_=>true
 |b::l,j=>(Nat.beq i j||fF listed j||ic j fs||vQ P quiet calm T ops o b)&&oM P quiet calm T ops listed i o fs l (j+1)
def uK(P:Program)(quiet b:FuncId->Bool)(ops:List Oper)(a:List Bool)(s:S):List (Nat×Oper)->Option (Nat×Oper)
 |[]=>none
 |(i,o)::l=>match pD P s o with
  |some T=>bif oM P quiet b T ops a i o (fwd ops 0 [i]) ops 0 then some (i,o) else uK P quiet b ops a s l
  |none=>uK P quiet b ops a s l
def Lp(p:Nat->Oper->Prop):List (Nat×Oper)->Prop
 |[]=>True
 |[(i,o)]=>p i o
 |(i,o)::l=>p i o/\Lp p l
def oe(E:Env)(rec:Rec)(ops:List Oper):Nat->List Bool->S->(S->Prop)->Prop
 |0,listed,s,K=>match ki listed ops 0 with|[]=>K s|_=>False
 | n +1,listed,s,K=>
  match ki listed ops 0 with
  |[]=>K s
  | r=>
   match o0 E.quiet ops listed r with
   |some (i,o)=>dI E rec ops o s fun s'=>oe E rec ops n (gH listed i) s' K
   | none=>
    match Dg E.quiet E.calm ops listed s r with
    |some (i,o)=>dI E rec ops o s fun s'=>oe E rec ops n (gH listed i) s' K
    |none=>
     match bif E.calm 888888 then uK E.P.toProgram E.quiet E.calm ops listed s r else none with
     |some (i,o)=>dI E rec ops o s fun s'=>oe E rec ops n (gH listed i) s' K
     |none=>Lp (fun i o=>dI E rec ops o s fun s'=>oe E rec ops n (gH listed i) s' K) r
def ai9(p:S->(Exit->S->Prop)->Prop)(K:Exit->S->Prop):Exit->S->Prop
 | .normal,s=>p s K
 |e,s=>K e s
def Al(id:Nat)(K:Exit->S->Prop):Exit->S->Prop
 | .exit i,s=>bif Nat.beq i id then K .normal s else K (.exit i) s
 |e,s=>K e s
def UA(K:Exit->S->Prop):Exit->S->Prop
 | .goto _,_=>False
 |e,s=>K e s
def mj:Code->Option Nat
 | .region id _ _=>some id
 | .seq a b=>(match mj a with|some n=>some n|none=>mj b)
 | .block _ c| .scope c| .loop c=>mj c
 | .cond _ a b=>(match mj a with|some n=>some n|none=>mj b)
 | .rangeFunc _ _ a _=>mj a
 |_=>none
def rh(l:Nat)(s:S)(K:Exit->S->Prop)(st:List Obj):Prop:=
 match au st l with
 | .loop r=>
  match r.state,r.pending with
   | .busy,_=>False
   |_,none=>K .normal {s with st:=dj st l .dead}
   |_,some .ret=>K .ret {s with st:=dj st l .dead}
   |_,some (.exit id)=>K (.exit id) {s with st:=dj st l .dead}
   |_,_=>False
 |_=>False
def E4(a:Option _)(st:List Obj):=
 match a with
 |none=>true
 |some l=>match au st l with| .loop _=>true|_=>false
def kn(E:Env)(rec:Rec)(f:FuncId)(rd:Option Nat)(base:Nat):Code->S->(Exit->S->Prop)->Prop
 | .skip,s,K=>K .normal s
 | .label _,s,K=>K .normal s
 | .region _ ops false,s,K=>oZ E rec ops.toList ops.toList s (yp (K .normal))
 | .region _ ops true,s,K=>oe E rec ops.toList ops.toList.length (iJ ops.toList.length) s (yp (K .normal))
 | .seq a b,s,K=>kn E rec f rd base a s (ai9 (kn E rec f rd base b) K)
 | .cond c x y,s,K=>
  match ev s c with
  | .lit (.bool t)=>an t (kn E rec f rd base x (eI s (sW c) true) K) (kn E rec f rd base y (eI s (sW c) false) K)
  |_=>False
 | .block id c,s,K=>kn E rec f rd base c s (Al id K)
 | .loop c,s,K=>
  match mj c with
  |some n=>aG (jN E.P (E.live f n) base s) (CA (canon E.P (E.live f n) base s) fun s'=>E.loop f n c rd base s' K)
  |none=>False
 | .rangeFunc g ps asg body,s,K=>
  match ev s g with
  | .bp f' caps=>
   aG (E4 rd s.st) (match E.gen f' with
    |true=>E.lB f (match mj asg with|some n=>n|none=>0) f' caps
     (s.st++[.loop {state:= .ready,pending:=none,fn:=f,bz:=s.bz,params:=ps,assign:=asg,body:=body}]) (rh s.st.length s K)
    |false=>ny E rec f' (.bJ s.st.length::caps)
     (s.st++[.loop {state:= .ready,pending:=none,fn:=f,bz:=s.bz,params:=ps,assign:=asg,body:=body}])
     fun _ st=>rh s.st.length s K st)
  |_=>False
 | .exit id,s,K=>K (.exit id) s
 | .goto _,_,_=>False
 | .scope c,s,K=>kn E rec f rd base c s (UA K)
 | .ret,s,K=>K .ret s
 | .refuse _,_,_=>False
def vc(E:Env):Nat->Rec
 |0=>fun _ _ _ _ _ _=>False
 |n+1=>fun f a base c s K=>kn E (vc E n) f a base c s K
end Go.Dn
