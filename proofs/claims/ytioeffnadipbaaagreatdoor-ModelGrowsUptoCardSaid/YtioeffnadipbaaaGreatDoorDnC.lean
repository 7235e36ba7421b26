import Derived.Test.YtioeffnadipbaaaGreatDoorDnB
namespace Go.Dn
open Go
mutual
def refs:AV->List Nat
 | .ak i _ _=>[i]
 | .ptr i _ _ _=>[i]
 | .mp i=>[i]
 | .cf i=>[i]
 | .lj i _=>[i]
 | .agg l=>cW l
 | .aH l=>cW l
 | .bm _ l=>cW l
 | .ju _ a=>refs a
 |_=>[]
def cW:List AV->List Nat
 |[]=>[]
 |a::l=>refs a++cW l
end
def zH:Obj->List Nat
 | .box _ a=>refs a
 | .loop r=>cW r.bC
 | .iter i _ _=>[i]
 |_=>[]
def iD(i:Nat):List Nat->Bool
 |[]=>false
 |j::l=>Nat.beq i j||iD i l
def reach(st:List Obj):Nat->List Nat->List Nat->List Nat
 |0,_,acc=>acc
 |_+1,[],acc=>acc
 |n+1,i::todo,acc=>
  bif iD i acc then reach st n todo acc else reach st n (zH (ay st i)++todo) (acc++[i])
def ka(i:Nat):List Nat->Nat->Option Nat
 |[],_=>none
 |j::l,n=>bif Nat.beq i j then some n else ka i l (n+1)
mutual
def mM(ρ:Nat->Option Nat):AV->AV
 | .ak i lo n=>(match ρ i with|some j=> .ak j lo n|none=> .cB)
 | .ptr i k p o=>(match ρ i with|some j=> .ptr j k p o|none=> .cB)
 | .mp i=>(match ρ i with|some j=> .mp j|none=> .cB)
 | .cf i=>(match ρ i with|some j=> .cf j|none=> .cB)
 | .lj i k=>(match ρ i with|some j=> .lj j k|none=> .cB)
 | .agg l=> .agg (fC ρ l)
 | .aH l=> .aH (fC ρ l)
 | .bm f l=> .bm f (fC ρ l)
 | .ju T a=> .ju T (mM ρ a)
 |a=>a
def fC(ρ:Nat->Option Nat):List AV->List AV
 |[]=>[]
 |a::l=>mM ρ a::fC ρ l
end
def fo(ρ:Nat->Option Nat):Obj->Obj
 | .box T a=> .box T (mM ρ a)
 | .loop r=> .loop {r with bC:=fC ρ r.bC}
 | .iter i n b=> .iter (match ρ i with|some j=>j|none=>i) n b
 |o=>o
def fV(st:List Obj):List Nat->List Obj
 |[]=>[]
 |i::l=>ay st i::fV st l
def fU(ρ:Nat->Option Nat):List Obj->List Obj
 |[]=>[]
 |o::l=>fo ρ o::fU ρ l
def upto:Nat->List Nat
 |0=>[]
 |n+1=>upto n++[n]
def kP(ids:List Nat)(n:Nat)(j:Nat):Option Nat:=
 match idN ids j with
 |some i=>some i
 |none=>some (n+(j - ids.length))
where
 idN:List Nat->Nat->Option Nat
  |[],_=>none
  |i::_,0=>some i
  |_::l,k+1=>idN l k
def fw(st:List Obj)(ids:List Nat)(ρ:Nat->Option Nat):List Obj->List Obj
 |sub=>go st ids sub
where
 go:List Obj->List Nat->List Obj->List Obj
  |st,i::ids,o::sub=>go (df st i (fo ρ o)) ids sub
  |st,[],sub=>st++fU ρ sub
  |st,_::_,[]=>st
def ij(live:List (Nat×Option TypeId)):List AV->Nat->List AV
 |[],_=>[]
 |a::l,n=>(bif memL n live then a else .cB)::ij live l (n+1)
where
 memL (n:Nat):List (Nat×Option TypeId)->Bool
  |[]=>false
  |(j,_)::l=>Nat.beq n j||memL n l
def P6:=1000000000
def jq:List (Nat×Option TypeId)->S->S
 |[],s=>s
 |(_,none)::l,s=>jq l s
 | (r,some T)::l,s=>
  match nth s.bC r with
  | .lit (.slice none 0 0)=>
   (match Nat.ble P6 T with
    |true=>jq l {bC:=bH s.bC r (.ah (T - P6) []),st:=s.st}
    |false=>jq l {bC:=bH s.bC r (.ak s.st.length 0 0),st:=s.st++[.row T []]})
  |_=>jq l s
def Ev(P:Program)(i:Nat)(s:S):S:=
 match ay s.st i with
 | .box a (.lit (.slice none 0 0))=>
  match P.underlying a with
  |some (.slice b)=>{s with st:=df s.st i (.box a (.ak s.st.length 0 0))++[.row b []]}
  |_=>s
 |_=>s
def rN(P:Program):List Nat->S->S
 |[],s=>s
 |i::l,s=>rN P l (Ev P i s)
def WH(i j:Nat)(T:TypeId)(st:List Obj):List Obj:=
 match ay st i with
 | .box b (.agg a)=>
  match nth a j with
  | .lit (.slice none 0 0)=>df st i (.box b (.agg (bH a j (.ak st.length 0 0))))++[.row T []]
  |_=>st
 |_=>st
def xR:List (Nat×Nat×TypeId)->List Obj->List Obj
 |[],st=>st
 |(i,j,T)::l,st=>xR l (WH i j T st)
def A2:List (Nat×Option TypeId)->List (Nat×Nat×TypeId)
 |[]=>[]
 |(r,t)::l=>match Nat.ble 1000 r,t with
  |true,some T=>((r - 1000) / 64,(r - 1000) % 64,T)::A2 l
  |_,_=>A2 l
def wI(st:List Obj):List Nat->List Nat
 |[]=>[]
 |i::l=>zH (ay st i)++wI st l
def jr base st a:=
 reach st (st.length*st.length+st.length+20) (wI st (upto base)++a) (upto base)
def Ec(ids:List Nat):List Nat->Bool
 |[]=>true
 |i::l=>iD i ids&&Ec ids l
def IC(n:Nat):List Nat->Bool
 |[]=>true
 |i::l=>decide (i<n)&&IC n l
def Bi:List Nat->Bool
 |[]=>true
 |i::l=>!iD i l&&Bi l
def vf(ids:List Nat):List Nat->Bool
 |[]=>true
 |i::l=>(match ka i ids 0 with|some j=>Nat.beq i j|none=>false)&&vf ids l
def qe base st a ids:=
 Bi ids&&IC st.length ids&&vf ids (upto base)&&Ec ids a&&Ec ids (wI st ids)
def Bh(l:List _)(s:S):=
 match l with
 |[]=>s
 |_=>{s with st:=xR l s.st}
def ic P a(s:S):=
 let s1:=jq a {s with bC:=ij a s.bC 0}
 Bh (A2 a) (rN P (upto s1.st.length) s1)
def jN P a base s:=
 qe base (ic P a s).st (cW (ic P a s).bC) (jr base (ic P a s).st (cW (ic P a s).bC))
def vd(ids:List Nat)(s:S):S:=
 {bC:=fC (fun i=>ka i ids 0) s.bC,st:=fU (fun i=>ka i ids 0) (fV s.st ids)}
def canon P a base s:=
 vd (jr base (ic P a s).st (cW (ic P a s).bC)) (ic P a s)
def Jc(P:Program)(T:TypeId):List AV->Bool
 |[]=>true
 |a::l=>w6 P a T&&Jc P T l
def uw:Nat:=70368744177664
def oA(b:Option _)(a:TypeId):=
 match b with
 |none=>true
 |some U=>U==a
def qT(P:Program)(E:TypeId):Bool:=
 match P.underlying E with
 |some (.int _)|some .bool|some .string=>P.cellsOf E==1
 |_=>false
def iH:List AV->Option (List Value)
 |[]=>some []
 | .lit v::l=>(match iH l with|some m=>some (v::m)|none=>none)
 |_=>none
def pC (P:Program)(s:S)(T:TypeId)(x y:AV)(K:List Obj->AV->Prop):Prop:=
 match P.underlying T with
 | some (.slice a)=>
  match px s.st y,hH P a with
  | some (e,b),some _=>
   match oA e a&&decide (0<P.cellsOf a) with
   |false=>False
   | true=>
    match x with
    | .lit (.slice none 0 0)=>
     aV (decide ((b.length+1)*(P.bytesOf a+1)<=uw)) (K (s.st++[.row a b]) (.ak s.st.length 0 b.length))
    | .ak i lo n=>
     match ay s.st i with
     | .row c xs=>
      if c=a/\lo=0 then
       aV (decide ((n+b.length+1)*(P.bytesOf a+1)<=uw))
        (K (df s.st i .dead++[.row a (xs.take n++b)]) (.ak s.st.length 0 (n+b.length)))
      else False
     | .rows c E d none=>
      match lo,iH b with
      | k+1,some f=>
       if E=a/\Jc P a b=true then
        aV (decide (n=(bW d k).length)&&decide ((n+b.length+1)*(P.bytesOf a+1)<=uw))
         (K (df s.st i (.rows c E (jQ d k (bW d k++f)) (some k))) (.ak i (Nat.succ k) (n+b.length)))
       else False
      |_,_=>False
     |_=>False
    |_=>False
  |_,_=>False
 |_=>False
def j5(P:Program):TypeId->List Nat->Option TypeId
 |T,[]=>some T
 |T,j::p=>match qD (fieldsOf P T) j with
  |some a=>j5 P a.type p
  |none=>none
def vt(P:Program)(b:TypeId)(a:List Nat)(T:TypeId):Bool:=
 match j5 P b a with
 |some U=>Nat.beq U T
 |none=>false
def qP(P:Program)(s:S)(T:TypeId)(p x:AV)(K:List Obj->Prop):=
 match p with
 | .ptr i k b off=>
  match ay s.st i with
  | .box g a=>
   if nQ a b&&iW a b==off&&wid x==P.cellsOf T&&wid (oE a b)==P.cellsOf T&&qq x&&(P.underlying T).isSome&&vt P g b T then K (df s.st i (.box g (iR a b x))) else False
  | .row _ _=>
   match cg s.st x,ay (cG s.st (rowsOf x)) i with
   | some d, .row c xs=>
    if nQ (expand P cj c (nth xs k)) b&&iW (expand P cj c (nth xs k)) b==off&&wid d==P.cellsOf T&&wid (oE (expand P cj c (nth xs k)) b)==P.cellsOf T&&
      w6 P (iR (expand P cj c (nth xs k)) b d) c&&qq d&&(P.underlying T).isSome then
     K (df (cG s.st (rowsOf x)) i (.row c (bH xs k (iR (expand P cj c (nth xs k)) b d))))
    else False
   |_,_=>False
  | .rows c E e (some f)=>
   match b,off,x with
    |[],0, .ak j (h+1) m=>if j=i/\T=c then aV (decide (k=f)&&decide (h=f)&&decide (m=(bW e k).length)) (K (df s.st i (.rows c E e none))) else False
    |_,_,_=>False
  |_=>False
 |_=>False
def fN(a:AV) n:=List.replicate n a
def HH(P:Program)(a:TypeId)(z:AV)(n:Nat):Obj:=
 match P.underlying a,z with
 |some (.slice E), .lit (.slice none 0 0)=>if qT P E=true/\P.cellsOf a=1 then .rows a E (List.replicate n []) none else .row a (fN z n)
 |_,_=> .row a (fN z n)
def ld(P:Program)(T:TypeId)(st:List Obj):List AV->List (Nat×AV)->Option (List AV×List Nat)
 |l,[]=>some (l,[])
 | l,(i,x)::ps=>
  match cg st x with
  | some a=>
   if w6 P a T&&decide (i<l.length) then
    match ld P T st (bH l i a) ps with
    |some (m,b)=>some (m,rowsOf x++b)
    |none=>none
   else none
  |none=>none
def kr:List Value->Value->Bool
 |[],_=>false
 |a::l,k=>eg a k||kr l k
def kt(a:List Value):List (Value×AV)->Bool
 |[]=>true
 |(k,_)::b=>kr a k&&kt a b
def B4(P:Program) d c a b(p:Value->AV->Prop) q:=
 (match P.underlying d with
  |some (.int κ)=>∀n v,(Value.int κ n,v)∈a->kr b (.int κ n)=false->p (.int κ n) (expand P cj c v)
  |some .string=>∀t v,(Value.string t,v)∈a->kr b (.string t)=false->p (.string t) (expand P cj c v)
  |_=>False)/\(kt b a=true->q)
def Nx:List AV->Bool
 |[]=>true
 |_::_=>false
def db:List AV->Nat->Nat->AV->List AV
 |[],_,_,_=>[]
 |a::l,0,0,_=>a::l
 |_::l,0,n+1,z=>z::db l 0 n z
 |a::l,lo+1,n,z=>a::db l lo n z
def nr(P:Program)(st:List Obj)(T:TypeId)(y:Operand)(a:AV)(K:Bool->Prop):Prop:=
 match y,P.underlying T with
 | .const (.slice none 0 0),some (.slice _)=>
  match a with
   | .lit (.slice none 0 0)=>K true
   | .ah _ l=>(Nx l=true->K true)/\K false
   | .ak i _ n=>match Sl (ay st i) with|true=>(Nat.beq n 0=true->K true)/\K false|false=>False
   |_=>False
 |_,_=>False
def cm (P:Pg)(s:S)(d:Option Tmp)(o:Op)(K:S->Prop):Prop:=
 match o with
 | .alloc T=>
  (match Hz P T with
   |some z=>K (put {s with st:=s.st++[.box T z]} d (.ptr s.st.length 0 [] 0))
   |none=>False)
 | .box T x=>
  if qq (ev s x) then
   match P.imm T with
   |true=>aV (w6 P (ev s x) T) (K (put {s with st:=s.st++[.dead]} d (.je T (ev s x))))
   |false=>K (put {s with st:=s.st++[.box T (ev s x)]} d (.ptr s.st.length 0 [] 0))
  else False
 | .store T p x=>qP P s T (ev s p) (ev s x) fun st=>K (put {s with st} d .cB)
 | .buildSlice T u t=>
  (match P.underlying T with
   | some (.slice g)=>
    (match hH P g with
    | some z=>
     (match ld P g s.st (fN z u) (fm s t.toList) with
      | some (l,J)=>
       if decide (u*P.cellsOf g<=16777216)&&decide (0<P.cellsOf g) then
        K (put {s with st:=cG s.st J++[.row g l]} d (.ak s.st.length 0 u))
       else False
      |none=>False)
    |none=>False)
   |_=>False)
 | .makeSlice T F E=>
  (match P.underlying T,TL (ev s F),TL (ev s E) with
   | some (.slice g),some (.i64,n),some (.i64,c)=>
    (match hH P g with
    | some z=>
     aV (decide (0<=n)&&decide (n<=c)&&decide ((c.toNat+1)*(P.bytesOf g+1)<=uw)&&decide (0<P.cellsOf g))
      (K (put {s with st:=s.st++[HH P g z n.toNat]} d (.ak s.st.length 0 n.toNat)))
    |none=>False)
   |_,_,_=>False)
 | .makeMap T none=>
  (match P.underlying T with
   |some (.map f e)=>K (put {s with st:=s.st++[.map f e []]} d (.mp s.st.length))
   |_=>False)
 | .mapUpdate T m k x=>
  (match P.underlying T,ev s m,ev s k,cg s.st (ev s x) with
   | some (.map f e), .mp i, .lit q,some v=>
    (match ay (cG s.st (rowsOf (ev s x))) i with
    | .map D A h=>
     if D=f/\A=e/\plainKey P f q=true/\w6 P v e=true then
      K (put {s with st:=df (cG s.st (rowsOf (ev s x))) i (.map f e (eC h q v))} d .cB)
     else False
    |_=>False)
   |_,_,_,_=>False)
 | .mapEntry T m k=>
  (match P.underlying T,ev s m,ev s k with
   | some (.map f e), .mp i, .lit q=>
    (match ay s.st i,hH P e with
    | .map D A h,some z=>
     if D=f/\A=e/\plainKey P f q=true then
      let v:=expand P cj e (c6 h q z)
      K (put {s with st:=df s.st i (.map f e (eC h q v))} d (.aH [v, .lj i q]))
     else False
    |_,_=>False)
   |_,_,_=>False)
 | .entryStore T m lj x=>
  (match P.underlying T,ev s m,ev s lj,cg s.st (ev s x) with
   | some (.map f e), .mp i, .lj j q,some v=>
    (match ay (cG s.st (rowsOf (ev s x))) i with
    | .map D A h=>
     if i=j/\D=f/\A=e/\plainKey P f q=true/\w6 P v e=true then
      K (put {s with st:=df (cG s.st (rowsOf (ev s x))) i (.map f e (eC h q v))} d .cB)
     else False
    |_=>False)
   |_,_,_,_=>False)
 | .range T x=>
  (match P.underlying T,ev s x with
   |some (.map _ _), .mp i=>
    (match ay s.st i with
    | .map _ _ h=>K (put {s with st:=s.st++[.iter i h.length []]} d (.ptr s.st.length 0 [] 0))
    |_=>False)
   |some (.map _ _), .eS f e r w=>K (put {s with st:=s.st++[.fit f e r w []]} d (.ptr s.st.length 0 [] 0))
   |some (.map _ _), .lit (.map none)=>K (put {s with st:=s.st++[.iter s.st.length 0 [.map none]]} d (.ptr s.st.length 0 [] 0))
   |some .string, .lit (.string b)=>K (put {s with st:=s.st++[.dp b 0]} d (.ptr s.st.length 0 [] 0))
   |_,_=>False)
 | .next B false=>
  (match ev s B with
   | .ptr j 0 _ 0=>
    (match ay s.st j with
    | .iter i n r=>
     (match ay s.st i with
      | .map f e h=>
       aV (Nat.beq h.length n) (B4 P f e h r (fun k v=>K (put {s with st:=df s.st j (.iter i n (k::r))} d (.aH [.lit (.bool true), .lit k,v]))) (K (put s d (.aH [.lit (.bool false)]))))
      |_=>
       (match r with
       |[.map none]=>K (put s d (.aH [.lit (.bool false)]))
       |_=>False))
    | .fit f e r w C=>B4 P f e (r.zip w) C (fun k v=>K (put {s with st:=df s.st j (.fit f e r w (k::C))} d (.aH [.lit (.bool true), .lit k,v]))) (K (put s d (.aH [.lit (.bool false)])))
    |_=>False)
   |_=>False)
 | .next B true=>
  (match ev s B with
   | .ptr j 0 _ 0=>
    (match ay s.st j with
    | .dp b p=>
     aq (Nat.blt p b.size) (K (put {s with st:=df s.st j (.dp b (p+(Utf8.decode b p).2))} d (.aH [.lit (.bool true), .lit (.int .i64 p), .lit (.int .i32 (Utf8.decode b p).1)]))) (K (put s d (.aH [.lit (.bool false)])))
    |_=>False)
   |_=>False)
 | .binOp .eql T x y _=>nr P s.st T y (ev s x) fun b=>K (put s d (.lit (.bool b)))
 | .binOp .neq T x y _=>nr P s.st T y (ev s x) fun b=>K (put s d (.lit (.bool (!b))))
 | .call {callee:= .builtin .clear,args,argTypes}=>
  (match ot s args.toList,argTypes.toList with
   | [.ak i lo n],[T]=>
    (match P.underlying T,ay s.st i with
    | some (.slice g), .row I xs=>
     (match hH P g with
      |some z=>if I=g/\0<P.cellsOf g then K (put {s with st:=df s.st i (.row g (db xs lo n z))} d (.aH [])) else False
      |none=>False)
    |_,_=>False)
   |_,_=>False)
 | .entry B=>
  (match ev s B with
   | .ptr j 0 _ 0=>
    (match ay s.st j with
    | .iter i n (k::_)=>
     (match ay s.st i with
      | .map _ e h=>
       (match hH P e with
       |some z=>aV (Nat.beq h.length n) (K (put s d (.aH [.lit k,expand P cj e (c6 h k z)])))
       |none=>False)
      |_=>False)
    | .fit _ e r w (k::_)=>
     (match hH P e with
      |some z=>K (put s d (.aH [.lit k,expand P cj e (c6 (r.zip w) k z)]))
      |none=>False)
    |_=>False)
   |_=>False)
 | .call {callee:= .builtin .append,args,argTypes}=>
  (match ot s args.toList,argTypes.toList with
   |[x,y],[T,H]=>if T=H then pC P s T x y fun st a=>K (put {s with st} d a) else False
   |_,_=>False)
 |_=>False
def yA:Nat->(Nat->Prop)->Prop
 |0,k=>k 0
 |n+1,k=>yA n fun m=>k (m+1)
def Q5:List Nat->(List Nat->Prop)->Prop
 |[],k=>k []
 |n::l,k=>yA n fun n'=>Q5 l fun l'=>k (n'::l')
theorem BS: ∀n k,yA n k=k n
 |0,_=>rfl
 |n+1,k=>by simp[yA,BS n]
theorem Jd: ∀l k,Q5 l k=k l
 |[],_=>rfl
 |n::l,k=>by simp[Q5,BS,Jd l]
mutual
def vE:AV->(AV->Prop)->Prop
 | .agg l,k=>Bm l fun l'=>k (.agg l')
 | .aH l,k=>Bm l fun l'=>k (.aH l')
 | .bm f l,k=>Bm l fun l'=>k (.bm f l')
 | .ju T a,k=>vE a fun a'=>k (.ju T a')
 | .lit v,k=>k (.lit v)
 | .cB,k=>k .cB
 | .ah T l,k=>k (.ah T l)
 | .ak i lo n,k=>yA i fun i'=>k (.ak i' lo n)
 | .ptr i x p o,k=>yA i fun i'=>Q5 p fun p'=>yA o fun o'=>k (.ptr i' x p' o')
 | .je T a,k=>k (.je T a)
 | .mp i,k=>yA i fun i'=>k (.mp i')
 | .cf i,k=>yA i fun i'=>k (.cf i')
 | .lj i x,k=>yA i fun i'=>k (.lj i' x)
 | .eS K V ks vs,k=>k (.eS K V ks vs)
def Bm:List AV->(List AV->Prop)->Prop
 |[],k=>k []
 |a::l,k=>vE a fun a'=>Bm l fun l'=>k (a'::l')
end
def VC:Obj->(Obj->Prop)->Prop
 | .dead,k=>k .dead
 | .box T a,k=>vE a fun g=>k (.box T g)
 | .row T xs,k=>k (.row T xs)
 | .ll T xs,k=>k (.ll T xs)
 | .map K V e,k=>k (.map K V e)
 | .loop r,k=>Bm r.bC fun l=>k (.loop {state:=r.state,pending:=r.pending,fn:=r.fn,bC:=l,params:=r.params,assign:=r.assign,body:=r.body})
 | .iter i n b,k=>k (.iter i n b)
 | .ext t,k=>k (.ext t)
 | .dp s p,k=>k (.dp s p)
 | .rows T E f d,k=>k (.rows T E f d)
 | .fit K V b h c,k=>k (.fit K V b h c)
def vJ:List Obj->(List Obj->Prop)->Prop
 |[],k=>k []
 |o::l,k=>VC o fun o'=>vJ l fun l'=>k (o'::l')
def CN(s:S)(k:S->Prop):=Bm s.bC fun r=>vJ s.st fun t=>k {bC:=r,st:=t}
mutual
theorem mX: ∀(a:AV) (k:AV->Prop),vE a k=k a
 | .agg l,k=>by simp only[vE,pG l]
 | .aH l,k=>by simp only[vE,pG l]
 | .bm f l,k=>by simp only[vE,pG l]
 | .ju T a,k=>by simp only[vE,mX a]
 | .lit _,_| .cB,_| .ah _ _,_| .ak _ _ _,_| .ptr _ _ _ _,_| .je _ _,_| .mp _,_| .cf _,_| .lj _ _,_| .eS _ _ _ _,_=>by simp only[vE,BS,Jd]
theorem pG: ∀(l:List AV) (k:List AV->Prop),Bm l k=k l
 |[],k=>by simp only[Bm]
 |a::l,k=>by simp only[Bm,mX a,pG l]
end
theorem SC o k:VC o k=k o:=by
 cases o<;>simp[VC,mX,pG]
theorem kL: ∀l k,vJ l k=k l
 |[],k=>rfl
 |o::l,k=>by simp[vJ,SC,kL l]
theorem kl s k:CN s k=k s:=by simp[CN,pG,kL]
def RB:List AV->(List AV->Prop)->Prop
 |[],k=>k []
 |a::l,k=>RB l fun l'=>k (a::l')
def yy(K:S->Prop)(s:S):=RB s.bC fun r=>K {bC:=r,st:=s.st}
theorem Iu: ∀l k,RB l k=k l
 |[],_=>rfl
 |a::l,k=>by simp[RB,Iu l]
theorem uX K:yy K=K:=by
 funext s
 simp[yy,Iu]
abbrev Rec:=FuncId->Option Nat->Nat->Code->S->(Exit->S->Prop)->Prop
def bM:Nat->List AV
 |0=>[]
 |n+1=> .cB::bM n
def xK(P:Program)(s:S):List ResultVar->Option (List AV)
 |[]=>some []
 | .tmp t::l=>(match xK P s l with|some m=>some (nth s.bC t::m)|none=>none)
 | .cell a T::l=>
  (match nH P s.st T (nth s.bC a),xK P s l with
   |some (true,x),some m=>some (x::m)
   |_,_=>none)
def mT:List AV->AV
 |[a]=>a
 |l=> .aH l
def nx(E:Env)(d:Rec)(f:FuncId)(a:List AV)(st:List Obj)(K:AV->List Obj->Prop):Prop:=
 match E.P.funcs[f]? with
 | some b=>
  match b.body with
   | some c=>
    d f none st.length c {bC:=a++bM (b.ntmps - a.length),st} fun e s=>
     match e with
     | .normal| .ret=>match xK E.P s b.results.toList with|some l=>K (mT l) s.st|none=>False
     |_=>False
   |none=>False
 |none=>False
def qn(E:Env) f args st(K:AV->List _->Prop):=
 let ids:=reach st (st.length*st.length+st.length+20) (cW args) []
 let ρ:=fun i=>ka i ids 0
 let β:=kP ids st.length
 aV (qe 0 st (cW args) ids) (CN {bC:=fC ρ args,st:=fU ρ (fV st ids)} fun s=>E.call f s.bC s.st fun r sub=>vE (mM β r) fun r'=>vJ (fw st ids β sub) fun st'=>K r' st')
def xm(st:List Obj):List AV->Option (List AV×List Nat)
 |[]=>some ([],[])
 | a::l=>
  match xm st l with
  |none=>none
  |some (m,is)=>
   match a with
   | .ak _ _ _=>(match cg st a with|some b=>some (b::m,rowsOf a++is)|none=>none)
   | .agg _=>(match cg st a with|some b=>some (b::m,rowsOf a++is)|none=>none)
   |_=>some (a::m,is)
def Mt(P:Program)(Ts:List TypeId):AV->AV
 | .aH l=> .aH (rI P Ts l)
 |a=>match Ts with|[T]=>Is P T a|_=>a
def kx:List Tmp->List AV->List AV->List AV
 |p::ps,a::c,b=>kx ps c (bH b p a)
 |_,_,b=>b
def fQ (b :Rec)(l:Nat)(a:List AV)(st:List Obj)(K:AV->List Obj->Prop):Prop:=
 match ay st l with
 | .loop r=>
  if r.state= .ready/\r.params.size=a.length then
   b r.fn (some l) st.length r.assign {bC:=kx r.params.toList a r.bC,st} fun e s1=>
    match e with
    | .normal=>
     match ay s1.st l with
      | .loop d=>
       if d.state= .ready then
        b r.fn (some l) st.length r.body {s1 with st:=df s1.st l (.loop {d with state:= .busy})} fun f s2=>
         match ay s2.st l with
         | .loop c=>
          match f with
          | .normal=>K (.lit (.bool true)) (df s2.st l (.loop {c with state:= .ready,pending:=none}))
          | .ret=>K (.lit (.bool false)) (df s2.st l (.loop {c with state:= .done,pending:=some .ret}))
          | .exit id=>K (.lit (.bool false)) (df s2.st l (.loop {c with state:= .done,pending:=some (.exit id)}))
          |_=>False
         |_=>False
       else False
      |_=>False
    |_=>False
  else False
 |_=>False
def N3:List Nat->Bool
 |[]=>true
 |_=>false
def BJ(l:Nat)(todo:Option (List AV))(b:List AV)(st:List Obj)(K:AV->List Obj->Prop):Prop:=
 match todo,xm st b with
 |some xs,some (c,d)=>
  aV (N3 (cW c)) (∃a,xs= .aH c::a/\K (.lit (.bool true)) (df (cG st d) l (.ext (some a)))/\K (.lit (.bool false)) (df (cG st d) l (.ext none)))
 |_,_=>False
def nU(E:Env) c(g:AV)(a:List AV)(st:List Obj)(K:AV->List Obj->Prop):=
 match g with
 | .bm f b=>
  if E.inl f then nx E c f (a++b) st K
  else if E.own f then qn E f (a++b) st K
  else
   match xm st (a++b) with
    |some (d,e)=>qn E f (rI E.P (mr E.P f) d) (cG st e) K
    |none=>False
 | .cf l=>
  match ay st l with
   | .ext t=>BJ l t a st K
   |_=>fQ c l a st K
 |_=>False
def ez(s:S)(t:Option Tmp)(b:Bool):=
 match t with
 |none=>s
 |some d=>{s with bC:=bH s.bC d (.lit (.bool b))}
def nL:List Oper->Nat->Option Tmp
 |[],_=>none
 |o::_,0=>o.dst
 |_::l,n+1=>nL l n
def qW:Operand->Option Tmp
 | .tmp t=>some t
 |_=>none
def gD(s:S):Op->Option (AV×List AV)
 | .call {callee:= .value g,args, .. }=>some (ev s g,ot s args.toList)
 |_=>none
def Q3(E:Env)(f:Rec)(s:S)(d:Option Tmp)(o:Op)(K:S->Prop):Prop:=
 match bJ E s o with
 |some (c,a)=>aV c (K (put s d a))
 | none=>
  match o with
  | .pick c a b=>
   match ev s c with
    | .lit (.bool t)=>aq t (K (put (ez s (qW c) true) d (ev s a))) (K (put (ez s (qW c) false) d (ev s b)))
    |_=>False
  |o=>
   match gD s o with
   |some (g,e)=>nU E f g e s.st fun a st=>K (put {s with st} d a)
   |none=>cm E.P s d o K
def oS(E:Env)(rec:Rec)(ops:List Oper):List Oper->S->(S->Prop)->Prop
 |[],s,K=>K s
 | o :: l, s, K=>
  match o.guard with
  |none=>Q3 E rec s o.dst o.op fun s'=>oS E rec ops l s' K
  | some (j, want)=>
   match nL ops j with
   |none=>False
   | some t=>
    match nth s.bC t with
    | .lit (.bool b)=>
     match want with
     |true=>aq b (Q3 E rec (ez s (some t) true) o.dst o.op fun s'=>oS E rec ops l s' K)
             (oS E rec ops l (put (ez s (some t) false) o.dst (.aH [])) K)
     |false=>aq b (oS E rec ops l (put (ez s (some t) true) o.dst (.aH [])) K)
              (Q3 E rec (ez s (some t) false) o.dst o.op fun s'=>oS E rec ops l s' K)
    | .aH []=>oS E rec ops l (put s o.dst (.aH [])) K
    |_=>False
def qQ:Option Operand->List Operand
 |none=>[]
 |some x=>[x]
def opsOf:Op->List Operand
 | .move x| .assign x| .load _ x| .nilCheck x| .unOp _ _ x| .fieldAddr _ x _| .field _ x _| .extract x _| .box _ x| .makeInterface _ x| .convert _ _ x=>[x]
 | .pick c a b=>[c,a,b]
 | .binOp _ _ x y _| .indexAddr _ x y| .index _ x y| .lookup _ x y _| .store _ x y| .makeSlice _ x y| .mapEntry _ x y=>[x,y]
 | .slice _ x lo e m=>x::(qQ lo++qQ e++qQ m)
 | .makeFunc _ _ d=>d.toList
 | .build _ ps| .buildSlice _ _ ps=>ps.toList.map (·.2)
 | .mapUpdate _ x y z| .entryStore _ x y z=>[x,y,z]
 | .range _ x| .next x _| .entry x=>[x]
 | .call {callee:= .value g,args, .. }=>g::args.toList
 | .call {args, .. }=>args.toList
 |_=>[]
def PJ:List Operand->Bool
 |[]=>true
 | .const _::l=>PJ l
 |_=>false
def fg(quiet:FuncId->Bool):Op->Nat
 | .move _| .assign _| .binOp .. | .unOp .. | .extract .. | .makeFunc .. | .pick .. | .makeInterface .. | .field .. | .build .. | .index .. =>0
 | .load .. | .nilCheck _| .convert .. | .slice .. | .fieldAddr .. | .indexAddr .. | .lookup .. =>1
 | .call {callee:= .builtin .len, .. }=>1
 | .call {callee:= .builtin .min, .. }=>1
 | .call {callee:= .builtin .max, .. }=>1
 | .call {callee:= .value (.func f),args, .. }=>bif quiet f then bif PJ args.toList then 0 else 1 else 2
 |_=>2
def rO:List Obj->List Obj->Prop
 |[],_=>True
 |_::_,[]=>False
 | .box T a::l,o::b=>o= .box T a/\rO l b
 | .rows T E d c::l,o::b=>o= .rows T E d c/\rO l b
 |_::l,_::b=>rO l b
def frm b(st st':List Obj)(p:Prop):=
 match b with
 |true=>rO st st'/\p
 |false=>p
def Ks(E:Env)(g:AV)(b:List AV)(st:List Obj):=
 match g with
 | .bm f a=>!E.inl f&& !E.own f&&match xm st (b++a) with
  |some (c,[])=>N3 (cW (rI E.P (mr E.P f) c))
  |_=>false
 |_=>false
def vO(a:FuncId->Bool):Op->Bool
 | .call {callee:= .value (.func f), .. }=>a f
 |_=>false
def uN(E:Env)(f:Rec)(s:S)(d:Option Tmp)(o:Op)(K:S->Prop):Prop:=
 match fg E.quiet o with
 | 2=>
  match gD s o with
   |some (g,e)=>nU E f g e s.st fun a st=>frm (vO E.calm o&& !Ks E g e s.st) s.st st (K (put {s with st} d a))
   |none=>cm E.P s d o K
 | _ =>
  match bJ E s o with
   |some (c,a)=>aV c (K (put s d a))
   | none=>
    match o with
    | .pick c a b=>
     match ev s c with
      | .lit (.bool t)=>aq t (K (put (ez s (qW c) true) d (ev s a))) (K (put (ez s (qW c) false) d (ev s b)))
      |_=>False
    |_=>False
def dD E a ops(o:Oper) s K:=
 match o.guard with
 |none=>uN E a s o.dst o.op K
 | some (j,c)=>
  match nL ops j with
  |none=>False
  | some t=>
   match nth s.bC t with
   | .lit (.bool b)=>
    match c with
    |true=>aq b (uN E a (ez s (some t) true) o.dst o.op K) (K (put (ez s (some t) false) o.dst (.aH [])))
    |false=>aq b (K (put (ez s (some t) true) o.dst (.aH []))) (uN E a (ez s (some t) false) o.dst o.op K)
   | .aH []=>K (put s o.dst (.aH []))
   |_=>False
def iF:Nat->List Bool
 |0=>[]
 |n+1=>false::iF n
def fv:List Bool->Nat->Bool
 |[],_=>true
 |b::_,0=>b
 |_::l,n+1=>fv l n
def gw:List Bool->Nat->List Bool
 |[],_=>[]
 |_::l,0=>true::l
 |b::l,n+1=>b::gw l n
def lD(listed:List Bool):List Edge->Bool
 |[]=>true
 |e::l=>(!Region.binds .any e||(Nat.blt e.on listed.length&&fv listed e.on))&&lD listed l
def j4(a:List Bool):List Oper->Nat->List (Nat×Oper)
 |[],_=>[]
 |o::l,i=>bif !fv a i&&lD a o.after.toList then(i,o)::j4 a l (i+1) else j4 a l (i+1)
def yG(t:Nat):List Operand->Bool
 |[]=>false
 | .tmp u::l=>Nat.beq t u||yG t l
 |_::l=>yG t l
def BC ops(o:Oper) t:=
 yG t (opsOf o.op)||match o.guard with|none=>false|some (j,_)=>match nL ops j with|none=>false|some u=>Nat.beq t u
def Aq(ops:List Oper)(o:Oper):Option Tmp->Bool
 |none=>false
 |some t=>BC ops o t
def yf:Option Tmp->Option Tmp->Bool
 |some t,some u=>!Nat.beq t u
 |_,_=>true
def tD ops a b:=
 !Aq ops b a.dst&& !Aq ops a b.dst&&yf a.dst b.dst
def Ch:Op->Bool
 | .alloc _| .box _ _| .makeSlice .. | .makeMap _ none=>true
 |_=>false
def vW quiet ops a b:=
 tD ops a b&&match fg quiet a.op with|0=>true|1=>Nat.blt (fg quiet b.op) 2||Ch b.op|_=>false
def zM(acc:List Nat):List Edge->Bool
 |[]=>false
 |e::l=>(Region.binds .any e&&iD e.on acc)||zM acc l
def fwd:List Oper->Nat->List Nat->List Nat
 |[],_,a=>a
 |o::l,j,a=>bif zM a o.after.toList then fwd l (j+1) (j::a) else fwd l (j+1) a
def kU(quiet:FuncId->Bool)(ops:List Oper)(listed:List Bool)(i:Nat)(o:Oper)(fs:List Nat):List Oper->Nat->Bool
 |[],_=>true
 |b::l,j=>(Nat.beq i j||fv listed j||iD j fs||vW quiet ops o b)&&kU quiet ops listed i o fs l (j+1)
def pb(quiet:FuncId->Bool)(ops:List Oper)(a:List Bool):List (Nat×Oper)->Option (Nat×Oper)
 |[]=>none
 |(i,o)::l=>bif kU quiet ops a i o (fwd ops 0 [i]) ops 0 then some (i,o) else pb quiet ops a l
def j7:Obj->Bool
 | .box _ _=>true
 |_=>false
def Bq:Obj->Bool
 | .rows _ _ _ _=>true
 |_=>false
def o3 s(o:Oper):=
 match o.guard,o.op with
 |none, .load _ x=>match ev s x with| .ptr k _ _ _=>j7 (ay s.st k)| .je _ _=>true| .lit _=>true|_=>false
 |none, .call {callee:= .builtin .len,args, .. }=>match ot s args.toList with|[.ah _ _]=>true|_=>false
 |none, .nilCheck x=>match ev s x with| .ptr k _ _ _=>j7 (ay s.st k)|_=>false
 |none, .fieldAddr _ x _=>match ev s x with| .ptr k _ _ _=>j7 (ay s.st k)|_=>false
 |none, .indexAddr _ x _=>match ev s x with| .ak k 0 _=>Bq (ay s.st k)|_=>false
 |_,_=>false
def zS:Op->Bool
 | .alloc _| .box _ _| .makeMap _ none=>true
 | .buildSlice .. =>true
 | .makeSlice .. =>true
 | .call {callee:= .builtin .append, .. }=>true
 |_=>false
def vC quiet c ops a b:=
 tD ops a b&&(Nat.blt (fg quiet b.op) 2||zS b.op||vO c b.op)
def yO(quiet calm:FuncId->Bool)(ops:List Oper)(listed:List Bool)(i:Nat)(o:Oper)(fs:List Nat):List Oper->Nat->Bool
 |[],_=>true
 |b::l,j=>(Nat.beq i j||fv listed j||iD j fs||vC quiet calm ops o b)&&yO quiet calm ops listed i o fs l (j+1)
def D4(quiet b:FuncId->Bool)(ops:List Oper)(a:List Bool)(s:S):List (Nat×Oper)->Option (Nat×Oper)
 |[]=>none
 |(i,o)::l=>bif o3 s o&&yO quiet b ops a i o (fwd ops 0 [i]) ops 0 then some (i,o) else D4 quiet b ops a s l
def oT P s(o:Oper):=
 match o.guard,o.op with
 | none, .load T x=>
  match ev s x with
   | .ptr k _ a _=>match ay s.st k with| .box b _=>bif vt P b a T&& !dI P T then some (some T) else none|_=>none
   |_=>none
 |none, .nilCheck x=>match ev s x with| .ptr k _ _ _=>bif j7 (ay s.st k) then some none else none|_=>none
 |none, .fieldAddr _ x _=>match ev s x with| .ptr k _ _ _=>bif j7 (ay s.st k) then some none else none|_=>none
 |_,_=>none
def BW(P:Program):Option TypeId->Op->Bool
 |none, .store _ _ _=>true
 |some T, .store U _ _=>!Nat.beq U T&& !dI P U
 |_,_=>false
def wD P quiet c T ops a b:=
 tD ops a b&&(Nat.blt (fg quiet b.op) 2||zS b.op||vO c b.op||BW P T b.op)
def eP(P:Program)(quiet calm:FuncId->Bool)(T:Option TypeId)(ops:List Oper)(listed:List Bool)(i:Nat)(o:Oper)(fs:List Nat):List Oper->Nat->Bool
 |[],_=>true
 |b::l,j=>(Nat.beq i j||fv listed j||iD j fs||wD P quiet calm T ops o b)&&eP P quiet calm T ops listed i o fs l (j+1)
def ug(P:Program)(quiet b:FuncId->Bool)(ops:List Oper)(a:List Bool)(s:S):List (Nat×Oper)->Option (Nat×Oper)
 |[]=>none
 |(i,o)::l=>match oT P s o with
  |some T=>bif eP P quiet b T ops a i o (fwd ops 0 [i]) ops 0 then some (i,o) else ug P quiet b ops a s l
  |none=>ug P quiet b ops a s l
def No(p:Nat->Oper->Prop):List (Nat×Oper)->Prop
 |[]=>True
 |[(i,o)]=>p i o
 |(i,o)::l=>p i o/\No p l
def nM(E:Env)(rec:Rec)(ops:List Oper):Nat->List Bool->S->(S->Prop)->Prop
 |0,listed,s,K=>match j4 listed ops 0 with|[]=>K s|_=>False
 | n +1,listed,s,K=>
  match j4 listed ops 0 with
  |[]=>K s
  | r=>
   match pb E.quiet ops listed r with
   |some (i,o)=>dD E rec ops o s fun s'=>nM E rec ops n (gw listed i) s' K
   | none=>
    match D4 E.quiet E.calm ops listed s r with
    |some (i,o)=>dD E rec ops o s fun s'=>nM E rec ops n (gw listed i) s' K
    |none=>
     match bif E.calm 888888 then ug E.P.toProgram E.quiet E.calm ops listed s r else none with
     |some (i,o)=>dD E rec ops o s fun s'=>nM E rec ops n (gw listed i) s' K
     |none=>No (fun i o=>dD E rec ops o s fun s'=>nM E rec ops n (gw listed i) s' K) r
def ak2(p:S->(Exit->S->Prop)->Prop)(K:Exit->S->Prop):Exit->S->Prop
 | .normal,s=>p s K
 |e,s=>K e s
def Ai(id:Nat)(K:Exit->S->Prop):Exit->S->Prop
 | .exit i,s=>bif Nat.beq i id then K .normal s else K (.exit i) s
 |e,s=>K e s
def WJ(K:Exit->S->Prop):Exit->S->Prop
 | .goto _,_=>False
 |e,s=>K e s
def l6:Code->Option Nat
 | .region id _ _=>some id
 | .seq a b=>(match l6 a with|some n=>some n|none=>l6 b)
 | .block _ c| .scope c| .loop c=>l6 c
 | .cond _ a b=>(match l6 a with|some n=>some n|none=>l6 b)
 | .rangeFunc _ _ a _=>l6 a
 |_=>none
def qj(l:Nat)(s:S)(K:Exit->S->Prop)(st:List Obj):Prop:=
 match ay st l with
 | .loop r=>
  match r.state,r.pending with
   | .busy,_=>False
   |_,none=>K .normal {s with st:=df st l .dead}
   |_,some .ret=>K .ret {s with st:=df st l .dead}
   |_,some (.exit id)=>K (.exit id) {s with st:=df st l .dead}
   |_,_=>False
 |_=>False
def Gw(a:Option _)(st:List Obj):=
 match a with
 |none=>true
 |some l=>match ay st l with| .loop _=>true|_=>false
def kh(E:Env)(rec:Rec)(f:FuncId)(rd:Option Nat)(base:Nat):Code->S->(Exit->S->Prop)->Prop
 | .skip,s,K=>K .normal s
 | .label _,s,K=>K .normal s
 | .region _ ops false,s,K=>oS E rec ops.toList ops.toList s (yy (K .normal))
 | .region _ ops true,s,K=>nM E rec ops.toList ops.toList.length (iF ops.toList.length) s (yy (K .normal))
 | .seq a b,s,K=>kh E rec f rd base a s (ak2 (kh E rec f rd base b) K)
 | .cond c x y,s,K=>
  match ev s c with
  | .lit (.bool t)=>aq t (kh E rec f rd base x (ez s (qW c) true) K) (kh E rec f rd base y (ez s (qW c) false) K)
  |_=>False
 | .block id c,s,K=>kh E rec f rd base c s (Ai id K)
 | .loop c,s,K=>
  match l6 c with
  |some n=>aV (jN E.P (E.live f n) base s) (CN (canon E.P (E.live f n) base s) fun s'=>E.loop f n c rd base s' K)
  |none=>False
 | .rangeFunc g ps asg body,s,K=>
  match ev s g with
  | .bm f' caps=>
   aV (Gw rd s.st) (match E.gen f' with
    |true=>E.lk f (match l6 asg with|some n=>n|none=>0) f' caps
     (s.st++[.loop {state:= .ready,pending:=none,fn:=f,bC:=s.bC,params:=ps,assign:=asg,body:=body}]) (qj s.st.length s K)
    |false=>nx E rec f' (.cf s.st.length::caps)
     (s.st++[.loop {state:= .ready,pending:=none,fn:=f,bC:=s.bC,params:=ps,assign:=asg,body:=body}])
     fun _ st=>qj s.st.length s K st)
  |_=>False
 | .exit id,s,K=>K (.exit id) s
 | .goto _,_,_=>False
 | .scope c,s,K=>kh E rec f rd base c s (WJ K)
 | .ret,s,K=>K .ret s
 | .refuse _,_,_=>False
def vc(E:Env):Nat->Rec
 |0=>fun _ _ _ _ _ _=>False
 |n+1=>fun f a base c s K=>kh E (vc E n) f a base c s K
end Go.Dn
