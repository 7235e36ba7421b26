import Derived.Test.YtioeffnadipbaaaGreatDoorDnB
namespace Go.Dn
open Go
mutual
def refs:AV->List Nat
 | .ak i _ _=>[i]
 | .ptr i _ _ _=>[i]
 | .mp i=>[i]
 | .cf i=>[i]
 | .lj i _=>[i]
 | .agg l=>cX l
 | .aH l=>cX l
 | .bm _ l=>cX l
 | .jt _ a=>refs a
 |_=>[]
def cX:List AV->List Nat
 |[]=>[]
 |a::l=>refs a++cX l
end
def zA:Obj->List Nat
 | .box _ a=>refs a
 | .loop r=>cX r.bC
 | .iter i _ _=>[i]
 |_=>[]
def iH(i:Nat):List Nat->Bool
 |[]=>false
 |j::l=>Nat.beq i j||iH i l
def reach(st:List Obj):Nat->List Nat->List Nat->List Nat
 |0,_,acc=>acc
 |_+1,[],acc=>acc
 |n+1,i::todo,acc=>
  bif iH i acc then reach st n todo acc else reach st n (zA (ay st i)++todo) (acc++[i])
def j3(i:Nat):List Nat->Nat->Option Nat
 |[],_=>none
 |j::l,n=>bif Nat.beq i j then some n else j3 i l (n+1)
mutual
def mM(ρ:Nat->Option Nat):AV->AV
 | .ak i lo n=>(match ρ i with|some j=> .ak j lo n|none=> .cB)
 | .ptr i k p o=>(match ρ i with|some j=> .ptr j k p o|none=> .cB)
 | .mp i=>(match ρ i with|some j=> .mp j|none=> .cB)
 | .cf i=>(match ρ i with|some j=> .cf j|none=> .cB)
 | .lj i k=>(match ρ i with|some j=> .lj j k|none=> .cB)
 | .agg l=> .agg (fE ρ l)
 | .aH l=> .aH (fE ρ l)
 | .bm f l=> .bm f (fE ρ l)
 | .jt T a=> .jt T (mM ρ a)
 |a=>a
def fE(ρ:Nat->Option Nat):List AV->List AV
 |[]=>[]
 |a::l=>mM ρ a::fE ρ l
end
def fm(ρ:Nat->Option Nat):Obj->Obj
 | .box T a=> .box T (mM ρ a)
 | .loop r=> .loop {r with bC:=fE ρ r.bC}
 | .iter i n b=> .iter (match ρ i with|some j=>j|none=>i) n b
 |o=>o
def fY(st:List Obj):List Nat->List Obj
 |[]=>[]
 |i::l=>ay st i::fY st l
def gg(ρ:Nat->Option Nat):List Obj->List Obj
 |[]=>[]
 |o::l=>fm ρ o::gg ρ l
def upto:Nat->List Nat
 |0=>[]
 |n+1=>upto n++[n]
def kH(ids:List Nat)(n:Nat)(j:Nat):Option Nat:=
 match idN ids j with
 |some i=>some i
 |none=>some (n+(j - ids.length))
where
 idN:List Nat->Nat->Option Nat
  |[],_=>none
  |i::_,0=>some i
  |_::l,k+1=>idN l k
def fv(st:List Obj)(ids:List Nat)(ρ:Nat->Option Nat):List Obj->List Obj
 |sub=>go st ids sub
where
 go:List Obj->List Nat->List Obj->List Obj
  |st,i::ids,o::sub=>go (df st i (fm ρ o)) ids sub
  |st,[],sub=>st++gg ρ sub
  |st,_::_,[]=>st
def im(live:List (Nat×Option TypeId)):List AV->Nat->List AV
 |[],_=>[]
 |a::l,n=>(bif memL n live then a else .cB)::im live l (n+1)
where
 memL (n:Nat):List (Nat×Option TypeId)->Bool
  |[]=>false
  |(j,_)::l=>Nat.beq n j||memL n l
def Rz:=1000000000
def jg:List (Nat×Option TypeId)->S->S
 |[],s=>s
 |(_,none)::l,s=>jg l s
 | (r,some T)::l,s=>
  match nth s.bC r with
  | .lit (.slice none 0 0)=>
   (match Nat.ble Rz T with
    |true=>jg l {bC:=bH s.bC r (.ah (T - Rz) []),st:=s.st}
    |false=>jg l {bC:=bH s.bC r (.ak s.st.length 0 0),st:=s.st++[.row T []]})
  |_=>jg l s
def FQ(P:Program)(i:Nat)(s:S):S:=
 match ay s.st i with
 | .box a (.lit (.slice none 0 0))=>
  match P.underlying a with
  |some (.slice b)=>{s with st:=df s.st i (.box a (.ak s.st.length 0 0))++[.row b []]}
  |_=>s
 |_=>s
def rG(P:Program):List Nat->S->S
 |[],s=>s
 |i::l,s=>rG P l (FQ P i s)
def VZ(i j:Nat)(T:TypeId)(st:List Obj):List Obj:=
 match ay st i with
 | .box b (.agg a)=>
  match nth a j with
  | .lit (.slice none 0 0)=>df st i (.box b (.agg (bH a j (.ak st.length 0 0))))++[.row T []]
  |_=>st
 |_=>st
def wY:List (Nat×Nat×TypeId)->List Obj->List Obj
 |[],st=>st
 |(i,j,T)::l,st=>wY l (VZ i j T st)
def As:List (Nat×Option TypeId)->List (Nat×Nat×TypeId)
 |[]=>[]
 |(r,t)::l=>match Nat.ble 1000 r,t with
  |true,some T=>((r - 1000) / 64,(r - 1000) % 64,T)::As l
  |_,_=>As l
def xF(st:List Obj):List Nat->List Nat
 |[]=>[]
 |i::l=>zA (ay st i)++xF st l
def iX base st a:=
 reach st (st.length*st.length+st.length+20) (xF st (upto base)++a) (upto base)
def Cm(ids:List Nat):List Nat->Bool
 |[]=>true
 |i::l=>iH i ids&&Cm ids l
def Ho(n:Nat):List Nat->Bool
 |[]=>true
 |i::l=>decide (i<n)&&Ho n l
def Bb:List Nat->Bool
 |[]=>true
 |i::l=>!iH i l&&Bb l
def u9(ids:List Nat):List Nat->Bool
 |[]=>true
 |i::l=>(match j3 i ids 0 with|some j=>Nat.beq i j|none=>false)&&u9 ids l
def pY base st a ids:=
 Bb ids&&Ho st.length ids&&u9 ids (upto base)&&Cm ids a&&Cm ids (xF st ids)
def AY(l:List _)(s:S):=
 match l with
 |[]=>s
 |_=>{s with st:=wY l s.st}
def hR P a(s:S):=
 let s1:=jg a {s with bC:=im a s.bC 0}
 AY (As a) (rG P (upto s1.st.length) s1)
def jI P a base s:=
 pY base (hR P a s).st (cX (hR P a s).bC) (iX base (hR P a s).st (cX (hR P a s).bC))
def uT(ids:List Nat)(s:S):S:=
 {bC:=fE (fun i=>j3 i ids 0) s.bC,st:=gg (fun i=>j3 i ids 0) (fY s.st ids)}
def canon P a base s:=
 uT (iX base (hR P a s).st (cX (hR P a s).bC)) (hR P a s)
def Hw(P:Program)(T:TypeId):List AV->Bool
 |[]=>true
 |a::l=>vU P a T&&Hw P T l
def uG:Nat:=70368744177664
def o8(b:Option _)(a:TypeId):=
 match b with
 |none=>true
 |some U=>U==a
def rl(P:Program)(E:TypeId):Bool:=
 match P.underlying E with
 |some (.int _)|some .bool|some .string=>P.cellsOf E==1
 |_=>false
def iI:List AV->Option (List Value)
 |[]=>some []
 | .lit v::l=>(match iI l with|some m=>some (v::m)|none=>none)
 |_=>none
def pk (P:Program)(s:S)(T:TypeId)(x y:AV)(K:List Obj->AV->Prop):Prop:=
 match P.underlying T with
 | some (.slice a)=>
  match pK s.st y,iq P a with
  | some (e,b),some _=>
   match o8 e a&&decide (0<P.cellsOf a) with
   |false=>False
   | true=>
    match x with
    | .lit (.slice none 0 0)=>
     aV (decide ((b.length+1)*(P.bytesOf a+1)<=uG)) (K (s.st++[.row a b]) (.ak s.st.length 0 b.length))
    | .ak i lo n=>
     match ay s.st i with
     | .row c xs=>
      if c=a/\lo=0 then
       aV (decide ((n+b.length+1)*(P.bytesOf a+1)<=uG))
        (K (df s.st i .dead++[.row a (xs.take n++b)]) (.ak s.st.length 0 (n+b.length)))
      else False
     | .rows c E d none=>
      match lo,iI b with
      | k+1,some f=>
       if E=a/\Hw P a b=true then
        aV (decide (n=(bW d k).length)&&decide ((n+b.length+1)*(P.bytesOf a+1)<=uG))
         (K (df s.st i (.rows c E (jU d k (bW d k++f)) (some k))) (.ak i (Nat.succ k) (n+b.length)))
       else False
      |_,_=>False
     |_=>False
    |_=>False
  |_,_=>False
 |_=>False
def j7(P:Program):TypeId->List Nat->Option TypeId
 |T,[]=>some T
 |T,j::p=>match qz (fieldsOf P T) j with
  |some a=>j7 P a.type p
  |none=>none
def xr(P:Program)(b:TypeId)(a:List Nat)(T:TypeId):Bool:=
 match j7 P b a with
 |some U=>Nat.beq U T
 |none=>false
def qQ(P:Program)(s:S)(T:TypeId)(p x:AV)(K:List Obj->Prop):=
 match p with
 | .ptr i k b off=>
  match ay s.st i with
  | .box g a=>
   if nP a b&&ji a b==off&&wid x==P.cellsOf T&&wid (nX a b)==P.cellsOf T&&qM x&&(P.underlying T).isSome&&xr P g b T then K (df s.st i (.box g (iS a b x))) else False
  | .row _ _=>
   match cg s.st x,ay (cF s.st (rowsOf x)) i with
   | some d, .row c xs=>
    if nP (expand P cj c (nth xs k)) b&&ji (expand P cj c (nth xs k)) b==off&&wid d==P.cellsOf T&&wid (nX (expand P cj c (nth xs k)) b)==P.cellsOf T&&
      vU P (iS (expand P cj c (nth xs k)) b d) c&&qM d&&(P.underlying T).isSome then
     K (df (cF s.st (rowsOf x)) i (.row c (bH xs k (iS (expand P cj c (nth xs k)) b d))))
    else False
   |_,_=>False
  | .rows c E e (some f)=>
   match b,off,x with
    |[],0, .ak j (h+1) m=>if j=i/\T=c then aV (decide (k=f)&&decide (h=f)&&decide (m=(bW e k).length)) (K (df s.st i (.rows c E e none))) else False
    |_,_,_=>False
  |_=>False
 |_=>False
def fT(a:AV) n:=List.replicate n a
def H5(P:Program)(a:TypeId)(z:AV)(n:Nat):Obj:=
 match P.underlying a,z with
 |some (.slice E), .lit (.slice none 0 0)=>if rl P E=true/\P.cellsOf a=1 then .rows a E (List.replicate n []) none else .row a (fT z n)
 |_,_=> .row a (fT z n)
def la(P:Program)(T:TypeId)(st:List Obj):List AV->List (Nat×AV)->Option (List AV×List Nat)
 |l,[]=>some (l,[])
 | l,(i,x)::ps=>
  match cg st x with
  | some a=>
   if vU P a T&&decide (i<l.length) then
    match la P T st (bH l i a) ps with
    |some (m,b)=>some (m,rowsOf x++b)
    |none=>none
   else none
  |none=>none
def kq:List Value->Value->Bool
 |[],_=>false
 |a::l,k=>ef a k||kq l k
def kl(a:List Value):List (Value×AV)->Bool
 |[]=>true
 |(k,_)::b=>kq a k&&kl a b
def C9(P:Program) d c a b(p:Value->AV->Prop) q:=
 (match P.underlying d with
  |some (.int κ)=>∀n v,(Value.int κ n,v)∈a->kq b (.int κ n)=false->p (.int κ n) (expand P cj c v)
  |some .string=>∀t v,(Value.string t,v)∈a->kq b (.string t)=false->p (.string t) (expand P cj c v)
  |_=>False)/\(kl b a=true->q)
def NG:List AV->Bool
 |[]=>true
 |_::_=>false
def dc:List AV->Nat->Nat->AV->List AV
 |[],_,_,_=>[]
 |a::l,0,0,_=>a::l
 |_::l,0,n+1,z=>z::dc l 0 n z
 |a::l,lo+1,n,z=>a::dc l lo n z
def nj(P:Program)(st:List Obj)(T:TypeId)(y:Operand)(a:AV)(K:Bool->Prop):Prop:=
 match y,P.underlying T with
 | .const (.slice none 0 0),some (.slice _)=>
  match a with
   | .lit (.slice none 0 0)=>K true
   | .ah _ l=>(NG l=true->K true)/\K false
   | .ak i _ n=>match R4 (ay st i) with|true=>(Nat.beq n 0=true->K true)/\K false|false=>False
   |_=>False
 |_,_=>False
def cm (P:Pg)(s:S)(d:Option Tmp)(o:Op)(K:S->Prop):Prop:=
 match o with
 | .alloc T=>
  (match Jp P T with
   |some z=>K (put {s with st:=s.st++[.box T z]} d (.ptr s.st.length 0 [] 0))
   |none=>False)
 | .box T x=>
  if qM (ev s x) then
   match P.imm T with
   |true=>aV (vU P (ev s x) T) (K (put {s with st:=s.st++[.dead]} d (.jj T (ev s x))))
   |false=>K (put {s with st:=s.st++[.box T (ev s x)]} d (.ptr s.st.length 0 [] 0))
  else False
 | .store T p x=>qQ P s T (ev s p) (ev s x) fun st=>K (put {s with st} d .cB)
 | .buildSlice T u t=>
  (match P.underlying T with
   | some (.slice g)=>
    (match iq P g with
    | some z=>
     (match la P g s.st (fT z u) (ff s t.toList) with
      | some (l,J)=>
       if decide (u*P.cellsOf g<=16777216)&&decide (0<P.cellsOf g) then
        K (put {s with st:=cF s.st J++[.row g l]} d (.ak s.st.length 0 u))
       else False
      |none=>False)
    |none=>False)
   |_=>False)
 | .makeSlice T F E=>
  (match P.underlying T,Tc (ev s F),Tc (ev s E) with
   | some (.slice g),some (.i64,n),some (.i64,c)=>
    (match iq P g with
    | some z=>
     aV (decide (0<=n)&&decide (n<=c)&&decide ((c.toNat+1)*(P.bytesOf g+1)<=uG)&&decide (0<P.cellsOf g))
      (K (put {s with st:=s.st++[H5 P g z n.toNat]} d (.ak s.st.length 0 n.toNat)))
    |none=>False)
   |_,_,_=>False)
 | .makeMap T none=>
  (match P.underlying T with
   |some (.map f e)=>K (put {s with st:=s.st++[.map f e []]} d (.mp s.st.length))
   |_=>False)
 | .mapUpdate T m k x=>
  (match P.underlying T,ev s m,ev s k,cg s.st (ev s x) with
   | some (.map f e), .mp i, .lit q,some v=>
    (match ay (cF s.st (rowsOf (ev s x))) i with
    | .map D A h=>
     if D=f/\A=e/\plainKey P f q=true/\vU P v e=true then
      K (put {s with st:=df (cF s.st (rowsOf (ev s x))) i (.map f e (eE h q v))} d .cB)
     else False
    |_=>False)
   |_,_,_,_=>False)
 | .mapEntry T m k=>
  (match P.underlying T,ev s m,ev s k with
   | some (.map f e), .mp i, .lit q=>
    (match ay s.st i,iq P e with
    | .map D A h,some z=>
     if D=f/\A=e/\plainKey P f q=true then
      let v:=expand P cj e (c6 h q z)
      K (put {s with st:=df s.st i (.map f e (eE h q v))} d (.aH [v, .lj i q]))
     else False
    |_,_=>False)
   |_,_,_=>False)
 | .entryStore T m lj x=>
  (match P.underlying T,ev s m,ev s lj,cg s.st (ev s x) with
   | some (.map f e), .mp i, .lj j q,some v=>
    (match ay (cF s.st (rowsOf (ev s x))) i with
    | .map D A h=>
     if i=j/\D=f/\A=e/\plainKey P f q=true/\vU P v e=true then
      K (put {s with st:=df (cF s.st (rowsOf (ev s x))) i (.map f e (eE h q v))} d .cB)
     else False
    |_=>False)
   |_,_,_,_=>False)
 | .range T x=>
  (match P.underlying T,ev s x with
   |some (.map _ _), .mp i=>
    (match ay s.st i with
    | .map _ _ h=>K (put {s with st:=s.st++[.iter i h.length []]} d (.ptr s.st.length 0 [] 0))
    |_=>False)
   |some (.map _ _), .eO f e r w=>K (put {s with st:=s.st++[.fit f e r w []]} d (.ptr s.st.length 0 [] 0))
   |some (.map _ _), .lit (.map none)=>K (put {s with st:=s.st++[.iter s.st.length 0 [.map none]]} d (.ptr s.st.length 0 [] 0))
   |some .string, .lit (.string b)=>K (put {s with st:=s.st++[.dq b 0]} d (.ptr s.st.length 0 [] 0))
   |_,_=>False)
 | .next B false=>
  (match ev s B with
   | .ptr j 0 _ 0=>
    (match ay s.st j with
    | .iter i n r=>
     (match ay s.st i with
      | .map f e h=>
       aV (Nat.beq h.length n) (C9 P f e h r (fun k v=>K (put {s with st:=df s.st j (.iter i n (k::r))} d (.aH [.lit (.bool true), .lit k,v]))) (K (put s d (.aH [.lit (.bool false)]))))
      |_=>
       (match r with
       |[.map none]=>K (put s d (.aH [.lit (.bool false)]))
       |_=>False))
    | .fit f e r w C=>C9 P f e (r.zip w) C (fun k v=>K (put {s with st:=df s.st j (.fit f e r w (k::C))} d (.aH [.lit (.bool true), .lit k,v]))) (K (put s d (.aH [.lit (.bool false)])))
    |_=>False)
   |_=>False)
 | .next B true=>
  (match ev s B with
   | .ptr j 0 _ 0=>
    (match ay s.st j with
    | .dq b p=>
     aq (Nat.blt p b.size) (K (put {s with st:=df s.st j (.dq b (p+(Utf8.decode b p).2))} d (.aH [.lit (.bool true), .lit (.int .i64 p), .lit (.int .i32 (Utf8.decode b p).1)]))) (K (put s d (.aH [.lit (.bool false)])))
    |_=>False)
   |_=>False)
 | .binOp .eql T x y _=>nj P s.st T y (ev s x) fun b=>K (put s d (.lit (.bool b)))
 | .binOp .neq T x y _=>nj P s.st T y (ev s x) fun b=>K (put s d (.lit (.bool (!b))))
 | .call {callee:= .builtin .clear,args,argTypes}=>
  (match oi s args.toList,argTypes.toList with
   | [.ak i lo n],[T]=>
    (match P.underlying T,ay s.st i with
    | some (.slice g), .row I xs=>
     (match iq P g with
      |some z=>if I=g/\0<P.cellsOf g then K (put {s with st:=df s.st i (.row g (dc xs lo n z))} d (.aH [])) else False
      |none=>False)
    |_,_=>False)
   |_,_=>False)
 | .entry B=>
  (match ev s B with
   | .ptr j 0 _ 0=>
    (match ay s.st j with
    | .iter i n (k::_)=>
     (match ay s.st i with
      | .map _ e h=>
       (match iq P e with
       |some z=>aV (Nat.beq h.length n) (K (put s d (.aH [.lit k,expand P cj e (c6 h k z)])))
       |none=>False)
      |_=>False)
    | .fit _ e r w (k::_)=>
     (match iq P e with
      |some z=>K (put s d (.aH [.lit k,expand P cj e (c6 (r.zip w) k z)]))
      |none=>False)
    |_=>False)
   |_=>False)
 | .call {callee:= .builtin .append,args,argTypes}=>
  (match oi s args.toList,argTypes.toList with
   |[x,y],[T,H]=>if T=H then pk P s T x y fun st a=>K (put {s with st} d a) else False
   |_,_=>False)
 |_=>False
def yn:Nat->(Nat->Prop)->Prop
 |0,k=>k 0
 |n+1,k=>yn n fun m=>k (m+1)
def Rm:List Nat->(List Nat->Prop)->Prop
 |[],k=>k []
 |n::l,k=>yn n fun n'=>Rm l fun l'=>k (n'::l')
theorem Av: ∀n k,yn n k=k n
 |0,_=>rfl
 |n+1,k=>by simp[yn,Av n]
theorem HF: ∀l k,Rm l k=k l
 |[],_=>rfl
 |n::l,k=>by simp[Rm,Av,HF l]
mutual
def wi:AV->(AV->Prop)->Prop
 | .agg l,k=>Au l fun l'=>k (.agg l')
 | .aH l,k=>Au l fun l'=>k (.aH l')
 | .bm f l,k=>Au l fun l'=>k (.bm f l')
 | .jt T a,k=>wi a fun a'=>k (.jt T a')
 | .lit v,k=>k (.lit v)
 | .cB,k=>k .cB
 | .ah T l,k=>k (.ah T l)
 | .ak i lo n,k=>yn i fun i'=>k (.ak i' lo n)
 | .ptr i x p o,k=>yn i fun i'=>Rm p fun p'=>yn o fun o'=>k (.ptr i' x p' o')
 | .jj T a,k=>k (.jj T a)
 | .mp i,k=>yn i fun i'=>k (.mp i')
 | .cf i,k=>yn i fun i'=>k (.cf i')
 | .lj i x,k=>yn i fun i'=>k (.lj i' x)
 | .eO K V ks vs,k=>k (.eO K V ks vs)
def Au:List AV->(List AV->Prop)->Prop
 |[],k=>k []
 |a::l,k=>wi a fun a'=>Au l fun l'=>k (a'::l')
end
def VL:Obj->(Obj->Prop)->Prop
 | .dead,k=>k .dead
 | .box T a,k=>wi a fun g=>k (.box T g)
 | .row T xs,k=>k (.row T xs)
 | .lk T xs,k=>k (.lk T xs)
 | .map K V e,k=>k (.map K V e)
 | .loop r,k=>Au r.bC fun l=>k (.loop {state:=r.state,pending:=r.pending,fn:=r.fn,bC:=l,params:=r.params,assign:=r.assign,body:=r.body})
 | .iter i n b,k=>k (.iter i n b)
 | .ext t,k=>k (.ext t)
 | .dq s p,k=>k (.dq s p)
 | .rows T E f d,k=>k (.rows T E f d)
 | .fit K V b h c,k=>k (.fit K V b h c)
def wj:List Obj->(List Obj->Prop)->Prop
 |[],k=>k []
 |o::l,k=>VL o fun o'=>wj l fun l'=>k (o'::l')
def CF(s:S)(k:S->Prop):=Au s.bC fun r=>wj s.st fun t=>k {bC:=r,st:=t}
mutual
theorem mZ: ∀(a:AV) (k:AV->Prop),wi a k=k a
 | .agg l,k=>by simp only[wi,pw l]
 | .aH l,k=>by simp only[wi,pw l]
 | .bm f l,k=>by simp only[wi,pw l]
 | .jt T a,k=>by simp only[wi,mZ a]
 | .lit _,_| .cB,_| .ah _ _,_| .ak _ _ _,_| .ptr _ _ _ _,_| .jj _ _,_| .mp _,_| .cf _,_| .lj _ _,_| .eO _ _ _ _,_=>by simp only[wi,Av,HF]
theorem pw: ∀(l:List AV) (k:List AV->Prop),Au l k=k l
 |[],k=>by simp only[Au]
 |a::l,k=>by simp only[Au,mZ a,pw l]
end
theorem Rk o k:VL o k=k o:=by
 cases o<;>simp[VL,mZ,pw]
theorem kO: ∀l k,wj l k=k l
 |[],k=>rfl
 |o::l,k=>by simp[wj,Rk,kO l]
theorem kn s k:CF s k=k s:=by simp[CF,pw,kO]
def Rn:List AV->(List AV->Prop)->Prop
 |[],k=>k []
 |a::l,k=>Rn l fun l'=>k (a::l')
def ym(K:S->Prop)(s:S):=Rn s.bC fun r=>K {bC:=r,st:=s.st}
theorem HG: ∀l k,Rn l k=k l
 |[],_=>rfl
 |a::l,k=>by simp[Rn,HG l]
theorem uZ K:ym K=K:=by
 funext s
 simp[ym,HG]
abbrev Rec:=FuncId->Option Nat->Nat->Code->S->(Exit->S->Prop)->Prop
def bM:Nat->List AV
 |0=>[]
 |n+1=> .cB::bM n
def xI(P:Program)(s:S):List ResultVar->Option (List AV)
 |[]=>some []
 | .tmp t::l=>(match xI P s l with|some m=>some (nth s.bC t::m)|none=>none)
 | .cell a T::l=>
  (match nG P s.st T (nth s.bC a),xI P s l with
   |some (true,x),some m=>some (x::m)
   |_,_=>none)
def nu:List AV->AV
 |[a]=>a
 |l=> .aH l
def m9(E:Env)(d:Rec)(f:FuncId)(a:List AV)(st:List Obj)(K:AV->List Obj->Prop):Prop:=
 match E.P.funcs[f]? with
 | some b=>
  match b.body with
   | some c=>
    d f none st.length c {bC:=a++bM (b.ntmps - a.length),st} fun e s=>
     match e with
     | .normal| .ret=>match xI E.P s b.results.toList with|some l=>K (nu l) s.st|none=>False
     |_=>False
   |none=>False
 |none=>False
def qR(E:Env) f args st(K:AV->List _->Prop):=
 let ids:=reach st (st.length*st.length+st.length+20) (cX args) []
 let ρ:=fun i=>j3 i ids 0
 let β:=kH ids st.length
 aV (pY 0 st (cX args) ids) (CF {bC:=fE ρ args,st:=gg ρ (fY st ids)} fun s=>E.call f s.bC s.st fun r sub=>wi (mM β r) fun r'=>wj (fv st ids β sub) fun st'=>K r' st')
def wR(st:List Obj):List AV->Option (List AV×List Nat)
 |[]=>some ([],[])
 | a::l=>
  match wR st l with
  |none=>none
  |some (m,is)=>
   match a with
   | .ak _ _ _=>(match cg st a with|some b=>some (b::m,rowsOf a++is)|none=>none)
   | .agg _=>(match cg st a with|some b=>some (b::m,rowsOf a++is)|none=>none)
   |_=>some (a::m,is)
def MK(P:Program)(Ts:List TypeId):AV->AV
 | .aH l=> .aH (rm P Ts l)
 |a=>match Ts with|[T]=>HE P T a|_=>a
def kD:List Tmp->List AV->List AV->List AV
 |p::ps,a::c,b=>kD ps c (bH b p a)
 |_,_,b=>b
def fQ (b :Rec)(l:Nat)(a:List AV)(st:List Obj)(K:AV->List Obj->Prop):Prop:=
 match ay st l with
 | .loop r=>
  if r.state= .ready/\r.params.size=a.length then
   b r.fn (some l) st.length r.assign {bC:=kD r.params.toList a r.bC,st} fun e s1=>
    match e with
    | .normal=>
     match ay s1.st l with
      | .loop d=>
       if d.state= .ready then
        b r.fn (some l) st.length r.body {s1 with st:=df s1.st l (.loop {d with state:= .busy})} fun f s2=>
         match ay s2.st l with
         | .loop c=>
          match f with
          | .normal=>K (.lit (.bool true)) (df s2.st l (.loop {c with state:= .ready,pending:=none}))
          | .ret=>K (.lit (.bool false)) (df s2.st l (.loop {c with state:= .done,pending:=some .ret}))
          | .exit id=>K (.lit (.bool false)) (df s2.st l (.loop {c with state:= .done,pending:=some (.exit id)}))
          |_=>False
         |_=>False
       else False
      |_=>False
    |_=>False
  else False
 |_=>False
def NI:List Nat->Bool
 |[]=>true
 |_=>false
def B8(l:Nat)(todo:Option (List AV))(b:List AV)(st:List Obj)(K:AV->List Obj->Prop):Prop:=
 match todo,wR st b with
 |some xs,some (c,d)=>
  aV (NI (cX c)) (∃a,xs= .aH c::a/\K (.lit (.bool true)) (df (cF st d) l (.ext (some a)))/\K (.lit (.bool false)) (df (cF st d) l (.ext none)))
 |_,_=>False
def n8(E:Env) c(g:AV)(a:List AV)(st:List Obj)(K:AV->List Obj->Prop):=
 match g with
 | .bm f b=>
  if E.inl f then m9 E c f (a++b) st K
  else if E.own f then qR E f (a++b) st K
  else
   match wR st (a++b) with
    |some (d,e)=>qR E f (rm E.P (mA E.P f) d) (cF st e) K
    |none=>False
 | .cf l=>
  match ay st l with
   | .ext t=>B8 l t a st K
   |_=>fQ c l a st K
 |_=>False
def eC(s:S)(t:Option Tmp)(b:Bool):=
 match t with
 |none=>s
 |some d=>{s with bC:=bH s.bC d (.lit (.bool b))}
def nD:List Oper->Nat->Option Tmp
 |[],_=>none
 |o::_,0=>o.dst
 |_::l,n+1=>nD l n
def si:Operand->Option Tmp
 | .tmp t=>some t
 |_=>none
def gB(s:S):Op->Option (AV×List AV)
 | .call {callee:= .value g,args, .. }=>some (ev s g,oi s args.toList)
 |_=>none
def RR(E:Env)(f:Rec)(s:S)(d:Option Tmp)(o:Op)(K:S->Prop):Prop:=
 match bJ E s o with
 |some (c,a)=>aV c (K (put s d a))
 | none=>
  match o with
  | .pick c a b=>
   match ev s c with
    | .lit (.bool t)=>aq t (K (put (eC s (si c) true) d (ev s a))) (K (put (eC s (si c) false) d (ev s b)))
    |_=>False
  |o=>
   match gB s o with
   |some (g,e)=>n8 E f g e s.st fun a st=>K (put {s with st} d a)
   |none=>cm E.P s d o K
def oL(E:Env)(rec:Rec)(ops:List Oper):List Oper->S->(S->Prop)->Prop
 |[],s,K=>K s
 | o :: l, s, K=>
  match o.guard with
  |none=>RR E rec s o.dst o.op fun s'=>oL E rec ops l s' K
  | some (j, want)=>
   match nD ops j with
   |none=>False
   | some t=>
    match nth s.bC t with
    | .lit (.bool b)=>
     match want with
     |true=>aq b (RR E rec (eC s (some t) true) o.dst o.op fun s'=>oL E rec ops l s' K)
             (oL E rec ops l (put (eC s (some t) false) o.dst (.aH [])) K)
     |false=>aq b (oL E rec ops l (put (eC s (some t) true) o.dst (.aH [])) K)
              (RR E rec (eC s (some t) false) o.dst o.op fun s'=>oL E rec ops l s' K)
    | .aH []=>oL E rec ops l (put s o.dst (.aH [])) K
    |_=>False
def qC:Option Operand->List Operand
 |none=>[]
 |some x=>[x]
def opsOf:Op->List Operand
 | .move x| .assign x| .load _ x| .nilCheck x| .unOp _ _ x| .fieldAddr _ x _| .field _ x _| .extract x _| .box _ x| .makeInterface _ x| .convert _ _ x=>[x]
 | .pick c a b=>[c,a,b]
 | .binOp _ _ x y _| .indexAddr _ x y| .index _ x y| .lookup _ x y _| .store _ x y| .makeSlice _ x y| .mapEntry _ x y=>[x,y]
 | .slice _ x lo e m=>x::(qC lo++qC e++qC m)
 | .makeFunc _ _ d=>d.toList
 | .build _ ps| .buildSlice _ _ ps=>ps.toList.map (·.2)
 | .mapUpdate _ x y z| .entryStore _ x y z=>[x,y,z]
 | .range _ x| .next x _| .entry x=>[x]
 | .call {callee:= .value g,args, .. }=>g::args.toList
 | .call {args, .. }=>args.toList
 |_=>[]
def Mi:List Operand->Bool
 |[]=>true
 | .const _::l=>Mi l
 |_=>false
def fc(quiet:FuncId->Bool):Op->Nat
 | .move _| .assign _| .binOp .. | .unOp .. | .extract .. | .makeFunc .. | .pick .. | .makeInterface .. | .field .. | .build .. | .index .. =>0
 | .load .. | .nilCheck _| .convert .. | .slice .. | .fieldAddr .. | .indexAddr .. | .lookup .. =>1
 | .call {callee:= .builtin .len, .. }=>1
 | .call {callee:= .builtin .min, .. }=>1
 | .call {callee:= .builtin .max, .. }=>1
 | .call {callee:= .value (.func f),args, .. }=>bif quiet f then bif Mi args.toList then 0 else 1 else 2
 |_=>2
def q9:List Obj->List Obj->Prop
 |[],_=>True
 |_::_,[]=>False
 | .box T a::l,o::b=>o= .box T a/\q9 l b
 | .rows T E d c::l,o::b=>o= .rows T E d c/\q9 l b
 |_::l,_::b=>q9 l b
def frm b(st st':List Obj)(p:Prop):=
 match b with
 |true=>q9 st st'/\p
 |false=>p
def Kf(E:Env)(g:AV)(b:List AV)(st:List Obj):=
 match g with
 | .bm f a=>!E.inl f&& !E.own f&&match wR st (b++a) with
  |some (c,[])=>NI (cX (rm E.P (mA E.P f) c))
  |_=>false
 |_=>false
def vQ(a:FuncId->Bool):Op->Bool
 | .call {callee:= .value (.func f), .. }=>a f
 |_=>false
def uK(E:Env)(f:Rec)(s:S)(d:Option Tmp)(o:Op)(K:S->Prop):Prop:=
 match fc E.quiet o with
 | 2=>
  match gB s o with
   |some (g,e)=>n8 E f g e s.st fun a st=>frm (vQ E.calm o&& !Kf E g e s.st) s.st st (K (put {s with st} d a))
   |none=>cm E.P s d o K
 | _ =>
  match bJ E s o with
   |some (c,a)=>aV c (K (put s d a))
   | none=>
    match o with
    | .pick c a b=>
     match ev s c with
      | .lit (.bool t)=>aq t (K (put (eC s (si c) true) d (ev s a))) (K (put (eC s (si c) false) d (ev s b)))
      |_=>False
    |_=>False
def dF E a ops(o:Oper) s K:=
 match o.guard with
 |none=>uK E a s o.dst o.op K
 | some (j,c)=>
  match nD ops j with
  |none=>False
  | some t=>
   match nth s.bC t with
   | .lit (.bool b)=>
    match c with
    |true=>aq b (uK E a (eC s (some t) true) o.dst o.op K) (K (put (eC s (some t) false) o.dst (.aH [])))
    |false=>aq b (K (put (eC s (some t) true) o.dst (.aH []))) (uK E a (eC s (some t) false) o.dst o.op K)
   | .aH []=>K (put s o.dst (.aH []))
   |_=>False
def iE:Nat->List Bool
 |0=>[]
 |n+1=>false::iE n
def fu:List Bool->Nat->Bool
 |[],_=>true
 |b::_,0=>b
 |_::l,n+1=>fu l n
def gw:List Bool->Nat->List Bool
 |[],_=>[]
 |_::l,0=>true::l
 |b::l,n+1=>b::gw l n
def lJ(listed:List Bool):List Edge->Bool
 |[]=>true
 |e::l=>(!Region.binds .any e||(Nat.blt e.on listed.length&&fu listed e.on))&&lJ listed l
def j9(a:List Bool):List Oper->Nat->List (Nat×Oper)
 |[],_=>[]
 |o::l,i=>bif !fu a i&&lJ a o.after.toList then(i,o)::j9 a l (i+1) else j9 a l (i+1)
def zQ(t:Nat):List Operand->Bool
 |[]=>false
 | .tmp u::l=>Nat.beq t u||zQ t l
 |_::l=>zQ t l
def AO ops(o:Oper) t:=
 zQ t (opsOf o.op)||match o.guard with|none=>false|some (j,_)=>match nD ops j with|none=>false|some u=>Nat.beq t u
def AP(ops:List Oper)(o:Oper):Option Tmp->Bool
 |none=>false
 |some t=>AO ops o t
def v5:Option Tmp->Option Tmp->Bool
 |some t,some u=>!Nat.beq t u
 |_,_=>true
def sv ops a b:=
 !AP ops b a.dst&& !AP ops a b.dst&&v5 a.dst b.dst
def C5:Op->Bool
 | .alloc _| .box _ _| .makeSlice .. | .makeMap _ none=>true
 |_=>false
def x6 quiet ops a b:=
 sv ops a b&&match fc quiet a.op with|0=>true|1=>Nat.blt (fc quiet b.op) 2||C5 b.op|_=>false
def zm(acc:List Nat):List Edge->Bool
 |[]=>false
 |e::l=>(Region.binds .any e&&iH e.on acc)||zm acc l
def fwd:List Oper->Nat->List Nat->List Nat
 |[],_,a=>a
 |o::l,j,a=>bif zm a o.after.toList then fwd l (j+1) (j::a) else fwd l (j+1) a
def kP(quiet:FuncId->Bool)(ops:List Oper)(listed:List Bool)(i:Nat)(o:Oper)(fs:List Nat):List Oper->Nat->Bool
 |[],_=>true
 |b::l,j=>(Nat.beq i j||fu listed j||iH j fs||x6 quiet ops o b)&&kP quiet ops listed i o fs l (j+1)
def oM(quiet:FuncId->Bool)(ops:List Oper)(a:List Bool):List (Nat×Oper)->Option (Nat×Oper)
 |[]=>none
 |(i,o)::l=>bif kP quiet ops a i o (fwd ops 0 [i]) ops 0 then some (i,o) else oM quiet ops a l
def j4:Obj->Bool
 | .box _ _=>true
 |_=>false
def AE:Obj->Bool
 | .rows _ _ _ _=>true
 |_=>false
def o4 s(o:Oper):=
 match o.guard,o.op with
 |none, .load _ x=>match ev s x with| .ptr k _ _ _=>j4 (ay s.st k)| .jj _ _=>true| .lit _=>true|_=>false
 |none, .call {callee:= .builtin .len,args, .. }=>match oi s args.toList with|[.ah _ _]=>true|_=>false
 |none, .nilCheck x=>match ev s x with| .ptr k _ _ _=>j4 (ay s.st k)|_=>false
 |none, .fieldAddr _ x _=>match ev s x with| .ptr k _ _ _=>j4 (ay s.st k)|_=>false
 |none, .indexAddr _ x _=>match ev s x with| .ak k 0 _=>AE (ay s.st k)|_=>false
 |_,_=>false
def yW:Op->Bool
 | .alloc _| .box _ _| .makeMap _ none=>true
 | .buildSlice .. =>true
 | .makeSlice .. =>true
 | .call {callee:= .builtin .append, .. }=>true
 |_=>false
def vE quiet c ops a b:=
 sv ops a b&&(Nat.blt (fc quiet b.op) 2||yW b.op||vQ c b.op)
def yV(quiet calm:FuncId->Bool)(ops:List Oper)(listed:List Bool)(i:Nat)(o:Oper)(fs:List Nat):List Oper->Nat->Bool
 |[],_=>true
 |b::l,j=>(Nat.beq i j||fu listed j||iH j fs||vE quiet calm ops o b)&&yV quiet calm ops listed i o fs l (j+1)
def Dy(quiet b:FuncId->Bool)(ops:List Oper)(a:List Bool)(s:S):List (Nat×Oper)->Option (Nat×Oper)
 |[]=>none
 |(i,o)::l=>bif o4 s o&&yV quiet b ops a i o (fwd ops 0 [i]) ops 0 then some (i,o) else Dy quiet b ops a s l
def o9 P s(o:Oper):=
 match o.guard,o.op with
 | none, .load T x=>
  match ev s x with
   | .ptr k _ a _=>match ay s.st k with| .box b _=>bif xr P b a T&& !dH P T then some (some T) else none|_=>none
   |_=>none
 |none, .nilCheck x=>match ev s x with| .ptr k _ _ _=>bif j4 (ay s.st k) then some none else none|_=>none
 |none, .fieldAddr _ x _=>match ev s x with| .ptr k _ _ _=>bif j4 (ay s.st k) then some none else none|_=>none
 |_,_=>none
def Bh(P:Program):Option TypeId->Op->Bool
 |none, .store _ _ _=>true
 |some T, .store U _ _=>!Nat.beq U T&& !dH P U
 |_,_=>false
def vF P quiet c T ops a b:=
 sv ops a b&&(Nat.blt (fc quiet b.op) 2||yW b.op||vQ c b.op||Bh P T b.op)
def eP(P:Program)(quiet calm:FuncId->Bool)(T:Option TypeId)(ops:List Oper)(listed:List Bool)(i:Nat)(o:Oper)(fs:List Nat):List Oper->Nat->Bool
 |[],_=>true
 |b::l,j=>(Nat.beq i j||fu listed j||iH j fs||vF P quiet calm T ops o b)&&eP P quiet calm T ops listed i o fs l (j+1)
def uh(P:Program)(quiet b:FuncId->Bool)(ops:List Oper)(a:List Bool)(s:S):List (Nat×Oper)->Option (Nat×Oper)
 |[]=>none
 |(i,o)::l=>match o9 P s o with
  |some T=>bif eP P quiet b T ops a i o (fwd ops 0 [i]) ops 0 then some (i,o) else uh P quiet b ops a s l
  |none=>uh P quiet b ops a s l
def Mj(p:Nat->Oper->Prop):List (Nat×Oper)->Prop
 |[]=>True
 |[(i,o)]=>p i o
 |(i,o)::l=>p i o/\Mj p l
def nM(E:Env)(rec:Rec)(ops:List Oper):Nat->List Bool->S->(S->Prop)->Prop
 |0,listed,s,K=>match j9 listed ops 0 with|[]=>K s|_=>False
 | n +1,listed,s,K=>
  match j9 listed ops 0 with
  |[]=>K s
  | r=>
   match oM E.quiet ops listed r with
   |some (i,o)=>dF E rec ops o s fun s'=>nM E rec ops n (gw listed i) s' K
   | none=>
    match Dy E.quiet E.calm ops listed s r with
    |some (i,o)=>dF E rec ops o s fun s'=>nM E rec ops n (gw listed i) s' K
    |none=>
     match bif E.calm 888888 then uh E.P.toProgram E.quiet E.calm ops listed s r else none with
     |some (i,o)=>dF E rec ops o s fun s'=>nM E rec ops n (gw listed i) s' K
     |none=>Mj (fun i o=>dF E rec ops o s fun s'=>nM E rec ops n (gw listed i) s' K) r
def ao5(p:S->(Exit->S->Prop)->Prop)(K:Exit->S->Prop):Exit->S->Prop
 | .normal,s=>p s K
 |e,s=>K e s
def Ag(id:Nat)(K:Exit->S->Prop):Exit->S->Prop
 | .exit i,s=>bif Nat.beq i id then K .normal s else K (.exit i) s
 |e,s=>K e s
def Wn(K:Exit->S->Prop):Exit->S->Prop
 | .goto _,_=>False
 |e,s=>K e s
def l4:Code->Option Nat
 | .region id _ _=>some id
 | .seq a b=>(match l4 a with|some n=>some n|none=>l4 b)
 | .block _ c| .scope c| .loop c=>l4 c
 | .cond _ a b=>(match l4 a with|some n=>some n|none=>l4 b)
 | .rangeFunc _ _ a _=>l4 a
 |_=>none
def qE(l:Nat)(s:S)(K:Exit->S->Prop)(st:List Obj):Prop:=
 match ay st l with
 | .loop r=>
  match r.state,r.pending with
   | .busy,_=>False
   |_,none=>K .normal {s with st:=df st l .dead}
   |_,some .ret=>K .ret {s with st:=df st l .dead}
   |_,some (.exit id)=>K (.exit id) {s with st:=df st l .dead}
   |_,_=>False
 |_=>False
def FA(a:Option _)(st:List Obj):=
 match a with
 |none=>true
 |some l=>match ay st l with| .loop _=>true|_=>false
def kg(E:Env)(rec:Rec)(f:FuncId)(rd:Option Nat)(base:Nat):Code->S->(Exit->S->Prop)->Prop
 | .skip,s,K=>K .normal s
 | .label _,s,K=>K .normal s
 | .region _ ops false,s,K=>oL E rec ops.toList ops.toList s (ym (K .normal))
 | .region _ ops true,s,K=>nM E rec ops.toList ops.toList.length (iE ops.toList.length) s (ym (K .normal))
 | .seq a b,s,K=>kg E rec f rd base a s (ao5 (kg E rec f rd base b) K)
 | .cond c x y,s,K=>
  match ev s c with
  | .lit (.bool t)=>aq t (kg E rec f rd base x (eC s (si c) true) K) (kg E rec f rd base y (eC s (si c) false) K)
  |_=>False
 | .block id c,s,K=>kg E rec f rd base c s (Ag id K)
 | .loop c,s,K=>
  match l4 c with
  |some n=>aV (jI E.P (E.live f n) base s) (CF (canon E.P (E.live f n) base s) fun s'=>E.loop f n c rd base s' K)
  |none=>False
 | .rangeFunc g ps asg body,s,K=>
  match ev s g with
  | .bm f' caps=>
   aV (FA rd s.st) (match E.gen f' with
    |true=>E.lp f (match l4 asg with|some n=>n|none=>0) f' caps
     (s.st++[.loop {state:= .ready,pending:=none,fn:=f,bC:=s.bC,params:=ps,assign:=asg,body:=body}]) (qE s.st.length s K)
    |false=>m9 E rec f' (.cf s.st.length::caps)
     (s.st++[.loop {state:= .ready,pending:=none,fn:=f,bC:=s.bC,params:=ps,assign:=asg,body:=body}])
     fun _ st=>qE s.st.length s K st)
  |_=>False
 | .exit id,s,K=>K (.exit id) s
 | .goto _,_,_=>False
 | .scope c,s,K=>kg E rec f rd base c s (Wn K)
 | .ret,s,K=>K .ret s
 | .refuse _,_,_=>False
def vc(E:Env):Nat->Rec
 |0=>fun _ _ _ _ _ _=>False
 |n+1=>fun f a base c s K=>kg E (vc E n) f a base c s K
end Go.Dn
