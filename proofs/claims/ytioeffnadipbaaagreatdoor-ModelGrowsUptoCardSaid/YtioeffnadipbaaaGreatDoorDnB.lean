import Derived.Test.YtioeffnadipbaaaGreatDoorDnA
namespace Go.Dn
open Go
structure S where
 bC:List AV
 st:List Obj
structure Env where
 P:Pg
 call:FuncId->List AV->List Obj->(AV->List Obj->Prop)->Prop
 gU:FuncId->List AV->Option (Bool×AV)
 loop:FuncId->Nat->Code->Option Nat->Nat->S->(Exit->S->Prop)->Prop
 lk:FuncId->Nat->FuncId->List AV->List Obj->(List Obj->Prop)->Prop
 gen:FuncId->Bool
 inl:FuncId->Bool
 live:FuncId->Nat->List (Nat×Option TypeId)
 own:FuncId->Bool
 quiet:FuncId->Bool
 fresh:FuncId->Bool:=fun _=>false
 calm:FuncId->Bool:=fun _=>false
def ev(s:S):Operand->AV
 | .tmp t=>nth s.bC t
 | .const v=>if bg v then .lit v else .cB
 | .global g=> .lit (.pointer (some ⟨g,0,none⟩))
 | .func f=> .bm f []
def put(s:S)(b:Option Tmp)(a:AV):=
 match b with
 |none=>s
 |some d=>{s with bC:=bH s.bC d a}
def aV b(p:Prop):=
 match b with
 |true=>p
 |false=>False
theorem ai{b p}:aV b p↔b=true/\p:=by
 cases b<;>simp[aV]
theorem cx{b p q}(h:p->q)(a:aV b p):aV b q:=by
 cases b
 ·exact a
 ·exact h a
def aq b(p q:Prop):=
 match b with
 |true=>p
 |false=>q
def px(st:List Obj):AV->Option (Option TypeId×List AV)
 | .lit (.slice none 0 0)=>some (none,[])
 | .ah T l=>some (some T,l)
 | .ak i lo n=>
  match gY (ay st i) with
  |some (T,xs)=>some (some T,(xs.drop lo).take n)
  |none=>match ay st i,lo with| .rows _ E a _,k+1=>some (some E,((bW a k).take n).map .lit)|_,_=>none
 |_=>none
mutual
def cg(st:List Obj):AV->Option AV
 | .lit v=>some (.lit v)
 | .ah T l=>some (.ah T l)
 | .ak i lo n=>
  match gY (ay st i) with
  |some (T,xs)=>some (.ah T ((xs.drop lo).take n))
  |none=>none
 | .agg l=>(lQ st l).map .agg
 | .je T a=>some (.je T a)
 | .ju T a=>(cg st a).map (.ju T ·)
 | .bm f []=>some (.bm f [])
 | .eS K V ks vs=>some (.eS K V ks vs)
 | .mp i=>(match ay st i with| .map K V es=>some (.eS K V (es.map (·.1)) (es.map (·.2)))|_=>none)
 |_=>none
def lQ(st:List Obj):List AV->Option (List AV)
 |[]=>some []
 |a::l=>
  match cg st a,lQ st l with
  |some b,some m=>some (b::m)
  |_,_=>none
end
mutual
def rowsOf:AV->List Nat
 | .ak i _ _=>[i]
 | .mp i=>[i]
 | .agg l=>rZ l
 | .ju _ a=>rowsOf a
 |_=>[]
def rZ:List AV->List Nat
 |[]=>[]
 |a::l=>rowsOf a++rZ l
end
def jM:Obj->Obj
 | .row T xs=> .ll T xs
 | .map _ _ _=> .dead
 |o=>o
def cG(st:List Obj):List Nat->List Obj
 |[]=>st
 |i::l=>cG (df st i (jM (ay st i))) l
mutual
def w6(P:Program):AV->TypeId->Bool
 | .lit v,T=>
  match P.underlying T with
  |some (.int k)=>(match v with| .int k' _=>k==k'|_=>false)
  |some .bool=>(match v with| .bool _=>true|_=>false)
  |some .string=>(match v with| .string _=>true|_=>false)
  |some (.slice _)=>(match v with| .slice none 0 0=>true|_=>false)
  |some (.map _ _)=>(match v with| .map none=>true|_=>false)
  |some (.struct _)=>false
  |some (.array _ _)=>false
  |some _=>true
  |none=>false
 | .ah E _,T=>(match P.underlying T with|some (.slice E')=>E==E'|_=>false)
 | .agg l,T=>(match P.underlying T with|some (.struct fs)=>Nat.blt T P.types.size&&KF P l fs.toList|_=>false)
 | .eS K V _ _,T=>(match P.underlying T with|some (.map K' V')=>K==K'&&V==V'|_=>false)
 | .je E _,T=>(match P.underlying T with|some (.pointer E')=>E==E'|_=>false)
 | .ju U a,T=>(match P.underlying T with|some (.interface _)=>w6 P a U|_=>false)
 |_,_=>false
def KF(P:Program):List AV->List Field->Bool
 |[],[]=>true
 |a::l,f::fs=>w6 P a f.type&&KF P l fs
 |_,_=>false
end
def dI(P:Program)(T:TypeId):Bool:=
 match P.underlying T with
 |some (.struct _)=>true
 |some (.array _ _)=>true
 |_=>false
def mP(P:Program):Nat->TypeId->List Value->Option (AV×List Value)
 |0,_,_=>none
 |d+1,T,cs=>
  match P.underlying T with
  |some (.struct fs)=>(match zfields (mP P d) fs.toList cs with|some (l,r)=>some (.agg l,r)|none=>none)
  |some (.array _ _)=>none
  |some _=>(match cs with|v::r=>if bg v then some (.lit v,r) else none|[]=>none)
  |none=>none
where
 zfields (g:TypeId->List Value->Option (AV×List Value)):List Field->List Value->Option (List AV×List Value)
  |[],cs=>some ([],cs)
  |f::fs,cs=>
   match g f.type cs with
   |some (a,r)=>(match zfields g fs r with|some (l,r')=>some (a::l,r')|none=>none)
   |none=>none
def cj:Nat:=6
def hH(P:Program)(T:TypeId):Option AV:=
 match P.info? T with
 | some i=>
  match i.zero with
  | some (.agg a)=>
   match mP P cj T a.toList with
    |some (.agg l,[])=>if dI P T&&w6 P (.agg l) T then some (.agg l) else none
    |_=>none
  |some v=>if dI P T|| !bg v|| !w6 P (.lit v) T then none else some (.lit v)
  |none=>none
 |none=>none
mutual
def cH:AV->Bool
 | .cB=>false
 | .aH _=>false
 | .agg l=>dH l
 | .lit v=>bg v
 |_=>true
def dH:List AV->Bool
 |[]=>true
 |a::l=>cH a&&dH l
end
mutual
def qq:AV->Bool
 | .cB=>false
 | .aH _=>false
 | .agg l=>va l
 |_=>true
def va:List AV->Bool
 |[]=>true
 |a::l=>qq a&&va l
end
mutual
theorem rJ{C:Ctx}: ∀(a:AV) (s:Src) (o:Nat),qq a=true->M C a s o->cH a=true
 | .lit v,s,o,_,h=>by simp only[M] at h;simp only[cH];exact h.2
 | .agg l,s,o,h,hm=>by
  simp only[qq] at h;simp only[M] at hm;simp only[cH];exact zg l s o h hm
 | .cB,_,_,h,_| .aH _,_,_,h,_=>by simp[qq] at h
 | .ah _ _,_,_,_,_| .ak _ _ _,_,_,_,_| .ptr _ _ _ _,_,_,_,_| .je _ _,_,_,_,_| .mp _,_,_,_,_| .cf _,_,_,_,_| .lj _ _,_,_,_,_| .bm _ _,_,_,_,_| .ju _ _,_,_,_,_| .eS _ _ _ _,_,_,_,_=>by simp[cH]
theorem zg{C:Ctx}: ∀(l:List AV) (s:Src) (o:Nat),va l=true->ML C l s o->dH l=true
 |[],_,_,_,_=>by simp[dH]
 |a::l,s,o,h,hm=>by
  simp only[va,ap7] at h;simp only[ML] at hm;simp only[dH,ap7];exact⟨rJ a s o h.1 hm.1,zg l s _ h.2 hm.2⟩
end
def oE:AV->List Nat->AV
 |a,[]=>a
 |a,j::p=>oE (ag a j) p
def iR:AV->List Nat->AV->AV
 |_,[],x=>x
 | .agg l,j::p,x=> .agg (bH l j (iR (nth l j) p x))
 |a,_::_,_=>a
def lX:List AV->Nat->Nat
 |[],_=>0
 |_,0=>0
 |a::l,j+1=>wid a+lX l j
def iW:AV->List Nat->Nat
 |_,[]=>0
 | .agg l,j::p=>lX l j+iW (nth l j) p
 |_,_::_=>0
def nQ:AV->List Nat->Bool
 |_,[]=>true
 | .agg l,j::p=>decide (j<l.length)&&nQ (nth l j) p
 |_,_::_=>false
def TL:AV->Option (IntKind×Int)
 | .lit (.int k n)=>some (k,n)
 |_=>none
def nH(P:Program)(st:List Obj)(T:TypeId):AV->Option (Bool×AV)
 | .ptr i k b off=>
  match ay st i with
  | .box _ a=>
   let y:=oE a b
   if nQ a b&&iW a b==off&&dI P T==b6 y&&wid y==P.cellsOf T&&(P.underlying T).isSome then some (true,y) else none
  | .rows c _ d none=>match b,off with|[],0=>if dI P T==false&&P.cellsOf T==1&&T==c&&(P.underlying T).isSome then some (true, .ak i (Nat.succ k) (bW d k).length) else none|_,_=>none
  | o=>
   match gY o with
   |some (c,xs)=>
    let a:=expand P cj c (nth xs k)
    let y:=oE a b
    if nQ a b&&iW a b==off&&dI P T==b6 y&&wid y==P.cellsOf T&&(P.underlying T).isSome then some (true,y) else none
   |none=>none
 | .je c a=>
  let y:=expand P cj c a
  if dI P T==b6 y&&wid y==P.cellsOf T&&(P.underlying T).isSome then some (true,y) else none
 |_=>none
def o9(es:List (Value×AV))(k:Value):Bool:=
 match es with
 |[]=>false
 |(k',_)::es=>eg k k'||o9 es k
def c6(es:List (Value×AV))(k:Value)(z:AV):AV:=
 match es with
 |[]=>z
 |(k',a)::es=>bif eg k k' then a else c6 es k z
def eC(es:List (Value×AV))(k:Value)(a:AV):List (Value×AV):=
 match es with
 |[]=>[(k,a)]
 |(k',a')::es=>bif eg k k' then(k,a)::es else(k',a')::eC es k a
def Zu(a:BinOp)(k:IntKind)(x y:Int):Option (Bool×AV):=
 match a with
 | .add=>some (true, .lit (.int k (k.wrap (x+y))))
 | .sub=>some (true, .lit (.int k (k.wrap (x - y))))
 | .mul=>some (true, .lit (.int k (k.wrap (x*y))))
 | .quo=>some (y != 0, .lit (.int k (k.wrap (x.tdiv y))))
 | .rem=>some (y != 0, .lit (.int k (x.tmod y)))
 | .eql=>some (true, .lit (.bool (x==y)))
 | .neq=>some (true, .lit (.bool (x != y)))
 | .lss=>some (true, .lit (.bool (decide (x<y))))
 | .leq=>some (true, .lit (.bool (decide (x<=y))))
 | .gtr=>some (true, .lit (.bool (decide (x>y))))
 | .geq=>some (true, .lit (.bool (decide (x>=y))))
 | .shl=>some (decide (0<=y), .lit (.int k (k.wrap (x*2 ^ (min y.toNat k.bits)))))
 | .shr=>some (decide (0<=y), .lit (.int k (x.fdiv (2 ^ (min y.toNat k.bits)))))
 | .and=>some (true, .lit (.int k (k.wrap (BitVec.ofInt k.bits x&&& BitVec.ofInt k.bits y).toNat)))
 | .or=>some (true, .lit (.int k (k.wrap (BitVec.ofInt _ x|||BitVec.ofInt k.bits y).toNat)))
 |_=>none
def X6(a:BinOp)(k:IntKind)(x y:Int):Option (Bool×AV):=
 match a with
 | .shl=>some (decide (0<=y), .lit (.int k (k.wrap (x*2 ^ min y.toNat k.bits))))
 | .shr=>some (decide (0<=y), .lit (.int k (x.fdiv (2 ^ min y.toNat k.bits))))
 |_=>none
def ae1(a:BinOp)(x y:ByteArray):Option (Bool×AV):=
 match a with
 | .add=>some (Nat.ble (x.size+y.size) 9223372036854775807, .lit (.string (x++y)))
 | .eql=>some (true, .lit (.bool (x.toList==y.toList)))
 | .neq=>some (true, .lit (.bool !x.toList==y.toList))
 | .lss=>some (true, .lit (.bool (Op.bytesLess x.toList y.toList)))
 | .gtr=>some (true, .lit (.bool !(Op.bytesLess x.toList y.toList||x.toList==y.toList)))
 |_=>none
def Vb c(a b:AV):=
 match a,b with
 | .lit (.int k x), .lit (.int d y)=>if k=d then Zu c k x y else X6 c k x y
 | .lit (.string x), .lit (.string y)=>ae1 c x y
 |_,_=>none
def eqV(P:Program)(T:TypeId):AV->AV->Option Bool
 | .lit (.int k x), .lit (.int a y)=>match P.underlying T with|some (.int _)=>if k=a then some (x==y) else none|_=>none
 | .lit (.string x), .lit (.string y)=>match P.underlying T with|some .string=>some (x.toList==y.toList)|_=>none
 | .lit (.bool x), .lit (.bool y)=>match P.underlying T with|some .bool=>some (x==y)|_=>none
 |_,_=>none
def SO(P:Program):List Field->List AV->List AV->Nat->Option Bool
 |[],[],[],_=>some true
 | f::fs,a::l,b::m,j=>
  if f.name != "_" &&Nat.beq f.offset j then
   (match eqV P f.type a b with
    |some x=>(match SO P fs l m (j+1) with|some y=>some (x&&y)|none=>none)
    |none=>none)
  else none
 |_,_,_,_=>none
def Nm(P:Program)(c:BinOp)(T:TypeId)(a b:AV):Option (Bool×AV):=
 match a,b with
 | .agg l, .agg m=>
  match P.underlying T with
   |some (.struct d)=>
    if P.stoodInHeld T||P.eqGuardType P.depth T then none else
    match SO P d.toList l m 0 with
    |some e=>match c with| .eql=>some (true, .lit (.bool e))| .neq=>some (true, .lit (.bool !e))|_=>none
    |none=>none
   |_=>none
 | .lit (.bool x), .lit (.bool y)=>
  match P.underlying T with
   |some .bool=>
    match c with
    | .eql=>some (true, .lit (.bool (x==y)))
    | .neq=>some (true, .lit (.bool !x==y))
    |_=>none
   |_=>none
 |_,_=>none
def Sl:Obj->Bool
 | .row _ _| .ll _ _| .rows _ _ _ _=>true
 |_=>false
def zW(P:Program)(st:List Obj)(T:TypeId)(a:AV):Option AV:=
 match P.underlying T,a with
 |some .string, .lit (.string s)=>some (.lit (.int .i64 s.size))
 |some (.map _ _), .lit (.map none)=>some (.lit (.int .i64 0))
 |some (.map _ _), .mp i=>match ay st i with| .map _ _ b=>some (.lit (.int .i64 b.length))|_=>none
 |some (.slice _), .lit (.slice none 0 0)=>some (.lit (.int .i64 0))
 |some (.slice _), .ak i _ n=>match Sl (ay st i) with|true=>some (.lit (.int .i64 n))|false=>none
 |some (.map _ _), .eS _ _ c _=>some (.lit (.int .i64 c.length))
 |some (.slice _), .ah _ l=>some (.lit (.int .i64 l.length))
 |_,_=>none
def fK(s:S)(o:Option Operand)(d:Nat):Option Int:=
 match o with
 |none=>some d
 |some x=>(TL (ev s x)).map (·.2)
def qh(P:Program)(s:S)(T:TypeId)(x:AV)(lo c:Option Operand):Option (Bool×AV):=
 match x with
 | .lit (.string b)=>
  match P.underlying T,fK s lo 0,fK s c b.size with
  |some .string,some l,some h=>some (decide (0<=l)&&decide (l<=h)&&decide (h<=b.size), .lit (.string (b.extract l.toNat h.toNat)))
  |_,_,_=>none
 | .ah E a=>
  match P.underlying T,fK s lo 0,fK s c a.length with
  |some (.slice d),some l,some h=>
   if E=d/\(P.underlying E).isSome=true then some (decide (0<=l)&&decide (l<=h)&&decide (h<=a.length), .ah E ((a.take h.toNat).drop l.toNat)) else none
  |_,_,_=>none
 | .ak i e n=>
  match P.underlying T,gY (ay s.st i),fK s lo 0,fK s c n with
  |some (.slice d),some (E,_),some l,some h=>
   if E=d/\(P.underlying E).isSome=true then some (decide (0<=l)&&decide (l<=h)&&decide (h<=n), .ak i (e+l.toNat) (h - l).toNat) else none
  |_,_,_,_=>none
 |_=>none
def wm(s:S):Option Operand->Option Int
 |none=>none
 |some x=>(TL (ev s x)).map (·.2)
def mN(P:Program)(s:S)(T:TypeId)(x:AV)(lo b:Option Operand)(m:Operand):Option (Bool×AV):=
 match x,lo with
 | .ak i 0 n,none=>
  match P.underlying T,gY (ay s.st i),wm s b,wm s (some m) with
  |some (.slice c),some (E,_),some h,some a=>
   if E=c/\(P.underlying E).isSome=true then some (decide (0<=h)&&decide (h<=a)&&decide (a<=n), .ak i 0 h.toNat) else none
  |_,_,_,_=>none
 |_,_=>none
def iM(st:List Obj)(i:Nat):Bool:=
 match ay st i with
 | .box _ _| .row _ _| .ll _ _=>true
 |_=>false
def gK(P:Program)(s:S)(T:TypeId)(x i:AV):Option (Bool×AV):=
 match P.underlying T,TL i with
 | some (.slice E),some (_,n)=>
  match x with
  | .ah E' l=>if E=E'/\(P.underlying E).isSome=true then some (decide (0<=n)&&decide (n<l.length), .je E (nth l n.toNat)) else none
  | .ak j lo len=>
   match gY (ay s.st j) with
   |some (E',_)=>if E=E'/\(P.underlying E).isSome=true then some (decide (0<=n)&&decide (n<len), .ptr j (lo+n.toNat) [] 0) else none
   |none=>
    match ay s.st j,lo with
    | .rows E' _ _ _,0=>if E=E'/\(P.underlying E).isSome=true/\P.cellsOf E=1 then some (decide (0<=n)&&decide (n<len), .ptr j n.toNat [] 0) else none
    |_,_=>none
  |_=>none
 |some (.array len E),some (_,n)=>
  match x with
  | .lit (.pointer (some ⟨g,off,none⟩))=>if(P.underlying E).isSome=true/\P.cellsOf E=1 then some (decide (0<=n)&&decide (n<len), .lit (.pointer (some ⟨g,off+n.toNat,none⟩))) else none
  | .ptr j k p o=>if(P.underlying E).isSome=true/\P.cellsOf E=1/\iM s.st j=true then some (decide (0<=n)&&decide (n<len), .ptr j k (p++[n.toNat]) (o+n.toNat)) else none
  |_=>none
 |_,_=>none
def fieldsOf(P:Program)(T:TypeId):List Field:=
 match P.underlying T with
 |some (.struct a)=>a.toList
 |_=>[]
def qD:List Field->Nat->Option Field
 |[],_=>none
 |f::_,0=>some f
 |_::l,n+1=>qD l n
def gG(P:Program)(st:List Obj)(T:TypeId)(x:AV)(f:Nat):Option (Bool×AV):=
 match qD (fieldsOf P T) f with
 |none=>none
 | some c=>
  if P.cellsOf c.type=0 then none else
  match x with
  | .ptr i k b off=>if iM st i then some (true, .ptr i k (b++[f]) (off+c.offset)) else none
  | .je d a=>
   match expand P cj d a with
   | .agg l=>
    if d=T&&decide (f<l.length)&&lX l f==c.offset then some (true, .je c.type (nth l f)) else none
   |_=>none
  |_=>none
def Gm(P:Program)(T:TypeId)(x:AV)(f:Nat):Option (Bool×AV):=
 match qD (fieldsOf P T) f,x with
 |some a, .agg l=>
  if decide (f<l.length)&&lX l f==a.offset&&wid (nth l f)==P.cellsOf a.type&&dI P a.type==b6 (nth l f)&&(P.underlying a.type).isSome&&cH (nth l f) then some (true,nth l f) else none
 |_,_=>none
def nt(P:Program)(s:S)(T:TypeId)(m k:AV)(d:Bool):Option (Bool×AV):=
 match P.underlying T,k with
 | some (.map K V), .lit a=>
  match plainKey P K a,hH P V,m with
  | true,some z, .mp i=>
   match ay s.st i with
   | .map b c g=>
    if K=b/\V=c then
     let v:=expand P cj V (c6 g a z)
     some (true,if d then .aH [v, .lit (.bool (o9 g a))] else v)
    else none
   |_=>none
  | true,some z, .eS b c f e=>
   if K=b/\V=c then
    let v:=expand P cj V (c6 (f.zip e) a z)
    some (true,if d then .aH [v, .lit (.bool (o9 (f.zip e) a))] else v)
   else none
  |true,some z, .lit (.map none)=>some (true,if d then .aH [z, .lit (.bool false)] else z)
  |_,_,_=>none
 |_,_=>none
def tj(b:Nat->Option (Nat×Nat))(l:List AV):List (Nat×AV)->Option AV
 |[]=>some (.agg l)
 | (i,x)::ps=>
  match b i with
  |none=>none
  | some (off,a)=>
   if cH x&&decide (i<l.length)&&lX l i==off&&wid x==a&&wid (nth l i)==a then
    tj b (bH l i x) ps
   else none
def Fe(P:Program)(T:TypeId)(i:Nat):Option (Nat×Nat):=
 match qD (fieldsOf P T) i with
 |none=>none
 |some a=>some (a.offset,P.cellsOf a.type)
def UZ P T l ps:=tj (Fe P T) l ps
def Ss(P:Program)(T:TypeId):Option (Nat×List AV):=
 match P.underlying T with
 | some (.array _ E)=>
  match P.info? T with
   |some i=>match i.zero with
    |some (.agg a)=>if a.toList.all bg&&(P.underlying E).isSome then some (P.cellsOf E,a.toList.map .lit) else none
    |_=>none
   |none=>none
 |_=>none
def Hz(P:Program)(T:TypeId):Option AV:=
 match hH P T with
 |some z=>some z
 |none=>match Ss P T with
  |some (_,l)=>if dH l=true then some (.agg l) else none
  |none=>none
def fm(s:S):List (Nat×Operand)->List (Nat×AV)
 |[]=>[]
 |(i,x)::l=>(i,ev s x)::fm s l
def ot(s:S):List Operand->List AV
 |[]=>[]
 |x::l=>ev s x::ot s l
def re(st:List Obj)(a:AV):Option AV:=
 match a with
 | .ak i (k+1) m=>match ay st i with| .rows _ E b _=>some (.ah E (((bW b k).take m).map .lit))|_=>cg st a
 |_=>cg st a
def fz(st:List Obj):List AV->Option (List AV)
 |[]=>some []
 |a::l=>
  match re st a,fz st l with
  |some b,some m=>some (b::m)
  |_,_=>none
def N2(P:Pg)(T:TypeId):AV->Option Value
 | .lit (.pointer (some ⟨g,0,none⟩))=>
  match P.kept g with
   |some (.cells a _ _)=>match a.toList with|[v]=>if bg v&& !dI P T&&(P.underlying T).isSome then some v else none|_=>none
   |_=>none
 |_=>none
def u8s:List Value->Bool
 |[]=>true
 | .int .u8 _::l=>u8s l
 |_=>false
def UD(P:Pg)(g k:Nat):Int:=
 match P.kept g with
 |some (.cells a _ _)=>match a[k]? with|some (.int _ n)=>n|_=>0
 |_=>0
def WI(P:Pg)(T:TypeId):AV->Option (Bool×AV)
 | .lit (.pointer (some ⟨g,off,none⟩))=>
  match P.kept g with
   |some (.cells a _ _)=>match a.toList with|_::_::_=>(match P.underlying T with|some (.int .u8)=>if u8s a.toList then some (decide (off<a.size), .lit (.int .u8 (UD P g off))) else none|_=>none)|_=>none
   |_=>none
 |_=>none
def aD:Value->Bool
 | .nilIface=>true
 | .iface _ _=>true
 |_=>false
def bO:Value->Bool
 | .nilIface=>true
 |_=>false
def M7:AV->Option (Bool×Bool)
 | .lit u=>some (aD u,bO u)
 | .ju _ _=>some (true,false)
 |_=>none
def Ut(P:Program)(d:BinOp)(T:TypeId)(y:Operand)(a:AV):Option (Bool×AV):=
 match y with
 | .const .nilIface=>
  match P.underlying T,M7 a with
   |some (.interface _),some (c,b)=>
    match d with
    | .eql=>some (c, .lit (.bool b))
    | .neq=>some (c, .lit (.bool !b))
    |_=>none
   |_,_=>none
 |_=>none
def DE(P:Program)(T:TypeId)(a:AV):Option (Bool×AV):=
 match P.underlying T with
 |none=>none
 |some (.interface _)=>none
 | some _=>
  match a with
   | .lit v=>some (true, .lit (.iface T v))
   | .cB=>none
   |a=>some (true, .ju T a)
def SU(P:Program)(S T:TypeId)(a:AV):Option (Bool×AV):=
 match P.underlying S,P.underlying T,a with
 |some _,some (.int k), .lit (.int _ n)=>some (true, .lit (.int k (k.wrap n)))
 |_,_,_=>none
def bytesOf(l:List AV):ByteArray:=⟨(l.map fun a=>UInt8.ofNat (toInt a).toNat).toArray⟩
def CF(P:Program)(st:List Obj)(S T:TypeId)(a:AV):Option (Bool×AV):=
 match P.underlying S,P.underlying T with
 | some (.slice E),some .string=>
  match P.underlying E with
   | some (.int .u8)=>
    if P.cellsOf E=1 then
     match a with
     | .lit (.slice none 0 0)=>some (true, .lit (.string ⟨#[]⟩))
     | .ah b l=>if E=b then some (true, .lit (.string (bytesOf l))) else none
     | .ak i lo n=>match gY (ay st i) with
      |some (b,l)=>if E=b then some (true, .lit (.string (bytesOf ((l.drop lo).take n)))) else none
      |none=>none
     |_=>none
    else none
   |_=>none
 |_,_=>SU P S T a
def Is(P:Program)(T:TypeId)(a:AV):AV:=
 match P.underlying T with
 |some (.struct _)=>match a with| .agg _=>(match w6 P a T with|true=>expand P cj T a|false=>a)|a=>a
 |some (.slice _)=>match a with| .lit (.slice none 0 0)=>(match w6 P a T with|true=>expand P cj T a|false=>a)|a=>a
 |_=>a
def rI(P:Program):List TypeId->List AV->List AV
 |T::Ts,a::l=>Is P T a::rI P Ts l
 |_,l=>l
def mr(P:Program)(f:FuncId):List TypeId:=
 match P.funcs[f]? with
 |some a=>a.params.toList
 |none=>[]
def EO(s:ByteArray)(k:Nat):Nat:=
 match s[k]? with
 |some b=>b.toNat
 |none=>0
def Re:List AV->Bool
 |[]=>true
 | .lit v::l=>bg v&&Re l
 |_::_=>false
def Ey(P:Program)(T:TypeId)(x i:AV):Option (Bool×AV):=
 match P.underlying T,x,TL i with
 |some (.array a E), .agg l,some (_,n)=>if dI P E=false/\(P.underlying E).isSome=true/\P.cellsOf E=1/\Re l=true/\l.length=a then some (decide (0<=n)&&decide (n<a),nth l n.toNat) else none
 |some .string, .lit (.string s),some (_,n)=>some (decide (0<=n)&&decide (n<s.size), .lit (.int .u8 (EO s n.toNat)))
 |_,_,_=>none
def bJ(E:Env)(s:S)(o:Op):=
 match o with
 | .move x=>some (true,ev s x)
 | .assign x=>some (true,ev s x)
 | .load T x=>(match WI E.P T (ev s x) with|some r=>some r|none=>(match N2 E.P T (ev s x) with|some v=>some (true, .lit v)|none=>nH E.P s.st T (ev s x)))
 | .makeInterface T x=>DE E.P T (ev s x)
 | .convert S T x=>CF E.P s.st S T (ev s x)
 | .nilCheck x=>
  (match ev s x with
   | .ptr i k p off=>if iM s.st i then some (true, .ptr i k p off) else none
   | .je T a=>some (true, .je T a)
   | .bm f d=>some (true, .bm f d)
   |_=>none)
 | .binOp g T x y _=>(match Ut E.P g T y (ev s x) with|some r=>some r|none=>(match Nm E.P g T (ev s x) (ev s y) with|some r=>some r|none=>Vb g (ev s x) (ev s y)))
 | .unOp g _ x=>
  (match g,ev s x with
   | .not, .lit (.bool b)=>some (true, .lit (.bool (!b)))
   | .neg, .lit (.int k n)=>some (true, .lit (.int k (k.wrap (0 - n))))
   |_,_=>none)
 | .slice T x lo h none=>qh E.P s T (ev s x) lo h
 | .slice T x lo h (some m)=>mN E.P s T (ev s x) lo h m
 | .fieldAddr T x f=>gG E.P s.st T (ev s x) f
 | .field T x f=>Gm E.P T (ev s x) f
 | .indexAddr T x i=>gK E.P s T (ev s x) (ev s i)
 | .index T x i=>Ey E.P T (ev s x) (ev s i)
 | .lookup T m k t=>nt E.P s T (ev s m) (ev s k) t
 | .extract x i=>(match ev s x with| .aH l=>if i<l.length then some (true,nth l i) else none|_=>none)
 | .makeFunc (.func f) e d=>if e.size=0 then some (true, .bm f (ot s d.toList)) else none
 | .build T c=>
  (match Ss E.P T with
   |some (q,l)=>(match tj (fun i=>some (i*q,q)) l (fm s c.toList) with|some a=>some (true,a)|none=>none)
   |none=>
    (match hH E.P T with
    |some (.agg l)=>(match UZ E.P T l (fm s c.toList) with|some a=>some (true,a)|none=>none)
    |_=>none))
 | .call {callee:= .builtin .len,args,argTypes}=>
  (match ot s args.toList,argTypes.toList with
   |[a],T::_=>(match zW E.P s.st T a with|some x=>some (true,x)|none=>none)
   |_,_=>none)
 | .call {callee:= .builtin .min,args, .. }=>
  (match ot s args.toList with
   |[.lit (.int k x), .lit (.int j y)]=>if k=j then some (true, .lit (.int k (if y<x then y else x))) else none
   |_=>none)
 | .call {callee:= .builtin .max,args, .. }=>
  (match ot s args.toList with
   |[.lit (.int k x), .lit (.int j y)]=>if k=j then some (true, .lit (.int k (if y>x then y else x))) else none
   |_=>none)
 | .call {callee:= .value (.func f),args, .. }=>
  (match fz s.st (ot s args.toList) with
   |some u=>E.gU f (rI E.P (mr E.P f) u)
   |none=>none)
 |_=>none
end Go.Dn
