import Derived.Test.YthaiinlfnommnaaGreatDoorDnA
namespace Go.Dn
open Go
structure S where
 bn:List AV
 st:List Obj
structure Env where
 P:Pg
 call:FuncId->List AV->List Obj->(AV->List Obj->Prop)->Prop
 gR:FuncId->List AV->Option (Bool×AV)
 loop:FuncId->Nat->Code->Option Nat->Nat->S->(Exit->S->Prop)->Prop
 ke:FuncId->Nat->FuncId->List AV->List Obj->(List Obj->Prop)->Prop
 gen:FuncId->Bool
 inl:FuncId->Bool
 live:FuncId->Nat->List (Nat×Option TypeId)
 own:FuncId->Bool
 quiet:FuncId->Bool
 fresh:FuncId->Bool:=fun _=>false
 calm:FuncId->Bool:=fun _=>false
def ev(s:S):Operand->AV
 | .tmp t=>nth s.bn t
 | .const v=>if bg v then .lit v else .cG
 | .global g=> .lit (.pointer (some ⟨g,0,none⟩))
 | .func f=> .bL f []
def put(s:S)(dst:Option Tmp)(a:AV):S:=
 match dst with
 |none=>s
 |some d=>{s with bn:=cg s.bn d a}
def aX(b:Bool)(p:Prop):Prop:=
 match b with
 |true=>p
 |false=>False
theorem aq{b:Bool}{p:Prop}:aX b p↔b=true/\p:=by
 cases b<;>simp[aX]
theorem dj{b:Bool}{p q:Prop}(h:p->q)(hc:aX b p):aX b q:=by
 cases b
 ·exact hc
 ·exact h hc
def aD(b:Bool)(p q:Prop):Prop:=
 match b with
 |true=>p
 |false=>q
def o9(st:List Obj):AV->Option (Option TypeId×List AV)
 | .lit (.slice none 0 0)=>some (none,[])
 | .ad T l=>some (some T,l)
 | .an i lo n=>
  match hJ (aw st i) with
  |some (T,xs)=>some (some T,(xs.drop lo).take n)
  |none=>(match aw st i,lo with| .rows _ E ls _,k+1=>some (some E,((bW ls k).take n).map .lit)|_,_=>none)
 |_=>none
mutual
def ck(st:List Obj):AV->Option AV
 | .lit v=>some (.lit v)
 | .ad T l=>some (.ad T l)
 | .an i lo n=>
  match hJ (aw st i) with
  |some (T,xs)=>some (.ad T ((xs.drop lo).take n))
  |none=>none
 | .agg l=>(lz st l).map .agg
 | .jS T a=>some (.jS T a)
 | .jj T a=>(ck st a).map (.jj T ·)
 | .bL f []=>some (.bL f [])
 | .jE K V ks vs=>some (.jE K V ks vs)
 | .mp i=>(match aw st i with| .map K V es=>some (.jE K V (es.map (·.1)) (es.map (·.2)))|_=>none)
 |_=>none
def lz(st:List Obj):List AV->Option (List AV)
 |[]=>some []
 |a::l=>
  match ck st a,lz st l with
  |some b,some m=>some (b::m)
  |_,_=>none
end
mutual
def rowsOf:AV->List Nat
 | .an i _ _=>[i]
 | .mp i=>[i]
 | .agg l=>qH l
 | .jj _ a=>rowsOf a
 |_=>[]
def qH:List AV->List Nat
 |[]=>[]
 |a::l=>rowsOf a++qH l
end
def jB:Obj->Obj
 | .row T xs=> .mq T xs
 | .map _ _ _=> .dead
 |o=>o
def cP(st:List Obj):List Nat->List Obj
 |[]=>st
 |i::l=>cP (db st i (jB (aw st i))) l
mutual
def A9(P:Program):AV->TypeId->Bool
 | .lit v,T=>
  match P.underlying T with
  |some (.int k)=>(match v with| .int k' _=>k==k'|_=>false)
  |some .bool=>(match v with| .bool _=>true|_=>false)
  |some .string=>(match v with| .string _=>true|_=>false)
  |some (.slice _)=>(match v with| .slice none 0 0=>true|_=>false)
  |some (.map _ _)=>(match v with| .map none=>true|_=>false)
  |some (.struct _)=>false
  |some (.array _ _)=>false
  |some _=>true
  |none=>false
 | .ad E _,T=>(match P.underlying T with|some (.slice E')=>E==E'|_=>false)
 | .agg l,T=>(match P.underlying T with|some (.struct fs)=>Nat.blt T P.types.size&&Jc P l fs.toList|_=>false)
 | .jE K V _ _,T=>(match P.underlying T with|some (.map K' V')=>K==K'&&V==V'|_=>false)
 |_,_=>false
def Jc(P:Program):List AV->List Field->Bool
 |[],[]=>true
 |a::l,f::fs=>A9 P a f.type&&Jc P l fs
 |_,_=>false
end
def fx(P:Program)(T:TypeId):Bool:=
 match P.underlying T with
 |some (.struct _)=>true
 |some (.array _ _)=>true
 |_=>false
def mu(P:Program):Nat->TypeId->List Value->Option (AV×List Value)
 |0,_,_=>none
 |d+1,T,cs=>
  match P.underlying T with
  |some (.struct fs)=>(match zfields (mu P d) fs.toList cs with|some (l,r)=>some (.agg l,r)|none=>none)
  |some (.array _ _)=>none
  |some _=>(match cs with|v::r=>if bg v then some (.lit v,r) else none|[]=>none)
  |none=>none
where
 zfields (g:TypeId->List Value->Option (AV×List Value)):List Field->List Value->Option (List AV×List Value)
  |[],cs=>some ([],cs)
  |f::fs,cs=>
   match g f.type cs with
   |some (a,r)=>(match zfields g fs r with|some (l,r')=>some (a::l,r')|none=>none)
   |none=>none
def cj:Nat:=6
def gS(P:Program)(T:TypeId):Option AV:=
 match P.info? T with
 | some i=>
  match i.zero with
  | some (.agg cs)=>
   (match mu P cj T cs.toList with
    |some (.agg l,[])=>if fx P T&&A9 P (.agg l) T then some (.agg l) else none
    |_=>none)
  |some v=>if fx P T|| !bg v|| !A9 P (.lit v) T then none else some (.lit v)
  |none=>none
 |none=>none
mutual
def cO:AV->Bool
 | .cG=>false
 | .bh _=>false
 | .agg l=>dI l
 | .lit v=>bg v
 |_=>true
def dI:List AV->Bool
 |[]=>true
 |a::l=>cO a&&dI l
end
mutual
def pZ:AV->Bool
 | .cG=>false
 | .bh _=>false
 | .agg l=>tL l
 |_=>true
def tL:List AV->Bool
 |[]=>true
 |a::l=>pZ a&&tL l
end
mutual
theorem rq{C:Ctx}: ∀(a:AV) (s:Src) (o:Nat),pZ a=true->M C a s o->cO a=true
 | .lit v,s,o,_,h=>by simp only[M] at h;simp only[cO];exact h.2
 | .agg l,s,o,h,hm=>by
  simp only[pZ] at h
  simp only[M] at hm
  simp only[cO]
  exact yU l s o h hm
 | .cG,_,_,h,_| .bh _,_,_,h,_=>by simp[pZ] at h
 | .ad _ _,_,_,_,_| .an _ _ _,_,_,_,_| .ptr _ _ _ _,_,_,_,_| .jS _ _,_,_,_,_| .mp _,_,_,_,_| .cD _,_,_,_,_| .ku _ _,_,_,_,_| .bL _ _,_,_,_,_| .jj _ _,_,_,_,_| .jE _ _ _ _,_,_,_,_=>by simp[cO]
theorem yU{C:Ctx}: ∀(l:List AV) (s:Src) (o:Nat),tL l=true->ML C l s o->dI l=true
 |[],_,_,_,_=>by simp[dI]
 |a::l,s,o,h,hm=>by
  simp only[tL,aa2] at h
  simp only[ML] at hm
  simp only[dI,aa2]
  exact⟨rq a s o h.1 hm.1,yU l s _ h.2 hm.2⟩
end
def mC:AV->List Nat->AV
 |a,[]=>a
 |a,j::p=>mC (ae a j) p
def fS:AV->List Nat->AV->AV
 |_,[],x=>x
 | .agg l,j::p,x=> .agg (cg l j (fS (nth l j) p x))
 |a,_::_,_=>a
def ib:List AV->Nat->Nat
 |[],_=>0
 |_,0=>0
 |a::l,j+1=>wid a+ib l j
def gV:AV->List Nat->Nat
 |_,[]=>0
 | .agg l,j::p=>ib l j+gV (nth l j) p
 |_,_::_=>0
def nk:AV->List Nat->Bool
 |_,[]=>true
 | .agg l,j::p=>decide (j<l.length)&&nk (nth l j) p
 |_,_::_=>false
def PM:AV->Option (IntKind×Int)
 | .lit (.int k n)=>some (k,n)
 |_=>none
def nj(P:Program)(st:List Obj)(T:TypeId):AV->Option (Bool×AV)
 | .ptr i k path off=>
  match aw st i with
  | .box _ a=>
   let y:=mC a path
   if nk a path&&gV a path==off&&fx P T==bV y&&wid y==P.cellsOf T&&(P.underlying T).isSome then some (true,y) else none
  | .rows T0 _ ls none=>(match path,off with|[],0=>if fx P T==false&&P.cellsOf T==1&&T==T0&&(P.underlying T).isSome then some (true, .an i (Nat.succ k) (bW ls k).length) else none|_,_=>none)
  | o=>
   match hJ o with
   |some (T0,xs)=>
    let a:=expand P cj T0 (nth xs k)
    let y:=mC a path
    if nk a path&&gV a path==off&&fx P T==bV y&&wid y==P.cellsOf T&&(P.underlying T).isSome then some (true,y) else none
   |none=>none
 | .jS T0 a=>
  let y:=expand P cj T0 a
  if fx P T==bV y&&wid y==P.cellsOf T&&(P.underlying T).isSome then some (true,y) else none
 |_=>none
def rB(es:List (Value×AV))(k:Value):Bool:=
 match es with
 |[]=>false
 |(k',_)::es=>di k k'||rB es k
def dp(es:List (Value×AV))(k:Value)(z:AV):AV:=
 match es with
 |[]=>z
 |(k',a)::es=>bif di k k' then a else dp es k z
def eX(es:List (Value×AV))(k:Value)(a:AV):List (Value×AV):=
 match es with
 |[]=>[(k,a)]
 |(k',a')::es=>bif di k k' then(k,a)::es else(k',a')::eX es k a
def Qp(op:BinOp)(a b:AV):Option (Bool×AV):=
 match a,b with
 | .lit (.int k x), .lit (.int k' y)=>
  if k=k' then
   match op with
   | .add=>some (true, .lit (.int k (k.wrap (x+y))))
   | .sub=>some (true, .lit (.int k (k.wrap (x - y))))
   | .mul=>some (true, .lit (.int k (k.wrap (x*y))))
   | .quo=>some (y != 0, .lit (.int k (k.wrap (x.tdiv y))))
   | .rem=>some (y != 0, .lit (.int k (x.tmod y)))
   | .eql=>some (true, .lit (.bool (x==y)))
   | .neq=>some (true, .lit (.bool (x != y)))
   | .lss=>some (true, .lit (.bool (decide (x<y))))
   | .leq=>some (true, .lit (.bool (decide (x<=y))))
   | .gtr=>some (true, .lit (.bool (decide (x>y))))
   | .geq=>some (true, .lit (.bool (decide (x>=y))))
   | .shl=>some (decide (0<=y), .lit (.int k (k.wrap (x*2 ^ (min y.toNat k.bits)))))
   | .shr=>some (decide (0<=y), .lit (.int k (x.fdiv (2 ^ (min y.toNat k.bits)))))
   | .and=>some (true, .lit (.int k (k.wrap (BitVec.ofInt k.bits x&&& BitVec.ofInt k.bits y).toNat)))
   | .or=>some (true, .lit (.int k (k.wrap (BitVec.ofInt k.bits x|||BitVec.ofInt k.bits y).toNat)))
   |_=>none
  else none
 | .lit (.string x), .lit (.string y)=>
  match op with
  | .add=>some (decide (((x.size+y.size:Nat):Int)<=IntKind.i64.max), .lit (.string (x++y)))
  | .eql=>some (true, .lit (.bool (x.toList==y.toList)))
  | .neq=>some (true, .lit (.bool !(x.toList==y.toList)))
  | .lss=>some (true, .lit (.bool (Op.bytesLess x.toList y.toList)))
  |_=>none
 |_,_=>none
def Lw(P:Program)(op:BinOp)(T:TypeId)(a b:AV):Option (Bool×AV):=
 match a,b with
 | .lit (.bool x), .lit (.bool y)=>
  (match P.underlying T with
   |some .bool=>
    (match op with
    | .eql=>some (true, .lit (.bool (x==y)))
    | .neq=>some (true, .lit (.bool (!(x==y))))
    |_=>none)
   |_=>none)
 |_,_=>none
def OJ:Obj->Bool
 | .row _ _| .mq _ _| .rows _ _ _ _=>true
 |_=>false
def Ah(P:Program)(st:List Obj)(T:TypeId)(a:AV):Option AV:=
 match P.underlying T,a with
 |some .string, .lit (.string s)=>some (.lit (.int .i64 s.size))
 |some (.map _ _), .lit (.map none)=>some (.lit (.int .i64 0))
 |some (.map _ _), .mp i=>(match aw st i with| .map _ _ es=>some (.lit (.int .i64 es.length))|_=>none)
 |some (.slice _), .lit (.slice none 0 0)=>some (.lit (.int .i64 0))
 |some (.slice _), .an i _ n=>(match OJ (aw st i) with|true=>some (.lit (.int .i64 n))|false=>none)
 |some (.map _ _), .jE _ _ ks _=>some (.lit (.int .i64 ks.length))
 |some (.slice _), .ad _ l=>some (.lit (.int .i64 l.length))
 |_,_=>none
def fR(s:S)(o:Option Operand)(d:Nat):Option Int:=
 match o with
 |none=>some d
 |some x=>(PM (ev s x)).map (·.2)
def qd(P:Program)(s:S)(T:TypeId)(x:AV)(lo hi:Option Operand):Option (Bool×AV):=
 match x with
 | .lit (.string b)=>
  match P.underlying T,fR s lo 0,fR s hi b.size with
  |some .string,some l,some h=>some (decide (0<=l)&&decide (l<=h)&&decide (h<=b.size), .lit (.string (b.extract l.toNat h.toNat)))
  |_,_,_=>none
 | .ad E l0=>
  match P.underlying T,fR s lo 0,fR s hi l0.length with
  |some (.slice E'),some l,some h=>
   if E=E'/\(P.underlying E).isSome=true then some (decide (0<=l)&&decide (l<=h)&&decide (h<=l0.length), .ad E ((l0.take h.toNat).drop l.toNat)) else none
  |_,_,_=>none
 | .an i lo0 n=>
  match P.underlying T,hJ (aw s.st i),fR s lo 0,fR s hi n with
  |some (.slice E'),some (E,_),some l,some h=>
   if E=E'/\(P.underlying E).isSome=true then some (decide (0<=l)&&decide (l<=h)&&decide (h<=n), .an i (lo0+l.toNat) (h - l).toNat) else none
  |_,_,_,_=>none
 |_=>none
def vd(s:S):Option Operand->Option Int
 |none=>none
 |some x=>(PM (ev s x)).map (·.2)
def mG(P:Program)(s:S)(T:TypeId)(x:AV)(lo hi:Option Operand)(m:Operand):Option (Bool×AV):=
 match x,lo with
 | .an i 0 n,none=>
  match P.underlying T,hJ (aw s.st i),vd s hi,vd s (some m) with
  |some (.slice E'),some (E,_),some h,some mx=>
   if E=E'/\(P.underlying E).isSome=true then some (decide (0<=h)&&decide (h<=mx)&&decide (mx<=n), .an i 0 h.toNat) else none
  |_,_,_,_=>none
 |_,_=>none
def gI(P:Program)(s:S)(T:TypeId)(x i:AV):Option (Bool×AV):=
 match P.underlying T,PM i with
 | some (.slice E),some (_,n)=>
  match x with
  | .ad E' l=>if E=E'/\(P.underlying E).isSome=true then some (decide (0<=n)&&decide (n<l.length), .jS E (nth l n.toNat)) else none
  | .an j lo len=>
   match hJ (aw s.st j) with
   |some (E',_)=>if E=E'/\(P.underlying E).isSome=true then some (decide (0<=n)&&decide (n<len), .ptr j (lo+n.toNat) [] 0) else none
   |none=>
    match aw s.st j,lo with
    | .rows E' _ _ _,0=>if E=E'/\(P.underlying E).isSome=true/\P.cellsOf E=1 then some (decide (0<=n)&&decide (n<len), .ptr j n.toNat [] 0) else none
    |_,_=>none
  |_=>none
 |_,_=>none
def fieldsOf(P:Program)(T:TypeId):List Field:=
 match P.underlying T with
 |some (.struct fs)=>fs.toList
 |_=>[]
def mO:List Field->Nat->Option Field
 |[],_=>none
 |f::_,0=>some f
 |_::l,n+1=>mO l n
def kR(st:List Obj)(i:Nat):Bool:=
 match aw st i with
 | .box _ _| .row _ _| .mq _ _=>true
 |_=>false
def gw(P:Program)(st:List Obj)(T:TypeId)(x:AV)(f:Nat):Option (Bool×AV):=
 match mO (fieldsOf P T) f with
 |none=>none
 | some fd=>
  if P.cellsOf fd.type=0 then none else
  match x with
  | .ptr i k path off=>if kR st i then some (true, .ptr i k (path++[f]) (off+fd.offset)) else none
  | .jS T0 a=>
   match expand P cj T0 a with
   | .agg l=>
    if T0=T&&decide (f<l.length)&&ib l f==fd.offset then some (true, .jS fd.type (nth l f)) else none
   |_=>none
  |_=>none
def Fu(P:Program)(T:TypeId)(x:AV)(f:Nat):Option (Bool×AV):=
 match mO (fieldsOf P T) f,x with
 |some fd, .agg l=>
  if decide (f<l.length)&&ib l f==fd.offset&&wid (nth l f)==P.cellsOf fd.type&&fx P fd.type==bV (nth l f)&&(P.underlying fd.type).isSome&&cO (nth l f) then some (true,nth l f) else none
 |_,_=>none
def mV(P:Program)(s:S)(T:TypeId)(m k:AV)(ok:Bool):Option (Bool×AV):=
 match P.underlying T,k with
 | some (.map K V), .lit kv=>
  match plainKey P K kv,gS P V,m with
  | true,some z, .mp i=>
   match aw s.st i with
   | .map K' V' es=>
    if K=K'/\V=V' then
     let v:=expand P cj V (dp es kv z)
     some (true,if ok then .bh [v, .lit (.bool (rB es kv))] else v)
    else none
   |_=>none
  | true,some z, .jE K' V' ks vs=>
   if K=K'/\V=V' then
    let v:=expand P cj V (dp (ks.zip vs) kv z)
    some (true,if ok then .bh [v, .lit (.bool (rB (ks.zip vs) kv))] else v)
   else none
  |true,some z, .lit (.map none)=>some (true,if ok then .bh [z, .lit (.bool false)] else z)
  |_,_,_=>none
 |_,_=>none
def wR(P:Program)(T:TypeId)(l:List AV):List (Nat×AV)->Option AV
 |[]=>some (.agg l)
 | (i,x)::ps=>
  match mO (fieldsOf P T) i with
  |none=>none
  | some fd=>
   if cO x&&decide (i<l.length)&&ib l i==fd.offset&&wid x==P.cellsOf fd.type&&wid (nth l i)==P.cellsOf fd.type then
    wR P T (cg l i x) ps
   else none
def fv(s:S):List (Nat×Operand)->List (Nat×AV)
 |[]=>[]
 |(i,x)::l=>(i,ev s x)::fv s l
def np(s:S):List Operand->List AV
 |[]=>[]
 |x::l=>ev s x::np s l
def ry(st:List Obj)(a:AV):Option AV:=
 match a with
 | .an i (k+1) m=>(match aw st i with| .rows _ E ls _=>some (.ad E (((bW ls k).take m).map .lit))|_=>ck st a)
 |_=>ck st a
def fw(st:List Obj):List AV->Option (List AV)
 |[]=>some []
 |a::l=>
  match ry st a,fw st l with
  |some b,some m=>some (b::m)
  |_,_=>none
def JX(P:Pg)(T:TypeId):AV->Option Value
 | .lit (.pointer (some ⟨g,0,none⟩))=>
  (match P.kept g with
   |some (.cells cs _ _)=>(match cs.toList with|[v]=>if bg v&& !(fx P T)&&(P.underlying T).isSome then some v else none|_=>none)
   |_=>none)
 |_=>none
def aC:Value->Bool
 | .nilIface=>true
 | .iface _ _=>true
 |_=>false
def bM:Value->Bool
 | .nilIface=>true
 |_=>false
def JU:AV->Option (Bool×Bool)
 | .lit u=>some (aC u,bM u)
 | .jj _ _=>some (true,false)
 |_=>none
def RI(P:Program)(op:BinOp)(T:TypeId)(y:Operand)(a:AV):Option (Bool×AV):=
 match y with
 | .const .nilIface=>
  (match P.underlying T,JU a with
   |some (.interface _),some (c,b)=>
    (match op with
    | .eql=>some (c, .lit (.bool b))
    | .neq=>some (c, .lit (.bool (!b)))
    |_=>none)
   |_,_=>none)
 |_=>none
def CZ(P:Program)(T:TypeId)(a:AV):Option (Bool×AV):=
 match P.underlying T with
 |none=>none
 |some (.interface _)=>none
 | some _=>
  (match a with
   | .lit v=>some (true, .lit (.iface T v))
   | .cG=>none
   |a=>some (true, .jj T a))
def Qf(P:Program)(S T:TypeId)(a:AV):Option (Bool×AV):=
 match P.underlying S,P.underlying T,a with
 |some _,some (.int k), .lit (.int _ n)=>some (true, .lit (.int k (k.wrap n)))
 |_,_,_=>none
def GM(P:Program)(T:TypeId)(a:AV):AV:=
 match P.underlying T with
 |some (.struct _)=>(match a with| .agg _=>(match A9 P a T with|true=>expand P cj T a|false=>a)|a=>a)
 |some (.slice _)=>(match a with| .lit (.slice none 0 0)=>(match A9 P a T with|true=>expand P cj T a|false=>a)|a=>a)
 |_=>a
def pE(P:Program):List TypeId->List AV->List AV
 |T::Ts,a::l=>GM P T a::pE P Ts l
 |_,l=>l
def kB(P:Program)(f:FuncId):List TypeId:=
 match P.funcs[f]? with
 |some fn=>fn.params.toList
 |none=>[]
def DZ(s:ByteArray)(k:Nat):Nat:=
 match s[k]? with
 |some b=>b.toNat
 |none=>0
def Ew(P:Program)(T:TypeId)(x i:AV):Option (Bool×AV):=
 match P.underlying T,x,PM i with
 |some .string, .lit (.string s),some (_,n)=>some (decide (0<=n)&&decide (n<s.size), .lit (.int .u8 (DZ s n.toNat)))
 |_,_,_=>none
def bJ(E:Env)(s:S)(o:Op):Option (Bool×AV):=
 match o with
 | .move x=>some (true,ev s x)
 | .assign x=>some (true,ev s x)
 | .load T x=>(match JX E.P T (ev s x) with|some v=>some (true, .lit v)|none=>nj E.P s.st T (ev s x))
 | .makeInterface T x=>CZ E.P T (ev s x)
 | .convert S T x=>Qf E.P S T (ev s x)
 | .nilCheck x=>
  (match ev s x with
   | .ptr i k p off=>if kR s.st i then some (true, .ptr i k p off) else none
   | .jS T a=>some (true, .jS T a)
   | .bL f caps=>some (true, .bL f caps)
   |_=>none)
 | .binOp op T x y _=>(match RI E.P op T y (ev s x) with|some r=>some r|none=>(match Lw E.P op T (ev s x) (ev s y) with|some r=>some r|none=>Qp op (ev s x) (ev s y)))
 | .unOp op _ x=>
  (match op,ev s x with
   | .not, .lit (.bool b)=>some (true, .lit (.bool (!b)))
   | .neg, .lit (.int k n)=>some (true, .lit (.int k (k.wrap (0 - n))))
   |_,_=>none)
 | .slice T x lo hi none=>qd E.P s T (ev s x) lo hi
 | .slice T x lo hi (some m)=>mG E.P s T (ev s x) lo hi m
 | .fieldAddr T x f=>gw E.P s.st T (ev s x) f
 | .field T x f=>Fu E.P T (ev s x) f
 | .indexAddr T x i=>gI E.P s T (ev s x) (ev s i)
 | .index T x i=>Ew E.P T (ev s x) (ev s i)
 | .lookup T m k ok=>mV E.P s T (ev s m) (ev s k) ok
 | .extract x i=>(match ev s x with| .bh l=>if i<l.length then some (true,nth l i) else none|_=>none)
 | .makeFunc (.func f) first caps=>if first.size=0 then some (true, .bL f (np s caps.toList)) else none
 | .build T parts=>
  (match gS E.P T with
   |some (.agg l)=>(match wR E.P T l (fv s parts.toList) with|some a=>some (true,a)|none=>none)
   |_=>none)
 | .call {callee:= .builtin .len,args,argTypes}=>
  (match np s args.toList,argTypes.toList with
   |[a],T::_=>(match Ah E.P s.st T a with|some x=>some (true,x)|none=>none)
   |_,_=>none)
 | .call {callee:= .builtin .min,args, .. }=>
  (match np s args.toList with
   |[.lit (.int k x), .lit (.int k' y)]=>if k=k' then some (true, .lit (.int k (if y<x then y else x))) else none
   |_=>none)
 | .call {callee:= .builtin .max,args, .. }=>
  (match np s args.toList with
   |[.lit (.int k x), .lit (.int k' y)]=>if k=k' then some (true, .lit (.int k (if y>x then y else x))) else none
   |_=>none)
 | .call {callee:= .value (.func f),args, .. }=>
  (match fw s.st (np s args.toList) with
   |some as=>E.gR f (pE E.P (kB E.P f) as)
   |none=>none)
 |_=>none
end Go.Dn
