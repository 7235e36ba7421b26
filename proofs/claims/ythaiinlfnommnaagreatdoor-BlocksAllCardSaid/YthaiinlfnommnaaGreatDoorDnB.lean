import Derived.Test.YthaiinlfnommnaaGreatDoorDnA
namespace Go.Dn
open Go
structure S where
 bt:List AV
 st:List Obj
structure Env where
 P:Pg
 call:FuncId->List AV->List Obj->(AV->List Obj->Prop)->Prop
 il:FuncId->List AV->Option (Bool×AV)
 loop:FuncId->Nat->Code->Option Nat->Nat->S->(Exit->S->Prop)->Prop
 lk:FuncId->Nat->FuncId->List AV->List Obj->(List Obj->Prop)->Prop
 gen:FuncId->Bool
 inl:FuncId->Bool
 live:FuncId->Nat->List (Nat×Option TypeId)
 own:FuncId->Bool
 quiet:FuncId->Bool
 fresh:FuncId->Bool:=fun _=>false
 calm:FuncId->Bool:=fun _=>false
def ev(s:S):Operand->AV
 | .tmp t=>nth s.bt t
 | .const v=>if bm v then .lit v else .cP
 | .global g=> .lit (.pointer (some ⟨g,0,none⟩))
 | .func f=> .bQ f []
def put(s:S)(dst:Option Tmp)(a:AV):S:=
 match dst with
 |none=>s
 |some d=>{s with bt:=cm s.bt d a}
def ba(b:Bool)(p:Prop):Prop:=
 match b with
 |true=>p
 |false=>False
theorem an{b:Bool}{p:Prop}:ba b p↔b=true/\p:=by
 cases b<;>simp[ba]
theorem dk{b:Bool}{p q:Prop}(h:p->q)(hc:ba b p):ba b q:=by
 cases b
 ·exact hc
 ·exact h hc
def aC(b:Bool)(p q:Prop):Prop:=
 match b with
 |true=>p
 |false=>q
def oT(st:List Obj):AV->Option (Option TypeId×List AV)
 | .lit (.slice none 0 0)=>some (none,[])
 | .ad T l=>some (some T,l)
 | .ar i lo n=>
  match ia (az st i) with
  |some (T,xs)=>some (some T,(xs.drop lo).take n)
  |none=>(match az st i,lo with| .rows _ E ls _,k+1=>some (some E,((cd ls k).take n).map .lit)|_,_=>none)
 |_=>none
mutual
def cr(st:List Obj):AV->Option AV
 | .lit v=>some (.lit v)
 | .ad T l=>some (.ad T l)
 | .ar i lo n=>
  match ia (az st i) with
  |some (T,xs)=>some (.ad T ((xs.drop lo).take n))
  |none=>none
 | .agg l=>(lv st l).map .agg
 | .jX T a=>some (.jX T a)
 | .jq T a=>(cr st a).map (.jq T ·)
 | .bQ f []=>some (.bQ f [])
 | .jJ K V ks vs=>some (.jJ K V ks vs)
 | .mp i=>(match az st i with| .map K V es=>some (.jJ K V (es.map (·.1)) (es.map (·.2)))|_=>none)
 |_=>none
def lv(st:List Obj):List AV->Option (List AV)
 |[]=>some []
 |a::l=>
  match cr st a,lv st l with
  |some b,some m=>some (b::m)
  |_,_=>none
end
mutual
def rowsOf:AV->List Nat
 | .ar i _ _=>[i]
 | .mp i=>[i]
 | .agg l=>qp l
 | .jq _ a=>rowsOf a
 |_=>[]
def qp:List AV->List Nat
 |[]=>[]
 |a::l=>rowsOf a++qp l
end
def jE:Obj->Obj
 | .row T xs=> .mv T xs
 | .map _ _ _=> .dead
 |o=>o
def cX(st:List Obj):List Nat->List Obj
 |[]=>st
 |i::l=>cX (dj st i (jE (az st i))) l
mutual
def A6(P:Program):AV->TypeId->Bool
 | .lit v,T=>
  match P.underlying T with
  |some (.int k)=>(match v with| .int k' _=>k==k'|_=>false)
  |some .bool=>(match v with| .bool _=>true|_=>false)
  |some .string=>(match v with| .string _=>true|_=>false)
  |some (.slice _)=>(match v with| .slice none 0 0=>true|_=>false)
  |some (.map _ _)=>(match v with| .map none=>true|_=>false)
  |some (.struct _)=>false
  |some (.array _ _)=>false
  |some _=>true
  |none=>false
 | .ad E _,T=>(match P.underlying T with|some (.slice E')=>E==E'|_=>false)
 | .agg l,T=>(match P.underlying T with|some (.struct fs)=>Nat.blt T P.types.size&&IF P l fs.toList|_=>false)
 | .jJ K V _ _,T=>(match P.underlying T with|some (.map K' V')=>K==K'&&V==V'|_=>false)
 |_,_=>false
def IF(P:Program):List AV->List Field->Bool
 |[],[]=>true
 |a::l,f::fs=>A6 P a f.type&&IF P l fs
 |_,_=>false
end
def fF(P:Program)(T:TypeId):Bool:=
 match P.underlying T with
 |some (.struct _)=>true
 |some (.array _ _)=>true
 |_=>false
def mz(P:Program):Nat->TypeId->List Value->Option (AV×List Value)
 |0,_,_=>none
 |d+1,T,cs=>
  match P.underlying T with
  |some (.struct fs)=>(match zfields (mz P d) fs.toList cs with|some (l,r)=>some (.agg l,r)|none=>none)
  |some (.array _ _)=>none
  |some _=>(match cs with|v::r=>if bm v then some (.lit v,r) else none|[]=>none)
  |none=>none
where
 zfields (g:TypeId->List Value->Option (AV×List Value)):List Field->List Value->Option (List AV×List Value)
  |[],cs=>some ([],cs)
  |f::fs,cs=>
   match g f.type cs with
   |some (a,r)=>(match zfields g fs r with|some (l,r')=>some (a::l,r')|none=>none)
   |none=>none
def cn:Nat:=6
def gT(P:Program)(T:TypeId):Option AV:=
 match P.info? T with
 | some i=>
  match i.zero with
  | some (.agg cs)=>
   (match mz P cn T cs.toList with
    |some (.agg l,[])=>if fF P T&&A6 P (.agg l) T then some (.agg l) else none
    |_=>none)
  |some v=>if fF P T|| !bm v|| !A6 P (.lit v) T then none else some (.lit v)
  |none=>none
 |none=>none
mutual
def cZ:AV->Bool
 | .cP=>false
 | .bp _=>false
 | .agg l=>dM l
 | .lit v=>bm v
 |_=>true
def dM:List AV->Bool
 |[]=>true
 |a::l=>cZ a&&dM l
end
mutual
def pW:AV->Bool
 | .cP=>false
 | .bp _=>false
 | .agg l=>tW l
 |_=>true
def tW:List AV->Bool
 |[]=>true
 |a::l=>pW a&&tW l
end
mutual
theorem ri{C:Ctx}: ∀(a:AV) (s:Src) (o:Nat),pW a=true->M C a s o->cZ a=true
 | .lit v,s,o,_,h=>by simp only[M] at h;simp only[cZ];exact h.2
 | .agg l,s,o,h,hm=>by
  simp only[pW] at h
  simp only[M] at hm
  simp only[cZ]
  exact xL l s o h hm
 | .cP,_,_,h,_| .bp _,_,_,h,_=>by simp[pW] at h
 | .ad _ _,_,_,_,_| .ar _ _ _,_,_,_,_| .ptr _ _ _ _,_,_,_,_| .jX _ _,_,_,_,_| .mp _,_,_,_,_| .cK _,_,_,_,_| .kx _ _,_,_,_,_| .bQ _ _,_,_,_,_| .jq _ _,_,_,_,_| .jJ _ _ _ _,_,_,_,_=>by simp[cZ]
theorem xL{C:Ctx}: ∀(l:List AV) (s:Src) (o:Nat),tW l=true->ML C l s o->dM l=true
 |[],_,_,_,_=>by simp[dM]
 |a::l,s,o,h,hm=>by
  simp only[tW,aa3] at h
  simp only[ML] at hm
  simp only[dM,aa3]
  exact⟨ri a s o h.1 hm.1,xL l s _ h.2 hm.2⟩
end
def nb:AV->List Nat->AV
 |a,[]=>a
 |a,j::p=>nb (ae a j) p
def fN:AV->List Nat->AV->AV
 |_,[],x=>x
 | .agg l,j::p,x=> .agg (cm l j (fN (nth l j) p x))
 |a,_::_,_=>a
def iy:List AV->Nat->Nat
 |[],_=>0
 |_,0=>0
 |a::l,j+1=>wid a+iy l j
def gW:AV->List Nat->Nat
 |_,[]=>0
 | .agg l,j::p=>iy l j+gW (nth l j) p
 |_,_::_=>0
def nr:AV->List Nat->Bool
 |_,[]=>true
 | .agg l,j::p=>decide (j<l.length)&&nr (nth l j) p
 |_,_::_=>false
def Qm:AV->Option (IntKind×Int)
 | .lit (.int k n)=>some (k,n)
 |_=>none
def np(P:Program)(st:List Obj)(T:TypeId):AV->Option (Bool×AV)
 | .ptr i k path off=>
  match az st i with
  | .box _ a=>
   let y:=nb a path
   if nr a path&&gW a path==off&&fF P T==b9 y&&wid y==P.cellsOf T&&(P.underlying T).isSome then some (true,y) else none
  | .rows T0 _ ls none=>(match path,off with|[],0=>if fF P T==false&&P.cellsOf T==1&&T==T0&&(P.underlying T).isSome then some (true, .ar i (Nat.succ k) (cd ls k).length) else none|_,_=>none)
  | o=>
   match ia o with
   |some (T0,xs)=>
    let a:=expand P cn T0 (nth xs k)
    let y:=nb a path
    if nr a path&&gW a path==off&&fF P T==b9 y&&wid y==P.cellsOf T&&(P.underlying T).isSome then some (true,y) else none
   |none=>none
 | .jX T0 a=>
  let y:=expand P cn T0 a
  if fF P T==b9 y&&wid y==P.cellsOf T&&(P.underlying T).isSome then some (true,y) else none
 |_=>none
def rC(es:List (Value×AV))(k:Value):Bool:=
 match es with
 |[]=>false
 |(k',_)::es=>dn k k'||rC es k
def dt(es:List (Value×AV))(k:Value)(z:AV):AV:=
 match es with
 |[]=>z
 |(k',a)::es=>bif dn k k' then a else dt es k z
def ff(es:List (Value×AV))(k:Value)(a:AV):List (Value×AV):=
 match es with
 |[]=>[(k,a)]
 |(k',a')::es=>bif dn k k' then(k,a)::es else(k',a')::ff es k a
def QL(op:BinOp)(a b:AV):Option (Bool×AV):=
 match a,b with
 | .lit (.int k x), .lit (.int k' y)=>
  if k=k' then
   match op with
   | .add=>some (true, .lit (.int k (k.wrap (x+y))))
   | .sub=>some (true, .lit (.int k (k.wrap (x - y))))
   | .mul=>some (true, .lit (.int k (k.wrap (x*y))))
   | .quo=>some (y != 0, .lit (.int k (k.wrap (x.tdiv y))))
   | .rem=>some (y != 0, .lit (.int k (x.tmod y)))
   | .eql=>some (true, .lit (.bool (x==y)))
   | .neq=>some (true, .lit (.bool (x != y)))
   | .lss=>some (true, .lit (.bool (decide (x<y))))
   | .leq=>some (true, .lit (.bool (decide (x<=y))))
   | .gtr=>some (true, .lit (.bool (decide (x>y))))
   | .geq=>some (true, .lit (.bool (decide (x>=y))))
   | .shl=>some (decide (0<=y), .lit (.int k (k.wrap (x*2 ^ (min y.toNat k.bits)))))
   | .shr=>some (decide (0<=y), .lit (.int k (x.fdiv (2 ^ (min y.toNat k.bits)))))
   | .and=>some (true, .lit (.int k (k.wrap (BitVec.ofInt k.bits x&&& BitVec.ofInt k.bits y).toNat)))
   | .or=>some (true, .lit (.int k (k.wrap (BitVec.ofInt k.bits x|||BitVec.ofInt k.bits y).toNat)))
   |_=>none
  else none
 | .lit (.string x), .lit (.string y)=>
  match op with
  | .add=>some (decide (((x.size+y.size:Nat):Int)<=IntKind.i64.max), .lit (.string (x++y)))
  | .eql=>some (true, .lit (.bool (x.toList==y.toList)))
  | .neq=>some (true, .lit (.bool !(x.toList==y.toList)))
  | .lss=>some (true, .lit (.bool (Op.bytesLess x.toList y.toList)))
  |_=>none
 |_,_=>none
def Lo(P:Program)(op:BinOp)(T:TypeId)(a b:AV):Option (Bool×AV):=
 match a,b with
 | .lit (.bool x), .lit (.bool y)=>
  (match P.underlying T with
   |some .bool=>
    (match op with
    | .eql=>some (true, .lit (.bool (x==y)))
    | .neq=>some (true, .lit (.bool (!(x==y))))
    |_=>none)
   |_=>none)
 |_,_=>none
def O0:Obj->Bool
 | .row _ _| .mv _ _| .rows _ _ _ _=>true
 |_=>false
def zk(P:Program)(st:List Obj)(T:TypeId)(a:AV):Option AV:=
 match P.underlying T,a with
 |some .string, .lit (.string s)=>some (.lit (.int .i64 s.size))
 |some (.map _ _), .lit (.map none)=>some (.lit (.int .i64 0))
 |some (.map _ _), .mp i=>(match az st i with| .map _ _ es=>some (.lit (.int .i64 es.length))|_=>none)
 |some (.slice _), .lit (.slice none 0 0)=>some (.lit (.int .i64 0))
 |some (.slice _), .ar i _ n=>(match O0 (az st i) with|true=>some (.lit (.int .i64 n))|false=>none)
 |some (.map _ _), .jJ _ _ ks _=>some (.lit (.int .i64 ks.length))
 |some (.slice _), .ad _ l=>some (.lit (.int .i64 l.length))
 |_,_=>none
def fL(s:S)(o:Option Operand)(d:Nat):Option Int:=
 match o with
 |none=>some d
 |some x=>(Qm (ev s x)).map (·.2)
def qi(P:Program)(s:S)(T:TypeId)(x:AV)(lo hi:Option Operand):Option (Bool×AV):=
 match x with
 | .lit (.string b)=>
  match P.underlying T,fL s lo 0,fL s hi b.size with
  |some .string,some l,some h=>some (decide (0<=l)&&decide (l<=h)&&decide (h<=b.size), .lit (.string (b.extract l.toNat h.toNat)))
  |_,_,_=>none
 | .ad E l0=>
  match P.underlying T,fL s lo 0,fL s hi l0.length with
  |some (.slice E'),some l,some h=>
   if E=E'/\(P.underlying E).isSome=true then some (decide (0<=l)&&decide (l<=h)&&decide (h<=l0.length), .ad E ((l0.take h.toNat).drop l.toNat)) else none
  |_,_,_=>none
 | .ar i lo0 n=>
  match P.underlying T,ia (az s.st i),fL s lo 0,fL s hi n with
  |some (.slice E'),some (E,_),some l,some h=>
   if E=E'/\(P.underlying E).isSome=true then some (decide (0<=l)&&decide (l<=h)&&decide (h<=n), .ar i (lo0+l.toNat) (h - l).toNat) else none
  |_,_,_,_=>none
 |_=>none
def uW(s:S):Option Operand->Option Int
 |none=>none
 |some x=>(Qm (ev s x)).map (·.2)
def na(P:Program)(s:S)(T:TypeId)(x:AV)(lo hi:Option Operand)(m:Operand):Option (Bool×AV):=
 match x,lo with
 | .ar i 0 n,none=>
  match P.underlying T,ia (az s.st i),uW s hi,uW s (some m) with
  |some (.slice E'),some (E,_),some h,some mx=>
   if E=E'/\(P.underlying E).isSome=true then some (decide (0<=h)&&decide (h<=mx)&&decide (mx<=n), .ar i 0 h.toNat) else none
  |_,_,_,_=>none
 |_,_=>none
def gx(P:Program)(s:S)(T:TypeId)(x i:AV):Option (Bool×AV):=
 match P.underlying T,Qm i with
 | some (.slice E),some (_,n)=>
  match x with
  | .ad E' l=>if E=E'/\(P.underlying E).isSome=true then some (decide (0<=n)&&decide (n<l.length), .jX E (nth l n.toNat)) else none
  | .ar j lo len=>
   match ia (az s.st j) with
   |some (E',_)=>if E=E'/\(P.underlying E).isSome=true then some (decide (0<=n)&&decide (n<len), .ptr j (lo+n.toNat) [] 0) else none
   |none=>
    match az s.st j,lo with
    | .rows E' _ _ _,0=>if E=E'/\(P.underlying E).isSome=true/\P.cellsOf E=1 then some (decide (0<=n)&&decide (n<len), .ptr j n.toNat [] 0) else none
    |_,_=>none
  |_=>none
 |_,_=>none
def fieldsOf(P:Program)(T:TypeId):List Field:=
 match P.underlying T with
 |some (.struct fs)=>fs.toList
 |_=>[]
def mC:List Field->Nat->Option Field
 |[],_=>none
 |f::_,0=>some f
 |_::l,n+1=>mC l n
def kU(st:List Obj)(i:Nat):Bool:=
 match az st i with
 | .box _ _| .row _ _| .mv _ _=>true
 |_=>false
def gz(P:Program)(st:List Obj)(T:TypeId)(x:AV)(f:Nat):Option (Bool×AV):=
 match mC (fieldsOf P T) f with
 |none=>none
 | some fd=>
  if P.cellsOf fd.type=0 then none else
  match x with
  | .ptr i k path off=>if kU st i then some (true, .ptr i k (path++[f]) (off+fd.offset)) else none
  | .jX T0 a=>
   match expand P cn T0 a with
   | .agg l=>
    if T0=T&&decide (f<l.length)&&iy l f==fd.offset then some (true, .jX fd.type (nth l f)) else none
   |_=>none
  |_=>none
def Es(P:Program)(T:TypeId)(x:AV)(f:Nat):Option (Bool×AV):=
 match mC (fieldsOf P T) f,x with
 |some fd, .agg l=>
  if decide (f<l.length)&&iy l f==fd.offset&&wid (nth l f)==P.cellsOf fd.type&&fF P fd.type==b9 (nth l f)&&(P.underlying fd.type).isSome&&cZ (nth l f) then some (true,nth l f) else none
 |_,_=>none
def mT(P:Program)(s:S)(T:TypeId)(m k:AV)(ok:Bool):Option (Bool×AV):=
 match P.underlying T,k with
 | some (.map K V), .lit kv=>
  match plainKey P K kv,gT P V,m with
  | true,some z, .mp i=>
   match az s.st i with
   | .map K' V' es=>
    if K=K'/\V=V' then
     let v:=expand P cn V (dt es kv z)
     some (true,if ok then .bp [v, .lit (.bool (rC es kv))] else v)
    else none
   |_=>none
  | true,some z, .jJ K' V' ks vs=>
   if K=K'/\V=V' then
    let v:=expand P cn V (dt (ks.zip vs) kv z)
    some (true,if ok then .bp [v, .lit (.bool (rC (ks.zip vs) kv))] else v)
   else none
  |true,some z, .lit (.map none)=>some (true,if ok then .bp [z, .lit (.bool false)] else z)
  |_,_,_=>none
 |_,_=>none
def wv(P:Program)(T:TypeId)(l:List AV):List (Nat×AV)->Option AV
 |[]=>some (.agg l)
 | (i,x)::ps=>
  match mC (fieldsOf P T) i with
  |none=>none
  | some fd=>
   if cZ x&&decide (i<l.length)&&iy l i==fd.offset&&wid x==P.cellsOf fd.type&&wid (nth l i)==P.cellsOf fd.type then
    wv P T (cm l i x) ps
   else none
def fx(s:S):List (Nat×Operand)->List (Nat×AV)
 |[]=>[]
 |(i,x)::l=>(i,ev s x)::fx s l
def nt(s:S):List Operand->List AV
 |[]=>[]
 |x::l=>ev s x::nt s l
def rr(st:List Obj)(a:AV):Option AV:=
 match a with
 | .ar i (k+1) m=>(match az st i with| .rows _ E ls _=>some (.ad E (((cd ls k).take m).map .lit))|_=>cr st a)
 |_=>cr st a
def fE(st:List Obj):List AV->Option (List AV)
 |[]=>some []
 |a::l=>
  match rr st a,fE st l with
  |some b,some m=>some (b::m)
  |_,_=>none
def La(P:Pg)(T:TypeId):AV->Option Value
 | .lit (.pointer (some ⟨g,0,none⟩))=>
  (match P.kept g with
   |some (.cells cs _ _)=>(match cs.toList with|[v]=>if bm v&& !(fF P T)&&(P.underlying T).isSome then some v else none|_=>none)
   |_=>none)
 |_=>none
def aE:Value->Bool
 | .nilIface=>true
 | .iface _ _=>true
 |_=>false
def bR:Value->Bool
 | .nilIface=>true
 |_=>false
def Ku:AV->Option (Bool×Bool)
 | .lit u=>some (aE u,bR u)
 | .jq _ _=>some (true,false)
 |_=>none
def Rq(P:Program)(op:BinOp)(T:TypeId)(y:Operand)(a:AV):Option (Bool×AV):=
 match y with
 | .const .nilIface=>
  (match P.underlying T,Ku a with
   |some (.interface _),some (c,b)=>
    (match op with
    | .eql=>some (c, .lit (.bool b))
    | .neq=>some (c, .lit (.bool (!b)))
    |_=>none)
   |_,_=>none)
 |_=>none
def CM(P:Program)(T:TypeId)(a:AV):Option (Bool×AV):=
 match P.underlying T with
 |none=>none
 |some (.interface _)=>none
 | some _=>
  (match a with
   | .lit v=>some (true, .lit (.iface T v))
   | .cP=>none
   |a=>some (true, .jq T a))
def P6(P:Program)(S T:TypeId)(a:AV):Option (Bool×AV):=
 match P.underlying S,P.underlying T,a with
 |some _,some (.int k), .lit (.int _ n)=>some (true, .lit (.int k (k.wrap n)))
 |_,_,_=>none
def FR(P:Program)(T:TypeId)(a:AV):AV:=
 match P.underlying T with
 |some (.struct _)=>(match a with| .agg _=>(match A6 P a T with|true=>expand P cn T a|false=>a)|a=>a)
 |some (.slice _)=>(match a with| .lit (.slice none 0 0)=>(match A6 P a T with|true=>expand P cn T a|false=>a)|a=>a)
 |_=>a
def pB(P:Program):List TypeId->List AV->List AV
 |T::Ts,a::l=>FR P T a::pB P Ts l
 |_,l=>l
def ld(P:Program)(f:FuncId):List TypeId:=
 match P.funcs[f]? with
 |some fn=>fn.params.toList
 |none=>[]
def Fu(s:ByteArray)(k:Nat):Nat:=
 match s[k]? with
 |some b=>b.toNat
 |none=>0
def Ff(P:Program)(T:TypeId)(x i:AV):Option (Bool×AV):=
 match P.underlying T,x,Qm i with
 |some .string, .lit (.string s),some (_,n)=>some (decide (0<=n)&&decide (n<s.size), .lit (.int .u8 (Fu s n.toNat)))
 |_,_,_=>none
def bO(E:Env)(s:S)(o:Op):Option (Bool×AV):=
 match o with
 | .move x=>some (true,ev s x)
 | .assign x=>some (true,ev s x)
 | .load T x=>(match La E.P T (ev s x) with|some v=>some (true, .lit v)|none=>np E.P s.st T (ev s x))
 | .makeInterface T x=>CM E.P T (ev s x)
 | .convert S T x=>P6 E.P S T (ev s x)
 | .nilCheck x=>
  (match ev s x with
   | .ptr i k p off=>if kU s.st i then some (true, .ptr i k p off) else none
   | .jX T a=>some (true, .jX T a)
   | .bQ f caps=>some (true, .bQ f caps)
   |_=>none)
 | .binOp op T x y _=>(match Rq E.P op T y (ev s x) with|some r=>some r|none=>(match Lo E.P op T (ev s x) (ev s y) with|some r=>some r|none=>QL op (ev s x) (ev s y)))
 | .unOp op _ x=>
  (match op,ev s x with
   | .not, .lit (.bool b)=>some (true, .lit (.bool (!b)))
   | .neg, .lit (.int k n)=>some (true, .lit (.int k (k.wrap (0 - n))))
   |_,_=>none)
 | .slice T x lo hi none=>qi E.P s T (ev s x) lo hi
 | .slice T x lo hi (some m)=>na E.P s T (ev s x) lo hi m
 | .fieldAddr T x f=>gz E.P s.st T (ev s x) f
 | .field T x f=>Es E.P T (ev s x) f
 | .indexAddr T x i=>gx E.P s T (ev s x) (ev s i)
 | .index T x i=>Ff E.P T (ev s x) (ev s i)
 | .lookup T m k ok=>mT E.P s T (ev s m) (ev s k) ok
 | .extract x i=>(match ev s x with| .bp l=>if i<l.length then some (true,nth l i) else none|_=>none)
 | .makeFunc (.func f) first caps=>if first.size=0 then some (true, .bQ f (nt s caps.toList)) else none
 | .build T parts=>
  (match gT E.P T with
   |some (.agg l)=>(match wv E.P T l (fx s parts.toList) with|some a=>some (true,a)|none=>none)
   |_=>none)
 | .call {callee:= .builtin .len,args,argTypes}=>
  (match nt s args.toList,argTypes.toList with
   |[a],T::_=>(match zk E.P s.st T a with|some x=>some (true,x)|none=>none)
   |_,_=>none)
 | .call {callee:= .builtin .min,args, .. }=>
  (match nt s args.toList with
   |[.lit (.int k x), .lit (.int k' y)]=>if k=k' then some (true, .lit (.int k (if y<x then y else x))) else none
   |_=>none)
 | .call {callee:= .builtin .max,args, .. }=>
  (match nt s args.toList with
   |[.lit (.int k x), .lit (.int k' y)]=>if k=k' then some (true, .lit (.int k (if y>x then y else x))) else none
   |_=>none)
 | .call {callee:= .value (.func f),args, .. }=>
  (match fE s.st (nt s args.toList) with
   |some as=>E.il f (pB E.P (ld E.P f) as)
   |none=>none)
 |_=>none
end Go.Dn
