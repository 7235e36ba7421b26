import Derived.Test.YtdpmikfheebicaaGreatDoorDnA
namespace Go.Dn
open Go
structure S where
 a9:List AV
 st:List Obj
structure Env where
 P:Pg
 call:FuncId->List AV->List Obj->(AV->List Obj->Prop)->Prop
 gY:FuncId->List AV->Option (Bool×AV)
 loop:FuncId->Nat->Code->Option Nat->Nat->S->(Exit->S->Prop)->Prop
 jO:FuncId->Nat->FuncId->List AV->List Obj->(List Obj->Prop)->Prop
 gen:FuncId->Bool
 inl:FuncId->Bool
 live:FuncId->Nat->List (Nat×Option TypeId)
 own:FuncId->Bool
 quiet:FuncId->Bool
 fresh:FuncId->Bool:=fun _=>false
 calm:FuncId->Bool:=fun _=>false
def ev(s:S):Operand->AV
 | .tmp t=>nth s.a9 t
 | .const v=>if a0 v then .lit v else .cf
 | .global g=> .lit (.pointer (some ⟨g,0,none⟩))
 | .func f=> .bP f []
def put(s:S)(dst:Option Tmp)(a:AV):S:=
 match dst with
 |none=>s
 |some d=>{s with a9:=bQ s.a9 d a}
def aO(b:Bool)(p:Prop):Prop:=
 match b with
 |true=>p
 |false=>False
theorem au{b:Bool}{p:Prop}:aO b p↔b=true/\p:=by
 cases b<;>simp[aO]
theorem cV{b:Bool}{p q:Prop}(h:p->q)(hc:aO b p):aO b q:=by
 cases b
 ·exact hc
 ·exact h hc
def ax(b:Bool)(p q:Prop):Prop:=
 match b with
 |true=>p
 |false=>q
def nP(st:List Obj):AV->Option (Option TypeId×List AV)
 | .lit (.slice none 0 0)=>some (none,[])
 | .ae T l=>some (some T,l)
 | .az i lo n=>
  match gb (ar st i) with
  |some (T,xs)=>some (some T,(xs.drop lo).take n)
  |none=>(match ar st i,lo with| .rows _ E ls _,k+1=>some (some E,((bB ls k).take n).map .lit)|_,_=>none)
 |_=>none
mutual
def bV(st:List Obj):AV->Option AV
 | .lit v=>some (.lit v)
 | .ae T l=>some (.ae T l)
 | .az i lo n=>
  match gb (ar st i) with
  |some (T,xs)=>some (.ae T ((xs.drop lo).take n))
  |none=>none
 | .agg l=>(kk st l).map .agg
 | .jc T a=>some (.jc T a)
 | .iq T a=>(bV st a).map (.iq T ·)
 | .bP f []=>some (.bP f [])
 | .iZ K V ks vs=>some (.iZ K V ks vs)
 | .mp i=>(match ar st i with| .map K V es=>some (.iZ K V (es.map (·.1)) (es.map (·.2)))|_=>none)
 |_=>none
def kk(st:List Obj):List AV->Option (List AV)
 |[]=>some []
 |a::l=>
  match bV st a,kk st l with
  |some b,some m=>some (b::m)
  |_,_=>none
end
mutual
def rowsOf:AV->List Nat
 | .az i _ _=>[i]
 | .mp i=>[i]
 | .agg l=>qv l
 | .iq _ a=>rowsOf a
 |_=>[]
def qv:List AV->List Nat
 |[]=>[]
 |a::l=>rowsOf a++qv l
end
def iM:Obj->Obj
 | .row T xs=> .mo T xs
 | .map _ _ _=> .dead
 |o=>o
def cQ(st:List Obj):List Nat->List Obj
 |[]=>st
 |i::l=>cQ (da st i (iM (ar st i))) l
mutual
def zc(P:Program):AV->TypeId->Bool
 | .lit v,T=>
  match P.underlying T with
  |some (.int k)=>(match v with| .int k' _=>k==k'|_=>false)
  |some .bool=>(match v with| .bool _=>true|_=>false)
  |some .string=>(match v with| .string _=>true|_=>false)
  |some (.slice _)=>(match v with| .slice none 0 0=>true|_=>false)
  |some (.map _ _)=>(match v with| .map none=>true|_=>false)
  |some (.struct _)=>false
  |some (.array _ _)=>false
  |some _=>true
  |none=>false
 | .ae E _,T=>(match P.underlying T with|some (.slice E')=>E==E'|_=>false)
 | .agg l,T=>(match P.underlying T with|some (.struct fs)=>Nat.blt T P.types.size&&E5 P l fs.toList|_=>false)
 | .iZ K V _ _,T=>(match P.underlying T with|some (.map K' V')=>K==K'&&V==V'|_=>false)
 |_,_=>false
def E5(P:Program):List AV->List Field->Bool
 |[],[]=>true
 |a::l,f::fs=>zc P a f.type&&E5 P l fs
 |_,_=>false
end
def jh(P:Program)(T:TypeId):Bool:=
 match P.underlying T with
 |some (.struct _)=>true
 |some (.array _ _)=>true
 |_=>false
def ma(P:Program):Nat->TypeId->List Value->Option (AV×List Value)
 |0,_,_=>none
 |d+1,T,cs=>
  match P.underlying T with
  |some (.struct fs)=>(match zfields (ma P d) fs.toList cs with|some (l,r)=>some (.agg l,r)|none=>none)
  |some (.array _ _)=>none
  |some _=>(match cs with|v::r=>if a0 v then some (.lit v,r) else none|[]=>none)
  |none=>none
where
 zfields (g:TypeId->List Value->Option (AV×List Value)):List Field->List Value->Option (List AV×List Value)
  |[],cs=>some ([],cs)
  |f::fs,cs=>
   match g f.type cs with
   |some (a,r)=>(match zfields g fs r with|some (l,r')=>some (a::l,r')|none=>none)
   |none=>none
def bR:Nat:=6
def fS(P:Program)(T:TypeId):Option AV:=
 match P.info? T with
 | some i=>
  match i.zero with
  | some (.agg cs)=>
   (match ma P bR T cs.toList with
    |some (.agg l,[])=>if jh P T&&zc P (.agg l) T then some (.agg l) else none
    |_=>none)
  |some v=>if jh P T|| !a0 v|| !zc P (.lit v) T then none else some (.lit v)
  |none=>none
 |none=>none
mutual
def cq:AV->Bool
 | .cf=>false
 | .bp _=>false
 | .agg l=>dG l
 | .lit v=>a0 v
 |_=>true
def dG:List AV->Bool
 |[]=>true
 |a::l=>cq a&&dG l
end
mutual
def oQ:AV->Bool
 | .cf=>false
 | .bp _=>false
 | .agg l=>sD l
 |_=>true
def sD:List AV->Bool
 |[]=>true
 |a::l=>oQ a&&sD l
end
mutual
theorem qh{C:Ctx}: ∀(a:AV) (s:Src) (o:Nat),oQ a=true->M C a s o->cq a=true
 | .lit v,s,o,_,h=>by simp only[M] at h;simp only[cq];exact h.2
 | .agg l,s,o,h,hm=>by
  simp only[oQ] at h
  simp only[M] at hm
  simp only[cq]
  exact w6 l s o h hm
 | .cf,_,_,h,_| .bp _,_,_,h,_=>by simp[oQ] at h
 | .ae _ _,_,_,_,_| .az _ _ _,_,_,_,_| .ptr _ _ _ _,_,_,_,_| .jc _ _,_,_,_,_| .mp _,_,_,_,_| .cx _,_,_,_,_| .jJ _ _,_,_,_,_| .bP _ _,_,_,_,_| .iq _ _,_,_,_,_| .iZ _ _ _ _,_,_,_,_=>by simp[cq]
theorem w6{C:Ctx}: ∀(l:List AV) (s:Src) (o:Nat),sD l=true->ML C l s o->dG l=true
 |[],_,_,_,_=>by simp[dG]
 |a::l,s,o,h,hm=>by
  simp only[sD,aa1] at h
  simp only[ML] at hm
  simp only[dG,aa1]
  exact⟨qh a s o h.1 hm.1,w6 l s _ h.2 hm.2⟩
end
def ph:AV->List Nat->AV
 |a,[]=>a
 |a,j::p=>ph (ad a j) p
def iC:AV->List Nat->AV->AV
 |_,[],x=>x
 | .agg l,j::p,x=> .agg (bQ l j (iC (nth l j) p x))
 |a,_::_,_=>a
def ik:List AV->Nat->Nat
 |[],_=>0
 |_,0=>0
 |a::l,j+1=>wid a+ik l j
def im:AV->List Nat->Nat
 |_,[]=>0
 | .agg l,j::p=>ik l j+im (nth l j) p
 |_,_::_=>0
def qx:AV->List Nat->Bool
 |_,[]=>true
 | .agg l,j::p=>decide (j<l.length)&&qx (nth l j) p
 |_,_::_=>false
def Mr:AV->Option (IntKind×Int)
 | .lit (.int k n)=>some (k,n)
 |_=>none
def mV(P:Program)(st:List Obj)(T:TypeId):AV->Option (Bool×AV)
 | .ptr i k path off=>
  match ar st i with
  | .box _ a=>
   let y:=ph a path
   if qx a path&&im a path==off&&jh P T==bH y&&wid y==P.cellsOf T&&(P.underlying T).isSome then some (true,y) else none
  | .rows T0 _ ls none=>(match path,off with|[],0=>if jh P T==false&&P.cellsOf T==1&&T==T0&&(P.underlying T).isSome then some (true, .az i (Nat.succ k) (bB ls k).length) else none|_,_=>none)
  | o=>
   match gb o with
   |some (T0,xs)=>
    let a:=expand P bR T0 (nth xs k)
    let y:=ph a path
    if qx a path&&im a path==off&&jh P T==bH y&&wid y==P.cellsOf T&&(P.underlying T).isSome then some (true,y) else none
   |none=>none
 | .jc T0 a=>
  let y:=expand P bR T0 a
  if jh P T==bH y&&wid y==P.cellsOf T&&(P.underlying T).isSome then some (true,y) else none
 |_=>none
def pX(es:List (Value×AV))(k:Value):Bool:=
 match es with
 |[]=>false
 |(k',_)::es=>cD k k'||pX es k
def cM(es:List (Value×AV))(k:Value)(z:AV):AV:=
 match es with
 |[]=>z
 |(k',a)::es=>bif cD k k' then a else cM es k z
def eh(es:List (Value×AV))(k:Value)(a:AV):List (Value×AV):=
 match es with
 |[]=>[(k,a)]
 |(k',a')::es=>bif cD k k' then(k,a)::es else(k',a')::eh es k a
def Nj(op:BinOp)(a b:AV):Option (Bool×AV):=
 match a,b with
 | .lit (.int k x), .lit (.int k' y)=>
  if k=k' then
   match op with
   | .add=>some (true, .lit (.int k (k.wrap (x+y))))
   | .sub=>some (true, .lit (.int k (k.wrap (x - y))))
   | .mul=>some (true, .lit (.int k (k.wrap (x*y))))
   | .quo=>some (y != 0, .lit (.int k (k.wrap (x.tdiv y))))
   | .rem=>some (y != 0, .lit (.int k (x.tmod y)))
   | .eql=>some (true, .lit (.bool (x==y)))
   | .neq=>some (true, .lit (.bool (x != y)))
   | .lss=>some (true, .lit (.bool (decide (x<y))))
   | .leq=>some (true, .lit (.bool (decide (x<=y))))
   | .gtr=>some (true, .lit (.bool (decide (x>y))))
   | .geq=>some (true, .lit (.bool (decide (x>=y))))
   | .shl=>some (decide (0<=y), .lit (.int k (k.wrap (x*2 ^ (min y.toNat k.bits)))))
   | .shr=>some (decide (0<=y), .lit (.int k (x.fdiv (2 ^ (min y.toNat k.bits)))))
   | .and=>some (true, .lit (.int k (k.wrap (BitVec.ofInt k.bits x&&& BitVec.ofInt k.bits y).toNat)))
   | .or=>some (true, .lit (.int k (k.wrap (BitVec.ofInt k.bits x|||BitVec.ofInt k.bits y).toNat)))
   |_=>none
  else none
 | .lit (.string x), .lit (.string y)=>
  match op with
  | .add=>some (decide (((x.size+y.size:Nat):Int)<=IntKind.i64.max), .lit (.string (x++y)))
  | .eql=>some (true, .lit (.bool (x.toList==y.toList)))
  | .neq=>some (true, .lit (.bool !(x.toList==y.toList)))
  | .lss=>some (true, .lit (.bool (Op.bytesLess x.toList y.toList)))
  |_=>none
 |_,_=>none
def HZ(P:Program)(op:BinOp)(T:TypeId)(a b:AV):Option (Bool×AV):=
 match a,b with
 | .lit (.bool x), .lit (.bool y)=>
  (match P.underlying T with
   |some .bool=>
    (match op with
    | .eql=>some (true, .lit (.bool (x==y)))
    | .neq=>some (true, .lit (.bool (!(x==y))))
    |_=>none)
   |_=>none)
 |_,_=>none
def K3:Obj->Bool
 | .row _ _| .mo _ _| .rows _ _ _ _=>true
 |_=>false
def yc(P:Program)(st:List Obj)(T:TypeId)(a:AV):Option AV:=
 match P.underlying T,a with
 |some .string, .lit (.string s)=>some (.lit (.int .i64 s.size))
 |some (.map _ _), .lit (.map none)=>some (.lit (.int .i64 0))
 |some (.map _ _), .mp i=>(match ar st i with| .map _ _ es=>some (.lit (.int .i64 es.length))|_=>none)
 |some (.slice _), .lit (.slice none 0 0)=>some (.lit (.int .i64 0))
 |some (.slice _), .az i _ n=>(match K3 (ar st i) with|true=>some (.lit (.int .i64 n))|false=>none)
 |some (.map _ _), .iZ _ _ ks _=>some (.lit (.int .i64 ks.length))
 |some (.slice _), .ae _ l=>some (.lit (.int .i64 l.length))
 |_,_=>none
def eX(s:S)(o:Option Operand)(d:Nat):Option Int:=
 match o with
 |none=>some d
 |some x=>(Mr (ev s x)).map (·.2)
def oY(P:Program)(s:S)(T:TypeId)(x:AV)(lo hi:Option Operand):Option (Bool×AV):=
 match x with
 | .lit (.string b)=>
  match P.underlying T,eX s lo 0,eX s hi b.size with
  |some .string,some l,some h=>some (decide (0<=l)&&decide (l<=h)&&decide (h<=b.size), .lit (.string (b.extract l.toNat h.toNat)))
  |_,_,_=>none
 | .ae E l0=>
  match P.underlying T,eX s lo 0,eX s hi l0.length with
  |some (.slice E'),some l,some h=>
   if E=E'/\(P.underlying E).isSome=true then some (decide (0<=l)&&decide (l<=h)&&decide (h<=l0.length), .ae E ((l0.take h.toNat).drop l.toNat)) else none
  |_,_,_=>none
 | .az i lo0 n=>
  match P.underlying T,gb (ar s.st i),eX s lo 0,eX s hi n with
  |some (.slice E'),some (E,_),some l,some h=>
   if E=E'/\(P.underlying E).isSome=true then some (decide (0<=l)&&decide (l<=h)&&decide (h<=n), .az i (lo0+l.toNat) (h - l).toNat) else none
  |_,_,_,_=>none
 |_=>none
def tt(s:S):Option Operand->Option Int
 |none=>none
 |some x=>(Mr (ev s x)).map (·.2)
def lZ(P:Program)(s:S)(T:TypeId)(x:AV)(lo hi:Option Operand)(m:Operand):Option (Bool×AV):=
 match x,lo with
 | .az i 0 n,none=>
  match P.underlying T,gb (ar s.st i),tt s hi,tt s (some m) with
  |some (.slice E'),some (E,_),some h,some mx=>
   if E=E'/\(P.underlying E).isSome=true then some (decide (0<=h)&&decide (h<=mx)&&decide (mx<=n), .az i 0 h.toNat) else none
  |_,_,_,_=>none
 |_,_=>none
def fF(P:Program)(s:S)(T:TypeId)(x i:AV):Option (Bool×AV):=
 match P.underlying T,Mr i with
 | some (.slice E),some (_,n)=>
  match x with
  | .ae E' l=>if E=E'/\(P.underlying E).isSome=true then some (decide (0<=n)&&decide (n<l.length), .jc E (nth l n.toNat)) else none
  | .az j lo len=>
   match gb (ar s.st j) with
   |some (E',_)=>if E=E'/\(P.underlying E).isSome=true then some (decide (0<=n)&&decide (n<len), .ptr j (lo+n.toNat) [] 0) else none
   |none=>
    match ar s.st j,lo with
    | .rows E' _ _ _,0=>if E=E'/\(P.underlying E).isSome=true/\P.cellsOf E=1 then some (decide (0<=n)&&decide (n<len), .ptr j n.toNat [] 0) else none
    |_,_=>none
  |_=>none
 |_,_=>none
def fieldsOf(P:Program)(T:TypeId):List Field:=
 match P.underlying T with
 |some (.struct fs)=>fs.toList
 |_=>[]
def o6:List Field->Nat->Option Field
 |[],_=>none
 |f::_,0=>some f
 |_::l,n+1=>o6 l n
def kP(st:List Obj)(i:Nat):Bool:=
 match ar st i with
 | .box _ _| .row _ _| .mo _ _=>true
 |_=>false
def gB(P:Program)(st:List Obj)(T:TypeId)(x:AV)(f:Nat):Option (Bool×AV):=
 match o6 (fieldsOf P T) f with
 |none=>none
 | some fd=>
  if P.cellsOf fd.type=0 then none else
  match x with
  | .ptr i k path off=>if kP st i then some (true, .ptr i k (path++[f]) (off+fd.offset)) else none
  | .jc T0 a=>
   match expand P bR T0 a with
   | .agg l=>
    if T0=T&&decide (f<l.length)&&ik l f==fd.offset then some (true, .jc fd.type (nth l f)) else none
   |_=>none
  |_=>none
def Cy(P:Program)(T:TypeId)(x:AV)(f:Nat):Option (Bool×AV):=
 match o6 (fieldsOf P T) f,x with
 |some fd, .agg l=>
  if decide (f<l.length)&&ik l f==fd.offset&&wid (nth l f)==P.cellsOf fd.type&&jh P fd.type==bH (nth l f)&&(P.underlying fd.type).isSome&&cq (nth l f) then some (true,nth l f) else none
 |_,_=>none
def mf(P:Program)(s:S)(T:TypeId)(m k:AV)(ok:Bool):Option (Bool×AV):=
 match P.underlying T,k with
 | some (.map K V), .lit kv=>
  match plainKey P K kv,fS P V,m with
  | true,some z, .mp i=>
   match ar s.st i with
   | .map K' V' es=>
    if K=K'/\V=V' then
     let v:=expand P bR V (cM es kv z)
     some (true,if ok then .bp [v, .lit (.bool (pX es kv))] else v)
    else none
   |_=>none
  | true,some z, .iZ K' V' ks vs=>
   if K=K'/\V=V' then
    let v:=expand P bR V (cM (ks.zip vs) kv z)
    some (true,if ok then .bp [v, .lit (.bool (pX (ks.zip vs) kv))] else v)
   else none
  |true,some z, .lit (.map none)=>some (true,if ok then .bp [z, .lit (.bool false)] else z)
  |_,_,_=>none
 |_,_=>none
def tz(P:Program)(T:TypeId)(l:List AV):List (Nat×AV)->Option AV
 |[]=>some (.agg l)
 | (i,x)::ps=>
  match o6 (fieldsOf P T) i with
  |none=>none
  | some fd=>
   if cq x&&decide (i<l.length)&&ik l i==fd.offset&&wid x==P.cellsOf fd.type&&wid (nth l i)==P.cellsOf fd.type then
    tz P T (bQ l i x) ps
   else none
def eL(s:S):List (Nat×Operand)->List (Nat×AV)
 |[]=>[]
 |(i,x)::l=>(i,ev s x)::eL s l
def mq(s:S):List Operand->List AV
 |[]=>[]
 |x::l=>ev s x::mq s l
def qp(st:List Obj)(a:AV):Option AV:=
 match a with
 | .az i (k+1) m=>(match ar st i with| .rows _ E ls _=>some (.ae E (((bB ls k).take m).map .lit))|_=>bV st a)
 |_=>bV st a
def eP(st:List Obj):List AV->Option (List AV)
 |[]=>some []
 |a::l=>
  match qp st a,eP st l with
  |some b,some m=>some (b::m)
  |_,_=>none
def Ij(P:Pg)(T:TypeId):AV->Option Value
 | .lit (.pointer (some ⟨g,0,none⟩))=>
  (match P.kept g with
   |some (.cells cs _ _)=>(match cs.toList with|[v]=>if a0 v&& !(jh P T)&&(P.underlying T).isSome then some v else none|_=>none)
   |_=>none)
 |_=>none
def aD:Value->Bool
 | .nilIface=>true
 | .iface _ _=>true
 |_=>false
def bD:Value->Bool
 | .nilIface=>true
 |_=>false
def IQ:AV->Option (Bool×Bool)
 | .lit u=>some (aD u,bD u)
 | .iq _ _=>some (true,false)
 |_=>none
def Ng(P:Program)(op:BinOp)(T:TypeId)(y:Operand)(a:AV):Option (Bool×AV):=
 match y with
 | .const .nilIface=>
  (match P.underlying T,IQ a with
   |some (.interface _),some (c,b)=>
    (match op with
    | .eql=>some (c, .lit (.bool b))
    | .neq=>some (c, .lit (.bool (!b)))
    |_=>none)
   |_,_=>none)
 |_=>none
def zG(P:Program)(T:TypeId)(a:AV):Option (Bool×AV):=
 match P.underlying T with
 |none=>none
 |some (.interface _)=>none
 | some _=>
  (match a with
   | .lit v=>some (true, .lit (.iface T v))
   | .cf=>none
   |a=>some (true, .iq T a))
def Mw(P:Program)(S T:TypeId)(a:AV):Option (Bool×AV):=
 match P.underlying S,P.underlying T,a with
 |some _,some (.int k), .lit (.int _ n)=>some (true, .lit (.int k (k.wrap n)))
 |_,_,_=>none
def DI(P:Program)(T:TypeId)(a:AV):AV:=
 match P.underlying T with
 |some (.struct _)=>(match a with| .agg _=>(match zc P a T with|true=>expand P bR T a|false=>a)|a=>a)
 |some (.slice _)=>(match a with| .lit (.slice none 0 0)=>(match zc P a T with|true=>expand P bR T a|false=>a)|a=>a)
 |_=>a
def uo(P:Program):List TypeId->List AV->List AV
 |T::Ts,a::l=>DI P T a::uo P Ts l
 |_,l=>l
def pq(P:Program)(f:FuncId):List TypeId:=
 match P.funcs[f]? with
 |some fn=>fn.params.toList
 |none=>[]
def B1(s:ByteArray)(k:Nat):Nat:=
 match s[k]? with
 |some b=>b.toNat
 |none=>0
def BJ(P:Program)(T:TypeId)(x i:AV):Option (Bool×AV):=
 match P.underlying T,x,Mr i with
 |some .string, .lit (.string s),some (_,n)=>some (decide (0<=n)&&decide (n<s.size), .lit (.int .u8 (B1 s n.toNat)))
 |_,_,_=>none
def bC(E:Env)(s:S)(o:Op):Option (Bool×AV):=
 match o with
 | .move x=>some (true,ev s x)
 | .assign x=>some (true,ev s x)
 | .load T x=>(match Ij E.P T (ev s x) with|some v=>some (true, .lit v)|none=>mV E.P s.st T (ev s x))
 | .makeInterface T x=>zG E.P T (ev s x)
 | .convert S T x=>Mw E.P S T (ev s x)
 | .nilCheck x=>
  (match ev s x with
   | .ptr i k p off=>if kP s.st i then some (true, .ptr i k p off) else none
   | .jc T a=>some (true, .jc T a)
   | .bP f caps=>some (true, .bP f caps)
   |_=>none)
 | .binOp op T x y _=>(match Ng E.P op T y (ev s x) with|some r=>some r|none=>(match HZ E.P op T (ev s x) (ev s y) with|some r=>some r|none=>Nj op (ev s x) (ev s y)))
 | .unOp op _ x=>
  (match op,ev s x with
   | .not, .lit (.bool b)=>some (true, .lit (.bool (!b)))
   | .neg, .lit (.int k n)=>some (true, .lit (.int k (k.wrap (0 - n))))
   |_,_=>none)
 | .slice T x lo hi none=>oY E.P s T (ev s x) lo hi
 | .slice T x lo hi (some m)=>lZ E.P s T (ev s x) lo hi m
 | .fieldAddr T x f=>gB E.P s.st T (ev s x) f
 | .field T x f=>Cy E.P T (ev s x) f
 | .indexAddr T x i=>fF E.P s T (ev s x) (ev s i)
 | .index T x i=>BJ E.P T (ev s x) (ev s i)
 | .lookup T m k ok=>mf E.P s T (ev s m) (ev s k) ok
 | .extract x i=>(match ev s x with| .bp l=>if i<l.length then some (true,nth l i) else none|_=>none)
 | .makeFunc (.func f) first caps=>if first.size=0 then some (true, .bP f (mq s caps.toList)) else none
 | .build T parts=>
  (match fS E.P T with
   |some (.agg l)=>(match tz E.P T l (eL s parts.toList) with|some a=>some (true,a)|none=>none)
   |_=>none)
 | .call {callee:= .builtin .len,args,argTypes}=>
  (match mq s args.toList,argTypes.toList with
   |[a],T::_=>(match yc E.P s.st T a with|some x=>some (true,x)|none=>none)
   |_,_=>none)
 | .call {callee:= .builtin .min,args, .. }=>
  (match mq s args.toList with
   |[.lit (.int k x), .lit (.int k' y)]=>if k=k' then some (true, .lit (.int k (if y<x then y else x))) else none
   |_=>none)
 | .call {callee:= .builtin .max,args, .. }=>
  (match mq s args.toList with
   |[.lit (.int k x), .lit (.int k' y)]=>if k=k' then some (true, .lit (.int k (if y>x then y else x))) else none
   |_=>none)
 | .call {callee:= .value (.func f),args, .. }=>
  (match eP s.st (mq s args.toList) with
   |some as=>E.gY f (uo E.P (pq E.P f) as)
   |none=>none)
 |_=>none
end Go.Dn
