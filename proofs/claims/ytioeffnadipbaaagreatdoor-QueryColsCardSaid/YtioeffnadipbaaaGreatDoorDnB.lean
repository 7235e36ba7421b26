import Derived.Test.YtioeffnadipbaaaGreatDoorDnA
namespace Go.Dn
open Go
structure S where
 bg:List AV
 st:List Obj
structure Env where
 P:Pg
 call:FuncId->List AV->List Obj->(AV->List Obj->Prop)->Prop
 fu:FuncId->List AV->Option (Bool×AV)
 loop:FuncId->Nat->Code->Option Nat->Nat->S->(Exit->S->Prop)->Prop
 kW:FuncId->Nat->FuncId->List AV->List Obj->(List Obj->Prop)->Prop
 gen:FuncId->Bool
 inl:FuncId->Bool
 live:FuncId->Nat->List (Nat×Option TypeId)
 own:FuncId->Bool
 quiet:FuncId->Bool
 fresh:FuncId->Bool:=fun _=>false
 calm:FuncId->Bool:=fun _=>false
def ev(s:S):Operand->AV
 | .tmp t=>nth s.bg t
 | .const v=>if a9 v then .lit v else .cK
 | .global g=> .lit (.pointer (some ⟨g,0,none⟩))
 | .func f=> .bq f []
def put(s:S)(dst:Option Tmp)(a:AV):S:=
 match dst with
 |none=>s
 |some d=>{s with bg:=bJ s.bg d a}
def aP(b:Bool)(p:Prop):Prop:=
 match b with
 |true=>p
 |false=>False
theorem ai{b:Bool}{p:Prop}:aP b p↔b=true/\p:=by
 cases b<;>simp[aP]
theorem cq{b:Bool}{p q:Prop}(h:p->q)(hc:aP b p):aP b q:=by
 cases b
 ·exact hc
 ·exact h hc
def aw(b:Bool)(p q:Prop):Prop:=
 match b with
 |true=>p
 |false=>q
def oN(st:List Obj):AV->Option (Option TypeId×List AV)
 | .lit (.slice none 0 0)=>some (none,[])
 | .ad T l=>some (some T,l)
 | .aB i lo n=>
  match gC (an st i) with
  |some (T,xs)=>some (some T,(xs.drop lo).take n)
  |none=>(match an st i,lo with| .rows _ E ls _,k+1=>some (some E,((ej ls k).take n).map .lit)|_,_=>none)
 |_=>none
mutual
def bW(st:List Obj):AV->Option AV
 | .lit v=>some (.lit v)
 | .ad T l=>some (.ad T l)
 | .aB i lo n=>
  match gC (an st i) with
  |some (T,xs)=>some (.ad T ((xs.drop lo).take n))
  |none=>none
 | .agg l=>(la st l).map .agg
 | .iY T a=>some (.iY T a)
 | .iN T a=>(bW st a).map (.iN T ·)
 | .bq f []=>some (.bq f [])
 | .fJ K V ks vs=>some (.fJ K V ks vs)
 | .mp i=>(match an st i with| .map K V es=>some (.fJ K V (es.map (·.1)) (es.map (·.2)))|_=>none)
 |_=>none
def la(st:List Obj):List AV->Option (List AV)
 |[]=>some []
 |a::l=>
  match bW st a,la st l with
  |some b,some m=>some (b::m)
  |_,_=>none
end
mutual
def rowsOf:AV->List Nat
 | .aB i _ _=>[i]
 | .mp i=>[i]
 | .agg l=>qw l
 | .iN _ a=>rowsOf a
 |_=>[]
def qw:List AV->List Nat
 |[]=>[]
 |a::l=>rowsOf a++qw l
end
def jg:Obj->Obj
 | .row T xs=> .kC T xs
 | .map _ _ _=> .dead
 |o=>o
def cD(st:List Obj):List Nat->List Obj
 |[]=>st
 |i::l=>cD (c9 st i (jg (an st i))) l
mutual
def ux(P:Program):AV->TypeId->Bool
 | .lit v,T=>
  match P.underlying T with
  |some (.int k)=>(match v with| .int k' _=>k==k'|_=>false)
  |some .bool=>(match v with| .bool _=>true|_=>false)
  |some .string=>(match v with| .string _=>true|_=>false)
  |some (.slice _)=>(match v with| .slice none 0 0=>true|_=>false)
  |some (.map _ _)=>(match v with| .map none=>true|_=>false)
  |some (.struct _)=>false
  |some (.array _ _)=>false
  |some _=>true
  |none=>false
 | .ad E _,T=>(match P.underlying T with|some (.slice E')=>E==E'|_=>false)
 | .agg l,T=>(match P.underlying T with|some (.struct fs)=>Nat.blt T P.types.size&&GX P l fs.toList|_=>false)
 | .fJ K V _ _,T=>(match P.underlying T with|some (.map K' V')=>K==K'&&V==V'|_=>false)
 | .iY E _,T=>(match P.underlying T with|some (.pointer E')=>E==E'|_=>false)
 | .iN U a,T=>(match P.underlying T with|some (.interface _)=>ux P a U|_=>false)
 |_,_=>false
def GX(P:Program):List AV->List Field->Bool
 |[],[]=>true
 |a::l,f::fs=>ux P a f.type&&GX P l fs
 |_,_=>false
end
def dK(P:Program)(T:TypeId):Bool:=
 match P.underlying T with
 |some (.struct _)=>true
 |some (.array _ _)=>true
 |_=>false
def ml(P:Program):Nat->TypeId->List Value->Option (AV×List Value)
 |0,_,_=>none
 |d+1,T,cs=>
  match P.underlying T with
  |some (.struct fs)=>(match zfields (ml P d) fs.toList cs with|some (l,r)=>some (.agg l,r)|none=>none)
  |some (.array _ _)=>none
  |some _=>(match cs with|v::r=>if a9 v then some (.lit v,r) else none|[]=>none)
  |none=>none
where
 zfields (g:TypeId->List Value->Option (AV×List Value)):List Field->List Value->Option (List AV×List Value)
  |[],cs=>some ([],cs)
  |f::fs,cs=>
   match g f.type cs with
   |some (a,r)=>(match zfields g fs r with|some (l,r')=>some (a::l,r')|none=>none)
   |none=>none
def bX:Nat:=6
def gG(P:Program)(T:TypeId):Option AV:=
 match P.info? T with
 | some i=>
  match i.zero with
  | some (.agg cs)=>
   (match ml P bX T cs.toList with
    |some (.agg l,[])=>if dK P T&&ux P (.agg l) T then some (.agg l) else none
    |_=>none)
  |some v=>if dK P T|| !a9 v|| !ux P (.lit v) T then none else some (.lit v)
  |none=>none
 |none=>none
mutual
def cQ:AV->Bool
 | .cK=>false
 | .aX _=>false
 | .agg l=>dA l
 | .lit v=>a9 v
 |_=>true
def dA:List AV->Bool
 |[]=>true
 |a::l=>cQ a&&dA l
end
mutual
def pU:AV->Bool
 | .cK=>false
 | .aX _=>false
 | .agg l=>tt l
 |_=>true
def tt:List AV->Bool
 |[]=>true
 |a::l=>pU a&&tt l
end
mutual
theorem qQ{C:Ctx}: ∀(a:AV) (s:Src) (o:Nat),pU a=true->M C a s o->cQ a=true
 | .lit v,s,o,_,h=>by simp only[M] at h;simp only[cQ];exact h.2
 | .agg l,s,o,h,hm=>by
  simp only[pU] at h
  simp only[M] at hm
  simp only[cQ]
  exact yc l s o h hm
 | .cK,_,_,h,_| .aX _,_,_,h,_=>by simp[pU] at h
 | .ad _ _,_,_,_,_| .aB _ _ _,_,_,_,_| .ptr _ _ _ _,_,_,_,_| .iY _ _,_,_,_,_| .mp _,_,_,_,_| .de _,_,_,_,_| .jV _ _,_,_,_,_| .bq _ _,_,_,_,_| .iN _ _,_,_,_,_| .fJ _ _ _ _,_,_,_,_=>by simp[cQ]
theorem yc{C:Ctx}: ∀(l:List AV) (s:Src) (o:Nat),tt l=true->ML C l s o->dA l=true
 |[],_,_,_,_=>by simp[dA]
 |a::l,s,o,h,hm=>by
  simp only[tt,aa1] at h
  simp only[ML] at hm
  simp only[dA,aa1]
  exact⟨qQ a s o h.1 hm.1,yc l s _ h.2 hm.2⟩
end
def lT:AV->List Nat->AV
 |a,[]=>a
 |a,j::p=>lT (af a j) p
def fF:AV->List Nat->AV->AV
 |_,[],x=>x
 | .agg l,j::p,x=> .agg (bJ l j (fF (nth l j) p x))
 |a,_::_,_=>a
def gW:List AV->Nat->Nat
 |[],_=>0
 |_,0=>0
 |a::l,j+1=>wid a+gW l j
def gH:AV->List Nat->Nat
 |_,[]=>0
 | .agg l,j::p=>gW l j+gH (nth l j) p
 |_,_::_=>0
def mL:AV->List Nat->Bool
 |_,[]=>true
 | .agg l,j::p=>decide (j<l.length)&&mL (nth l j) p
 |_,_::_=>false
def ND:AV->Option (IntKind×Int)
 | .lit (.int k n)=>some (k,n)
 |_=>none
def mG(P:Program)(st:List Obj)(T:TypeId):AV->Option (Bool×AV)
 | .ptr i k path off=>
  match an st i with
  | .box _ a=>
   let y:=lT a path
   if mL a path&&gH a path==off&&dK P T==bO y&&wid y==P.cellsOf T&&(P.underlying T).isSome then some (true,y) else none
  | .rows T0 _ ls none=>(match path,off with|[],0=>if dK P T==false&&P.cellsOf T==1&&T==T0&&(P.underlying T).isSome then some (true, .aB i (Nat.succ k) (ej ls k).length) else none|_,_=>none)
  | o=>
   match gC o with
   |some (T0,xs)=>
    let a:=expand P bX T0 (nth xs k)
    let y:=lT a path
    if mL a path&&gH a path==off&&dK P T==bO y&&wid y==P.cellsOf T&&(P.underlying T).isSome then some (true,y) else none
   |none=>none
 | .iY T0 a=>
  let y:=expand P bX T0 a
  if dK P T==bO y&&wid y==P.cellsOf T&&(P.underlying T).isSome then some (true,y) else none
 |_=>none
def re(es:List (Value×AV))(k:Value):Bool:=
 match es with
 |[]=>false
 |(k',_)::es=>dm k k'||re es k
def dO(es:List (Value×AV))(k:Value)(z:AV):AV:=
 match es with
 |[]=>z
 |(k',a)::es=>bif dm k k' then a else dO es k z
def eX(es:List (Value×AV))(k:Value)(a:AV):List (Value×AV):=
 match es with
 |[]=>[(k,a)]
 |(k',a')::es=>bif dm k k' then(k,a)::es else(k',a')::eX es k a
def TB(op:BinOp)(k:IntKind)(x y:Int):Option (Bool×AV):=
 match op with
 | .add=>some (true, .lit (.int k (k.wrap (x+y))))
 | .sub=>some (true, .lit (.int k (k.wrap (x - y))))
 | .mul=>some (true, .lit (.int k (k.wrap (x*y))))
 | .quo=>some (y != 0, .lit (.int k (k.wrap (x.tdiv y))))
 | .rem=>some (y != 0, .lit (.int k (x.tmod y)))
 | .eql=>some (true, .lit (.bool (x==y)))
 | .neq=>some (true, .lit (.bool (x != y)))
 | .lss=>some (true, .lit (.bool (decide (x<y))))
 | .leq=>some (true, .lit (.bool (decide (x<=y))))
 | .gtr=>some (true, .lit (.bool (decide (x>y))))
 | .geq=>some (true, .lit (.bool (decide (x>=y))))
 | .shl=>some (decide (0<=y), .lit (.int k (k.wrap (x*2 ^ (min y.toNat k.bits)))))
 | .shr=>some (decide (0<=y), .lit (.int k (x.fdiv (2 ^ (min y.toNat k.bits)))))
 | .and=>some (true, .lit (.int k (k.wrap (BitVec.ofInt k.bits x&&& BitVec.ofInt k.bits y).toNat)))
 | .or=>some (true, .lit (.int k (k.wrap (BitVec.ofInt k.bits x|||BitVec.ofInt k.bits y).toNat)))
 |_=>none
def Rc(op:BinOp)(k:IntKind)(x y:Int):Option (Bool×AV):=
 match op with
 | .shl=>some (decide (0<=y), .lit (.int k (k.wrap (x*2 ^ (min y.toNat k.bits)))))
 | .shr=>some (decide (0<=y), .lit (.int k (x.fdiv (2 ^ (min y.toNat k.bits)))))
 |_=>none
def Ue(op:BinOp)(x y:ByteArray):Option (Bool×AV):=
 match op with
 | .add=>some (Nat.ble (x.size+y.size) 9223372036854775807, .lit (.string (x++y)))
 | .eql=>some (true, .lit (.bool (x.toList==y.toList)))
 | .neq=>some (true, .lit (.bool !(x.toList==y.toList)))
 | .lss=>some (true, .lit (.bool (Op.bytesLess x.toList y.toList)))
 | .gtr=>some (true, .lit (.bool (!(Op.bytesLess x.toList y.toList||x.toList==y.toList))))
 |_=>none
def ON(op:BinOp)(a b:AV):Option (Bool×AV):=
 match a,b with
 | .lit (.int k x), .lit (.int k' y)=>if k=k' then TB op k x y else Rc op k x y
 | .lit (.string x), .lit (.string y)=>Ue op x y
 |_,_=>none
def WD(P:Program)(T:TypeId):AV->AV->Option Bool
 | .lit (.int k x), .lit (.int k' y)=>(match P.underlying T with|some (.int _)=>if k=k' then some (x==y) else none|_=>none)
 | .lit (.string x), .lit (.string y)=>(match P.underlying T with|some .string=>some (x.toList==y.toList)|_=>none)
 | .lit (.bool x), .lit (.bool y)=>(match P.underlying T with|some .bool=>some (x==y)|_=>none)
 |_,_=>none
def N6(P:Program):List Field->List AV->List AV->Nat->Option Bool
 |[],[],[],_=>some true
 | f::fs,a::l,b::m,j=>
  if f.name != "_" &&Nat.beq f.offset j then
   (match WD P f.type a b with
    |some x=>(match N6 P fs l m (j+1) with|some y=>some (x&&y)|none=>none)
    |none=>none)
  else none
 |_,_,_,_=>none
def Kk(P:Program)(op:BinOp)(T:TypeId)(a b:AV):Option (Bool×AV):=
 match a,b with
 | .agg l, .agg m=>
  (match P.underlying T with
   |some (.struct fs)=>
    if P.stoodInHeld T||P.eqGuardType P.depth T then none else
    (match N6 P fs.toList l m 0 with
    |some e=>(match op with| .eql=>some (true, .lit (.bool e))| .neq=>some (true, .lit (.bool (!e)))|_=>none)
    |none=>none)
   |_=>none)
 | .lit (.bool x), .lit (.bool y)=>
  (match P.underlying T with
   |some .bool=>
    (match op with
    | .eql=>some (true, .lit (.bool (x==y)))
    | .neq=>some (true, .lit (.bool (!(x==y))))
    |_=>none)
   |_=>none)
 |_,_=>none
def LC:Obj->Bool
 | .row _ _| .kC _ _| .rows _ _ _ _=>true
 |_=>false
def zP(P:Program)(st:List Obj)(T:TypeId)(a:AV):Option AV:=
 match P.underlying T,a with
 |some .string, .lit (.string s)=>some (.lit (.int .i64 s.size))
 |some (.map _ _), .lit (.map none)=>some (.lit (.int .i64 0))
 |some (.map _ _), .mp i=>(match an st i with| .map _ _ es=>some (.lit (.int .i64 es.length))|_=>none)
 |some (.slice _), .lit (.slice none 0 0)=>some (.lit (.int .i64 0))
 |some (.slice _), .aB i _ n=>(match LC (an st i) with|true=>some (.lit (.int .i64 n))|false=>none)
 |some (.map _ _), .fJ _ _ ks _=>some (.lit (.int .i64 ks.length))
 |some (.slice _), .ad _ l=>some (.lit (.int .i64 l.length))
 |_,_=>none
def fG(s:S)(o:Option Operand)(d:Nat):Option Int:=
 match o with
 |none=>some d
 |some x=>(ND (ev s x)).map (·.2)
def pK(P:Program)(s:S)(T:TypeId)(x:AV)(lo hi:Option Operand):Option (Bool×AV):=
 match x with
 | .lit (.string b)=>
  match P.underlying T,fG s lo 0,fG s hi b.size with
  |some .string,some l,some h=>some (decide (0<=l)&&decide (l<=h)&&decide (h<=b.size), .lit (.string (b.extract l.toNat h.toNat)))
  |_,_,_=>none
 | .ad E l0=>
  match P.underlying T,fG s lo 0,fG s hi l0.length with
  |some (.slice E'),some l,some h=>
   if E=E'/\(P.underlying E).isSome=true then some (decide (0<=l)&&decide (l<=h)&&decide (h<=l0.length), .ad E ((l0.take h.toNat).drop l.toNat)) else none
  |_,_,_=>none
 | .aB i lo0 n=>
  match P.underlying T,gC (an s.st i),fG s lo 0,fG s hi n with
  |some (.slice E'),some (E,_),some l,some h=>
   if E=E'/\(P.underlying E).isSome=true then some (decide (0<=l)&&decide (l<=h)&&decide (h<=n), .aB i (lo0+l.toNat) (h - l).toNat) else none
  |_,_,_,_=>none
 |_=>none
def uq(s:S):Option Operand->Option Int
 |none=>none
 |some x=>(ND (ev s x)).map (·.2)
def lZ(P:Program)(s:S)(T:TypeId)(x:AV)(lo hi:Option Operand)(m:Operand):Option (Bool×AV):=
 match x,lo with
 | .aB i 0 n,none=>
  match P.underlying T,gC (an s.st i),uq s hi,uq s (some m) with
  |some (.slice E'),some (E,_),some h,some mx=>
   if E=E'/\(P.underlying E).isSome=true then some (decide (0<=h)&&decide (h<=mx)&&decide (mx<=n), .aB i 0 h.toNat) else none
  |_,_,_,_=>none
 |_,_=>none
def gf(P:Program)(s:S)(T:TypeId)(x i:AV):Option (Bool×AV):=
 match P.underlying T,ND i with
 | some (.slice E),some (_,n)=>
  match x with
  | .ad E' l=>if E=E'/\(P.underlying E).isSome=true then some (decide (0<=n)&&decide (n<l.length), .iY E (nth l n.toNat)) else none
  | .aB j lo len=>
   match gC (an s.st j) with
   |some (E',_)=>if E=E'/\(P.underlying E).isSome=true then some (decide (0<=n)&&decide (n<len), .ptr j (lo+n.toNat) [] 0) else none
   |none=>
    match an s.st j,lo with
    | .rows E' _ _ _,0=>if E=E'/\(P.underlying E).isSome=true/\P.cellsOf E=1 then some (decide (0<=n)&&decide (n<len), .ptr j n.toNat [] 0) else none
    |_,_=>none
  |_=>none
 |some (.array len E),some (_,n)=>
  match x with
  | .lit (.pointer (some ⟨g,off,none⟩))=>if(P.underlying E).isSome=true/\P.cellsOf E=1 then some (decide (0<=n)&&decide (n<len), .lit (.pointer (some ⟨g,off+n.toNat,none⟩))) else none
  |_=>none
 |_,_=>none
def fieldsOf(P:Program)(T:TypeId):List Field:=
 match P.underlying T with
 |some (.struct fs)=>fs.toList
 |_=>[]
def mA:List Field->Nat->Option Field
 |[],_=>none
 |f::_,0=>some f
 |_::l,n+1=>mA l n
def kq(st:List Obj)(i:Nat):Bool:=
 match an st i with
 | .box _ _| .row _ _| .kC _ _=>true
 |_=>false
def gr(P:Program)(st:List Obj)(T:TypeId)(x:AV)(f:Nat):Option (Bool×AV):=
 match mA (fieldsOf P T) f with
 |none=>none
 | some fd=>
  if P.cellsOf fd.type=0 then none else
  match x with
  | .ptr i k path off=>if kq st i then some (true, .ptr i k (path++[f]) (off+fd.offset)) else none
  | .iY T0 a=>
   match expand P bX T0 a with
   | .agg l=>
    if T0=T&&decide (f<l.length)&&gW l f==fd.offset then some (true, .iY fd.type (nth l f)) else none
   |_=>none
  |_=>none
def CK(P:Program)(T:TypeId)(x:AV)(f:Nat):Option (Bool×AV):=
 match mA (fieldsOf P T) f,x with
 |some fd, .agg l=>
  if decide (f<l.length)&&gW l f==fd.offset&&wid (nth l f)==P.cellsOf fd.type&&dK P fd.type==bO (nth l f)&&(P.underlying fd.type).isSome&&cQ (nth l f) then some (true,nth l f) else none
 |_,_=>none
def mi(P:Program)(s:S)(T:TypeId)(m k:AV)(ok:Bool):Option (Bool×AV):=
 match P.underlying T,k with
 | some (.map K V), .lit kv=>
  match plainKey P K kv,gG P V,m with
  | true,some z, .mp i=>
   match an s.st i with
   | .map K' V' es=>
    if K=K'/\V=V' then
     let v:=expand P bX V (dO es kv z)
     some (true,if ok then .aX [v, .lit (.bool (re es kv))] else v)
    else none
   |_=>none
  | true,some z, .fJ K' V' ks vs=>
   if K=K'/\V=V' then
    let v:=expand P bX V (dO (ks.zip vs) kv z)
    some (true,if ok then .aX [v, .lit (.bool (re (ks.zip vs) kv))] else v)
   else none
  |true,some z, .lit (.map none)=>some (true,if ok then .aX [z, .lit (.bool false)] else z)
  |_,_,_=>none
 |_,_=>none
def wi(P:Program)(T:TypeId)(l:List AV):List (Nat×AV)->Option AV
 |[]=>some (.agg l)
 | (i,x)::ps=>
  match mA (fieldsOf P T) i with
  |none=>none
  | some fd=>
   if cQ x&&decide (i<l.length)&&gW l i==fd.offset&&wid x==P.cellsOf fd.type&&wid (nth l i)==P.cellsOf fd.type then
    wi P T (bJ l i x) ps
   else none
def fh(s:S):List (Nat×Operand)->List (Nat×AV)
 |[]=>[]
 |(i,x)::l=>(i,ev s x)::fh s l
def mQ(s:S):List Operand->List AV
 |[]=>[]
 |x::l=>ev s x::mQ s l
def qs(st:List Obj)(a:AV):Option AV:=
 match a with
 | .aB i (k+1) m=>(match an st i with| .rows _ E ls _=>some (.ad E (((ej ls k).take m).map .lit))|_=>bW st a)
 |_=>bW st a
def fj(st:List Obj):List AV->Option (List AV)
 |[]=>some []
 |a::l=>
  match qs st a,fj st l with
  |some b,some m=>some (b::m)
  |_,_=>none
def IA(P:Pg)(T:TypeId):AV->Option Value
 | .lit (.pointer (some ⟨g,0,none⟩))=>
  (match P.kept g with
   |some (.cells cs _ _)=>(match cs.toList with|[v]=>if a9 v&& !(dK P T)&&(P.underlying T).isSome then some v else none|_=>none)
   |_=>none)
 |_=>none
def WE:List Value->Bool
 |[]=>true
 | .int .u8 _::l=>WE l
 |_=>false
def OJ(P:Pg)(g k:Nat):Int:=
 match P.kept g with
 |some (.cells cs _ _)=>(match cs[k]? with|some (.int _ n)=>n|_=>0)
 |_=>0
def OB(P:Pg)(T:TypeId):AV->Option (Bool×AV)
 | .lit (.pointer (some ⟨g,off,none⟩))=>
  (match P.kept g with
   |some (.cells cs _ _)=>(match cs.toList with|_::_::_=>(match P.underlying T with|some (.int .u8)=>if WE cs.toList then some (decide (off<cs.size), .lit (.int .u8 (OJ P g off))) else none|_=>none)|_=>none)
   |_=>none)
 |_=>none
def ay:Value->Bool
 | .nilIface=>true
 | .iface _ _=>true
 |_=>false
def bI:Value->Bool
 | .nilIface=>true
 |_=>false
def I4:AV->Option (Bool×Bool)
 | .lit u=>some (ay u,bI u)
 | .iN _ _=>some (true,false)
 |_=>none
def Pd(P:Program)(op:BinOp)(T:TypeId)(y:Operand)(a:AV):Option (Bool×AV):=
 match y with
 | .const .nilIface=>
  (match P.underlying T,I4 a with
   |some (.interface _),some (c,b)=>
    (match op with
    | .eql=>some (c, .lit (.bool b))
    | .neq=>some (c, .lit (.bool (!b)))
    |_=>none)
   |_,_=>none)
 |_=>none
def BH(P:Program)(T:TypeId)(a:AV):Option (Bool×AV):=
 match P.underlying T with
 |none=>none
 |some (.interface _)=>none
 | some _=>
  (match a with
   | .lit v=>some (true, .lit (.iface T v))
   | .cK=>none
   |a=>some (true, .iN T a))
def NH(P:Program)(S T:TypeId)(a:AV):Option (Bool×AV):=
 match P.underlying S,P.underlying T,a with
 |some _,some (.int k), .lit (.int _ n)=>some (true, .lit (.int k (k.wrap n)))
 |_,_,_=>none
def bytesOf(l:List AV):ByteArray:=⟨(l.map fun a=>UInt8.ofNat (toInt a).toNat).toArray⟩
def Bm(P:Program)(st:List Obj)(S T:TypeId)(a:AV):Option (Bool×AV):=
 match P.underlying S,P.underlying T with
 | some (.slice E),some .string=>
  (match P.underlying E with
   | some (.int .u8)=>
    if P.cellsOf E=1 then
     (match a with
     | .lit (.slice none 0 0)=>some (true, .lit (.string ⟨#[]⟩))
     | .ad E' l=>if E=E' then some (true, .lit (.string (bytesOf l))) else none
     | .aB i lo n=>(match gC (an st i) with
      |some (E',l)=>if E=E' then some (true, .lit (.string (bytesOf ((l.drop lo).take n)))) else none
      |none=>none)
     |_=>none)
    else none
   |_=>none)
 |_,_=>NH P S T a
def DY(P:Program)(T:TypeId)(a:AV):AV:=
 match P.underlying T with
 |some (.struct _)=>(match a with| .agg _=>(match ux P a T with|true=>expand P bX T a|false=>a)|a=>a)
 |some (.slice _)=>(match a with| .lit (.slice none 0 0)=>(match ux P a T with|true=>expand P bX T a|false=>a)|a=>a)
 |_=>a
def pg(P:Program):List TypeId->List AV->List AV
 |T::Ts,a::l=>DY P T a::pg P Ts l
 |_,l=>l
def ku(P:Program)(f:FuncId):List TypeId:=
 match P.funcs[f]? with
 |some fn=>fn.params.toList
 |none=>[]
def CT(s:ByteArray)(k:Nat):Nat:=
 match s[k]? with
 |some b=>b.toNat
 |none=>0
def Cx(P:Program)(T:TypeId)(x i:AV):Option (Bool×AV):=
 match P.underlying T,x,ND i with
 |some .string, .lit (.string s),some (_,n)=>some (decide (0<=n)&&decide (n<s.size), .lit (.int .u8 (CT s n.toNat)))
 |_,_,_=>none
def bF(E:Env)(s:S)(o:Op):Option (Bool×AV):=
 match o with
 | .move x=>some (true,ev s x)
 | .assign x=>some (true,ev s x)
 | .load T x=>(match OB E.P T (ev s x) with|some r=>some r|none=>(match IA E.P T (ev s x) with|some v=>some (true, .lit v)|none=>mG E.P s.st T (ev s x)))
 | .makeInterface T x=>BH E.P T (ev s x)
 | .convert S T x=>Bm E.P s.st S T (ev s x)
 | .nilCheck x=>
  (match ev s x with
   | .ptr i k p off=>if kq s.st i then some (true, .ptr i k p off) else none
   | .iY T a=>some (true, .iY T a)
   | .bq f caps=>some (true, .bq f caps)
   |_=>none)
 | .binOp op T x y _=>(match Pd E.P op T y (ev s x) with|some r=>some r|none=>(match Kk E.P op T (ev s x) (ev s y) with|some r=>some r|none=>ON op (ev s x) (ev s y)))
 | .unOp op _ x=>
  (match op,ev s x with
   | .not, .lit (.bool b)=>some (true, .lit (.bool (!b)))
   | .neg, .lit (.int k n)=>some (true, .lit (.int k (k.wrap (0 - n))))
   |_,_=>none)
 | .slice T x lo hi none=>pK E.P s T (ev s x) lo hi
 | .slice T x lo hi (some m)=>lZ E.P s T (ev s x) lo hi m
 | .fieldAddr T x f=>gr E.P s.st T (ev s x) f
 | .field T x f=>CK E.P T (ev s x) f
 | .indexAddr T x i=>gf E.P s T (ev s x) (ev s i)
 | .index T x i=>Cx E.P T (ev s x) (ev s i)
 | .lookup T m k ok=>mi E.P s T (ev s m) (ev s k) ok
 | .extract x i=>(match ev s x with| .aX l=>if i<l.length then some (true,nth l i) else none|_=>none)
 | .makeFunc (.func f) first caps=>if first.size=0 then some (true, .bq f (mQ s caps.toList)) else none
 | .build T parts=>
  (match gG E.P T with
   |some (.agg l)=>(match wi E.P T l (fh s parts.toList) with|some a=>some (true,a)|none=>none)
   |_=>none)
 | .call {callee:= .builtin .len,args,argTypes}=>
  (match mQ s args.toList,argTypes.toList with
   |[a],T::_=>(match zP E.P s.st T a with|some x=>some (true,x)|none=>none)
   |_,_=>none)
 | .call {callee:= .builtin .min,args, .. }=>
  (match mQ s args.toList with
   |[.lit (.int k x), .lit (.int k' y)]=>if k=k' then some (true, .lit (.int k (if y<x then y else x))) else none
   |_=>none)
 | .call {callee:= .builtin .max,args, .. }=>
  (match mQ s args.toList with
   |[.lit (.int k x), .lit (.int k' y)]=>if k=k' then some (true, .lit (.int k (if y>x then y else x))) else none
   |_=>none)
 | .call {callee:= .value (.func f),args, .. }=>
  (match fj s.st (mQ s args.toList) with
   |some as=>E.fu f (pg E.P (ku E.P f) as)
   |none=>none)
 |_=>none
end Go.Dn
