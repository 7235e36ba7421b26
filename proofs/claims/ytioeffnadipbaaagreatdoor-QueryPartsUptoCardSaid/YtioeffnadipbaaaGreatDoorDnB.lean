import Derived.Test.YtioeffnadipbaaaGreatDoorDnA
namespace Go.Dn
open Go
structure S where
 bz:List AV
 st:List Obj
structure Env where
 P:Pg
 call:FuncId->List AV->List Obj->(AV->List Obj->Prop)->Prop
 fN:FuncId->List AV->Option (Bool×AV)
 loop:FuncId->Nat->Code->Option Nat->Nat->S->(Exit->S->Prop)->Prop
 lB:FuncId->Nat->FuncId->List AV->List Obj->(List Obj->Prop)->Prop
 gen:FuncId->Bool
 inl:FuncId->Bool
 live:FuncId->Nat->List (Nat×Option TypeId)
 own:FuncId->Bool
 quiet:FuncId->Bool
 fresh:FuncId->Bool:=fun _=>false
 calm:FuncId->Bool:=fun _=>false
def ev(s:S):Operand->AV
 | .tmp t=>nth s.bz t
 | .const v=>if bg v then .lit v else .cK
 | .global g=> .lit (.pointer (some ⟨g,0,none⟩))
 | .func f=> .bp f []
def put(s:S)(b:Option Tmp)(a:AV):=
 match b with
 |none=>s
 |some d=>{s with bz:=bQ s.bz d a}
def aG b(p:Prop):=
 match b with
 |true=>p
 |false=>False
theorem ai{b p}:aG b p↔b=true/\p:=by
 cases b<;>simp[aG]
theorem cj{b p q}(h:p->q)(a:aG b p):aG b q:=by
 cases b
 ·exact a
 ·exact h a
def an b(p q:Prop):=
 match b with
 |true=>p
 |false=>q
def qc(st:List Obj):AV->Option (Option TypeId×List AV)
 | .lit (.slice none 0 0)=>some (none,[])
 | .ad T l=>some (some T,l)
 | .ax i lo n=>
  match ib (au st i) with
  |some (T,xs)=>some (some T,(xs.drop lo).take n)
  |none=>match au st i,lo with| .rows _ E a _,k+1=>some (some E,((ez a k).take n).map .lit)|_,_=>none
 |_=>none
mutual
def b9(st:List Obj):AV->Option AV
 | .lit v=>some (.lit v)
 | .ad T l=>some (.ad T l)
 | .ax i lo n=>
  match ib (au st i) with
  |some (T,xs)=>some (.ad T ((xs.drop lo).take n))
  |none=>none
 | .agg l=>(lV st l).map .agg
 | .jA T a=>some (.jA T a)
 | .jz T a=>(b9 st a).map (.jz T ·)
 | .bp f []=>some (.bp f [])
 | .eO K V ks vs=>some (.eO K V ks vs)
 | .mp i=>(match au st i with| .map K V es=>some (.eO K V (es.map (·.1)) (es.map (·.2)))|_=>none)
 |_=>none
def lV(st:List Obj):List AV->Option (List AV)
 |[]=>some []
 |a::l=>
  match b9 st a,lV st l with
  |some b,some m=>some (b::m)
  |_,_=>none
end
mutual
def rowsOf:AV->List Nat
 | .ax i _ _=>[i]
 | .mp i=>[i]
 | .agg l=>sH l
 | .jz _ a=>rowsOf a
 |_=>[]
def sH:List AV->List Nat
 |[]=>[]
 |a::l=>rowsOf a++sH l
end
def jP:Obj->Obj
 | .row T xs=> .lD T xs
 | .map _ _ _=> .dead
 |o=>o
def cQ(st:List Obj):List Nat->List Obj
 |[]=>st
 |i::l=>cQ (dj st i (jP (au st i))) l
mutual
def wa(P:Program):AV->TypeId->Bool
 | .lit v,T=>
  match P.underlying T with
  |some (.int k)=>(match v with| .int k' _=>k==k'|_=>false)
  |some .bool=>(match v with| .bool _=>true|_=>false)
  |some .string=>(match v with| .string _=>true|_=>false)
  |some (.slice _)=>(match v with| .slice none 0 0=>true|_=>false)
  |some (.map _ _)=>(match v with| .map none=>true|_=>false)
  |some (.struct _)=>false
  |some (.array _ _)=>false
  |some _=>true
  |none=>false
 | .ad E _,T=>(match P.underlying T with|some (.slice E')=>E==E'|_=>false)
 | .agg l,T=>(match P.underlying T with|some (.struct fs)=>Nat.blt T P.types.size&&IW P l fs.toList|_=>false)
 | .eO K V _ _,T=>(match P.underlying T with|some (.map K' V')=>K==K'&&V==V'|_=>false)
 | .jA E _,T=>(match P.underlying T with|some (.pointer E')=>E==E'|_=>false)
 | .jz U a,T=>(match P.underlying T with|some (.interface _)=>wa P a U|_=>false)
 |_,_=>false
def IW(P:Program):List AV->List Field->Bool
 |[],[]=>true
 |a::l,f::fs=>wa P a f.type&&IW P l fs
 |_,_=>false
end
def dJ(P:Program)(T:TypeId):Bool:=
 match P.underlying T with
 |some (.struct _)=>true
 |some (.array _ _)=>true
 |_=>false
def nX(P:Program):Nat->TypeId->List Value->Option (AV×List Value)
 |0,_,_=>none
 |d+1,T,cs=>
  match P.underlying T with
  |some (.struct fs)=>(match zfields (nX P d) fs.toList cs with|some (l,r)=>some (.agg l,r)|none=>none)
  |some (.array _ _)=>none
  |some _=>(match cs with|v::r=>if bg v then some (.lit v,r) else none|[]=>none)
  |none=>none
where
 zfields (g:TypeId->List Value->Option (AV×List Value)):List Field->List Value->Option (List AV×List Value)
  |[],cs=>some ([],cs)
  |f::fs,cs=>
   match g f.type cs with
   |some (a,r)=>(match zfields g fs r with|some (l,r')=>some (a::l,r')|none=>none)
   |none=>none
def cd:Nat:=6
def iC(P:Program)(T:TypeId):Option AV:=
 match P.info? T with
 | some i=>
  match i.zero with
  | some (.agg a)=>
   match nX P cd T a.toList with
    |some (.agg l,[])=>if dJ P T&&wa P (.agg l) T then some (.agg l) else none
    |_=>none
  |some v=>if dJ P T|| !bg v|| !wa P (.lit v) T then none else some (.lit v)
  |none=>none
 |none=>none
mutual
def cR:AV->Bool
 | .cK=>false
 | .aK _=>false
 | .agg l=>dL l
 | .lit v=>bg v
 |_=>true
def dL:List AV->Bool
 |[]=>true
 |a::l=>cR a&&dL l
end
mutual
def rr:AV->Bool
 | .cK=>false
 | .aK _=>false
 | .agg l=>vE l
 |_=>true
def vE:List AV->Bool
 |[]=>true
 |a::l=>rr a&&vE l
end
mutual
theorem sL{C:Ctx}: ∀(a:AV) (s:Src) (o:Nat),rr a=true->M C a s o->cR a=true
 | .lit v,s,o,_,h=>by simp only[M] at h;simp only[cR];exact h.2
 | .agg l,s,o,h,hm=>by
  simp only[rr] at h;simp only[M] at hm;simp only[cR];exact zP l s o h hm
 | .cK,_,_,h,_| .aK _,_,_,h,_=>by simp[rr] at h
 | .ad _ _,_,_,_,_| .ax _ _ _,_,_,_,_| .ptr _ _ _ _,_,_,_,_| .jA _ _,_,_,_,_| .mp _,_,_,_,_| .bJ _,_,_,_,_| .lC _ _,_,_,_,_| .bp _ _,_,_,_,_| .jz _ _,_,_,_,_| .eO _ _ _ _,_,_,_,_=>by simp[cR]
theorem zP{C:Ctx}: ∀(l:List AV) (s:Src) (o:Nat),vE l=true->ML C l s o->dL l=true
 |[],_,_,_,_=>by simp[dL]
 |a::l,s,o,h,hm=>by
  simp only[vE,an3] at h;simp only[ML] at hm;simp only[dL,an3];exact⟨sL a s o h.1 hm.1,zP l s _ h.2 hm.2⟩
end
def og:AV->List Nat->AV
 |a,[]=>a
 |a,j::p=>og (af a j) p
def gD:AV->List Nat->AV->AV
 |_,[],x=>x
 | .agg l,j::p,x=> .agg (bQ l j (gD (nth l j) p x))
 |a,_::_,_=>a
def mm:List AV->Nat->Nat
 |[],_=>0
 |_,0=>0
 |a::l,j+1=>wid a+mm l j
def jm:AV->List Nat->Nat
 |_,[]=>0
 | .agg l,j::p=>mm l j+jm (nth l j) p
 |_,_::_=>0
def oi:AV->List Nat->Bool
 |_,[]=>true
 | .agg l,j::p=>decide (j<l.length)&&oi (nth l j) p
 |_,_::_=>false
def RK:AV->Option (IntKind×Int)
 | .lit (.int k n)=>some (k,n)
 |_=>none
def n8(P:Program)(st:List Obj)(T:TypeId):AV->Option (Bool×AV)
 | .ptr i k b off=>
  match au st i with
  | .box _ a=>
   let y:=og a b
   if oi a b&&jm a b==off&&dJ P T==bV y&&wid y==P.cellsOf T&&(P.underlying T).isSome then some (true,y) else none
  | .rows c _ d none=>match b,off with|[],0=>if dJ P T==false&&P.cellsOf T==1&&T==c&&(P.underlying T).isSome then some (true, .ax i (Nat.succ k) (ez d k).length) else none|_,_=>none
  | o=>
   match ib o with
   |some (c,xs)=>
    let a:=expand P cd c (nth xs k)
    let y:=og a b
    if oi a b&&jm a b==off&&dJ P T==bV y&&wid y==P.cellsOf T&&(P.underlying T).isSome then some (true,y) else none
   |none=>none
 | .jA c a=>
  let y:=expand P cd c a
  if dJ P T==bV y&&wid y==P.cellsOf T&&(P.underlying T).isSome then some (true,y) else none
 |_=>none
def r7(es:List (Value×AV))(k:Value):Bool:=
 match es with
 |[]=>false
 |(k',_)::es=>eM k k'||r7 es k
def de(es:List (Value×AV))(k:Value)(z:AV):AV:=
 match es with
 |[]=>z
 |(k',a)::es=>bif eM k k' then a else de es k z
def fw(es:List (Value×AV))(k:Value)(a:AV):List (Value×AV):=
 match es with
 |[]=>[(k,a)]
 |(k',a')::es=>bif eM k k' then(k,a)::es else(k',a')::fw es k a
def WE(a:BinOp)(k:IntKind)(x y:Int):Option (Bool×AV):=
 match a with
 | .add=>some (true, .lit (.int k (k.wrap (x+y))))
 | .sub=>some (true, .lit (.int k (k.wrap (x - y))))
 | .mul=>some (true, .lit (.int k (k.wrap (x*y))))
 | .quo=>some (y != 0, .lit (.int k (k.wrap (x.tdiv y))))
 | .rem=>some (y != 0, .lit (.int k (x.tmod y)))
 | .eql=>some (true, .lit (.bool (x==y)))
 | .neq=>some (true, .lit (.bool (x != y)))
 | .lss=>some (true, .lit (.bool (decide (x<y))))
 | .leq=>some (true, .lit (.bool (decide (x<=y))))
 | .gtr=>some (true, .lit (.bool (decide (x>y))))
 | .geq=>some (true, .lit (.bool (decide (x>=y))))
 | .shl=>some (decide (0<=y), .lit (.int k (k.wrap (x*2 ^ (min y.toNat k.bits)))))
 | .shr=>some (decide (0<=y), .lit (.int k (x.fdiv (2 ^ (min y.toNat k.bits)))))
 | .and=>some (true, .lit (.int k (k.wrap (BitVec.ofInt k.bits x&&& BitVec.ofInt k.bits y).toNat)))
 | .or=>some (true, .lit (.int k (k.wrap (BitVec.ofInt _ x|||BitVec.ofInt k.bits y).toNat)))
 |_=>none
def WD(a:BinOp)(k:IntKind)(x y:Int):Option (Bool×AV):=
 match a with
 | .shl=>some (decide (0<=y), .lit (.int k (k.wrap (x*2 ^ min y.toNat k.bits))))
 | .shr=>some (decide (0<=y), .lit (.int k (x.fdiv (2 ^ min y.toNat k.bits))))
 |_=>none
def WG(a:BinOp)(x y:ByteArray):Option (Bool×AV):=
 match a with
 | .add=>some (Nat.ble (x.size+y.size) 9223372036854775807, .lit (.string (x++y)))
 | .eql=>some (true, .lit (.bool (x.toList==y.toList)))
 | .neq=>some (true, .lit (.bool !x.toList==y.toList))
 | .lss=>some (true, .lit (.bool (Op.bytesLess x.toList y.toList)))
 | .gtr=>some (true, .lit (.bool !(Op.bytesLess x.toList y.toList||x.toList==y.toList)))
 |_=>none
def Tz c(a b:AV):=
 match a,b with
 | .lit (.int k x), .lit (.int d y)=>if k=d then WE c k x y else WD c k x y
 | .lit (.string x), .lit (.string y)=>WG c x y
 |_,_=>none
def eqV(P:Program)(T:TypeId):AV->AV->Option Bool
 | .lit (.int k x), .lit (.int a y)=>match P.underlying T with|some (.int _)=>if k=a then some (x==y) else none|_=>none
 | .lit (.string x), .lit (.string y)=>match P.underlying T with|some .string=>some (x.toList==y.toList)|_=>none
 | .lit (.bool x), .lit (.bool y)=>match P.underlying T with|some .bool=>some (x==y)|_=>none
 |_,_=>none
def RQ(P:Program):List Field->List AV->List AV->Nat->Option Bool
 |[],[],[],_=>some true
 | f::fs,a::l,b::m,j=>
  if f.name != "_" &&Nat.beq f.offset j then
   (match eqV P f.type a b with
    |some x=>(match RQ P fs l m (j+1) with|some y=>some (x&&y)|none=>none)
    |none=>none)
  else none
 |_,_,_,_=>none
def Lw(P:Program)(c:BinOp)(T:TypeId)(a b:AV):Option (Bool×AV):=
 match a,b with
 | .agg l, .agg m=>
  match P.underlying T with
   |some (.struct d)=>
    if P.stoodInHeld T||P.eqGuardType P.depth T then none else
    match RQ P d.toList l m 0 with
    |some e=>match c with| .eql=>some (true, .lit (.bool e))| .neq=>some (true, .lit (.bool !e))|_=>none
    |none=>none
   |_=>none
 | .lit (.bool x), .lit (.bool y)=>
  match P.underlying T with
   |some .bool=>
    match c with
    | .eql=>some (true, .lit (.bool (x==y)))
    | .neq=>some (true, .lit (.bool !x==y))
    |_=>none
   |_=>none
 |_,_=>none
def QK:Obj->Bool
 | .row _ _| .lD _ _| .rows _ _ _ _=>true
 |_=>false
def AP(P:Program)(st:List Obj)(T:TypeId)(a:AV):Option AV:=
 match P.underlying T,a with
 |some .string, .lit (.string s)=>some (.lit (.int .i64 s.size))
 |some (.map _ _), .lit (.map none)=>some (.lit (.int .i64 0))
 |some (.map _ _), .mp i=>match au st i with| .map _ _ b=>some (.lit (.int .i64 b.length))|_=>none
 |some (.slice _), .lit (.slice none 0 0)=>some (.lit (.int .i64 0))
 |some (.slice _), .ax i _ n=>match QK (au st i) with|true=>some (.lit (.int .i64 n))|false=>none
 |some (.map _ _), .eO _ _ c _=>some (.lit (.int .i64 c.length))
 |some (.slice _), .ad _ l=>some (.lit (.int .i64 l.length))
 |_,_=>none
def gi(s:S)(o:Option Operand)(d:Nat):Option Int:=
 match o with
 |none=>some d
 |some x=>(RK (ev s x)).map (·.2)
def rq(P:Program)(s:S)(T:TypeId)(x:AV)(lo c:Option Operand):Option (Bool×AV):=
 match x with
 | .lit (.string b)=>
  match P.underlying T,gi s lo 0,gi s c b.size with
  |some .string,some l,some h=>some (decide (0<=l)&&decide (l<=h)&&decide (h<=b.size), .lit (.string (b.extract l.toNat h.toNat)))
  |_,_,_=>none
 | .ad E a=>
  match P.underlying T,gi s lo 0,gi s c a.length with
  |some (.slice d),some l,some h=>
   if E=d/\(P.underlying E).isSome=true then some (decide (0<=l)&&decide (l<=h)&&decide (h<=a.length), .ad E ((a.take h.toNat).drop l.toNat)) else none
  |_,_,_=>none
 | .ax i e n=>
  match P.underlying T,ib (au s.st i),gi s lo 0,gi s c n with
  |some (.slice d),some (E,_),some l,some h=>
   if E=d/\(P.underlying E).isSome=true then some (decide (0<=l)&&decide (l<=h)&&decide (h<=n), .ax i (e+l.toNat) (h - l).toNat) else none
  |_,_,_,_=>none
 |_=>none
def xm(s:S):Option Operand->Option Int
 |none=>none
 |some x=>(RK (ev s x)).map (·.2)
def nP(P:Program)(s:S)(T:TypeId)(x:AV)(lo b:Option Operand)(m:Operand):Option (Bool×AV):=
 match x,lo with
 | .ax i 0 n,none=>
  match P.underlying T,ib (au s.st i),xm s b,xm s (some m) with
  |some (.slice c),some (E,_),some h,some a=>
   if E=c/\(P.underlying E).isSome=true then some (decide (0<=h)&&decide (h<=a)&&decide (a<=n), .ax i 0 h.toNat) else none
  |_,_,_,_=>none
 |_,_=>none
def iR(st:List Obj)(i:Nat):Bool:=
 match au st i with
 | .box _ _| .row _ _| .lD _ _=>true
 |_=>false
def gR(P:Program)(s:S)(T:TypeId)(x i:AV):Option (Bool×AV):=
 match P.underlying T,RK i with
 | some (.slice E),some (_,n)=>
  match x with
  | .ad E' l=>if E=E'/\(P.underlying E).isSome=true then some (decide (0<=n)&&decide (n<l.length), .jA E (nth l n.toNat)) else none
  | .ax j lo len=>
   match ib (au s.st j) with
   |some (E',_)=>if E=E'/\(P.underlying E).isSome=true then some (decide (0<=n)&&decide (n<len), .ptr j (lo+n.toNat) [] 0) else none
   |none=>
    match au s.st j,lo with
    | .rows E' _ _ _,0=>if E=E'/\(P.underlying E).isSome=true/\P.cellsOf E=1 then some (decide (0<=n)&&decide (n<len), .ptr j n.toNat [] 0) else none
    |_,_=>none
  |_=>none
 |some (.array len E),some (_,n)=>
  match x with
  | .lit (.pointer (some ⟨g,off,none⟩))=>if(P.underlying E).isSome=true/\P.cellsOf E=1 then some (decide (0<=n)&&decide (n<len), .lit (.pointer (some ⟨g,off+n.toNat,none⟩))) else none
  | .ptr j k p o=>if(P.underlying E).isSome=true/\P.cellsOf E=1/\iR s.st j=true then some (decide (0<=n)&&decide (n<len), .ptr j k (p++[n.toNat]) (o+n.toNat)) else none
  |_=>none
 |_,_=>none
def fieldsOf(P:Program)(T:TypeId):List Field:=
 match P.underlying T with
 |some (.struct a)=>a.toList
 |_=>[]
def qY:List Field->Nat->Option Field
 |[],_=>none
 |f::_,0=>some f
 |_::l,n+1=>qY l n
def gP(P:Program)(st:List Obj)(T:TypeId)(x:AV)(f:Nat):Option (Bool×AV):=
 match qY (fieldsOf P T) f with
 |none=>none
 | some c=>
  if P.cellsOf c.type=0 then none else
  match x with
  | .ptr i k b off=>if iR st i then some (true, .ptr i k (b++[f]) (off+c.offset)) else none
  | .jA d a=>
   match expand P cd d a with
   | .agg l=>
    if d=T&&decide (f<l.length)&&mm l f==c.offset then some (true, .jA c.type (nth l f)) else none
   |_=>none
  |_=>none
def ES(P:Program)(T:TypeId)(x:AV)(f:Nat):Option (Bool×AV):=
 match qY (fieldsOf P T) f,x with
 |some a, .agg l=>
  if decide (f<l.length)&&mm l f==a.offset&&wid (nth l f)==P.cellsOf a.type&&dJ P a.type==bV (nth l f)&&(P.underlying a.type).isSome&&cR (nth l f) then some (true,nth l f) else none
 |_,_=>none
def nG(P:Program)(s:S)(T:TypeId)(m k:AV)(d:Bool):Option (Bool×AV):=
 match P.underlying T,k with
 | some (.map K V), .lit a=>
  match plainKey P K a,iC P V,m with
  | true,some z, .mp i=>
   match au s.st i with
   | .map b c g=>
    if K=b/\V=c then
     let v:=expand P cd V (de g a z)
     some (true,if d then .aK [v, .lit (.bool (r7 g a))] else v)
    else none
   |_=>none
  | true,some z, .eO b c f e=>
   if K=b/\V=c then
    let v:=expand P cd V (de (f.zip e) a z)
    some (true,if d then .aK [v, .lit (.bool (r7 (f.zip e) a))] else v)
   else none
  |true,some z, .lit (.map none)=>some (true,if d then .aK [z, .lit (.bool false)] else z)
  |_,_,_=>none
 |_,_=>none
def tf(b:Nat->Option (Nat×Nat))(l:List AV):List (Nat×AV)->Option AV
 |[]=>some (.agg l)
 | (i,x)::ps=>
  match b i with
  |none=>none
  | some (off,a)=>
   if cR x&&decide (i<l.length)&&mm l i==off&&wid x==a&&wid (nth l i)==a then
    tf b (bQ l i x) ps
   else none
def FI(P:Program)(T:TypeId)(i:Nat):Option (Nat×Nat):=
 match qY (fieldsOf P T) i with
 |none=>none
 |some a=>some (a.offset,P.cellsOf a.type)
def TD P T l ps:=tf (FI P T) l ps
def PI(P:Program)(T:TypeId):Option (Nat×List AV):=
 match P.underlying T with
 | some (.array _ E)=>
  match P.info? T with
   |some i=>match i.zero with
    |some (.agg a)=>if a.toList.all bg&&(P.underlying E).isSome then some (P.cellsOf E,a.toList.map .lit) else none
    |_=>none
   |none=>none
 |_=>none
def IA(P:Program)(T:TypeId):Option AV:=
 match iC P T with
 |some z=>some z
 |none=>match PI P T with
  |some (_,l)=>if dL l=true then some (.agg l) else none
  |none=>none
def fj(s:S):List (Nat×Operand)->List (Nat×AV)
 |[]=>[]
 |(i,x)::l=>(i,ev s x)::fj s l
def oI(s:S):List Operand->List AV
 |[]=>[]
 |x::l=>ev s x::oI s l
def sv(st:List Obj)(a:AV):Option AV:=
 match a with
 | .ax i (k+1) m=>match au st i with| .rows _ E b _=>some (.ad E (((ez b k).take m).map .lit))|_=>b9 st a
 |_=>b9 st a
def fP(st:List Obj):List AV->Option (List AV)
 |[]=>some []
 |a::l=>
  match sv st a,fP st l with
  |some b,some m=>some (b::m)
  |_,_=>none
def Ma(P:Pg)(T:TypeId):AV->Option Value
 | .lit (.pointer (some ⟨g,0,none⟩))=>
  match P.kept g with
   |some (.cells a _ _)=>match a.toList with|[v]=>if bg v&& !dJ P T&&(P.underlying T).isSome then some v else none|_=>none
   |_=>none
 |_=>none
def u8s:List Value->Bool
 |[]=>true
 | .int .u8 _::l=>u8s l
 |_=>false
def Va(P:Pg)(g k:Nat):Int:=
 match P.kept g with
 |some (.cells a _ _)=>match a[k]? with|some (.int _ n)=>n|_=>0
 |_=>0
def U9(P:Pg)(T:TypeId):AV->Option (Bool×AV)
 | .lit (.pointer (some ⟨g,off,none⟩))=>
  match P.kept g with
   |some (.cells a _ _)=>match a.toList with|_::_::_=>(match P.underlying T with|some (.int .u8)=>if u8s a.toList then some (decide (off<a.size), .lit (.int .u8 (Va P g off))) else none|_=>none)|_=>none
   |_=>none
 |_=>none
def aC:Value->Bool
 | .nilIface=>true
 | .iface _ _=>true
 |_=>false
def bM:Value->Bool
 | .nilIface=>true
 |_=>false
def L6:AV->Option (Bool×Bool)
 | .lit u=>some (aC u,bM u)
 | .jz _ _=>some (true,false)
 |_=>none
def TV(P:Program)(d:BinOp)(T:TypeId)(y:Operand)(a:AV):Option (Bool×AV):=
 match y with
 | .const .nilIface=>
  match P.underlying T,L6 a with
   |some (.interface _),some (c,b)=>
    match d with
    | .eql=>some (c, .lit (.bool b))
    | .neq=>some (c, .lit (.bool !b))
    |_=>none
   |_,_=>none
 |_=>none
def CQ(P:Program)(T:TypeId)(a:AV):Option (Bool×AV):=
 match P.underlying T with
 |none=>none
 |some (.interface _)=>none
 | some _=>
  match a with
   | .lit v=>some (true, .lit (.iface T v))
   | .cK=>none
   |a=>some (true, .jz T a)
def RN(P:Program)(S T:TypeId)(a:AV):Option (Bool×AV):=
 match P.underlying S,P.underlying T,a with
 |some _,some (.int k), .lit (.int _ n)=>some (true, .lit (.int k (k.wrap n)))
 |_,_,_=>none
def bytesOf(l:List AV):ByteArray:=⟨(l.map fun a=>UInt8.ofNat (toInt a).toNat).toArray⟩
def Cs(P:Program)(st:List Obj)(S T:TypeId)(a:AV):Option (Bool×AV):=
 match P.underlying S,P.underlying T with
 | some (.slice E),some .string=>
  match P.underlying E with
   | some (.int .u8)=>
    if P.cellsOf E=1 then
     match a with
     | .lit (.slice none 0 0)=>some (true, .lit (.string ⟨#[]⟩))
     | .ad b l=>if E=b then some (true, .lit (.string (bytesOf l))) else none
     | .ax i lo n=>match ib (au st i) with
      |some (b,l)=>if E=b then some (true, .lit (.string (bytesOf ((l.drop lo).take n)))) else none
      |none=>none
     |_=>none
    else none
   |_=>none
 |_,_=>RN P S T a
def GP(P:Program)(T:TypeId)(a:AV):AV:=
 match P.underlying T with
 |some (.struct _)=>match a with| .agg _=>(match wa P a T with|true=>expand P cd T a|false=>a)|a=>a
 |some (.slice _)=>match a with| .lit (.slice none 0 0)=>(match wa P a T with|true=>expand P cd T a|false=>a)|a=>a
 |_=>a
def r4(P:Program):List TypeId->List AV->List AV
 |T::Ts,a::l=>GP P T a::r4 P Ts l
 |_,l=>l
def mN(P:Program)(f:FuncId):List TypeId:=
 match P.funcs[f]? with
 |some a=>a.params.toList
 |none=>[]
def EA(s:ByteArray)(k:Nat):Nat:=
 match s[k]? with
 |some b=>b.toNat
 |none=>0
def Qu:List AV->Bool
 |[]=>true
 | .lit v::l=>bg v&&Qu l
 |_::_=>false
def EZ(P:Program)(T:TypeId)(x i:AV):Option (Bool×AV):=
 match P.underlying T,x,RK i with
 |some (.array a E), .agg l,some (_,n)=>if dJ P E=false/\(P.underlying E).isSome=true/\P.cellsOf E=1/\Qu l=true/\l.length=a then some (decide (0<=n)&&decide (n<a),nth l n.toNat) else none
 |some .string, .lit (.string s),some (_,n)=>some (decide (0<=n)&&decide (n<s.size), .lit (.int .u8 (EA s n.toNat)))
 |_,_,_=>none
def bH(E:Env)(s:S)(o:Op):=
 match o with
 | .move x=>some (true,ev s x)
 | .assign x=>some (true,ev s x)
 | .load T x=>(match U9 E.P T (ev s x) with|some r=>some r|none=>(match Ma E.P T (ev s x) with|some v=>some (true, .lit v)|none=>n8 E.P s.st T (ev s x)))
 | .makeInterface T x=>CQ E.P T (ev s x)
 | .convert S T x=>Cs E.P s.st S T (ev s x)
 | .nilCheck x=>
  (match ev s x with
   | .ptr i k p off=>if iR s.st i then some (true, .ptr i k p off) else none
   | .jA T a=>some (true, .jA T a)
   | .bp f d=>some (true, .bp f d)
   |_=>none)
 | .binOp g T x y _=>(match TV E.P g T y (ev s x) with|some r=>some r|none=>(match Lw E.P g T (ev s x) (ev s y) with|some r=>some r|none=>Tz g (ev s x) (ev s y)))
 | .unOp g _ x=>
  (match g,ev s x with
   | .not, .lit (.bool b)=>some (true, .lit (.bool (!b)))
   | .neg, .lit (.int k n)=>some (true, .lit (.int k (k.wrap (0 - n))))
   |_,_=>none)
 | .slice T x lo h none=>rq E.P s T (ev s x) lo h
 | .slice T x lo h (some m)=>nP E.P s T (ev s x) lo h m
 | .fieldAddr T x f=>gP E.P s.st T (ev s x) f
 | .field T x f=>ES E.P T (ev s x) f
 | .indexAddr T x i=>gR E.P s T (ev s x) (ev s i)
 | .index T x i=>EZ E.P T (ev s x) (ev s i)
 | .lookup T m k t=>nG E.P s T (ev s m) (ev s k) t
 | .extract x i=>(match ev s x with| .aK l=>if i<l.length then some (true,nth l i) else none|_=>none)
 | .makeFunc (.func f) e d=>if e.size=0 then some (true, .bp f (oI s d.toList)) else none
 | .build T c=>
  (match PI E.P T with
   |some (q,l)=>(match tf (fun i=>some (i*q,q)) l (fj s c.toList) with|some a=>some (true,a)|none=>none)
   |none=>
    (match iC E.P T with
    |some (.agg l)=>(match TD E.P T l (fj s c.toList) with|some a=>some (true,a)|none=>none)
    |_=>none))
 | .call {callee:= .builtin .len,args,argTypes}=>
  (match oI s args.toList,argTypes.toList with
   |[a],T::_=>(match AP E.P s.st T a with|some x=>some (true,x)|none=>none)
   |_,_=>none)
 | .call {callee:= .builtin .min,args, .. }=>
  (match oI s args.toList with
   |[.lit (.int k x), .lit (.int j y)]=>if k=j then some (true, .lit (.int k (if y<x then y else x))) else none
   |_=>none)
 | .call {callee:= .builtin .max,args, .. }=>
  (match oI s args.toList with
   |[.lit (.int k x), .lit (.int j y)]=>if k=j then some (true, .lit (.int k (if y>x then y else x))) else none
   |_=>none)
 | .call {callee:= .value (.func f),args, .. }=>
  (match fP s.st (oI s args.toList) with
   |some u=>E.fN f (r4 E.P (mN E.P f) u)
   |none=>none)
 |_=>none
end Go.Dn
