import Derived.Test.YtioeffnadipbaaaGreatDoorDnA
namespace Go.Dn
open Go
structure S where
 bF:List AV
 st:List Obj
structure Env where
 P:Pg
 call:FuncId->List AV->List Obj->(AV->List Obj->Prop)->Prop
 iI:FuncId->List AV->Option (Bool×AV)
 loop:FuncId->Nat->Code->Option Nat->Nat->S->(Exit->S->Prop)->Prop
 ll:FuncId->Nat->FuncId->List AV->List Obj->(List Obj->Prop)->Prop
 gen:FuncId->Bool
 inl:FuncId->Bool
 live:FuncId->Nat->List (Nat×Option TypeId)
 own:FuncId->Bool
 quiet:FuncId->Bool
 fresh:FuncId->Bool:=fun _=>false
 calm:FuncId->Bool:=fun _=>false
def ev(s:S):Operand->AV
 | .tmp t=>nth s.bF t
 | .const v=>if bj v then .lit v else .cP
 | .global g=> .lit (.pointer (some ⟨g,0,none⟩))
 | .func f=> .bo f []
def put(s:S)(b:Option Tmp)(a:AV):=
 match b with
 |none=>s
 |some d=>{s with bF:=bP s.bF d a}
def aW b(p:Prop):=
 match b with
 |true=>p
 |false=>False
theorem ai{b p}:aW b p↔b=true/\p:=by
 cases b<;>simp[aW]
theorem cH{b p q}(h:p->q)(a:aW b p):aW b q:=by
 cases b
 ·exact a
 ·exact h a
def aq b(p q:Prop):=
 match b with
 |true=>p
 |false=>q
def qG(st:List Obj):AV->Option (Option TypeId×List AV)
 | .lit (.slice none 0 0)=>some (none,[])
 | .ah T l=>some (some T,l)
 | .ak i lo n=>
  match iL (ay st i) with
  |some (T,xs)=>some (some T,(xs.drop lo).take n)
  |none=>match ay st i,lo with| .rows _ E a _,k+1=>some (some E,((b8 a k).take n).map .lit)|_,_=>none
 |_=>none
mutual
def cq(st:List Obj):AV->Option AV
 | .lit v=>some (.lit v)
 | .ah T l=>some (.ah T l)
 | .ak i lo n=>
  match iL (ay st i) with
  |some (T,xs)=>some (.ah T ((xs.drop lo).take n))
  |none=>none
 | .agg l=>(mu st l).map .agg
 | .jK T a=>some (.jK T a)
 | .jT T a=>(cq st a).map (.jT T ·)
 | .bo f []=>some (.bo f [])
 | .fh K V ks vs=>some (.fh K V ks vs)
 | .mp i=>(match ay st i with| .map K V es=>some (.fh K V (es.map (·.1)) (es.map (·.2)))|_=>none)
 |_=>none
def mu(st:List Obj):List AV->Option (List AV)
 |[]=>some []
 |a::l=>
  match cq st a,mu st l with
  |some b,some m=>some (b::m)
  |_,_=>none
end
mutual
def rowsOf:AV->List Nat
 | .ak i _ _=>[i]
 | .mp i=>[i]
 | .agg l=>th l
 | .jT _ a=>rowsOf a
 |_=>[]
def th:List AV->List Nat
 |[]=>[]
 |a::l=>rowsOf a++th l
end
def kf:Obj->Obj
 | .row T xs=> .l3 T xs
 | .map _ _ _=> .dead
 |o=>o
def cV(st:List Obj):List Nat->List Obj
 |[]=>st
 |i::l=>cV (dv st i (kf (ay st i))) l
mutual
def xl(P:Program):AV->TypeId->Bool
 | .lit v,T=>
  match P.underlying T with
  |some (.int k)=>(match v with| .int k' _=>k==k'|_=>false)
  |some .bool=>(match v with| .bool _=>true|_=>false)
  |some .string=>(match v with| .string _=>true|_=>false)
  |some (.slice _)=>(match v with| .slice none 0 0=>true|_=>false)
  |some (.map _ _)=>(match v with| .map none=>true|_=>false)
  |some (.struct _)=>false
  |some (.array _ _)=>false
  |some _=>true
  |none=>false
 | .ah E _,T=>(match P.underlying T with|some (.slice E')=>E==E'|_=>false)
 | .agg l,T=>(match P.underlying T with|some (.struct fs)=>Nat.blt T P.types.size&&Ll P l fs.toList|_=>false)
 | .fh K V _ _,T=>(match P.underlying T with|some (.map K' V')=>K==K'&&V==V'|_=>false)
 | .jK E _,T=>(match P.underlying T with|some (.pointer E')=>E==E'|_=>false)
 | .jT U a,T=>(match P.underlying T with|some (.interface _)=>xl P a U|_=>false)
 |_,_=>false
def Ll(P:Program):List AV->List Field->Bool
 |[],[]=>true
 |a::l,f::fs=>xl P a f.type&&Ll P l fs
 |_,_=>false
end
def ec(P:Program)(T:TypeId):Bool:=
 match P.underlying T with
 |some (.struct _)=>true
 |some (.array _ _)=>true
 |_=>false
def oF(P:Program):Nat->TypeId->List Value->Option (AV×List Value)
 |0,_,_=>none
 |d+1,T,cs=>
  match P.underlying T with
  |some (.struct fs)=>(match zfields (oF P d) fs.toList cs with|some (l,r)=>some (.agg l,r)|none=>none)
  |some (.array _ _)=>none
  |some _=>(match cs with|v::r=>if bj v then some (.lit v,r) else none|[]=>none)
  |none=>none
where
 zfields (g:TypeId->List Value->Option (AV×List Value)):List Field->List Value->Option (List AV×List Value)
  |[],cs=>some ([],cs)
  |f::fs,cs=>
   match g f.type cs with
   |some (a,r)=>(match zfields g fs r with|some (l,r')=>some (a::l,r')|none=>none)
   |none=>none
def cr:Nat:=6
def je(P:Program)(T:TypeId):Option AV:=
 match P.info? T with
 | some i=>
  match i.zero with
  | some (.agg a)=>
   match oF P cr T a.toList with
    |some (.agg l,[])=>if ec P T&&xl P (.agg l) T then some (.agg l) else none
    |_=>none
  |some v=>if ec P T|| !bj v|| !xl P (.lit v) T then none else some (.lit v)
  |none=>none
 |none=>none
mutual
def cX:AV->Bool
 | .cP=>false
 | .aH _=>false
 | .agg l=>eh l
 | .lit v=>bj v
 |_=>true
def eh:List AV->Bool
 |[]=>true
 |a::l=>cX a&&eh l
end
mutual
def rV:AV->Bool
 | .cP=>false
 | .aH _=>false
 | .agg l=>wS l
 |_=>true
def wS:List AV->Bool
 |[]=>true
 |a::l=>rV a&&wS l
end
mutual
theorem tn{C:Ctx}: ∀(a:AV) (s:Src) (o:Nat),rV a=true->M C a s o->cX a=true
 | .lit v,s,o,_,h=>by simp only[M] at h;simp only[cX];exact h.2
 | .agg l,s,o,h,hm=>by
  simp only[rV] at h;simp only[M] at hm;simp only[cX];exact Bg l s o h hm
 | .cP,_,_,h,_| .aH _,_,_,h,_=>by simp[rV] at h
 | .ah _ _,_,_,_,_| .ak _ _ _,_,_,_,_| .ptr _ _ _ _,_,_,_,_| .jK _ _,_,_,_,_| .mp _,_,_,_,_| .cn _,_,_,_,_| .lZ _ _,_,_,_,_| .bo _ _,_,_,_,_| .jT _ _,_,_,_,_| .fh _ _ _ _,_,_,_,_=>by simp[cX]
theorem Bg{C:Ctx}: ∀(l:List AV) (s:Src) (o:Nat),wS l=true->ML C l s o->eh l=true
 |[],_,_,_,_=>by simp[eh]
 |a::l,s,o,h,hm=>by
  simp only[wS,aC6] at h;simp only[ML] at hm;simp only[eh,aC6];exact⟨tn a s o h.1 hm.1,Bg l s _ h.2 hm.2⟩
end
def o5:AV->List Nat->AV
 |a,[]=>a
 |a,j::p=>o5 (af a j) p
def jx:AV->List Nat->AV->AV
 |_,[],x=>x
 | .agg l,j::p,x=> .agg (bP l j (jx (nth l j) p x))
 |a,_::_,_=>a
def mP:List AV->Nat->Nat
 |[],_=>0
 |_,0=>0
 |a::l,j+1=>wid a+mP l j
def jJ:AV->List Nat->Nat
 |_,[]=>0
 | .agg l,j::p=>mP l j+jJ (nth l j) p
 |_,_::_=>0
def oU:AV->List Nat->Bool
 |_,[]=>true
 | .agg l,j::p=>decide (j<l.length)&&oU (nth l j) p
 |_,_::_=>false
def Vx:AV->Option (IntKind×Int)
 | .lit (.int k n)=>some (k,n)
 |_=>none
def oK(P:Program)(st:List Obj)(T:TypeId):AV->Option (Bool×AV)
 | .ptr i k b off=>
  match ay st i with
  | .box _ a=>
   let y:=o5 a b
   if oU a b&&jJ a b==off&&ec P T==cg y&&wid y==P.cellsOf T&&(P.underlying T).isSome then some (true,y) else none
  | .rows c _ d none=>match b,off with|[],0=>if ec P T==false&&P.cellsOf T==1&&T==c&&(P.underlying T).isSome then some (true, .ak i (Nat.succ k) (b8 d k).length) else none|_,_=>none
  | o=>
   match iL o with
   |some (c,xs)=>
    let a:=expand P cr c (nth xs k)
    let y:=o5 a b
    if oU a b&&jJ a b==off&&ec P T==cg y&&wid y==P.cellsOf T&&(P.underlying T).isSome then some (true,y) else none
   |none=>none
 | .jK c a=>
  let y:=expand P cr c a
  if ec P T==cg y&&wid y==P.cellsOf T&&(P.underlying T).isSome then some (true,y) else none
 |_=>none
def px(es:List (Value×AV))(k:Value):Bool:=
 match es with
 |[]=>false
 |(k',_)::es=>eP k k'||px es k
def dj(es:List (Value×AV))(k:Value)(z:AV):AV:=
 match es with
 |[]=>z
 |(k',a)::es=>bif eP k k' then a else dj es k z
def fb(es:List (Value×AV))(k:Value)(a:AV):List (Value×AV):=
 match es with
 |[]=>[(k,a)]
 |(k',a')::es=>bif eP k k' then(k,a)::es else(k',a')::fb es k a
def ab9(a:BinOp)(k:IntKind)(x y:Int):Option (Bool×AV):=
 match a with
 | .add=>some (true, .lit (.int k (k.wrap (x+y))))
 | .sub=>some (true, .lit (.int k (k.wrap (x - y))))
 | .mul=>some (true, .lit (.int k (k.wrap (x*y))))
 | .quo=>some (y != 0, .lit (.int k (k.wrap (x.tdiv y))))
 | .rem=>some (y != 0, .lit (.int k (x.tmod y)))
 | .eql=>some (true, .lit (.bool (x==y)))
 | .neq=>some (true, .lit (.bool (x != y)))
 | .lss=>some (true, .lit (.bool (decide (x<y))))
 | .leq=>some (true, .lit (.bool (decide (x<=y))))
 | .gtr=>some (true, .lit (.bool (decide (x>y))))
 | .geq=>some (true, .lit (.bool (decide (x>=y))))
 | .shl=>some (decide (0<=y), .lit (.int k (k.wrap (x*2 ^ (min y.toNat k.bits)))))
 | .shr=>some (decide (0<=y), .lit (.int k (x.fdiv (2 ^ (min y.toNat k.bits)))))
 | .and=>some (true, .lit (.int k (k.wrap (BitVec.ofInt k.bits x&&& BitVec.ofInt k.bits y).toNat)))
 | .or=>some (true, .lit (.int k (k.wrap (BitVec.ofInt _ x|||BitVec.ofInt k.bits y).toNat)))
 |_=>none
def ab8(a:BinOp)(k:IntKind)(x y:Int):Option (Bool×AV):=
 match a with
 | .shl=>some (decide (0<=y), .lit (.int k (k.wrap (x*2 ^ min y.toNat k.bits))))
 | .shr=>some (decide (0<=y), .lit (.int k (x.fdiv (2 ^ min y.toNat k.bits))))
 |_=>none
def ac0(a:BinOp)(x y:ByteArray):Option (Bool×AV):=
 match a with
 | .add=>some (Nat.ble (x.size+y.size) 9223372036854775807, .lit (.string (x++y)))
 | .eql=>some (true, .lit (.bool (x.toList==y.toList)))
 | .neq=>some (true, .lit (.bool !x.toList==y.toList))
 | .lss=>some (true, .lit (.bool (Op.bytesLess x.toList y.toList)))
 | .gtr=>some (true, .lit (.bool !(Op.bytesLess x.toList y.toList||x.toList==y.toList)))
 |_=>none
def XD c(a b:AV):=
 match a,b with
 | .lit (.int k x), .lit (.int d y)=>if k=d then ab9 c k x y else ab8 c k x y
 | .lit (.string x), .lit (.string y)=>ac0 c x y
 |_,_=>none
def eqV(P:Program)(T:TypeId):AV->AV->Option Bool
 | .lit (.int k x), .lit (.int a y)=>match P.underlying T with|some (.int _)=>if k=a then some (x==y) else none|_=>none
 | .lit (.string x), .lit (.string y)=>match P.underlying T with|some .string=>some (x.toList==y.toList)|_=>none
 | .lit (.bool x), .lit (.bool y)=>match P.underlying T with|some .bool=>some (x==y)|_=>none
 |_,_=>none
def VB(P:Program):List Field->List AV->List AV->Nat->Option Bool
 |[],[],[],_=>some true
 | f::fs,a::l,b::m,j=>
  if f.name != "_" &&Nat.beq f.offset j then
   (match eqV P f.type a b with
    |some x=>(match VB P fs l m (j+1) with|some y=>some (x&&y)|none=>none)
    |none=>none)
  else none
 |_,_,_,_=>none
def Of(P:Program)(c:BinOp)(T:TypeId)(a b:AV):Option (Bool×AV):=
 match a,b with
 | .agg l, .agg m=>
  match P.underlying T with
   |some (.struct d)=>
    if P.stoodInHeld T||P.eqGuardType P.depth T then none else
    match VB P d.toList l m 0 with
    |some e=>match c with| .eql=>some (true, .lit (.bool e))| .neq=>some (true, .lit (.bool !e))|_=>none
    |none=>none
   |_=>none
 | .lit (.bool x), .lit (.bool y)=>
  match P.underlying T with
   |some .bool=>
    match c with
    | .eql=>some (true, .lit (.bool (x==y)))
    | .neq=>some (true, .lit (.bool !x==y))
    |_=>none
   |_=>none
 |_,_=>none
def Ul:Obj->Bool
 | .row _ _| .l3 _ _| .rows _ _ _ _=>true
 |_=>false
def Cc(P:Program)(st:List Obj)(T:TypeId)(a:AV):Option AV:=
 match P.underlying T,a with
 |some .string, .lit (.string s)=>some (.lit (.int .i64 s.size))
 |some (.map _ _), .lit (.map none)=>some (.lit (.int .i64 0))
 |some (.map _ _), .mp i=>match ay st i with| .map _ _ b=>some (.lit (.int .i64 b.length))|_=>none
 |some (.slice _), .lit (.slice none 0 0)=>some (.lit (.int .i64 0))
 |some (.slice _), .ak i _ n=>match Ul (ay st i) with|true=>some (.lit (.int .i64 n))|false=>none
 |some (.map _ _), .fh _ _ c _=>some (.lit (.int .i64 c.length))
 |some (.slice _), .ah _ l=>some (.lit (.int .i64 l.length))
 |_,_=>none
def gp(s:S)(o:Option Operand)(d:Nat):Option Int:=
 match o with
 |none=>some d
 |some x=>(Vx (ev s x)).map (·.2)
def rU(P:Program)(s:S)(T:TypeId)(x:AV)(lo c:Option Operand):Option (Bool×AV):=
 match x with
 | .lit (.string b)=>
  match P.underlying T,gp s lo 0,gp s c b.size with
  |some .string,some l,some h=>some (decide (0<=l)&&decide (l<=h)&&decide (h<=b.size), .lit (.string (b.extract l.toNat h.toNat)))
  |_,_,_=>none
 | .ah E a=>
  match P.underlying T,gp s lo 0,gp s c a.length with
  |some (.slice d),some l,some h=>
   if E=d/\(P.underlying E).isSome=true then some (decide (0<=l)&&decide (l<=h)&&decide (h<=a.length), .ah E ((a.take h.toNat).drop l.toNat)) else none
  |_,_,_=>none
 | .ak i e n=>
  match P.underlying T,iL (ay s.st i),gp s lo 0,gp s c n with
  |some (.slice d),some (E,_),some l,some h=>
   if E=d/\(P.underlying E).isSome=true then some (decide (0<=l)&&decide (l<=h)&&decide (h<=n), .ak i (e+l.toNat) (h - l).toNat) else none
  |_,_,_,_=>none
 |_=>none
def yz(s:S):Option Operand->Option Int
 |none=>none
 |some x=>(Vx (ev s x)).map (·.2)
def oz(P:Program)(s:S)(T:TypeId)(x:AV)(lo b:Option Operand)(m:Operand):Option (Bool×AV):=
 match x,lo with
 | .ak i 0 n,none=>
  match P.underlying T,iL (ay s.st i),yz s b,yz s (some m) with
  |some (.slice c),some (E,_),some h,some a=>
   if E=c/\(P.underlying E).isSome=true then some (decide (0<=h)&&decide (h<=a)&&decide (a<=n), .ak i 0 h.toNat) else none
  |_,_,_,_=>none
 |_,_=>none
def ju(st:List Obj)(i:Nat):Bool:=
 match ay st i with
 | .box _ _| .row _ _| .l3 _ _=>true
 |_=>false
def il(P:Program)(s:S)(T:TypeId)(x i:AV):Option (Bool×AV):=
 match P.underlying T,Vx i with
 | some (.slice E),some (_,n)=>
  match x with
  | .ah E' l=>if E=E'/\(P.underlying E).isSome=true then some (decide (0<=n)&&decide (n<l.length), .jK E (nth l n.toNat)) else none
  | .ak j lo len=>
   match iL (ay s.st j) with
   |some (E',_)=>if E=E'/\(P.underlying E).isSome=true then some (decide (0<=n)&&decide (n<len), .ptr j (lo+n.toNat) [] 0) else none
   |none=>
    match ay s.st j,lo with
    | .rows E' _ _ _,0=>if E=E'/\(P.underlying E).isSome=true/\P.cellsOf E=1 then some (decide (0<=n)&&decide (n<len), .ptr j n.toNat [] 0) else none
    |_,_=>none
  |_=>none
 |some (.array len E),some (_,n)=>
  match x with
  | .lit (.pointer (some ⟨g,off,none⟩))=>if(P.underlying E).isSome=true/\P.cellsOf E=1 then some (decide (0<=n)&&decide (n<len), .lit (.pointer (some ⟨g,off+n.toNat,none⟩))) else none
  | .ptr j k p o=>if(P.underlying E).isSome=true/\P.cellsOf E=1/\ju s.st j=true then some (decide (0<=n)&&decide (n<len), .ptr j k (p++[n.toNat]) (o+n.toNat)) else none
  |_=>none
 |_,_=>none
def fieldsOf(P:Program)(T:TypeId):List Field:=
 match P.underlying T with
 |some (.struct a)=>a.toList
 |_=>[]
def rI:List Field->Nat->Option Field
 |[],_=>none
 |f::_,0=>some f
 |_::l,n+1=>rI l n
def ij(P:Program)(st:List Obj)(T:TypeId)(x:AV)(f:Nat):Option (Bool×AV):=
 match rI (fieldsOf P T) f with
 |none=>none
 | some c=>
  if P.cellsOf c.type=0 then none else
  match x with
  | .ptr i k b off=>if ju st i then some (true, .ptr i k (b++[f]) (off+c.offset)) else none
  | .jK d a=>
   match expand P cr d a with
   | .agg l=>
    if d=T&&decide (f<l.length)&&mP l f==c.offset then some (true, .jK c.type (nth l f)) else none
   |_=>none
  |_=>none
def G9(P:Program)(T:TypeId)(x:AV)(f:Nat):Option (Bool×AV):=
 match rI (fieldsOf P T) f,x with
 |some a, .agg l=>
  if decide (f<l.length)&&mP l f==a.offset&&wid (nth l f)==P.cellsOf a.type&&ec P a.type==cg (nth l f)&&(P.underlying a.type).isSome&&cX (nth l f) then some (true,nth l f) else none
 |_,_=>none
def oe(P:Program)(s:S)(T:TypeId)(m k:AV)(d:Bool):Option (Bool×AV):=
 match P.underlying T,k with
 | some (.map K V), .lit a=>
  match plainKey P K a,je P V,m with
  | true,some z, .mp i=>
   match ay s.st i with
   | .map b c g=>
    if K=b/\V=c then
     let v:=expand P cr V (dj g a z)
     some (true,if d then .aH [v, .lit (.bool (px g a))] else v)
    else none
   |_=>none
  | true,some z, .fh b c f e=>
   if K=b/\V=c then
    let v:=expand P cr V (dj (f.zip e) a z)
    some (true,if d then .aH [v, .lit (.bool (px (f.zip e) a))] else v)
   else none
  |true,some z, .lit (.map none)=>some (true,if d then .aH [z, .lit (.bool false)] else z)
  |_,_,_=>none
 |_,_=>none
def tR(b:Nat->Option (Nat×Nat))(l:List AV):List (Nat×AV)->Option AV
 |[]=>some (.agg l)
 | (i,x)::ps=>
  match b i with
  |none=>none
  | some (off,a)=>
   if cX x&&decide (i<l.length)&&mP l i==off&&wid x==a&&wid (nth l i)==a then
    tR b (bP l i x) ps
   else none
def HS(P:Program)(T:TypeId)(i:Nat):Option (Nat×Nat):=
 match rI (fieldsOf P T) i with
 |none=>none
 |some a=>some (a.offset,P.cellsOf a.type)
def XG P T l ps:=tR (HS P T) l ps
def S4(P:Program)(T:TypeId):Option (Nat×List AV):=
 match P.underlying T with
 | some (.array _ E)=>
  match P.info? T with
   |some i=>match i.zero with
    |some (.agg a)=>if a.toList.all bj&&(P.underlying E).isSome then some (P.cellsOf E,a.toList.map .lit) else none
    |_=>none
   |none=>none
 |_=>none
def K3(P:Program)(T:TypeId):Option AV:=
 match je P T with
 |some z=>some z
 |none=>match S4 P T with
  |some (_,l)=>if eh l=true then some (.agg l) else none
  |none=>none
def fG(s:S):List (Nat×Operand)->List (Nat×AV)
 |[]=>[]
 |(i,x)::l=>(i,ev s x)::fG s l
def pj(s:S):List Operand->List AV
 |[]=>[]
 |x::l=>ev s x::pj s l
def s6(st:List Obj)(a:AV):Option AV:=
 match a with
 | .ak i (k+1) m=>match ay st i with| .rows _ E b _=>some (.ah E (((b8 b k).take m).map .lit))|_=>cq st a
 |_=>cq st a
def fW(st:List Obj):List AV->Option (List AV)
 |[]=>some []
 |a::l=>
  match s6 st a,fW st l with
  |some b,some m=>some (b::m)
  |_,_=>none
def OZ(P:Pg)(T:TypeId):AV->Option Value
 | .lit (.pointer (some ⟨g,0,none⟩))=>
  match P.kept g with
   |some (.cells a _ _)=>match a.toList with|[v]=>if bj v&& !ec P T&&(P.underlying T).isSome then some v else none|_=>none
   |_=>none
 |_=>none
def u8s:List Value->Bool
 |[]=>true
 | .int .u8 _::l=>u8s l
 |_=>false
def Zi(P:Pg)(g k:Nat):Int:=
 match P.kept g with
 |some (.cells a _ _)=>match a[k]? with|some (.int _ n)=>n|_=>0
 |_=>0
def Zh(P:Pg)(T:TypeId):AV->Option (Bool×AV)
 | .lit (.pointer (some ⟨g,off,none⟩))=>
  match P.kept g with
   |some (.cells a _ _)=>match a.toList with|_::_::_=>(match P.underlying T with|some (.int .u8)=>if u8s a.toList then some (decide (off<a.size), .lit (.int .u8 (Zi P g off))) else none|_=>none)|_=>none
   |_=>none
 |_=>none
def aD:Value->Bool
 | .nilIface=>true
 | .iface _ _=>true
 |_=>false
def bU:Value->Bool
 | .nilIface=>true
 |_=>false
def OV:AV->Option (Bool×Bool)
 | .lit u=>some (aD u,bU u)
 | .jT _ _=>some (true,false)
 |_=>none
def X7(P:Program)(d:BinOp)(T:TypeId)(y:Operand)(a:AV):Option (Bool×AV):=
 match y with
 | .const .nilIface=>
  match P.underlying T,OV a with
   |some (.interface _),some (c,b)=>
    match d with
    | .eql=>some (c, .lit (.bool b))
    | .neq=>some (c, .lit (.bool !b))
    |_=>none
   |_,_=>none
 |_=>none
def EH(P:Program)(T:TypeId)(a:AV):Option (Bool×AV):=
 match P.underlying T with
 |none=>none
 |some (.interface _)=>none
 | some _=>
  match a with
   | .lit v=>some (true, .lit (.iface T v))
   | .cP=>none
   |a=>some (true, .jT T a)
def Vy(P:Program)(S T:TypeId)(a:AV):Option (Bool×AV):=
 match P.underlying S,P.underlying T,a with
 |some _,some (.int k), .lit (.int _ n)=>some (true, .lit (.int k (k.wrap n)))
 |_,_,_=>none
def bytesOf(l:List AV):ByteArray:=⟨(l.map fun a=>UInt8.ofNat (toInt a).toNat).toArray⟩
def Ea(P:Program)(st:List Obj)(S T:TypeId)(a:AV):Option (Bool×AV):=
 match P.underlying S,P.underlying T with
 | some (.slice E),some .string=>
  match P.underlying E with
   | some (.int .u8)=>
    if P.cellsOf E=1 then
     match a with
     | .lit (.slice none 0 0)=>some (true, .lit (.string ⟨#[]⟩))
     | .ah b l=>if E=b then some (true, .lit (.string (bytesOf l))) else none
     | .ak i lo n=>match iL (ay st i) with
      |some (b,l)=>if E=b then some (true, .lit (.string (bytesOf ((l.drop lo).take n)))) else none
      |none=>none
     |_=>none
    else none
   |_=>none
 |_,_=>Vy P S T a
def Jj(P:Program)(T:TypeId)(a:AV):AV:=
 match P.underlying T with
 |some (.struct _)=>match a with| .agg _=>(match xl P a T with|true=>expand P cr T a|false=>a)|a=>a
 |some (.slice _)=>match a with| .lit (.slice none 0 0)=>(match xl P a T with|true=>expand P cr T a|false=>a)|a=>a
 |_=>a
def sv(P:Program):List TypeId->List AV->List AV
 |T::Ts,a::l=>Jj P T a::sv P Ts l
 |_,l=>l
def nz(P:Program)(f:FuncId):List TypeId:=
 match P.funcs[f]? with
 |some a=>a.params.toList
 |none=>[]
def GR(s:ByteArray)(k:Nat):Nat:=
 match s[k]? with
 |some b=>b.toNat
 |none=>0
def T6:List AV->Bool
 |[]=>true
 | .lit v::l=>bj v&&T6 l
 |_::_=>false
def Hg(P:Program)(T:TypeId)(x i:AV):Option (Bool×AV):=
 match P.underlying T,x,Vx i with
 |some (.array a E), .agg l,some (_,n)=>if ec P E=false/\(P.underlying E).isSome=true/\P.cellsOf E=1/\T6 l=true/\l.length=a then some (decide (0<=n)&&decide (n<a),nth l n.toNat) else none
 |some .string, .lit (.string s),some (_,n)=>some (decide (0<=n)&&decide (n<s.size), .lit (.int .u8 (GR s n.toNat)))
 |_,_,_=>none
def bM(E:Env)(s:S)(o:Op):=
 match o with
 | .move x=>some (true,ev s x)
 | .assign x=>some (true,ev s x)
 | .load T x=>(match Zh E.P T (ev s x) with|some r=>some r|none=>(match OZ E.P T (ev s x) with|some v=>some (true, .lit v)|none=>oK E.P s.st T (ev s x)))
 | .makeInterface T x=>EH E.P T (ev s x)
 | .convert S T x=>Ea E.P s.st S T (ev s x)
 | .nilCheck x=>
  (match ev s x with
   | .ptr i k p off=>if ju s.st i then some (true, .ptr i k p off) else none
   | .jK T a=>some (true, .jK T a)
   | .bo f d=>some (true, .bo f d)
   |_=>none)
 | .binOp g T x y _=>(match X7 E.P g T y (ev s x) with|some r=>some r|none=>(match Of E.P g T (ev s x) (ev s y) with|some r=>some r|none=>XD g (ev s x) (ev s y)))
 | .unOp g _ x=>
  (match g,ev s x with
   | .not, .lit (.bool b)=>some (true, .lit (.bool (!b)))
   | .neg, .lit (.int k n)=>some (true, .lit (.int k (k.wrap (0 - n))))
   |_,_=>none)
 | .slice T x lo h none=>rU E.P s T (ev s x) lo h
 | .slice T x lo h (some m)=>oz E.P s T (ev s x) lo h m
 | .fieldAddr T x f=>ij E.P s.st T (ev s x) f
 | .field T x f=>G9 E.P T (ev s x) f
 | .indexAddr T x i=>il E.P s T (ev s x) (ev s i)
 | .index T x i=>Hg E.P T (ev s x) (ev s i)
 | .lookup T m k t=>oe E.P s T (ev s m) (ev s k) t
 | .extract x i=>(match ev s x with| .aH l=>if i<l.length then some (true,nth l i) else none|_=>none)
 | .makeFunc (.func f) e d=>if e.size=0 then some (true, .bo f (pj s d.toList)) else none
 | .build T c=>
  (match S4 E.P T with
   |some (q,l)=>(match tR (fun i=>some (i*q,q)) l (fG s c.toList) with|some a=>some (true,a)|none=>none)
   |none=>
    (match je E.P T with
    |some (.agg l)=>(match XG E.P T l (fG s c.toList) with|some a=>some (true,a)|none=>none)
    |_=>none))
 | .call {callee:= .builtin .len,args,argTypes}=>
  (match pj s args.toList,argTypes.toList with
   |[a],T::_=>(match Cc E.P s.st T a with|some x=>some (true,x)|none=>none)
   |_,_=>none)
 | .call {callee:= .builtin .min,args, .. }=>
  (match pj s args.toList with
   |[.lit (.int k x), .lit (.int j y)]=>if k=j then some (true, .lit (.int k (if y<x then y else x))) else none
   |_=>none)
 | .call {callee:= .builtin .max,args, .. }=>
  (match pj s args.toList with
   |[.lit (.int k x), .lit (.int j y)]=>if k=j then some (true, .lit (.int k (if y>x then y else x))) else none
   |_=>none)
 | .call {callee:= .value (.func f),args, .. }=>
  (match fW s.st (pj s args.toList) with
   |some u=>E.iI f (sv E.P (nz E.P f) u)
   |none=>none)
 |_=>none
end Go.Dn
