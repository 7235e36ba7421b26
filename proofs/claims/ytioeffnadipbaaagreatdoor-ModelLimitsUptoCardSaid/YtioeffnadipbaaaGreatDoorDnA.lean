import Derived.CallsIn
import Derived.RangeFuncIn
import Derived.OrdersIn
import Derived.RangeFuncLeaves
namespace Go.Dn
open Go
abbrev an2:= @decide_eq_true_eq
abbrev an3:= @Bool.and_eq_true
abbrev an4:= @decide_eq_false_iff_not
abbrev an5.{u}:= @Option.some.injEq.{u}
abbrev an6:= @decide_eq_false
abbrev an7.{u}:= @cond_false.{u}
abbrev an8:= @decide_eq_true
abbrev an9.{u}:= @cond_true.{u}
abbrev ao0.{u}:= @List.drop_eq_nil_of_le.{u}
abbrev ao1.{u,v}:= @Prod.mk.injEq.{u,v}
abbrev ao2.{u}:= @List.drop_zero.{u}
abbrev ao3.{u}:= @List.drop_eq_getElem_cons.{u}
abbrev ao4:= @Bool.not_eq_false'
abbrev ao5:= @Bool.or_eq_true
abbrev ao6.{u}:= @List.getElem?_eq_getElem.{u}
abbrev ao7.{u}:= @List.length_append.{u}
abbrev ao8:= @Bool.true_and
abbrev ao9.{u,v}:= @List.map_cons.{u,v}
abbrev ap0.{u}:= @List.mem_cons.{u}
inductive AV where
 |cB
 |lit (v:Value)
 |ah (T:TypeId) (l:List AV)
 |agg (l:List AV)
 |aJ (l:List AV)
 |ak (i lo len:Nat)
 |ptr (i k:Nat) (path:List Nat) (off:Nat)
 |js (T:TypeId) (a:AV)
 |mp (i:Nat)
 |cf (i:Nat)
 |lx (i:Nat) (key:Value)
 |bm (f:FuncId) (caps:List AV)
 |jz (T:TypeId) (a:AV)
 |eP (K V:TypeId) (ks:List Value) (vs:List AV)
 deriving Inhabited
structure MD where
 state:LoopState
 pending:Option Code
 fn:FuncId
 bB:List AV
 params:Array Tmp
 assign:Code
 body:Code
inductive Obj where
 |dead
 |box (T:TypeId) (a:AV)
 |row (T:TypeId) (xs:List AV)
 |lz (T:TypeId) (xs:List AV)
 |map (K V:TypeId) (es:List (Value×AV))
 |loop (r:MD)
 |iter (i n:Nat) (ks:List Value)
 |ext (todo:Option (List AV))
 |dp (s:ByteArray) (pos:Nat)
 |rows (T E:TypeId) (ls:List (List Value)) (pd:Option Nat)
 |fit (K V:TypeId) (ks:List Value) (vs:List AV) (met:List Value)
def nth:List AV->Nat->AV
 |[],_=> .cB
 |a::_,0=>a
 |_::l,n+1=>nth l n
def bM:List AV->Nat->AV->List AV
 |[],_,_=>[]
 |_::l,0,x=>x::l
 |a::l,n+1,x=>a::bM l n x
def bV:List (List Value)->Nat->List Value
 |[],_=>[]
 |a::_,0=>a
 |_::l,n+1=>bV l n
def j4:List (List Value)->Nat->List Value->List (List Value)
 |[],_,_=>[]
 |_::l,0,x=>x::l
 |a::l,n+1,x=>a::j4 l n x
def ay:List Obj->Nat->Obj
 |[],_=> .dead
 |a::_,0=>a
 |_::l,n+1=>ay l n
def db:List Obj->Nat->Obj->List Obj
 |[],_,_=>[]
 |_::l,0,x=>x::l
 |a::l,n+1,x=>a::db l n x
mutual
def wid:AV->Nat
 | .agg l=>eu l
 |_=>1
def eu:List AV->Nat
 |[]=>0
 |a::l=>wid a+eu l
end
def bf:Value->Bool
 | .agg _=>false
 | .tuple _=>false
 |_=>true
def eD:Value->Bool
 | .agg _=>true
 |_=>false
def bZ:AV->Bool
 | .agg _=>true
 |_=>false
def toInt:AV->Int
 | .lit (.int _ n)=>n
 |_=>0
def toBool:AV->Bool
 | .lit (.bool b)=>b
 |_=>false
def toStr:AV->ByteArray
 | .lit (.string s)=>s
 |_=>ByteArray.empty
def ag:AV->List AV
 | .ah _ l=>l
 |_=>[]
def B7:AV->List Value
 | .eP _ _ a _=>a
 |_=>[]
def xO:AV->List AV
 | .eP _ _ _ a=>a
 |_=>[]
def af:AV->Nat->AV
 | .agg l,j=>nth l j
 |_,_=> .cB
def K5(g:TypeId->AV->AV):List Field->Nat->AV->List AV
 |[],_,_=>[]
 |f::b,j,a=>g f.type (af a j)::K5 g b (j+1) a
def LV(P:Program)(V:TypeId):Bool:=
 match P.underlying V with
 |some .bool=>true
 |_=>false
def expand(P:Program):Nat->TypeId->AV->AV
 |0,_,a=>a
 |d+1,T,a=>
  match P.underlying T with
  |some (.int k)=> .lit (.int k (toInt a))
  |some .bool=> .lit (.bool (toBool a))
  |some .string=> .lit (.string (toStr a))
  |some (.slice E)=> .ah E (ag a)
  |some (.map K V)=>bif LV P V then .eP K V (B7 a) (xO a) else(match a with| .lit (.map none)=>a|_=> .eP K V (B7 a) (xO a))
  |some (.struct b)=> .agg (K5 (expand P d) b.toList 0 a)
  |_=>a
mutual
def bz(P:Program):AV->TypeId->Prop
 | .lit v,T=>
  match P.underlying T with
  |some (.int k)=>∃n,v= .int k n
  |some .bool=>∃b,v= .bool b
  |some .string=>∃s,v= .string s
  |some (.slice _)=>v= .slice none 0 0
  |some (.map _ _)=>v= .map none
  |some (.struct _)=>False
  |some (.array _ _)=>False
  |some _=>bf v=true
  |none=>False
 | .ah E l,T=>P.underlying T=some (.slice E)/\ck P l E
 | .agg l,T=>∃fs,(P.underlying T=some (.struct fs)/\T<P.types.size)/\dT P l fs.toList
 | .js E a,T=>P.underlying T=some (.pointer E)/\bz P a E
 | .jz U a,T=>(∃ms,P.underlying T=some (.interface ms))/\bz P a U
 | .eP K V _ vs,T=>P.underlying T=some (.map K V)/\ck P vs V
 |_,_=>False
def ck(P:Program):List AV->TypeId->Prop
 |[],_=>True
 |a::l,T=>bz P a T/\ck P l T
def dT(P:Program):List AV->List Field->Prop
 |[],[]=>True
 |a::l,f::fs=>bz P a f.type/\dT P l fs
 |_,_=>False
end
theorem yq{v}(h:bf v=true):eD v=false:=by cases v<;>simp_all[bf,eD]
def eg:Value->Value->Bool
 | .int k a, .int c b=>k==c&&a==b
 | .string a, .string b=>a==b
 | .bool a, .bool b=>a==b
 |_,_=>false
def plainKey(P:Program)(K:TypeId):Value->Bool
 | .int k _=>match P.underlying K with|some (.int a)=>k==a|_=>false
 | .string _=>match P.underlying K with|some .string=>true|_=>false
 | .bool _=>match P.underlying K with|some .bool=>true|_=>false
 |_=>false
structure lW(P:Program)(K:TypeId)(ents:List MapEntry)(clock:Nat):Prop where
 keys: ∀e,e∈ents->plainKey P K e.key=true
 apart:ents.Pairwise fun e e'=>eg e'.key e.key=false
 born:ents.Pairwise fun e e'=>e.born<e'.born
 clock: ∀e,e∈ents->e.born<clock
structure G where
 block:Nat
 cap:Nat
 isNil:Bool
structure Pg extends Program where
 kept:Nat->Option Go.Obj
 imm:TypeId->Bool:=fun _=>false
instance:CoeOut Pg Program:=⟨Pg.toProgram⟩
structure Ctx where
 P:Pg
 X:Nat->Prop
 ι:Nat->G
 st:List Obj
 w:World
 cls:Nat->Nat:=id
 sQ:Nat->Nat:=fun _=>0
 mn:Nat->Option (List AV)->(Nat->Prop)->(Nat->Prop)->World->Prop:=fun _ _ _ _ _=>True
def ij:Obj->Option (TypeId×List AV)
 | .row T xs=>some (T,xs)
 | .lz T xs=>some (T,xs)
 |_=>none
def mA(C:Ctx) B E k(l:List _) m(v:Value):=
 m<=l.length/\(v= .slice none 0 0/\m=0\/ ∃b cap c,v= .slice (some ⟨b,0,none⟩) m cap/\m<=cap/\cap<=maxLen/\C.cls b=B/\b≠B/\C.sQ b=k/\
  C.w.heap[b]? =some (.cells c E (0,0))/\cap=c.size/\∀j,j<m->c[j]? =l[j]?)
def lH C i lo n(v:Value):=
 (∀T xs,ij (ay C.st i)=some (T,xs)->
  lo+n<=xs.length/\
  ((C.ι i).isNil=true/\v= .slice none 0 0/\lo=0/\n=0\/
   (C.ι i).isNil=false/\∃cap q,v= .slice (some q) n cap/\(q=⟨(C.ι i).block,lo*C.P.cellsOf T,none⟩\/cap=0/\0<lo)/\n<=cap/\lo+cap<=(C.ι i).cap))/\
 ∀T E a b,ay C.st i= .rows T E a b->
  match lo with
  |0=>n=a.length/\∃cap,v= .slice (some ⟨(C.ι i).block,0,none⟩) n cap/\n<=cap
  |k+1=>k<a.length/\mA C (C.ι i).block E k (bV a k) n v
def qu(C:Ctx) i k off(v:Value):=
 (∀T xs,ij (ay C.st i)=some (T,xs)->k<xs.length/\v= .pointer (some ⟨(C.ι i).block,k*C.P.cellsOf T+off,none⟩))/\
 (∀T a,ay C.st i= .box T a->k=0/\v= .pointer (some ⟨(C.ι i).block,off,none⟩))/\
 (∀m n c,ay C.st i= .iter m n c->v= .pointer (some ⟨(C.ι i).block,off,none⟩))/\
 (∀s p,ay C.st i= .dp s p->v= .pointer (some ⟨(C.ι i).block,off,none⟩))/\
 (∀K V c e b,ay C.st i= .fit K V c e b->v= .pointer (some ⟨(C.ι i).block,off,none⟩))/\
 ∀T E d f,ay C.st i= .rows T E d f->k<d.length/\off=0/\v= .pointer (some ⟨(C.ι i).block,k,none⟩)
def Lz(C:Ctx) i(v:Value):=
 ∀K V a,ay C.st i= .map K V a->v= .map (some (C.ι i).block)
def zo(C:Ctx) i(v:Value):=
 (∀r,ay C.st i= .loop r->v= .func (.yield (C.ι i).block) #[] #[])/\∀t,ay C.st i= .ext t->v= .func (.yield (C.ι i).block) #[] #[]
def yd(C:Ctx) i c(v:Value):=
 ∀K V d,ay C.st i= .map K V d->∃a b,C.w.heap[(C.ι i).block]? =some (.map a b)/\∃e,e∈a/\e.key=c/\v= .int .i64 e.born
abbrev Src:=Nat->Option Value
mutual
def M(C:Ctx):AV->Src->Nat->Prop
 | .cB,_,_=>True
 | .lit u,s,o=>s o=some u/\bf u=true
 | .ah T l,s,o=>ck C.P l T/\∃p cap,s o=some (.slice p l.length cap)/\l.length<=cap/\
   (l≠[]->∃b off,p=some ⟨b,off,none⟩/\C.X b/\MR C l (C.P.cellsOf T) (fun j=>C.w.cell? ⟨b,j,none⟩) off)
 | .agg l,s,o=>ML C l s o
 | .aJ l,s,o=>∃vs,s o=some (.tuple vs)/\MT C l vs.toList
 | .ak i lo n,s,o=>i<C.st.length/\∃v,s o=some v/\bf v=true/\lH C i lo n v
 | .ptr i k _ off,s,o=>i<C.st.length/\∃v,s o=some v/\bf v=true/\qu C i k off v
 | .js T a,s,o=>∃b off,s o=some (.pointer (some ⟨b,off,none⟩))/\C.X b/\bz C.P a T/\M C a (fun j=>C.w.cell? ⟨b,j,none⟩) off
 | .mp i,s,o=>i<C.st.length/\∃v,s o=some v/\bf v=true/\Lz C i v
 | .cf i,s,o=>i<C.st.length/\∃v,s o=some v/\bf v=true/\zo C i v
 | .lx i k,s,o=>i<C.st.length/\∃v,s o=some v/\bf v=true/\yd C i k v
 | .bm f caps,s,o=>∃vs,s o=some (.func (.func f) #[] vs)/\MT C caps vs.toList
 | .eP K V ks vs,s,o=>(LV C.P.toProgram V=true/\s o=some (.map none)/\ks=[]/\vs=[])\/ ∃b ents clock,s o=some (.map (some b))/\C.X b/\C.w.heap[b]? =some (.map ents clock)/\lW C.P K ents.toList clock/\
   ents.toList.map (·.key)=ks/\ck C.P vs V/\MT C vs (ents.toList.map (·.val))
 | .jz T a,s,o=>∃u,s o=some (.iface T u)/\eD u=bZ a/\u.cells.size=wid a/\M C a (fun j=>u.cells[j]?) 0
def ML(C:Ctx):List AV->Src->Nat->Prop
 |[],_,_=>True
 |a::l,s,o=>M C a s o/\ML C l s (o+wid a)
def MR(C:Ctx):List AV->Nat->Src->Nat->Prop
 |[],_,_,_=>True
 |a::l,z,s,o=>M C a s o/\MR C l z s (o+z)
def MT(C:Ctx):List AV->List Value->Prop
 |[],vs=>vs=[]
 |_::_,[]=>False
 |a::l,v::vs=>(eD v=bZ a\/a= .cB)/\(v.cells.size=wid a\/a= .cB)/\M C a (fun j=>v.cells[j]?) 0/\MT C l vs
end
def Rel C a v:=
 (eD v=bZ a\/a= .cB)/\(v.cells.size=wid a\/a= .cB)/\M C a (fun j=>v.cells[j]?) 0
end Go.Dn
