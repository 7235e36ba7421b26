import Derived.CallsIn
import Derived.RangeFuncIn
import Derived.OrdersIn
import Derived.RangeFuncLeaves
namespace Go.Dn
open Go
abbrev at3:= @decide_eq_true_eq
abbrev aC6:= @Bool.and_eq_true
abbrev aC7:= @decide_eq_false_iff_not
abbrev aC8.{u}:= @Option.some.injEq.{u}
abbrev aC9:= @decide_eq_false
abbrev aD0.{u}:= @cond_false.{u}
abbrev aD1:= @decide_eq_true
abbrev aD2.{u}:= @cond_true.{u}
abbrev aD3.{u}:= @List.drop_eq_nil_of_le.{u}
abbrev aD4.{u,v}:= @Prod.mk.injEq.{u,v}
abbrev aD5.{u}:= @List.drop_zero.{u}
abbrev aD6.{u}:= @List.drop_eq_getElem_cons.{u}
abbrev aD7:= @Bool.not_eq_false'
abbrev aD8.{u}:= @List.mem_append_right.{u}
abbrev aD9:= @Bool.or_eq_true
abbrev aE0.{u}:= @List.getElem?_eq_getElem.{u}
abbrev aE1.{u}:= @List.length_append.{u}
abbrev aE2:= @Bool.true_and
abbrev aE3.{u}:= @List.all_cons.{u}
abbrev aE4.{u,v}:= @List.map_cons.{u,v}
abbrev aE5.{u}:= @List.mem_cons.{u}
inductive AV where
 |cP
 |lit (v:Value)
 |ah (T:TypeId) (l:List AV)
 |agg (l:List AV)
 |aH (l:List AV)
 |ak (i lo len:Nat)
 |ptr (i k:Nat) (path:List Nat) (off:Nat)
 |jK (T:TypeId) (a:AV)
 |mp (i:Nat)
 |cn (i:Nat)
 |lZ (i:Nat) (key:Value)
 |bo (f:FuncId) (caps:List AV)
 |jT (T:TypeId) (a:AV)
 |fh (K V:TypeId) (ks:List Value) (vs:List AV)
 deriving Inhabited
structure NV where
 state:LoopState
 pending:Option Code
 fn:FuncId
 bF:List AV
 params:Array Tmp
 assign:Code
 body:Code
inductive Obj where
 |dead
 |box (T:TypeId) (a:AV)
 |row (T:TypeId) (xs:List AV)
 |l3 (T:TypeId) (xs:List AV)
 |map (K V:TypeId) (es:List (Value×AV))
 |loop (r:NV)
 |iter (i n:Nat) (ks:List Value)
 |ext (todo:Option (List AV))
 |dD (s:ByteArray) (pos:Nat)
 |rows (T E:TypeId) (ls:List (List Value)) (pd:Option Nat)
 |fit (K V:TypeId) (ks:List Value) (vs:List AV) (met:List Value)
def nth:List AV->Nat->AV
 |[],_=> .cP
 |a::_,0=>a
 |_::l,n+1=>nth l n
def bP:List AV->Nat->AV->List AV
 |[],_,_=>[]
 |_::l,0,x=>x::l
 |a::l,n+1,x=>a::bP l n x
def b8:List (List Value)->Nat->List Value
 |[],_=>[]
 |a::_,0=>a
 |_::l,n+1=>b8 l n
def iD:List (List Value)->Nat->List Value->List (List Value)
 |[],_,_=>[]
 |_::l,0,x=>x::l
 |a::l,n+1,x=>a::iD l n x
def ay:List Obj->Nat->Obj
 |[],_=> .dead
 |a::_,0=>a
 |_::l,n+1=>ay l n
def dv:List Obj->Nat->Obj->List Obj
 |[],_,_=>[]
 |_::l,0,x=>x::l
 |a::l,n+1,x=>a::dv l n x
mutual
def wid:AV->Nat
 | .agg l=>fc l
 |_=>1
def fc:List AV->Nat
 |[]=>0
 |a::l=>wid a+fc l
end
def bj:Value->Bool
 | .agg _=>false
 | .tuple _=>false
 |_=>true
def e6:Value->Bool
 | .agg _=>true
 |_=>false
def cg:AV->Bool
 | .agg _=>true
 |_=>false
def toInt:AV->Int
 | .lit (.int _ n)=>n
 |_=>0
def toBool:AV->Bool
 | .lit (.bool b)=>b
 |_=>false
def toStr:AV->ByteArray
 | .lit (.string s)=>s
 |_=>ByteArray.empty
def ag:AV->List AV
 | .ah _ l=>l
 |_=>[]
def DD:AV->List Value
 | .fh _ _ a _=>a
 |_=>[]
def zo:AV->List AV
 | .fh _ _ _ a=>a
 |_=>[]
def af:AV->Nat->AV
 | .agg l,j=>nth l j
 |_,_=> .cP
def L5(g:TypeId->AV->AV):List Field->Nat->AV->List AV
 |[],_,_=>[]
 |f::b,j,a=>g f.type (af a j)::L5 g b (j+1) a
def Qp(P:Program)(V:TypeId):Bool:=
 match P.underlying V with
 |some .bool=>true
 |_=>false
def expand(P:Program):Nat->TypeId->AV->AV
 |0,_,a=>a
 |d+1,T,a=>
  match P.underlying T with
  |some (.int k)=> .lit (.int k (toInt a))
  |some .bool=> .lit (.bool (toBool a))
  |some .string=> .lit (.string (toStr a))
  |some (.slice E)=> .ah E (ag a)
  |some (.map K V)=>bif Qp P V then .fh K V (DD a) (zo a) else(match a with| .lit (.map none)=>a|_=> .fh K V (DD a) (zo a))
  |some (.struct b)=> .agg (L5 (expand P d) b.toList 0 a)
  |_=>a
mutual
def bE(P:Program):AV->TypeId->Prop
 | .lit v,T=>
  match P.underlying T with
  |some (.int k)=>∃n,v= .int k n
  |some .bool=>∃b,v= .bool b
  |some .string=>∃s,v= .string s
  |some (.slice _)=>v= .slice none 0 0
  |some (.map _ _)=>v= .map none
  |some (.struct _)=>False
  |some (.array _ _)=>False
  |some _=>bj v=true
  |none=>False
 | .ah E l,T=>P.underlying T=some (.slice E)/\cu P l E
 | .agg l,T=>∃fs,(P.underlying T=some (.struct fs)/\T<P.types.size)/\eB P l fs.toList
 | .jK E a,T=>P.underlying T=some (.pointer E)/\bE P a E
 | .jT U a,T=>(∃ms,P.underlying T=some (.interface ms))/\bE P a U
 | .fh K V _ vs,T=>P.underlying T=some (.map K V)/\cu P vs V
 |_,_=>False
def cu(P:Program):List AV->TypeId->Prop
 |[],_=>True
 |a::l,T=>bE P a T/\cu P l T
def eB(P:Program):List AV->List Field->Prop
 |[],[]=>True
 |a::l,f::fs=>bE P a f.type/\eB P l fs
 |_,_=>False
end
theorem yw{v}(h:bj v=true):e6 v=false:=by cases v<;>simp_all[bj,e6]
def eP:Value->Value->Bool
 | .int k a, .int c b=>k==c&&a==b
 | .string a, .string b=>a==b
 | .bool a, .bool b=>a==b
 |_,_=>false
def plainKey(P:Program)(K:TypeId):Value->Bool
 | .int k _=>match P.underlying K with|some (.int a)=>k==a|_=>false
 | .string _=>match P.underlying K with|some .string=>true|_=>false
 | .bool _=>match P.underlying K with|some .bool=>true|_=>false
 |_=>false
structure l5(P:Program)(K:TypeId)(ents:List MapEntry)(clock:Nat):Prop where
 keys: ∀e,e∈ents->plainKey P K e.key=true
 apart:ents.Pairwise fun e e'=>eP e'.key e.key=false
 born:ents.Pairwise fun e e'=>e.born<e'.born
 clock: ∀e,e∈ents->e.born<clock
structure G where
 block:Nat
 cap:Nat
 isNil:Bool
structure Pg extends Program where
 kept:Nat->Option Go.Obj
 imm:TypeId->Bool:=fun _=>false
instance:CoeOut Pg Program:=⟨Pg.toProgram⟩
structure Ctx where
 P:Pg
 X:Nat->Prop
 ι:Nat->G
 st:List Obj
 w:World
 cls:Nat->Nat:=id
 tI:Nat->Nat:=fun _=>0
 mX:Nat->Option (List AV)->(Nat->Prop)->(Nat->Prop)->World->Prop:=fun _ _ _ _ _=>True
def iL:Obj->Option (TypeId×List AV)
 | .row T xs=>some (T,xs)
 | .l3 T xs=>some (T,xs)
 |_=>none
def mZ(C:Ctx) B E k(l:List _) m(v:Value):=
 m<=l.length/\(v= .slice none 0 0/\m=0\/ ∃b cap c,v= .slice (some ⟨b,0,none⟩) m cap/\m<=cap/\cap<=maxLen/\C.cls b=B/\b≠B/\C.tI b=k/\
  C.w.heap[b]? =some (.cells c E (0,0))/\cap=c.size/\∀j,j<m->c[j]? =l[j]?)
def l7 C i lo n(v:Value):=
 (∀T xs,iL (ay C.st i)=some (T,xs)->
  lo+n<=xs.length/\
  ((C.ι i).isNil=true/\v= .slice none 0 0/\lo=0/\n=0\/
   (C.ι i).isNil=false/\∃cap q,v= .slice (some q) n cap/\(q=⟨(C.ι i).block,lo*C.P.cellsOf T,none⟩\/cap=0/\0<lo)/\n<=cap/\lo+cap<=(C.ι i).cap))/\
 ∀T E a b,ay C.st i= .rows T E a b->
  match lo with
  |0=>n=a.length/\∃cap,v= .slice (some ⟨(C.ι i).block,0,none⟩) n cap/\n<=cap
  |k+1=>k<a.length/\mZ C (C.ι i).block E k (b8 a k) n v
def qS(C:Ctx) i k off(v:Value):=
 (∀T xs,iL (ay C.st i)=some (T,xs)->k<xs.length/\v= .pointer (some ⟨(C.ι i).block,k*C.P.cellsOf T+off,none⟩))/\
 (∀T a,ay C.st i= .box T a->k=0/\v= .pointer (some ⟨(C.ι i).block,off,none⟩))/\
 (∀m n c,ay C.st i= .iter m n c->v= .pointer (some ⟨(C.ι i).block,off,none⟩))/\
 (∀s p,ay C.st i= .dD s p->v= .pointer (some ⟨(C.ι i).block,off,none⟩))/\
 (∀K V c e b,ay C.st i= .fit K V c e b->v= .pointer (some ⟨(C.ι i).block,off,none⟩))/\
 ∀T E d f,ay C.st i= .rows T E d f->k<d.length/\off=0/\v= .pointer (some ⟨(C.ι i).block,k,none⟩)
def NX(C:Ctx) i(v:Value):=
 ∀K V a,ay C.st i= .map K V a->v= .map (some (C.ι i).block)
def zY(C:Ctx) i(v:Value):=
 (∀r,ay C.st i= .loop r->v= .func (.yield (C.ι i).block) #[] #[])/\∀t,ay C.st i= .ext t->v= .func (.yield (C.ι i).block) #[] #[]
def w6(C:Ctx) i c(v:Value):=
 ∀K V d,ay C.st i= .map K V d->∃a b,C.w.heap[(C.ι i).block]? =some (.map a b)/\∃e,e∈a/\e.key=c/\v= .int .i64 e.born
abbrev Src:=Nat->Option Value
mutual
def M(C:Ctx):AV->Src->Nat->Prop
 | .cP,_,_=>True
 | .lit u,s,o=>s o=some u/\bj u=true
 | .ah T l,s,o=>cu C.P l T/\∃p cap,s o=some (.slice p l.length cap)/\l.length<=cap/\
   (l≠[]->∃b off,p=some ⟨b,off,none⟩/\C.X b/\MR C l (C.P.cellsOf T) (fun j=>C.w.cell? ⟨b,j,none⟩) off)
 | .agg l,s,o=>ML C l s o
 | .aH l,s,o=>∃vs,s o=some (.tuple vs)/\MT C l vs.toList
 | .ak i lo n,s,o=>i<C.st.length/\∃v,s o=some v/\bj v=true/\l7 C i lo n v
 | .ptr i k _ off,s,o=>i<C.st.length/\∃v,s o=some v/\bj v=true/\qS C i k off v
 | .jK T a,s,o=>∃b off,s o=some (.pointer (some ⟨b,off,none⟩))/\C.X b/\bE C.P a T/\M C a (fun j=>C.w.cell? ⟨b,j,none⟩) off
 | .mp i,s,o=>i<C.st.length/\∃v,s o=some v/\bj v=true/\NX C i v
 | .cn i,s,o=>i<C.st.length/\∃v,s o=some v/\bj v=true/\zY C i v
 | .lZ i k,s,o=>i<C.st.length/\∃v,s o=some v/\bj v=true/\w6 C i k v
 | .bo f caps,s,o=>∃vs,s o=some (.func (.func f) #[] vs)/\MT C caps vs.toList
 | .fh K V ks vs,s,o=>(Qp C.P.toProgram V=true/\s o=some (.map none)/\ks=[]/\vs=[])\/ ∃b ents clock,s o=some (.map (some b))/\C.X b/\C.w.heap[b]? =some (.map ents clock)/\l5 C.P K ents.toList clock/\
   ents.toList.map (·.key)=ks/\cu C.P vs V/\MT C vs (ents.toList.map (·.val))
 | .jT T a,s,o=>∃u,s o=some (.iface T u)/\e6 u=cg a/\u.cells.size=wid a/\M C a (fun j=>u.cells[j]?) 0
def ML(C:Ctx):List AV->Src->Nat->Prop
 |[],_,_=>True
 |a::l,s,o=>M C a s o/\ML C l s (o+wid a)
def MR(C:Ctx):List AV->Nat->Src->Nat->Prop
 |[],_,_,_=>True
 |a::l,z,s,o=>M C a s o/\MR C l z s (o+z)
def MT(C:Ctx):List AV->List Value->Prop
 |[],vs=>vs=[]
 |_::_,[]=>False
 |a::l,v::vs=>(e6 v=cg a\/a= .cP)/\(v.cells.size=wid a\/a= .cP)/\M C a (fun j=>v.cells[j]?) 0/\MT C l vs
end
def Rel C a v:=
 (e6 v=cg a\/a= .cP)/\(v.cells.size=wid a\/a= .cP)/\M C a (fun j=>v.cells[j]?) 0
end Go.Dn
