import Derived.CallsIn
import Derived.RangeFuncIn
import Derived.OrdersIn
import Derived.RangeFuncLeaves
namespace Go.Dn
open Go
abbrev an9:= @decide_eq_true_eq
abbrev ao0:= @Bool.and_eq_true
abbrev ao1:= @decide_eq_false_iff_not
abbrev ao2.{u}:= @Option.some.injEq.{u}
abbrev ao3:= @decide_eq_false
abbrev ao4.{u}:= @cond_false.{u}
abbrev ao5:= @decide_eq_true
abbrev ao6.{u}:= @cond_true.{u}
abbrev ao7.{u}:= @List.drop_eq_nil_of_le.{u}
abbrev ao8.{u,v}:= @Prod.mk.injEq.{u,v}
abbrev ao9.{u}:= @List.drop_zero.{u}
abbrev ap0.{u}:= @List.drop_eq_getElem_cons.{u}
abbrev ap1:= @Bool.not_eq_false'
abbrev ap2:= @Bool.or_eq_true
abbrev ap3.{u}:= @List.getElem?_eq_getElem.{u}
abbrev ap4.{u}:= @List.length_append.{u}
abbrev ap5:= @Bool.true_and
abbrev ap6.{u,v}:= @List.map_cons.{u,v}
abbrev ap7.{u}:= @List.mem_cons.{u}
inductive AV where
 |cC
 |lit (v:Value)
 |ah (T:TypeId) (l:List AV)
 |agg (l:List AV)
 |aJ (l:List AV)
 |an (i lo len:Nat)
 |ptr (i k:Nat) (path:List Nat) (off:Nat)
 |jh (T:TypeId) (a:AV)
 |mp (i:Nat)
 |cf (i:Nat)
 |lv (i:Nat) (key:Value)
 |bn (f:FuncId) (caps:List AV)
 |jx (T:TypeId) (a:AV)
 |eQ (K V:TypeId) (ks:List Value) (vs:List AV)
 deriving Inhabited
structure Nk where
 state:LoopState
 pending:Option Code
 fn:FuncId
 bC:List AV
 params:Array Tmp
 assign:Code
 body:Code
inductive Obj where
 |dead
 |box (T:TypeId) (a:AV)
 |row (T:TypeId) (xs:List AV)
 |lx (T:TypeId) (xs:List AV)
 |map (K V:TypeId) (es:List (Value×AV))
 |loop (r:Nk)
 |iter (i n:Nat) (ks:List Value)
 |ext (todo:Option (List AV))
 |dq (s:ByteArray) (pos:Nat)
 |rows (T E:TypeId) (ls:List (List Value)) (pd:Option Nat)
 |fit (K V:TypeId) (ks:List Value) (vs:List AV) (met:List Value)
def nth:List AV->Nat->AV
 |[],_=> .cC
 |a::_,0=>a
 |_::l,n+1=>nth l n
def bt:List AV->Nat->AV->List AV
 |[],_,_=>[]
 |_::l,0,x=>x::l
 |a::l,n+1,x=>a::bt l n x
def bU:List (List Value)->Nat->List Value
 |[],_=>[]
 |a::_,0=>a
 |_::l,n+1=>bU l n
def jQ:List (List Value)->Nat->List Value->List (List Value)
 |[],_,_=>[]
 |_::l,0,x=>x::l
 |a::l,n+1,x=>a::jQ l n x
def ay:List Obj->Nat->Obj
 |[],_=> .dead
 |a::_,0=>a
 |_::l,n+1=>ay l n
def dd:List Obj->Nat->Obj->List Obj
 |[],_,_=>[]
 |_::l,0,x=>x::l
 |a::l,n+1,x=>a::dd l n x
mutual
def wid:AV->Nat
 | .agg l=>eC l
 |_=>1
def eC:List AV->Nat
 |[]=>0
 |a::l=>wid a+eC l
end
def bh:Value->Bool
 | .agg _=>false
 | .tuple _=>false
 |_=>true
def eH:Value->Bool
 | .agg _=>true
 |_=>false
def bX:AV->Bool
 | .agg _=>true
 |_=>false
def toInt:AV->Int
 | .lit (.int _ n)=>n
 |_=>0
def toBool:AV->Bool
 | .lit (.bool b)=>b
 |_=>false
def toStr:AV->ByteArray
 | .lit (.string s)=>s
 |_=>ByteArray.empty
def ag:AV->List AV
 | .ah _ l=>l
 |_=>[]
def Cb:AV->List Value
 | .eQ _ _ a _=>a
 |_=>[]
def yf:AV->List AV
 | .eQ _ _ _ a=>a
 |_=>[]
def af:AV->Nat->AV
 | .agg l,j=>nth l j
 |_,_=> .cC
def Ke(g:TypeId->AV->AV):List Field->Nat->AV->List AV
 |[],_,_=>[]
 |f::b,j,a=>g f.type (af a j)::Ke g b (j+1) a
def Ph(P:Program)(V:TypeId):Bool:=
 match P.underlying V with
 |some .bool=>true
 |_=>false
def expand(P:Program):Nat->TypeId->AV->AV
 |0,_,a=>a
 |d+1,T,a=>
  match P.underlying T with
  |some (.int k)=> .lit (.int k (toInt a))
  |some .bool=> .lit (.bool (toBool a))
  |some .string=> .lit (.string (toStr a))
  |some (.slice E)=> .ah E (ag a)
  |some (.map K V)=>bif Ph P V then .eQ K V (Cb a) (yf a) else(match a with| .lit (.map none)=>a|_=> .eQ K V (Cb a) (yf a))
  |some (.struct b)=> .agg (Ke (expand P d) b.toList 0 a)
  |_=>a
mutual
def bB(P:Program):AV->TypeId->Prop
 | .lit v,T=>
  match P.underlying T with
  |some (.int k)=>∃n,v= .int k n
  |some .bool=>∃b,v= .bool b
  |some .string=>∃s,v= .string s
  |some (.slice _)=>v= .slice none 0 0
  |some (.map _ _)=>v= .map none
  |some (.struct _)=>False
  |some (.array _ _)=>False
  |some _=>bh v=true
  |none=>False
 | .ah E l,T=>P.underlying T=some (.slice E)/\ck P l E
 | .agg l,T=>∃fs,(P.underlying T=some (.struct fs)/\T<P.types.size)/\dY P l fs.toList
 | .jh E a,T=>P.underlying T=some (.pointer E)/\bB P a E
 | .jx U a,T=>(∃ms,P.underlying T=some (.interface ms))/\bB P a U
 | .eQ K V _ vs,T=>P.underlying T=some (.map K V)/\ck P vs V
 |_,_=>False
def ck(P:Program):List AV->TypeId->Prop
 |[],_=>True
 |a::l,T=>bB P a T/\ck P l T
def dY(P:Program):List AV->List Field->Prop
 |[],[]=>True
 |a::l,f::fs=>bB P a f.type/\dY P l fs
 |_,_=>False
end
theorem wQ{v}(h:bh v=true):eH v=false:=by cases v<;>simp_all[bh,eH]
def ei:Value->Value->Bool
 | .int k a, .int c b=>k==c&&a==b
 | .string a, .string b=>a==b
 | .bool a, .bool b=>a==b
 |_,_=>false
def plainKey(P:Program)(K:TypeId):Value->Bool
 | .int k _=>match P.underlying K with|some (.int a)=>k==a|_=>false
 | .string _=>match P.underlying K with|some .string=>true|_=>false
 | .bool _=>match P.underlying K with|some .bool=>true|_=>false
 |_=>false
structure lX(P:Program)(K:TypeId)(ents:List MapEntry)(clock:Nat):Prop where
 keys: ∀e,e∈ents->plainKey P K e.key=true
 apart:ents.Pairwise fun e e'=>ei e'.key e.key=false
 born:ents.Pairwise fun e e'=>e.born<e'.born
 clock: ∀e,e∈ents->e.born<clock
structure G where
 block:Nat
 cap:Nat
 isNil:Bool
structure Pg extends Program where
 kept:Nat->Option Go.Obj
 imm:TypeId->Bool:=fun _=>false
instance:CoeOut Pg Program:=⟨Pg.toProgram⟩
structure Ctx where
 P:Pg
 X:Nat->Prop
 ι:Nat->G
 st:List Obj
 w:World
 cls:Nat->Nat:=id
 su:Nat->Nat:=fun _=>0
 mi:Nat->Option (List AV)->(Nat->Prop)->(Nat->Prop)->World->Prop:=fun _ _ _ _ _=>True
def hR:Obj->Option (TypeId×List AV)
 | .row T xs=>some (T,xs)
 | .lx T xs=>some (T,xs)
 |_=>none
def mw(C:Ctx) B E k(l:List _) m(v:Value):=
 m<=l.length/\(v= .slice none 0 0/\m=0\/ ∃b cap c,v= .slice (some ⟨b,0,none⟩) m cap/\m<=cap/\cap<=maxLen/\C.cls b=B/\b≠B/\C.su b=k/\
  C.w.heap[b]? =some (.cells c E (0,0))/\cap=c.size/\∀j,j<m->c[j]? =l[j]?)
def lA C i lo n(v:Value):=
 (∀T xs,hR (ay C.st i)=some (T,xs)->
  lo+n<=xs.length/\
  ((C.ι i).isNil=true/\v= .slice none 0 0/\lo=0/\n=0\/
   (C.ι i).isNil=false/\∃cap q,v= .slice (some q) n cap/\(q=⟨(C.ι i).block,lo*C.P.cellsOf T,none⟩\/cap=0/\0<lo)/\n<=cap/\lo+cap<=(C.ι i).cap))/\
 ∀T E a b,ay C.st i= .rows T E a b->
  match lo with
  |0=>n=a.length/\∃cap,v= .slice (some ⟨(C.ι i).block,0,none⟩) n cap/\n<=cap
  |k+1=>k<a.length/\mw C (C.ι i).block E k (bU a k) n v
def qj(C:Ctx) i k off(v:Value):=
 (∀T xs,hR (ay C.st i)=some (T,xs)->k<xs.length/\v= .pointer (some ⟨(C.ι i).block,k*C.P.cellsOf T+off,none⟩))/\
 (∀T a,ay C.st i= .box T a->k=0/\v= .pointer (some ⟨(C.ι i).block,off,none⟩))/\
 (∀m n c,ay C.st i= .iter m n c->v= .pointer (some ⟨(C.ι i).block,off,none⟩))/\
 (∀s p,ay C.st i= .dq s p->v= .pointer (some ⟨(C.ι i).block,off,none⟩))/\
 (∀K V c e b,ay C.st i= .fit K V c e b->v= .pointer (some ⟨(C.ι i).block,off,none⟩))/\
 ∀T E d f,ay C.st i= .rows T E d f->k<d.length/\off=0/\v= .pointer (some ⟨(C.ι i).block,k,none⟩)
def Mc(C:Ctx) i(v:Value):=
 ∀K V a,ay C.st i= .map K V a->v= .map (some (C.ι i).block)
def zX(C:Ctx) i(v:Value):=
 (∀r,ay C.st i= .loop r->v= .func (.yield (C.ι i).block) #[] #[])/\∀t,ay C.st i= .ext t->v= .func (.yield (C.ι i).block) #[] #[]
def x0(C:Ctx) i c(v:Value):=
 ∀K V d,ay C.st i= .map K V d->∃a b,C.w.heap[(C.ι i).block]? =some (.map a b)/\∃e,e∈a/\e.key=c/\v= .int .i64 e.born
abbrev Src:=Nat->Option Value
mutual
def M(C:Ctx):AV->Src->Nat->Prop
 | .cC,_,_=>True
 | .lit u,s,o=>s o=some u/\bh u=true
 | .ah T l,s,o=>ck C.P l T/\∃p cap,s o=some (.slice p l.length cap)/\l.length<=cap/\
   (l≠[]->∃b off,p=some ⟨b,off,none⟩/\C.X b/\MR C l (C.P.cellsOf T) (fun j=>C.w.cell? ⟨b,j,none⟩) off)
 | .agg l,s,o=>ML C l s o
 | .aJ l,s,o=>∃vs,s o=some (.tuple vs)/\MT C l vs.toList
 | .an i lo n,s,o=>i<C.st.length/\∃v,s o=some v/\bh v=true/\lA C i lo n v
 | .ptr i k _ off,s,o=>i<C.st.length/\∃v,s o=some v/\bh v=true/\qj C i k off v
 | .jh T a,s,o=>∃b off,s o=some (.pointer (some ⟨b,off,none⟩))/\C.X b/\bB C.P a T/\M C a (fun j=>C.w.cell? ⟨b,j,none⟩) off
 | .mp i,s,o=>i<C.st.length/\∃v,s o=some v/\bh v=true/\Mc C i v
 | .cf i,s,o=>i<C.st.length/\∃v,s o=some v/\bh v=true/\zX C i v
 | .lv i k,s,o=>i<C.st.length/\∃v,s o=some v/\bh v=true/\x0 C i k v
 | .bn f caps,s,o=>∃vs,s o=some (.func (.func f) #[] vs)/\MT C caps vs.toList
 | .eQ K V ks vs,s,o=>(Ph C.P.toProgram V=true/\s o=some (.map none)/\ks=[]/\vs=[])\/ ∃b ents clock,s o=some (.map (some b))/\C.X b/\C.w.heap[b]? =some (.map ents clock)/\lX C.P K ents.toList clock/\
   ents.toList.map (·.key)=ks/\ck C.P vs V/\MT C vs (ents.toList.map (·.val))
 | .jx T a,s,o=>∃u,s o=some (.iface T u)/\eH u=bX a/\u.cells.size=wid a/\M C a (fun j=>u.cells[j]?) 0
def ML(C:Ctx):List AV->Src->Nat->Prop
 |[],_,_=>True
 |a::l,s,o=>M C a s o/\ML C l s (o+wid a)
def MR(C:Ctx):List AV->Nat->Src->Nat->Prop
 |[],_,_,_=>True
 |a::l,z,s,o=>M C a s o/\MR C l z s (o+z)
def MT(C:Ctx):List AV->List Value->Prop
 |[],vs=>vs=[]
 |_::_,[]=>False
 |a::l,v::vs=>(eH v=bX a\/a= .cC)/\(v.cells.size=wid a\/a= .cC)/\M C a (fun j=>v.cells[j]?) 0/\MT C l vs
end
def Rel C a v:=
 (eH v=bX a\/a= .cC)/\(v.cells.size=wid a\/a= .cC)/\M C a (fun j=>v.cells[j]?) 0
end Go.Dn
