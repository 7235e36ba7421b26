import Derived.CallsIn
import Derived.RangeFuncIn
import Derived.OrdersIn
import Derived.RangeFuncLeaves
namespace Go.Dn
open Go
abbrev ar4:= @decide_eq_true_eq
abbrev ar5:= @Bool.and_eq_true
abbrev ar6:= @decide_eq_false_iff_not
abbrev ar7.{u}:= @Option.some.injEq.{u}
abbrev ar8:= @decide_eq_false
abbrev ar9.{u}:= @cond_false.{u}
abbrev as0:= @decide_eq_true
abbrev as1.{u}:= @cond_true.{u}
abbrev as2.{u}:= @List.drop_eq_nil_of_le.{u}
abbrev as3.{u,v}:= @Prod.mk.injEq.{u,v}
abbrev as4.{u}:= @List.drop_zero.{u}
abbrev as5.{u}:= @List.drop_eq_getElem_cons.{u}
abbrev as6:= @Bool.not_eq_false'
abbrev as7:= @Bool.or_eq_true
abbrev as8.{u}:= @List.getElem?_eq_getElem.{u}
abbrev as9.{u}:= @List.length_append.{u}
abbrev at2:= @Bool.true_and
abbrev at3.{u,v}:= @List.map_cons.{u,v}
abbrev at4.{u}:= @List.mem_cons.{u}
inductive AV where
 |cB
 |lit (v:Value)
 |ah (T:TypeId) (l:List AV)
 |agg (l:List AV)
 |aH (l:List AV)
 |ak (i lo len:Nat)
 |ptr (i k:Nat) (path:List Nat) (off:Nat)
 |jj (T:TypeId) (a:AV)
 |mp (i:Nat)
 |cf (i:Nat)
 |lj (i:Nat) (key:Value)
 |bm (f:FuncId) (caps:List AV)
 |jt (T:TypeId) (a:AV)
 |eO (K V:TypeId) (ks:List Value) (vs:List AV)
 deriving Inhabited
structure L9 where
 state:LoopState
 pending:Option Code
 fn:FuncId
 bC:List AV
 params:Array Tmp
 assign:Code
 body:Code
inductive Obj where
 |dead
 |box (T:TypeId) (a:AV)
 |row (T:TypeId) (xs:List AV)
 |lk (T:TypeId) (xs:List AV)
 |map (K V:TypeId) (es:List (Value×AV))
 |loop (r:L9)
 |iter (i n:Nat) (ks:List Value)
 |ext (todo:Option (List AV))
 |dq (s:ByteArray) (pos:Nat)
 |rows (T E:TypeId) (ls:List (List Value)) (pd:Option Nat)
 |fit (K V:TypeId) (ks:List Value) (vs:List AV) (met:List Value)
def nth:List AV->Nat->AV
 |[],_=> .cB
 |a::_,0=>a
 |_::l,n+1=>nth l n
def bH:List AV->Nat->AV->List AV
 |[],_,_=>[]
 |_::l,0,x=>x::l
 |a::l,n+1,x=>a::bH l n x
def bW:List (List Value)->Nat->List Value
 |[],_=>[]
 |a::_,0=>a
 |_::l,n+1=>bW l n
def jU:List (List Value)->Nat->List Value->List (List Value)
 |[],_,_=>[]
 |_::l,0,x=>x::l
 |a::l,n+1,x=>a::jU l n x
def ay:List Obj->Nat->Obj
 |[],_=> .dead
 |a::_,0=>a
 |_::l,n+1=>ay l n
def df:List Obj->Nat->Obj->List Obj
 |[],_,_=>[]
 |_::l,0,x=>x::l
 |a::l,n+1,x=>a::df l n x
mutual
def wid:AV->Nat
 | .agg l=>eF l
 |_=>1
def eF:List AV->Nat
 |[]=>0
 |a::l=>wid a+eF l
end
def bg:Value->Bool
 | .agg _=>false
 | .tuple _=>false
 |_=>true
def ew:Value->Bool
 | .agg _=>true
 |_=>false
def b6:AV->Bool
 | .agg _=>true
 |_=>false
def toInt:AV->Int
 | .lit (.int _ n)=>n
 |_=>0
def toBool:AV->Bool
 | .lit (.bool b)=>b
 |_=>false
def toStr:AV->ByteArray
 | .lit (.string s)=>s
 |_=>ByteArray.empty
def af:AV->List AV
 | .ah _ l=>l
 |_=>[]
def B0:AV->List Value
 | .eO _ _ a _=>a
 |_=>[]
def x9:AV->List AV
 | .eO _ _ _ a=>a
 |_=>[]
def ag:AV->Nat->AV
 | .agg l,j=>nth l j
 |_,_=> .cB
def Kj(g:TypeId->AV->AV):List Field->Nat->AV->List AV
 |[],_,_=>[]
 |f::b,j,a=>g f.type (ag a j)::Kj g b (j+1) a
def Oz(P:Program)(V:TypeId):Bool:=
 match P.underlying V with
 |some .bool=>true
 |_=>false
def expand(P:Program):Nat->TypeId->AV->AV
 |0,_,a=>a
 |d+1,T,a=>
  match P.underlying T with
  |some (.int k)=> .lit (.int k (toInt a))
  |some .bool=> .lit (.bool (toBool a))
  |some .string=> .lit (.string (toStr a))
  |some (.slice E)=> .ah E (af a)
  |some (.map K V)=>bif Oz P V then .eO K V (B0 a) (x9 a) else(match a with| .lit (.map none)=>a|_=> .eO K V (B0 a) (x9 a))
  |some (.struct b)=> .agg (Kj (expand P d) b.toList 0 a)
  |_=>a
mutual
def bB(P:Program):AV->TypeId->Prop
 | .lit v,T=>
  match P.underlying T with
  |some (.int k)=>∃n,v= .int k n
  |some .bool=>∃b,v= .bool b
  |some .string=>∃s,v= .string s
  |some (.slice _)=>v= .slice none 0 0
  |some (.map _ _)=>v= .map none
  |some (.struct _)=>False
  |some (.array _ _)=>False
  |some _=>bg v=true
  |none=>False
 | .ah E l,T=>P.underlying T=some (.slice E)/\ck P l E
 | .agg l,T=>∃fs,(P.underlying T=some (.struct fs)/\T<P.types.size)/\dW P l fs.toList
 | .jj E a,T=>P.underlying T=some (.pointer E)/\bB P a E
 | .jt U a,T=>(∃ms,P.underlying T=some (.interface ms))/\bB P a U
 | .eO K V _ vs,T=>P.underlying T=some (.map K V)/\ck P vs V
 |_,_=>False
def ck(P:Program):List AV->TypeId->Prop
 |[],_=>True
 |a::l,T=>bB P a T/\ck P l T
def dW(P:Program):List AV->List Field->Prop
 |[],[]=>True
 |a::l,f::fs=>bB P a f.type/\dW P l fs
 |_,_=>False
end
theorem xf{v}(h:bg v=true):ew v=false:=by cases v<;>simp_all[bg,ew]
def ef:Value->Value->Bool
 | .int k a, .int c b=>k==c&&a==b
 | .string a, .string b=>a==b
 | .bool a, .bool b=>a==b
 |_,_=>false
def plainKey(P:Program)(K:TypeId):Value->Bool
 | .int k _=>match P.underlying K with|some (.int a)=>k==a|_=>false
 | .string _=>match P.underlying K with|some .string=>true|_=>false
 | .bool _=>match P.underlying K with|some .bool=>true|_=>false
 |_=>false
structure lr(P:Program)(K:TypeId)(ents:List MapEntry)(clock:Nat):Prop where
 keys: ∀e,e∈ents->plainKey P K e.key=true
 apart:ents.Pairwise fun e e'=>ef e'.key e.key=false
 born:ents.Pairwise fun e e'=>e.born<e'.born
 clock: ∀e,e∈ents->e.born<clock
structure G where
 block:Nat
 cap:Nat
 isNil:Bool
structure Pg extends Program where
 kept:Nat->Option Go.Obj
 imm:TypeId->Bool:=fun _=>false
instance:CoeOut Pg Program:=⟨Pg.toProgram⟩
structure Ctx where
 P:Pg
 X:Nat->Prop
 ι:Nat->G
 st:List Obj
 w:World
 cls:Nat->Nat:=id
 so:Nat->Nat:=fun _=>0
 mc:Nat->Option (List AV)->(Nat->Prop)->(Nat->Prop)->World->Prop:=fun _ _ _ _ _=>True
def gX:Obj->Option (TypeId×List AV)
 | .row T xs=>some (T,xs)
 | .lk T xs=>some (T,xs)
 |_=>none
def mg(C:Ctx) B E k(l:List _) m(v:Value):=
 m<=l.length/\(v= .slice none 0 0/\m=0\/ ∃b cap c,v= .slice (some ⟨b,0,none⟩) m cap/\m<=cap/\cap<=maxLen/\C.cls b=B/\b≠B/\C.so b=k/\
  C.w.heap[b]? =some (.cells c E (0,0))/\cap=c.size/\∀j,j<m->c[j]? =l[j]?)
def lv C i lo n(v:Value):=
 (∀T xs,gX (ay C.st i)=some (T,xs)->
  lo+n<=xs.length/\
  ((C.ι i).isNil=true/\v= .slice none 0 0/\lo=0/\n=0\/
   (C.ι i).isNil=false/\∃cap q,v= .slice (some q) n cap/\(q=⟨(C.ι i).block,lo*C.P.cellsOf T,none⟩\/cap=0/\0<lo)/\n<=cap/\lo+cap<=(C.ι i).cap))/\
 ∀T E a b,ay C.st i= .rows T E a b->
  match lo with
  |0=>n=a.length/\∃cap,v= .slice (some ⟨(C.ι i).block,0,none⟩) n cap/\n<=cap
  |k+1=>k<a.length/\mg C (C.ι i).block E k (bW a k) n v
def pS(C:Ctx) i k off(v:Value):=
 (∀T xs,gX (ay C.st i)=some (T,xs)->k<xs.length/\v= .pointer (some ⟨(C.ι i).block,k*C.P.cellsOf T+off,none⟩))/\
 (∀T a,ay C.st i= .box T a->k=0/\v= .pointer (some ⟨(C.ι i).block,off,none⟩))/\
 (∀m n c,ay C.st i= .iter m n c->v= .pointer (some ⟨(C.ι i).block,off,none⟩))/\
 (∀s p,ay C.st i= .dq s p->v= .pointer (some ⟨(C.ι i).block,off,none⟩))/\
 (∀K V c e b,ay C.st i= .fit K V c e b->v= .pointer (some ⟨(C.ι i).block,off,none⟩))/\
 ∀T E d f,ay C.st i= .rows T E d f->k<d.length/\off=0/\v= .pointer (some ⟨(C.ι i).block,k,none⟩)
def Mb(C:Ctx) i(v:Value):=
 ∀K V a,ay C.st i= .map K V a->v= .map (some (C.ι i).block)
def yF(C:Ctx) i(v:Value):=
 (∀r,ay C.st i= .loop r->v= .func (.yield (C.ι i).block) #[] #[])/\∀t,ay C.st i= .ext t->v= .func (.yield (C.ι i).block) #[] #[]
def vz(C:Ctx) i c(v:Value):=
 ∀K V d,ay C.st i= .map K V d->∃a b,C.w.heap[(C.ι i).block]? =some (.map a b)/\∃e,e∈a/\e.key=c/\v= .int .i64 e.born
abbrev Src:=Nat->Option Value
mutual
def M(C:Ctx):AV->Src->Nat->Prop
 | .cB,_,_=>True
 | .lit u,s,o=>s o=some u/\bg u=true
 | .ah T l,s,o=>ck C.P l T/\∃p cap,s o=some (.slice p l.length cap)/\l.length<=cap/\
   (l≠[]->∃b off,p=some ⟨b,off,none⟩/\C.X b/\MR C l (C.P.cellsOf T) (fun j=>C.w.cell? ⟨b,j,none⟩) off)
 | .agg l,s,o=>ML C l s o
 | .aH l,s,o=>∃vs,s o=some (.tuple vs)/\MT C l vs.toList
 | .ak i lo n,s,o=>i<C.st.length/\∃v,s o=some v/\bg v=true/\lv C i lo n v
 | .ptr i k _ off,s,o=>i<C.st.length/\∃v,s o=some v/\bg v=true/\pS C i k off v
 | .jj T a,s,o=>∃b off,s o=some (.pointer (some ⟨b,off,none⟩))/\C.X b/\bB C.P a T/\M C a (fun j=>C.w.cell? ⟨b,j,none⟩) off
 | .mp i,s,o=>i<C.st.length/\∃v,s o=some v/\bg v=true/\Mb C i v
 | .cf i,s,o=>i<C.st.length/\∃v,s o=some v/\bg v=true/\yF C i v
 | .lj i k,s,o=>i<C.st.length/\∃v,s o=some v/\bg v=true/\vz C i k v
 | .bm f caps,s,o=>∃vs,s o=some (.func (.func f) #[] vs)/\MT C caps vs.toList
 | .eO K V ks vs,s,o=>(Oz C.P.toProgram V=true/\s o=some (.map none)/\ks=[]/\vs=[])\/ ∃b ents clock,s o=some (.map (some b))/\C.X b/\C.w.heap[b]? =some (.map ents clock)/\lr C.P K ents.toList clock/\
   ents.toList.map (·.key)=ks/\ck C.P vs V/\MT C vs (ents.toList.map (·.val))
 | .jt T a,s,o=>∃u,s o=some (.iface T u)/\ew u=b6 a/\u.cells.size=wid a/\M C a (fun j=>u.cells[j]?) 0
def ML(C:Ctx):List AV->Src->Nat->Prop
 |[],_,_=>True
 |a::l,s,o=>M C a s o/\ML C l s (o+wid a)
def MR(C:Ctx):List AV->Nat->Src->Nat->Prop
 |[],_,_,_=>True
 |a::l,z,s,o=>M C a s o/\MR C l z s (o+z)
def MT(C:Ctx):List AV->List Value->Prop
 |[],vs=>vs=[]
 |_::_,[]=>False
 |a::l,v::vs=>(ew v=b6 a\/a= .cB)/\(v.cells.size=wid a\/a= .cB)/\M C a (fun j=>v.cells[j]?) 0/\MT C l vs
end
def Rel C a v:=
 (ew v=b6 a\/a= .cB)/\(v.cells.size=wid a\/a= .cB)/\M C a (fun j=>v.cells[j]?) 0
end Go.Dn
