import Derived.CallsIn
import Derived.RangeFuncIn
import Derived.OrdersIn
import Derived.RangeFuncLeaves
namespace Go.Dn
open Go
abbrev an2:= @decide_eq_true_eq
abbrev an3:= @Bool.and_eq_true
abbrev an4:= @decide_eq_false_iff_not
abbrev an5.{u}:= @Option.some.injEq.{u}
abbrev an6:= @decide_eq_false
abbrev an7.{u}:= @cond_false.{u}
abbrev an8:= @decide_eq_true
abbrev an9.{u}:= @cond_true.{u}
abbrev ao0.{u}:= @List.drop_eq_nil_of_le.{u}
abbrev ao1.{u,v}:= @Prod.mk.injEq.{u,v}
abbrev ao2.{u}:= @List.drop_zero.{u}
abbrev ao3.{u}:= @List.drop_eq_getElem_cons.{u}
abbrev ao4:= @Bool.not_eq_false'
abbrev ao5.{u}:= @List.getElem?_eq_getElem.{u}
abbrev ao6.{u}:= @List.length_append.{u}
abbrev ao7:= @Bool.true_and
abbrev ao8.{u}:= @List.all_cons.{u}
abbrev ao9.{u,v}:= @List.map_cons.{u,v}
abbrev ap0.{u}:= @List.mem_cons.{u}
inductive AV where
 |cK
 |lit (v:Value)
 |ad (T:TypeId) (l:List AV)
 |agg (l:List AV)
 |aK (l:List AV)
 |ax (i lo len:Nat)
 |ptr (i k:Nat) (path:List Nat) (off:Nat)
 |jA (T:TypeId) (a:AV)
 |mp (i:Nat)
 |bJ (i:Nat)
 |lC (i:Nat) (key:Value)
 |bp (f:FuncId) (caps:List AV)
 |jz (T:TypeId) (a:AV)
 |eO (K V:TypeId) (ks:List Value) (vs:List AV)
 deriving Inhabited
structure Lf where
 state:LoopState
 pending:Option Code
 fn:FuncId
 bz:List AV
 params:Array Tmp
 assign:Code
 body:Code
inductive Obj where
 |dead
 |box (T:TypeId) (a:AV)
 |row (T:TypeId) (xs:List AV)
 |lD (T:TypeId) (xs:List AV)
 |map (K V:TypeId) (es:List (Value×AV))
 |loop (r:Lf)
 |iter (i n:Nat) (ks:List Value)
 |ext (todo:Option (List AV))
 |dy (s:ByteArray) (pos:Nat)
 |rows (T E:TypeId) (ls:List (List Value)) (pd:Option Nat)
 |fit (K V:TypeId) (ks:List Value) (vs:List AV) (met:List Value)
def nth:List AV->Nat->AV
 |[],_=> .cK
 |a::_,0=>a
 |_::l,n+1=>nth l n
def bQ:List AV->Nat->AV->List AV
 |[],_,_=>[]
 |_::l,0,x=>x::l
 |a::l,n+1,x=>a::bQ l n x
def ez:List (List Value)->Nat->List Value
 |[],_=>[]
 |a::_,0=>a
 |_::l,n+1=>ez l n
def mT:List (List Value)->Nat->List Value->List (List Value)
 |[],_,_=>[]
 |_::l,0,x=>x::l
 |a::l,n+1,x=>a::mT l n x
def au:List Obj->Nat->Obj
 |[],_=> .dead
 |a::_,0=>a
 |_::l,n+1=>au l n
def dj:List Obj->Nat->Obj->List Obj
 |[],_,_=>[]
 |_::l,0,x=>x::l
 |a::l,n+1,x=>a::dj l n x
mutual
def wid:AV->Nat
 | .agg l=>eL l
 |_=>1
def eL:List AV->Nat
 |[]=>0
 |a::l=>wid a+eL l
end
def bg:Value->Bool
 | .agg _=>false
 | .tuple _=>false
 |_=>true
def eF:Value->Bool
 | .agg _=>true
 |_=>false
def bV:AV->Bool
 | .agg _=>true
 |_=>false
def toInt:AV->Int
 | .lit (.int _ n)=>n
 |_=>0
def toBool:AV->Bool
 | .lit (.bool b)=>b
 |_=>false
def toStr:AV->ByteArray
 | .lit (.string s)=>s
 |_=>ByteArray.empty
def aa:AV->List AV
 | .ad _ l=>l
 |_=>[]
def Rm:AV->List Value
 | .eO _ _ a _=>a
 |_=>[]
def Kx:AV->List AV
 | .eO _ _ _ a=>a
 |_=>[]
def af:AV->Nat->AV
 | .agg l,j=>nth l j
 |_,_=> .cK
def Jx(g:TypeId->AV->AV):List Field->Nat->AV->List AV
 |[],_,_=>[]
 |f::b,j,a=>g f.type (af a j)::Jx g b (j+1) a
def Nv(P:Program)(V:TypeId):Bool:=
 match P.underlying V with
 |some .bool=>true
 |_=>false
def expand(P:Program):Nat->TypeId->AV->AV
 |0,_,a=>a
 |d+1,T,a=>
  match P.underlying T with
  |some (.int k)=> .lit (.int k (toInt a))
  |some .bool=> .lit (.bool (toBool a))
  |some .string=> .lit (.string (toStr a))
  |some (.slice E)=> .ad E (aa a)
  |some (.map K V)=>bif Nv P V then .eO K V (Rm a) (Kx a) else(match a with| .lit (.map none)=>a|_=> .eO K V (Rm a) (Kx a))
  |some (.struct b)=> .agg (Jx (expand P d) b.toList 0 a)
  |_=>a
mutual
def bu(P:Program):AV->TypeId->Prop
 | .lit v,T=>
  match P.underlying T with
  |some (.int k)=>∃n,v= .int k n
  |some .bool=>∃b,v= .bool b
  |some .string=>∃s,v= .string s
  |some (.slice _)=>v= .slice none 0 0
  |some (.map _ _)=>v= .map none
  |some (.struct _)=>False
  |some (.array _ _)=>False
  |some _=>bg v=true
  |none=>False
 | .ad E l,T=>P.underlying T=some (.slice E)/\b8 P l E
 | .agg l,T=>∃fs,(P.underlying T=some (.struct fs)/\T<P.types.size)/\ea P l fs.toList
 | .jA E a,T=>P.underlying T=some (.pointer E)/\bu P a E
 | .jz U a,T=>(∃ms,P.underlying T=some (.interface ms))/\bu P a U
 | .eO K V _ vs,T=>P.underlying T=some (.map K V)/\b8 P vs V
 |_,_=>False
def b8(P:Program):List AV->TypeId->Prop
 |[],_=>True
 |a::l,T=>bu P a T/\b8 P l T
def ea(P:Program):List AV->List Field->Prop
 |[],[]=>True
 |a::l,f::fs=>bu P a f.type/\ea P l fs
 |_,_=>False
end
theorem xj{v}(h:bg v=true):eF v=false:=by cases v<;>simp_all[bg,eF]
def eM:Value->Value->Bool
 | .int k a, .int c b=>k==c&&a==b
 | .string a, .string b=>a==b
 | .bool a, .bool b=>a==b
 |_,_=>false
def plainKey(P:Program)(K:TypeId):Value->Bool
 | .int k _=>match P.underlying K with|some (.int a)=>k==a|_=>false
 | .string _=>match P.underlying K with|some .string=>true|_=>false
 | .bool _=>match P.underlying K with|some .bool=>true|_=>false
 |_=>false
structure lF(P:Program)(K:TypeId)(ents:List MapEntry)(clock:Nat):Prop where
 keys: ∀e,e∈ents->plainKey P K e.key=true
 apart:ents.Pairwise fun e e'=>eM e'.key e.key=false
 born:ents.Pairwise fun e e'=>e.born<e'.born
 clock: ∀e,e∈ents->e.born<clock
structure G where
 block:Nat
 cap:Nat
 isNil:Bool
structure Pg extends Program where
 kept:Nat->Option Go.Obj
 imm:TypeId->Bool:=fun _=>false
instance:CoeOut Pg Program:=⟨Pg.toProgram⟩
structure Ctx where
 P:Pg
 X:Nat->Prop
 ι:Nat->G
 st:List Obj
 w:World
 cls:Nat->Nat:=id
 s5:Nat->Nat:=fun _=>0
 mv:Nat->Option (List AV)->(Nat->Prop)->(Nat->Prop)->World->Prop:=fun _ _ _ _ _=>True
def ib:Obj->Option (TypeId×List AV)
 | .row T xs=>some (T,xs)
 | .lD T xs=>some (T,xs)
 |_=>none
def mx(C:Ctx) B E k(l:List _) m(v:Value):=
 m<=l.length/\(v= .slice none 0 0/\m=0\/ ∃b cap c,v= .slice (some ⟨b,0,none⟩) m cap/\m<=cap/\cap<=maxLen/\C.cls b=B/\b≠B/\C.s5 b=k/\
  C.w.heap[b]? =some (.cells c E (0,0))/\cap=c.size/\∀j,j<m->c[j]? =l[j]?)
def lH C i lo n(v:Value):=
 (∀T xs,ib (au C.st i)=some (T,xs)->
  lo+n<=xs.length/\
  ((C.ι i).isNil=true/\v= .slice none 0 0/\lo=0/\n=0\/
   (C.ι i).isNil=false/\∃cap q,v= .slice (some q) n cap/\(q=⟨(C.ι i).block,lo*C.P.cellsOf T,none⟩\/cap=0/\0<lo)/\n<=cap/\lo+cap<=(C.ι i).cap))/\
 ∀T E a b,au C.st i= .rows T E a b->
  match lo with
  |0=>n=a.length/\∃cap,v= .slice (some ⟨(C.ι i).block,0,none⟩) n cap/\n<=cap
  |k+1=>k<a.length/\mx C (C.ι i).block E k (ez a k) n v
def ql(C:Ctx) i k off(v:Value):=
 (∀T xs,ib (au C.st i)=some (T,xs)->k<xs.length/\v= .pointer (some ⟨(C.ι i).block,k*C.P.cellsOf T+off,none⟩))/\
 (∀T a,au C.st i= .box T a->k=0/\v= .pointer (some ⟨(C.ι i).block,off,none⟩))/\
 (∀m n c,au C.st i= .iter m n c->v= .pointer (some ⟨(C.ι i).block,off,none⟩))/\
 (∀s p,au C.st i= .dy s p->v= .pointer (some ⟨(C.ι i).block,off,none⟩))/\
 (∀K V c e b,au C.st i= .fit K V c e b->v= .pointer (some ⟨(C.ι i).block,off,none⟩))/\
 ∀T E d f,au C.st i= .rows T E d f->k<d.length/\off=0/\v= .pointer (some ⟨(C.ι i).block,k,none⟩)
def Lh(C:Ctx) i(v:Value):=
 ∀K V a,au C.st i= .map K V a->v= .map (some (C.ι i).block)
def yK(C:Ctx) i(v:Value):=
 (∀r,au C.st i= .loop r->v= .func (.yield (C.ι i).block) #[] #[])/\∀t,au C.st i= .ext t->v= .func (.yield (C.ι i).block) #[] #[]
def vM(C:Ctx) i c(v:Value):=
 ∀K V d,au C.st i= .map K V d->∃a b,C.w.heap[(C.ι i).block]? =some (.map a b)/\∃e,e∈a/\e.key=c/\v= .int .i64 e.born
abbrev Src:=Nat->Option Value
mutual
def M(C:Ctx):AV->Src->Nat->Prop
 | .cK,_,_=>True
 | .lit u,s,o=>s o=some u/\bg u=true
 | .ad T l,s,o=>b8 C.P l T/\∃p cap,s o=some (.slice p l.length cap)/\l.length<=cap/\
   (l≠[]->∃b off,p=some ⟨b,off,none⟩/\C.X b/\MR C l (C.P.cellsOf T) (fun j=>C.w.cell? ⟨b,j,none⟩) off)
 | .agg l,s,o=>ML C l s o
 | .aK l,s,o=>∃vs,s o=some (.tuple vs)/\MT C l vs.toList
 | .ax i lo n,s,o=>i<C.st.length/\∃v,s o=some v/\bg v=true/\lH C i lo n v
 | .ptr i k _ off,s,o=>i<C.st.length/\∃v,s o=some v/\bg v=true/\ql C i k off v
 | .jA T a,s,o=>∃b off,s o=some (.pointer (some ⟨b,off,none⟩))/\C.X b/\bu C.P a T/\M C a (fun j=>C.w.cell? ⟨b,j,none⟩) off
 | .mp i,s,o=>i<C.st.length/\∃v,s o=some v/\bg v=true/\Lh C i v
 | .bJ i,s,o=>i<C.st.length/\∃v,s o=some v/\bg v=true/\yK C i v
 | .lC i k,s,o=>i<C.st.length/\∃v,s o=some v/\bg v=true/\vM C i k v
 | .bp f caps,s,o=>∃vs,s o=some (.func (.func f) #[] vs)/\MT C caps vs.toList
 | .eO K V ks vs,s,o=>(Nv C.P.toProgram V=true/\s o=some (.map none)/\ks=[]/\vs=[])\/ ∃b ents clock,s o=some (.map (some b))/\C.X b/\C.w.heap[b]? =some (.map ents clock)/\lF C.P K ents.toList clock/\
   ents.toList.map (·.key)=ks/\b8 C.P vs V/\MT C vs (ents.toList.map (·.val))
 | .jz T a,s,o=>∃u,s o=some (.iface T u)/\eF u=bV a/\u.cells.size=wid a/\M C a (fun j=>u.cells[j]?) 0
def ML(C:Ctx):List AV->Src->Nat->Prop
 |[],_,_=>True
 |a::l,s,o=>M C a s o/\ML C l s (o+wid a)
def MR(C:Ctx):List AV->Nat->Src->Nat->Prop
 |[],_,_,_=>True
 |a::l,z,s,o=>M C a s o/\MR C l z s (o+z)
def MT(C:Ctx):List AV->List Value->Prop
 |[],vs=>vs=[]
 |_::_,[]=>False
 |a::l,v::vs=>(eF v=bV a\/a= .cK)/\(v.cells.size=wid a\/a= .cK)/\M C a (fun j=>v.cells[j]?) 0/\MT C l vs
end
def Rel C a v:=
 (eF v=bV a\/a= .cK)/\(v.cells.size=wid a\/a= .cK)/\M C a (fun j=>v.cells[j]?) 0
end Go.Dn
