import Derived.CallsIn
import Derived.RangeFuncIn
import Derived.OrdersIn
import Derived.RangeFuncLeaves
namespace Go.Dn
open Go
abbrev aa1:= @decide_eq_true_eq
abbrev aa2:= @Bool.and_eq_true
abbrev aa3:= @decide_eq_false_iff_not
abbrev aa4.{u}:= @Option.some.injEq.{u}
abbrev aa5:= @decide_eq_false
abbrev aa6.{u}:= @cond_false.{u}
abbrev aa7:= @decide_eq_true
abbrev aa8.{u}:= @cond_true.{u}
abbrev aa9.{u}:= @List.drop_eq_nil_of_le.{u}
abbrev ab0.{u,v}:= @Prod.mk.injEq.{u,v}
abbrev ab1.{u}:= @List.drop_zero.{u}
abbrev ab2.{u}:= @List.drop_eq_getElem_cons.{u}
abbrev ab3:= @Bool.not_eq_false'
abbrev ab4.{u}:= @List.mem_append_right.{u}
abbrev ab5.{u}:= @List.mem_append_left.{u}
abbrev ab6:= @Bool.or_eq_true
abbrev ab7.{u}:= @List.getElem?_eq_getElem.{u}
abbrev ab8:= @Int.toNat_zero
abbrev ab9.{u}:= @List.length_append.{u}
abbrev ac0:= @Bool.true_and
abbrev ac1.{u,v}:= @List.map_cons.{u,v}
abbrev ac2.{u,v}:= @List.map_nil.{u,v}
abbrev ac3.{u}:= @List.mem_cons.{u}
inductive AV where
 |cG
 |lit (v:Value)
 |ad (T:TypeId) (l:List AV)
 |agg (l:List AV)
 |bh (l:List AV)
 |an (i lo len:Nat)
 |ptr (i k:Nat) (path:List Nat) (off:Nat)
 |jS (T:TypeId) (a:AV)
 |mp (i:Nat)
 |cD (i:Nat)
 |ku (i:Nat) (key:Value)
 |bL (f:FuncId) (caps:List AV)
 |jj (T:TypeId) (a:AV)
 |jE (K V:TypeId) (ks:List Value) (vs:List AV)
 deriving Inhabited
structure xO where
 state:LoopState
 pending:Option Code
 fn:FuncId
 bn:List AV
 params:Array Tmp
 assign:Code
 body:Code
inductive Obj where
 |dead
 |box (T:TypeId) (a:AV)
 |row (T:TypeId) (xs:List AV)
 |mq (T:TypeId) (xs:List AV)
 |map (K V:TypeId) (es:List (Value×AV))
 |loop (r:xO)
 |iter (i n:Nat) (ks:List Value)
 |ext (todo:Option (List AV))
 |dy (s:ByteArray) (pos:Nat)
 |rows (T E:TypeId) (ls:List (List Value)) (pd:Option Nat)
 |fit (K V:TypeId) (ks:List Value) (vs:List AV) (met:List Value)
def nth:List AV->Nat->AV
 |[],_=> .cG
 |a::_,0=>a
 |_::l,n+1=>nth l n
def cg:List AV->Nat->AV->List AV
 |[],_,_=>[]
 |_::l,0,x=>x::l
 |a::l,n+1,x=>a::cg l n x
def bW:List (List Value)->Nat->List Value
 |[],_=>[]
 |a::_,0=>a
 |_::l,n+1=>bW l n
def jH:List (List Value)->Nat->List Value->List (List Value)
 |[],_,_=>[]
 |_::l,0,x=>x::l
 |a::l,n+1,x=>a::jH l n x
def aw:List Obj->Nat->Obj
 |[],_=> .dead
 |a::_,0=>a
 |_::l,n+1=>aw l n
def db:List Obj->Nat->Obj->List Obj
 |[],_,_=>[]
 |_::l,0,x=>x::l
 |a::l,n+1,x=>a::db l n x
mutual
def wid:AV->Nat
 | .agg l=>eQ l
 |_=>1
def eQ:List AV->Nat
 |[]=>0
 |a::l=>wid a+eQ l
end
def bg:Value->Bool
 | .agg _=>false
 | .tuple _=>false
 |_=>true
def eE:Value->Bool
 | .agg _=>true
 |_=>false
def bV:AV->Bool
 | .agg _=>true
 |_=>false
def toInt:AV->Int
 | .lit (.int _ n)=>n
 |_=>0
def toBool:AV->Bool
 | .lit (.bool b)=>b
 |_=>false
def toStr:AV->ByteArray
 | .lit (.string s)=>s
 |_=>ByteArray.empty
def ai:AV->List AV
 | .ad _ l=>l
 |_=>[]
def CX:AV->List Value
 | .jE _ _ ks _=>ks
 |_=>[]
def xv:AV->List AV
 | .jE _ _ _ vs=>vs
 |_=>[]
def ae:AV->Nat->AV
 | .agg l,j=>nth l j
 |_,_=> .cG
def Ic(g:TypeId->AV->AV):List Field->Nat->AV->List AV
 |[],_,_=>[]
 |f::fs,j,a=>g f.type (ae a j)::Ic g fs (j+1) a
def expand(P:Program):Nat->TypeId->AV->AV
 |0,_,a=>a
 |d+1,T,a=>
  match P.underlying T with
  |some (.int k)=> .lit (.int k (toInt a))
  |some .bool=> .lit (.bool (toBool a))
  |some .string=> .lit (.string (toStr a))
  |some (.slice E)=> .ad E (ai a)
  |some (.map K V)=> .jE K V (CX a) (xv a)
  |some (.struct fs)=> .agg (Ic (expand P d) fs.toList 0 a)
  |_=>a
mutual
def bC(P:Program):AV->TypeId->Prop
 | .lit v,T=>
  match P.underlying T with
  |some (.int k)=>∃n,v= .int k n
  |some .bool=>∃b,v= .bool b
  |some .string=>∃s,v= .string s
  |some (.slice _)=>v= .slice none 0 0
  |some (.map _ _)=>v= .map none
  |some (.struct _)=>False
  |some (.array _ _)=>False
  |some _=>bg v=true
  |none=>False
 | .ad E l,T=>P.underlying T=some (.slice E)/\bI P l E
 | .agg l,T=>∃fs,(P.underlying T=some (.struct fs)/\T<P.types.size)/\dG P l fs.toList
 | .jS E a,T=>P.underlying T=some (.pointer E)/\bC P a E
 | .jj U a,T=>(∃ms,P.underlying T=some (.interface ms))/\bC P a U
 | .jE K V _ vs,T=>P.underlying T=some (.map K V)/\bI P vs V
 |_,_=>False
def bI(P:Program):List AV->TypeId->Prop
 |[],_=>True
 |a::l,T=>bC P a T/\bI P l T
def dG(P:Program):List AV->List Field->Prop
 |[],[]=>True
 |a::l,f::fs=>bC P a f.type/\dG P l fs
 |_,_=>False
end
theorem uo{v:Value}(h:bg v=true):eE v=false:=by cases v<;>simp_all[bg,eE]
def di:Value->Value->Bool
 | .int k a, .int k' b=>k==k'&&a==b
 | .string a, .string b=>a==b
 | .bool a, .bool b=>a==b
 |_,_=>false
def plainKey(P:Program)(K:TypeId):Value->Bool
 | .int k _=>(match P.underlying K with|some (.int k')=>k==k'|_=>false)
 | .string _=>(match P.underlying K with|some .string=>true|_=>false)
 | .bool _=>(match P.underlying K with|some .bool=>true|_=>false)
 |_=>false
structure lf(P:Program)(K:TypeId)(ents:List MapEntry)(clock:Nat):Prop where
 keys: ∀e,e∈ents->plainKey P K e.key=true
 apart:ents.Pairwise fun e e'=>di e'.key e.key=false
 born:ents.Pairwise fun e e'=>e.born<e'.born
 clock: ∀e,e∈ents->e.born<clock
structure G where
 block:Nat
 cap:Nat
 isNil:Bool
structure Pg extends Program where
 kept:Nat->Option Go.Obj
instance:CoeOut Pg Program:=⟨Pg.toProgram⟩
structure Ctx where
 P:Pg
 X:Nat->Prop
 ι:Nat->G
 st:List Obj
 w:World
 cls:Nat->Nat:=id
 rJ:Nat->Nat:=fun _=>0
 l7:Nat->Option (List AV)->(Nat->Prop)->(Nat->Prop)->World->Prop:=fun _ _ _ _ _=>True
def hJ:Obj->Option (TypeId×List AV)
 | .row T xs=>some (T,xs)
 | .mq T xs=>some (T,xs)
 |_=>none
def lW(C:Ctx)(B:Nat)(E:TypeId)(k:Nat)(l:List Value)(m:Nat)(v:Value):Prop:=
 m<=l.length/\((v= .slice none 0 0/\m=0)\/ ∃b cap c,v= .slice (some ⟨b,0,none⟩) m cap/\m<=cap/\cap<=maxLen/\C.cls b=B/\b≠B/\C.rJ b=k/\
  C.w.heap[b]? =some (.cells c E (0,0))/\cap=c.size/\∀j,j<m->c[j]? =l[j]?)
def j6(C:Ctx)(i lo n:Nat)(v:Value):Prop:=
 (∀T xs,hJ (aw C.st i)=some (T,xs)->
  lo+n<=xs.length/\
  (((C.ι i).isNil=true/\v= .slice none 0 0/\lo=0/\n=0)\/
   ((C.ι i).isNil=false/\∃cap q,v= .slice (some q) n cap/\(q=⟨(C.ι i).block,lo*C.P.cellsOf T,none⟩\/(cap=0/\0<lo))/\n<=cap/\lo+cap<=(C.ι i).cap)))/\
 ∀T E ls pd,aw C.st i= .rows T E ls pd->
  match lo with
  |0=>n=ls.length/\∃cap,v= .slice (some ⟨(C.ι i).block,0,none⟩) n cap/\n<=cap
  |k+1=>k<ls.length/\lW C (C.ι i).block E k (bW ls k) n v
def pH(C:Ctx)(i k off:Nat)(v:Value):Prop:=
 (∀T xs,hJ (aw C.st i)=some (T,xs)->k<xs.length/\v= .pointer (some ⟨(C.ι i).block,k*C.P.cellsOf T+off,none⟩))/\
 (∀T a,aw C.st i= .box T a->k=0/\v= .pointer (some ⟨(C.ι i).block,off,none⟩))/\
 (∀m n ks,aw C.st i= .iter m n ks->v= .pointer (some ⟨(C.ι i).block,off,none⟩))/\
 (∀s p,aw C.st i= .dy s p->v= .pointer (some ⟨(C.ι i).block,off,none⟩))/\
 (∀K V ks vs met,aw C.st i= .fit K V ks vs met->v= .pointer (some ⟨(C.ι i).block,off,none⟩))/\
 (∀T E ls pd,aw C.st i= .rows T E ls pd->k<ls.length/\off=0/\v= .pointer (some ⟨(C.ι i).block,k,none⟩))
def L3(C:Ctx)(i:Nat)(v:Value):Prop:=
 ∀K V es,aw C.st i= .map K V es->v= .map (some (C.ι i).block)
def ye(C:Ctx)(i:Nat)(v:Value):Prop:=
 (∀r,aw C.st i= .loop r->v= .func (.yield (C.ι i).block) #[] #[])/\∀t,aw C.st i= .ext t->v= .func (.yield (C.ι i).block) #[] #[]
def u6(C:Ctx)(i:Nat)(key:Value)(v:Value):Prop:=
 ∀K V es,aw C.st i= .map K V es->∃entries clock,C.w.heap[(C.ι i).block]? =some (.map entries clock)/\∃e,e∈entries/\e.key=key/\v= .int .i64 e.born
abbrev Src:=Nat->Option Value
mutual
def M(C:Ctx):AV->Src->Nat->Prop
 | .cG,_,_=>True
 | .lit u,s,o=>s o=some u/\bg u=true
 | .ad T l,s,o=>bI C.P l T/\∃p cap,s o=some (.slice p l.length cap)/\l.length<=cap/\
   (l≠[]->∃b off,p=some ⟨b,off,none⟩/\C.X b/\MR C l (C.P.cellsOf T) (fun j=>C.w.cell? ⟨b,j,none⟩) off)
 | .agg l,s,o=>ML C l s o
 | .bh l,s,o=>∃vs,s o=some (.tuple vs)/\MT C l vs.toList
 | .an i lo n,s,o=>i<C.st.length/\∃v,s o=some v/\bg v=true/\j6 C i lo n v
 | .ptr i k _ off,s,o=>i<C.st.length/\∃v,s o=some v/\bg v=true/\pH C i k off v
 | .jS T a,s,o=>∃b off,s o=some (.pointer (some ⟨b,off,none⟩))/\C.X b/\bC C.P a T/\M C a (fun j=>C.w.cell? ⟨b,j,none⟩) off
 | .mp i,s,o=>i<C.st.length/\∃v,s o=some v/\bg v=true/\L3 C i v
 | .cD i,s,o=>i<C.st.length/\∃v,s o=some v/\bg v=true/\ye C i v
 | .ku i k,s,o=>i<C.st.length/\∃v,s o=some v/\bg v=true/\u6 C i k v
 | .bL f caps,s,o=>∃vs,s o=some (.func (.func f) #[] vs)/\MT C caps vs.toList
 | .jE K V ks vs,s,o=>(s o=some (.map none)/\ks=[]/\vs=[])\/ ∃b ents clock,s o=some (.map (some b))/\C.X b/\C.w.heap[b]? =some (.map ents clock)/\lf C.P K ents.toList clock/\
   ents.toList.map (·.key)=ks/\bI C.P vs V/\MT C vs (ents.toList.map (·.val))
 | .jj T a,s,o=>∃u,s o=some (.iface T u)/\eE u=bV a/\u.cells.size=wid a/\M C a (fun j=>u.cells[j]?) 0
def ML(C:Ctx):List AV->Src->Nat->Prop
 |[],_,_=>True
 |a::l,s,o=>M C a s o/\ML C l s (o+wid a)
def MR(C:Ctx):List AV->Nat->Src->Nat->Prop
 |[],_,_,_=>True
 |a::l,z,s,o=>M C a s o/\MR C l z s (o+z)
def MT(C:Ctx):List AV->List Value->Prop
 |[],vs=>vs=[]
 |_::_,[]=>False
 |a::l,v::vs=>(eE v=bV a\/a= .cG)/\(v.cells.size=wid a\/a= .cG)/\M C a (fun j=>v.cells[j]?) 0/\MT C l vs
end
def Rel(C:Ctx)(a:AV)(v:Value):Prop:=
 (eE v=bV a\/a= .cG)/\(v.cells.size=wid a\/a= .cG)/\M C a (fun j=>v.cells[j]?) 0
end Go.Dn
