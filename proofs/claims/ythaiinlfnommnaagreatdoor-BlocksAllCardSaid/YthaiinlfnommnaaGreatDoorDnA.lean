import Derived.CallsIn
import Derived.RangeFuncIn
import Derived.OrdersIn
import Derived.RangeFuncLeaves
namespace Go.Dn
open Go
abbrev aa2:= @decide_eq_true_eq
abbrev aa3:= @Bool.and_eq_true
abbrev aa4:= @decide_eq_false_iff_not
abbrev aa5.{u}:= @Option.some.injEq.{u}
abbrev aa6:= @decide_eq_false
abbrev aa7.{u}:= @cond_false.{u}
abbrev aa8:= @decide_eq_true
abbrev aa9.{u}:= @cond_true.{u}
abbrev ab0.{u}:= @List.drop_eq_nil_of_le.{u}
abbrev ab1.{u,v}:= @Prod.mk.injEq.{u,v}
abbrev ab2.{u}:= @List.drop_zero.{u}
abbrev ab3.{u}:= @List.drop_eq_getElem_cons.{u}
abbrev ab4:= @Bool.not_eq_false'
abbrev ab5.{u}:= @List.mem_append_right.{u}
abbrev ab6.{u}:= @List.mem_append_left.{u}
abbrev ab7:= @Bool.or_eq_true
abbrev ab8.{u}:= @List.getElem?_eq_getElem.{u}
abbrev ab9:= @Int.toNat_zero
abbrev ac0.{u}:= @List.length_append.{u}
abbrev ac1:= @Bool.true_and
abbrev ac2.{u,v}:= @List.map_cons.{u,v}
abbrev ac3.{u,v}:= @List.map_nil.{u,v}
abbrev ac4.{u}:= @List.mem_cons.{u}
inductive AV where
 |cP
 |lit (v:Value)
 |ad (T:TypeId) (l:List AV)
 |agg (l:List AV)
 |bp (l:List AV)
 |ar (i lo len:Nat)
 |ptr (i k:Nat) (path:List Nat) (off:Nat)
 |jX (T:TypeId) (a:AV)
 |mp (i:Nat)
 |cK (i:Nat)
 |kx (i:Nat) (key:Value)
 |bQ (f:FuncId) (caps:List AV)
 |jq (T:TypeId) (a:AV)
 |jJ (K V:TypeId) (ks:List Value) (vs:List AV)
 deriving Inhabited
structure xZ where
 state:LoopState
 pending:Option Code
 fn:FuncId
 bt:List AV
 params:Array Tmp
 assign:Code
 body:Code
inductive Obj where
 |dead
 |box (T:TypeId) (a:AV)
 |row (T:TypeId) (xs:List AV)
 |mv (T:TypeId) (xs:List AV)
 |map (K V:TypeId) (es:List (Value×AV))
 |loop (r:xZ)
 |iter (i n:Nat) (ks:List Value)
 |ext (todo:Option (List AV))
 |dC (s:ByteArray) (pos:Nat)
 |rows (T E:TypeId) (ls:List (List Value)) (pd:Option Nat)
 |fit (K V:TypeId) (ks:List Value) (vs:List AV) (met:List Value)
def nth:List AV->Nat->AV
 |[],_=> .cP
 |a::_,0=>a
 |_::l,n+1=>nth l n
def cm:List AV->Nat->AV->List AV
 |[],_,_=>[]
 |_::l,0,x=>x::l
 |a::l,n+1,x=>a::cm l n x
def cd:List (List Value)->Nat->List Value
 |[],_=>[]
 |a::_,0=>a
 |_::l,n+1=>cd l n
def jI:List (List Value)->Nat->List Value->List (List Value)
 |[],_,_=>[]
 |_::l,0,x=>x::l
 |a::l,n+1,x=>a::jI l n x
def az:List Obj->Nat->Obj
 |[],_=> .dead
 |a::_,0=>a
 |_::l,n+1=>az l n
def dj:List Obj->Nat->Obj->List Obj
 |[],_,_=>[]
 |_::l,0,x=>x::l
 |a::l,n+1,x=>a::dj l n x
mutual
def wid:AV->Nat
 | .agg l=>eU l
 |_=>1
def eU:List AV->Nat
 |[]=>0
 |a::l=>wid a+eU l
end
def bm:Value->Bool
 | .agg _=>false
 | .tuple _=>false
 |_=>true
def fe:Value->Bool
 | .agg _=>true
 |_=>false
def b9:AV->Bool
 | .agg _=>true
 |_=>false
def toInt:AV->Int
 | .lit (.int _ n)=>n
 |_=>0
def toBool:AV->Bool
 | .lit (.bool b)=>b
 |_=>false
def toStr:AV->ByteArray
 | .lit (.string s)=>s
 |_=>ByteArray.empty
def ai:AV->List AV
 | .ad _ l=>l
 |_=>[]
def Be:AV->List Value
 | .jJ _ _ ks _=>ks
 |_=>[]
def xu:AV->List AV
 | .jJ _ _ _ vs=>vs
 |_=>[]
def ae:AV->Nat->AV
 | .agg l,j=>nth l j
 |_,_=> .cP
def IU(g:TypeId->AV->AV):List Field->Nat->AV->List AV
 |[],_,_=>[]
 |f::fs,j,a=>g f.type (ae a j)::IU g fs (j+1) a
def expand(P:Program):Nat->TypeId->AV->AV
 |0,_,a=>a
 |d+1,T,a=>
  match P.underlying T with
  |some (.int k)=> .lit (.int k (toInt a))
  |some .bool=> .lit (.bool (toBool a))
  |some .string=> .lit (.string (toStr a))
  |some (.slice E)=> .ad E (ai a)
  |some (.map K V)=> .jJ K V (Be a) (xu a)
  |some (.struct fs)=> .agg (IU (expand P d) fs.toList 0 a)
  |_=>a
mutual
def bG(P:Program):AV->TypeId->Prop
 | .lit v,T=>
  match P.underlying T with
  |some (.int k)=>∃n,v= .int k n
  |some .bool=>∃b,v= .bool b
  |some .string=>∃s,v= .string s
  |some (.slice _)=>v= .slice none 0 0
  |some (.map _ _)=>v= .map none
  |some (.struct _)=>False
  |some (.array _ _)=>False
  |some _=>bm v=true
  |none=>False
 | .ad E l,T=>P.underlying T=some (.slice E)/\bM P l E
 | .agg l,T=>∃fs,(P.underlying T=some (.struct fs)/\T<P.types.size)/\dI P l fs.toList
 | .jX E a,T=>P.underlying T=some (.pointer E)/\bG P a E
 | .jq U a,T=>(∃ms,P.underlying T=some (.interface ms))/\bG P a U
 | .jJ K V _ vs,T=>P.underlying T=some (.map K V)/\bM P vs V
 |_,_=>False
def bM(P:Program):List AV->TypeId->Prop
 |[],_=>True
 |a::l,T=>bG P a T/\bM P l T
def dI(P:Program):List AV->List Field->Prop
 |[],[]=>True
 |a::l,f::fs=>bG P a f.type/\dI P l fs
 |_,_=>False
end
theorem vw{v:Value}(h:bm v=true):fe v=false:=by cases v<;>simp_all[bm,fe]
def dn:Value->Value->Bool
 | .int k a, .int k' b=>k==k'&&a==b
 | .string a, .string b=>a==b
 | .bool a, .bool b=>a==b
 |_,_=>false
def plainKey(P:Program)(K:TypeId):Value->Bool
 | .int k _=>(match P.underlying K with|some (.int k')=>k==k'|_=>false)
 | .string _=>(match P.underlying K with|some .string=>true|_=>false)
 | .bool _=>(match P.underlying K with|some .bool=>true|_=>false)
 |_=>false
structure ly(P:Program)(K:TypeId)(ents:List MapEntry)(clock:Nat):Prop where
 keys: ∀e,e∈ents->plainKey P K e.key=true
 apart:ents.Pairwise fun e e'=>dn e'.key e.key=false
 born:ents.Pairwise fun e e'=>e.born<e'.born
 clock: ∀e,e∈ents->e.born<clock
structure G where
 block:Nat
 cap:Nat
 isNil:Bool
structure Pg extends Program where
 kept:Nat->Option Go.Obj
instance:CoeOut Pg Program:=⟨Pg.toProgram⟩
structure Ctx where
 P:Pg
 X:Nat->Prop
 ι:Nat->G
 st:List Obj
 w:World
 cls:Nat->Nat:=id
 rI:Nat->Nat:=fun _=>0
 l3:Nat->Option (List AV)->(Nat->Prop)->(Nat->Prop)->World->Prop:=fun _ _ _ _ _=>True
def ia:Obj->Option (TypeId×List AV)
 | .row T xs=>some (T,xs)
 | .mv T xs=>some (T,xs)
 |_=>none
def mr(C:Ctx)(B:Nat)(E:TypeId)(k:Nat)(l:List Value)(m:Nat)(v:Value):Prop:=
 m<=l.length/\((v= .slice none 0 0/\m=0)\/ ∃b cap c,v= .slice (some ⟨b,0,none⟩) m cap/\m<=cap/\cap<=maxLen/\C.cls b=B/\b≠B/\C.rI b=k/\
  C.w.heap[b]? =some (.cells c E (0,0))/\cap=c.size/\∀j,j<m->c[j]? =l[j]?)
def lF(C:Ctx)(i lo n:Nat)(v:Value):Prop:=
 (∀T xs,ia (az C.st i)=some (T,xs)->
  lo+n<=xs.length/\
  (((C.ι i).isNil=true/\v= .slice none 0 0/\lo=0/\n=0)\/
   ((C.ι i).isNil=false/\∃cap q,v= .slice (some q) n cap/\(q=⟨(C.ι i).block,lo*C.P.cellsOf T,none⟩\/(cap=0/\0<lo))/\n<=cap/\lo+cap<=(C.ι i).cap)))/\
 ∀T E ls pd,az C.st i= .rows T E ls pd->
  match lo with
  |0=>n=ls.length/\∃cap,v= .slice (some ⟨(C.ι i).block,0,none⟩) n cap/\n<=cap
  |k+1=>k<ls.length/\mr C (C.ι i).block E k (cd ls k) n v
def pE(C:Ctx)(i k off:Nat)(v:Value):Prop:=
 (∀T xs,ia (az C.st i)=some (T,xs)->k<xs.length/\v= .pointer (some ⟨(C.ι i).block,k*C.P.cellsOf T+off,none⟩))/\
 (∀T a,az C.st i= .box T a->k=0/\v= .pointer (some ⟨(C.ι i).block,off,none⟩))/\
 (∀m n ks,az C.st i= .iter m n ks->v= .pointer (some ⟨(C.ι i).block,off,none⟩))/\
 (∀s p,az C.st i= .dC s p->v= .pointer (some ⟨(C.ι i).block,off,none⟩))/\
 (∀K V ks vs met,az C.st i= .fit K V ks vs met->v= .pointer (some ⟨(C.ι i).block,off,none⟩))/\
 (∀T E ls pd,az C.st i= .rows T E ls pd->k<ls.length/\off=0/\v= .pointer (some ⟨(C.ι i).block,k,none⟩))
def Lk(C:Ctx)(i:Nat)(v:Value):Prop:=
 ∀K V es,az C.st i= .map K V es->v= .map (some (C.ι i).block)
def x3(C:Ctx)(i:Nat)(v:Value):Prop:=
 (∀r,az C.st i= .loop r->v= .func (.yield (C.ι i).block) #[] #[])/\∀t,az C.st i= .ext t->v= .func (.yield (C.ι i).block) #[] #[]
def w6(C:Ctx)(i:Nat)(key:Value)(v:Value):Prop:=
 ∀K V es,az C.st i= .map K V es->∃entries clock,C.w.heap[(C.ι i).block]? =some (.map entries clock)/\∃e,e∈entries/\e.key=key/\v= .int .i64 e.born
abbrev Src:=Nat->Option Value
mutual
def M(C:Ctx):AV->Src->Nat->Prop
 | .cP,_,_=>True
 | .lit u,s,o=>s o=some u/\bm u=true
 | .ad T l,s,o=>bM C.P l T/\∃p cap,s o=some (.slice p l.length cap)/\l.length<=cap/\
   (l≠[]->∃b off,p=some ⟨b,off,none⟩/\C.X b/\MR C l (C.P.cellsOf T) (fun j=>C.w.cell? ⟨b,j,none⟩) off)
 | .agg l,s,o=>ML C l s o
 | .bp l,s,o=>∃vs,s o=some (.tuple vs)/\MT C l vs.toList
 | .ar i lo n,s,o=>i<C.st.length/\∃v,s o=some v/\bm v=true/\lF C i lo n v
 | .ptr i k _ off,s,o=>i<C.st.length/\∃v,s o=some v/\bm v=true/\pE C i k off v
 | .jX T a,s,o=>∃b off,s o=some (.pointer (some ⟨b,off,none⟩))/\C.X b/\bG C.P a T/\M C a (fun j=>C.w.cell? ⟨b,j,none⟩) off
 | .mp i,s,o=>i<C.st.length/\∃v,s o=some v/\bm v=true/\Lk C i v
 | .cK i,s,o=>i<C.st.length/\∃v,s o=some v/\bm v=true/\x3 C i v
 | .kx i k,s,o=>i<C.st.length/\∃v,s o=some v/\bm v=true/\w6 C i k v
 | .bQ f caps,s,o=>∃vs,s o=some (.func (.func f) #[] vs)/\MT C caps vs.toList
 | .jJ K V ks vs,s,o=>(s o=some (.map none)/\ks=[]/\vs=[])\/ ∃b ents clock,s o=some (.map (some b))/\C.X b/\C.w.heap[b]? =some (.map ents clock)/\ly C.P K ents.toList clock/\
   ents.toList.map (·.key)=ks/\bM C.P vs V/\MT C vs (ents.toList.map (·.val))
 | .jq T a,s,o=>∃u,s o=some (.iface T u)/\fe u=b9 a/\u.cells.size=wid a/\M C a (fun j=>u.cells[j]?) 0
def ML(C:Ctx):List AV->Src->Nat->Prop
 |[],_,_=>True
 |a::l,s,o=>M C a s o/\ML C l s (o+wid a)
def MR(C:Ctx):List AV->Nat->Src->Nat->Prop
 |[],_,_,_=>True
 |a::l,z,s,o=>M C a s o/\MR C l z s (o+z)
def MT(C:Ctx):List AV->List Value->Prop
 |[],vs=>vs=[]
 |_::_,[]=>False
 |a::l,v::vs=>(fe v=b9 a\/a= .cP)/\(v.cells.size=wid a\/a= .cP)/\M C a (fun j=>v.cells[j]?) 0/\MT C l vs
end
def Rel(C:Ctx)(a:AV)(v:Value):Prop:=
 (fe v=b9 a\/a= .cP)/\(v.cells.size=wid a\/a= .cP)/\M C a (fun j=>v.cells[j]?) 0
end Go.Dn
