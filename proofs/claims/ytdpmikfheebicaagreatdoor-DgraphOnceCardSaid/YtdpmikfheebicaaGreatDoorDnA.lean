import Derived.CallsIn
import Derived.RangeFuncIn
import Derived.OrdersIn
import Derived.RangeFuncLeaves
namespace Go.Dn
open Go
abbrev aa0:= @decide_eq_true_eq
abbrev aa1:= @Bool.and_eq_true
abbrev aa2:= @decide_eq_false_iff_not
abbrev aa3.{u}:= @Option.some.injEq.{u}
abbrev aa4:= @decide_eq_false
abbrev aa5.{u}:= @cond_false.{u}
abbrev aa6:= @decide_eq_true
abbrev aa7.{u}:= @cond_true.{u}
abbrev aa8.{u}:= @List.drop_eq_nil_of_le.{u}
abbrev aa9.{u,v}:= @Prod.mk.injEq.{u,v}
abbrev ab0.{u}:= @List.drop_zero.{u}
abbrev ab1.{u}:= @List.drop_eq_getElem_cons.{u}
abbrev ab2:= @Bool.not_eq_false'
abbrev ab3.{u}:= @List.mem_append_right.{u}
abbrev ab4.{u}:= @List.mem_append_left.{u}
abbrev ab5:= @Bool.or_eq_true
abbrev ab6.{u}:= @List.getElem?_eq_getElem.{u}
abbrev ab7:= @Int.toNat_zero
abbrev ab8.{u}:= @List.length_append.{u}
abbrev ab9:= @Bool.true_and
abbrev ac0.{u,v}:= @List.map_cons.{u,v}
abbrev ac1.{u}:= @List.mem_cons.{u}
inductive AV where
 |cf
 |lit (v:Value)
 |ae (T:TypeId) (l:List AV)
 |agg (l:List AV)
 |bp (l:List AV)
 |az (i lo len:Nat)
 |ptr (i k:Nat) (path:List Nat) (off:Nat)
 |jc (T:TypeId) (a:AV)
 |mp (i:Nat)
 |cx (i:Nat)
 |jJ (i:Nat) (key:Value)
 |bP (f:FuncId) (caps:List AV)
 |iq (T:TypeId) (a:AV)
 |iZ (K V:TypeId) (ks:List Value) (vs:List AV)
 deriving Inhabited
structure vW where
 state:LoopState
 pending:Option Code
 fn:FuncId
 a9:List AV
 params:Array Tmp
 assign:Code
 body:Code
inductive Obj where
 |dead
 |box (T:TypeId) (a:AV)
 |row (T:TypeId) (xs:List AV)
 |mo (T:TypeId) (xs:List AV)
 |map (K V:TypeId) (es:List (Value×AV))
 |loop (r:vW)
 |iter (i n:Nat) (ks:List Value)
 |ext (todo:Option (List AV))
 |cR (s:ByteArray) (pos:Nat)
 |rows (T E:TypeId) (ls:List (List Value)) (pd:Option Nat)
 |fit (K V:TypeId) (ks:List Value) (vs:List AV) (met:List Value)
def nth:List AV->Nat->AV
 |[],_=> .cf
 |a::_,0=>a
 |_::l,n+1=>nth l n
def bQ:List AV->Nat->AV->List AV
 |[],_,_=>[]
 |_::l,0,x=>x::l
 |a::l,n+1,x=>a::bQ l n x
def bB:List (List Value)->Nat->List Value
 |[],_=>[]
 |a::_,0=>a
 |_::l,n+1=>bB l n
def iV:List (List Value)->Nat->List Value->List (List Value)
 |[],_,_=>[]
 |_::l,0,x=>x::l
 |a::l,n+1,x=>a::iV l n x
def ar:List Obj->Nat->Obj
 |[],_=> .dead
 |a::_,0=>a
 |_::l,n+1=>ar l n
def da:List Obj->Nat->Obj->List Obj
 |[],_,_=>[]
 |_::l,0,x=>x::l
 |a::l,n+1,x=>a::da l n x
mutual
def wid:AV->Nat
 | .agg l=>eF l
 |_=>1
def eF:List AV->Nat
 |[]=>0
 |a::l=>wid a+eF l
end
def a0:Value->Bool
 | .agg _=>false
 | .tuple _=>false
 |_=>true
def ej:Value->Bool
 | .agg _=>true
 |_=>false
def bH:AV->Bool
 | .agg _=>true
 |_=>false
def toInt:AV->Int
 | .lit (.int _ n)=>n
 |_=>0
def toBool:AV->Bool
 | .lit (.bool b)=>b
 |_=>false
def toStr:AV->ByteArray
 | .lit (.string s)=>s
 |_=>ByteArray.empty
def ah:AV->List AV
 | .ae _ l=>l
 |_=>[]
def zl:AV->List Value
 | .iZ _ _ ks _=>ks
 |_=>[]
def vC:AV->List AV
 | .iZ _ _ _ vs=>vs
 |_=>[]
def ad:AV->Nat->AV
 | .agg l,j=>nth l j
 |_,_=> .cf
def Ga(g:TypeId->AV->AV):List Field->Nat->AV->List AV
 |[],_,_=>[]
 |f::fs,j,a=>g f.type (ad a j)::Ga g fs (j+1) a
def expand(P:Program):Nat->TypeId->AV->AV
 |0,_,a=>a
 |d+1,T,a=>
  match P.underlying T with
  |some (.int k)=> .lit (.int k (toInt a))
  |some .bool=> .lit (.bool (toBool a))
  |some .string=> .lit (.string (toStr a))
  |some (.slice E)=> .ae E (ah a)
  |some (.map K V)=> .iZ K V (zl a) (vC a)
  |some (.struct fs)=> .agg (Ga (expand P d) fs.toList 0 a)
  |_=>a
mutual
def bq(P:Program):AV->TypeId->Prop
 | .lit v,T=>
  match P.underlying T with
  |some (.int k)=>∃n,v= .int k n
  |some .bool=>∃b,v= .bool b
  |some .string=>∃s,v= .string s
  |some (.slice _)=>v= .slice none 0 0
  |some (.map _ _)=>v= .map none
  |some (.struct _)=>False
  |some (.array _ _)=>False
  |some _=>a0 v=true
  |none=>False
 | .ae E l,T=>P.underlying T=some (.slice E)/\bx P l E
 | .agg l,T=>∃fs,(P.underlying T=some (.struct fs)/\T<P.types.size)/\dd P l fs.toList
 | .jc E a,T=>P.underlying T=some (.pointer E)/\bq P a E
 | .iq U a,T=>(∃ms,P.underlying T=some (.interface ms))/\bq P a U
 | .iZ K V _ vs,T=>P.underlying T=some (.map K V)/\bx P vs V
 |_,_=>False
def bx(P:Program):List AV->TypeId->Prop
 |[],_=>True
 |a::l,T=>bq P a T/\bx P l T
def dd(P:Program):List AV->List Field->Prop
 |[],[]=>True
 |a::l,f::fs=>bq P a f.type/\dd P l fs
 |_,_=>False
end
theorem tJ{v:Value}(h:a0 v=true):ej v=false:=by cases v<;>simp_all[a0,ej]
def cD:Value->Value->Bool
 | .int k a, .int k' b=>k==k'&&a==b
 | .string a, .string b=>a==b
 | .bool a, .bool b=>a==b
 |_,_=>false
def plainKey(P:Program)(K:TypeId):Value->Bool
 | .int k _=>(match P.underlying K with|some (.int k')=>k==k'|_=>false)
 | .string _=>(match P.underlying K with|some .string=>true|_=>false)
 | .bool _=>(match P.underlying K with|some .bool=>true|_=>false)
 |_=>false
structure kj(P:Program)(K:TypeId)(ents:List MapEntry)(clock:Nat):Prop where
 keys: ∀e,e∈ents->plainKey P K e.key=true
 apart:ents.Pairwise fun e e'=>cD e'.key e.key=false
 born:ents.Pairwise fun e e'=>e.born<e'.born
 clock: ∀e,e∈ents->e.born<clock
structure G where
 block:Nat
 cap:Nat
 isNil:Bool
structure Pg extends Program where
 kept:Nat->Option Go.Obj
instance:CoeOut Pg Program:=⟨Pg.toProgram⟩
structure Ctx where
 P:Pg
 X:Nat->Prop
 ι:Nat->G
 st:List Obj
 w:World
 cls:Nat->Nat:=id
 qw:Nat->Nat:=fun _=>0
 lv:Nat->Option (List AV)->(Nat->Prop)->(Nat->Prop)->World->Prop:=fun _ _ _ _ _=>True
def gb:Obj->Option (TypeId×List AV)
 | .row T xs=>some (T,xs)
 | .mo T xs=>some (T,xs)
 |_=>none
def ll(C:Ctx)(B:Nat)(E:TypeId)(k:Nat)(l:List Value)(m:Nat)(v:Value):Prop:=
 m<=l.length/\((v= .slice none 0 0/\m=0)\/ ∃b cap c,v= .slice (some ⟨b,0,none⟩) m cap/\m<=cap/\cap<=maxLen/\C.cls b=B/\b≠B/\C.qw b=k/\
  C.w.heap[b]? =some (.cells c E (0,0))/\cap=c.size/\∀j,j<m->c[j]? =l[j]?)
def my(C:Ctx)(i lo n:Nat)(v:Value):Prop:=
 (∀T xs,gb (ar C.st i)=some (T,xs)->
  lo+n<=xs.length/\
  (((C.ι i).isNil=true/\v= .slice none 0 0/\lo=0/\n=0)\/
   ((C.ι i).isNil=false/\∃cap q,v= .slice (some q) n cap/\(q=⟨(C.ι i).block,lo*C.P.cellsOf T,none⟩\/(cap=0/\0<lo))/\n<=cap/\lo+cap<=(C.ι i).cap)))/\
 ∀T E ls pd,ar C.st i= .rows T E ls pd->
  match lo with
  |0=>n=ls.length/\∃cap,v= .slice (some ⟨(C.ι i).block,0,none⟩) n cap/\n<=cap
  |k+1=>k<ls.length/\ll C (C.ι i).block E k (bB ls k) n v
def oI(C:Ctx)(i k off:Nat)(v:Value):Prop:=
 (∀T xs,gb (ar C.st i)=some (T,xs)->k<xs.length/\v= .pointer (some ⟨(C.ι i).block,k*C.P.cellsOf T+off,none⟩))/\
 (∀T a,ar C.st i= .box T a->k=0/\v= .pointer (some ⟨(C.ι i).block,off,none⟩))/\
 (∀m n ks,ar C.st i= .iter m n ks->v= .pointer (some ⟨(C.ι i).block,off,none⟩))/\
 (∀s p,ar C.st i= .cR s p->v= .pointer (some ⟨(C.ι i).block,off,none⟩))/\
 (∀K V ks vs met,ar C.st i= .fit K V ks vs met->v= .pointer (some ⟨(C.ι i).block,off,none⟩))/\
 (∀T E ls pd,ar C.st i= .rows T E ls pd->k<ls.length/\off=0/\v= .pointer (some ⟨(C.ι i).block,k,none⟩))
def JB(C:Ctx)(i:Nat)(v:Value):Prop:=
 ∀K V es,ar C.st i= .map K V es->v= .map (some (C.ι i).block)
def v5(C:Ctx)(i:Nat)(v:Value):Prop:=
 (∀r,ar C.st i= .loop r->v= .func (.yield (C.ι i).block) #[] #[])/\∀t,ar C.st i= .ext t->v= .func (.yield (C.ι i).block) #[] #[]
def tK(C:Ctx)(i:Nat)(key:Value)(v:Value):Prop:=
 ∀K V es,ar C.st i= .map K V es->∃entries clock,C.w.heap[(C.ι i).block]? =some (.map entries clock)/\∃e,e∈entries/\e.key=key/\v= .int .i64 e.born
abbrev Src:=Nat->Option Value
mutual
def M(C:Ctx):AV->Src->Nat->Prop
 | .cf,_,_=>True
 | .lit u,s,o=>s o=some u/\a0 u=true
 | .ae T l,s,o=>bx C.P l T/\∃p cap,s o=some (.slice p l.length cap)/\l.length<=cap/\
   (l≠[]->∃b off,p=some ⟨b,off,none⟩/\C.X b/\MR C l (C.P.cellsOf T) (fun j=>C.w.cell? ⟨b,j,none⟩) off)
 | .agg l,s,o=>ML C l s o
 | .bp l,s,o=>∃vs,s o=some (.tuple vs)/\MT C l vs.toList
 | .az i lo n,s,o=>i<C.st.length/\∃v,s o=some v/\a0 v=true/\my C i lo n v
 | .ptr i k _ off,s,o=>i<C.st.length/\∃v,s o=some v/\a0 v=true/\oI C i k off v
 | .jc T a,s,o=>∃b off,s o=some (.pointer (some ⟨b,off,none⟩))/\C.X b/\bq C.P a T/\M C a (fun j=>C.w.cell? ⟨b,j,none⟩) off
 | .mp i,s,o=>i<C.st.length/\∃v,s o=some v/\a0 v=true/\JB C i v
 | .cx i,s,o=>i<C.st.length/\∃v,s o=some v/\a0 v=true/\v5 C i v
 | .jJ i k,s,o=>i<C.st.length/\∃v,s o=some v/\a0 v=true/\tK C i k v
 | .bP f caps,s,o=>∃vs,s o=some (.func (.func f) #[] vs)/\MT C caps vs.toList
 | .iZ K V ks vs,s,o=>(s o=some (.map none)/\ks=[]/\vs=[])\/ ∃b ents clock,s o=some (.map (some b))/\C.X b/\C.w.heap[b]? =some (.map ents clock)/\kj C.P K ents.toList clock/\
   ents.toList.map (·.key)=ks/\bx C.P vs V/\MT C vs (ents.toList.map (·.val))
 | .iq T a,s,o=>∃u,s o=some (.iface T u)/\ej u=bH a/\u.cells.size=wid a/\M C a (fun j=>u.cells[j]?) 0
def ML(C:Ctx):List AV->Src->Nat->Prop
 |[],_,_=>True
 |a::l,s,o=>M C a s o/\ML C l s (o+wid a)
def MR(C:Ctx):List AV->Nat->Src->Nat->Prop
 |[],_,_,_=>True
 |a::l,z,s,o=>M C a s o/\MR C l z s (o+z)
def MT(C:Ctx):List AV->List Value->Prop
 |[],vs=>vs=[]
 |_::_,[]=>False
 |a::l,v::vs=>(ej v=bH a\/a= .cf)/\(v.cells.size=wid a\/a= .cf)/\M C a (fun j=>v.cells[j]?) 0/\MT C l vs
end
def Rel(C:Ctx)(a:AV)(v:Value):Prop:=
 (ej v=bH a\/a= .cf)/\(v.cells.size=wid a\/a= .cf)/\M C a (fun j=>v.cells[j]?) 0
end Go.Dn
