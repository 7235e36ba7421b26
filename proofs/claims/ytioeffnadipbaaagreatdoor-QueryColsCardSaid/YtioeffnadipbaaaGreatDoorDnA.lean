import Derived.CallsIn
import Derived.RangeFuncIn
import Derived.OrdersIn
import Derived.RangeFuncLeaves
namespace Go.Dn
open Go
abbrev aa0:= @decide_eq_true_eq
abbrev aa1:= @Bool.and_eq_true
abbrev aa2:= @decide_eq_false_iff_not
abbrev aa3.{u}:= @Option.some.injEq.{u}
abbrev aa4:= @decide_eq_false
abbrev aa5.{u}:= @cond_false.{u}
abbrev aa6:= @decide_eq_true
abbrev aa7.{u}:= @cond_true.{u}
abbrev aa8.{u}:= @List.drop_eq_nil_of_le.{u}
abbrev aa9.{u,v}:= @Prod.mk.injEq.{u,v}
abbrev ab0.{u}:= @List.drop_zero.{u}
abbrev ab1.{u}:= @List.drop_eq_getElem_cons.{u}
abbrev ab2:= @Bool.not_eq_false'
abbrev ab3.{u}:= @List.mem_append_right.{u}
abbrev ab4.{u}:= @List.mem_append_left.{u}
abbrev ab5:= @Bool.or_eq_true
abbrev ab6.{u}:= @List.getElem?_eq_getElem.{u}
abbrev ab7:= @Int.toNat_zero
abbrev ab8.{u}:= @List.length_append.{u}
abbrev ab9:= @Bool.true_and
abbrev ac0.{u,v}:= @List.map_cons.{u,v}
abbrev ac1.{u}:= @List.mem_cons.{u}
inductive AV where
 |cK
 |lit (v:Value)
 |ad (T:TypeId) (l:List AV)
 |agg (l:List AV)
 |aX (l:List AV)
 |aB (i lo len:Nat)
 |ptr (i k:Nat) (path:List Nat) (off:Nat)
 |iY (T:TypeId) (a:AV)
 |mp (i:Nat)
 |de (i:Nat)
 |jV (i:Nat) (key:Value)
 |bq (f:FuncId) (caps:List AV)
 |iN (T:TypeId) (a:AV)
 |fJ (K V:TypeId) (ks:List Value) (vs:List AV)
 deriving Inhabited
structure xF where
 state:LoopState
 pending:Option Code
 fn:FuncId
 bg:List AV
 params:Array Tmp
 assign:Code
 body:Code
inductive Obj where
 |dead
 |box (T:TypeId) (a:AV)
 |row (T:TypeId) (xs:List AV)
 |kC (T:TypeId) (xs:List AV)
 |map (K V:TypeId) (es:List (Value×AV))
 |loop (r:xF)
 |iter (i n:Nat) (ks:List Value)
 |ext (todo:Option (List AV))
 |dq (s:ByteArray) (pos:Nat)
 |rows (T E:TypeId) (ls:List (List Value)) (pd:Option Nat)
 |fit (K V:TypeId) (ks:List Value) (vs:List AV) (met:List Value)
def nth:List AV->Nat->AV
 |[],_=> .cK
 |a::_,0=>a
 |_::l,n+1=>nth l n
def bJ:List AV->Nat->AV->List AV
 |[],_,_=>[]
 |_::l,0,x=>x::l
 |a::l,n+1,x=>a::bJ l n x
def ej:List (List Value)->Nat->List Value
 |[],_=>[]
 |a::_,0=>a
 |_::l,n+1=>ej l n
def lL:List (List Value)->Nat->List Value->List (List Value)
 |[],_,_=>[]
 |_::l,0,x=>x::l
 |a::l,n+1,x=>a::lL l n x
def an:List Obj->Nat->Obj
 |[],_=> .dead
 |a::_,0=>a
 |_::l,n+1=>an l n
def c9:List Obj->Nat->Obj->List Obj
 |[],_,_=>[]
 |_::l,0,x=>x::l
 |a::l,n+1,x=>a::c9 l n x
mutual
def wid:AV->Nat
 | .agg l=>eH l
 |_=>1
def eH:List AV->Nat
 |[]=>0
 |a::l=>wid a+eH l
end
def a9:Value->Bool
 | .agg _=>false
 | .tuple _=>false
 |_=>true
def ep:Value->Bool
 | .agg _=>true
 |_=>false
def bO:AV->Bool
 | .agg _=>true
 |_=>false
def toInt:AV->Int
 | .lit (.int _ n)=>n
 |_=>0
def toBool:AV->Bool
 | .lit (.bool b)=>b
 |_=>false
def toStr:AV->ByteArray
 | .lit (.string s)=>s
 |_=>ByteArray.empty
def ah:AV->List AV
 | .ad _ l=>l
 |_=>[]
def S1:AV->List Value
 | .fJ _ _ ks _=>ks
 |_=>[]
def Pw:AV->List AV
 | .fJ _ _ _ vs=>vs
 |_=>[]
def af:AV->Nat->AV
 | .agg l,j=>nth l j
 |_,_=> .cK
def GM(g:TypeId->AV->AV):List Field->Nat->AV->List AV
 |[],_,_=>[]
 |f::fs,j,a=>g f.type (af a j)::GM g fs (j+1) a
def expand(P:Program):Nat->TypeId->AV->AV
 |0,_,a=>a
 |d+1,T,a=>
  match P.underlying T with
  |some (.int k)=> .lit (.int k (toInt a))
  |some .bool=> .lit (.bool (toBool a))
  |some .string=> .lit (.string (toStr a))
  |some (.slice E)=> .ad E (ah a)
  |some (.map K V)=>(match a with| .lit (.map none)=>a|_=> .fJ K V (S1 a) (Pw a))
  |some (.struct fs)=> .agg (GM (expand P d) fs.toList 0 a)
  |_=>a
mutual
def br(P:Program):AV->TypeId->Prop
 | .lit v,T=>
  match P.underlying T with
  |some (.int k)=>∃n,v= .int k n
  |some .bool=>∃b,v= .bool b
  |some .string=>∃s,v= .string s
  |some (.slice _)=>v= .slice none 0 0
  |some (.map _ _)=>v= .map none
  |some (.struct _)=>False
  |some (.array _ _)=>False
  |some _=>a9 v=true
  |none=>False
 | .ad E l,T=>P.underlying T=some (.slice E)/\bC P l E
 | .agg l,T=>∃fs,(P.underlying T=some (.struct fs)/\T<P.types.size)/\dy P l fs.toList
 | .iY E a,T=>P.underlying T=some (.pointer E)/\br P a E
 | .iN U a,T=>(∃ms,P.underlying T=some (.interface ms))/\br P a U
 | .fJ K V _ vs,T=>P.underlying T=some (.map K V)/\bC P vs V
 |_,_=>False
def bC(P:Program):List AV->TypeId->Prop
 |[],_=>True
 |a::l,T=>br P a T/\bC P l T
def dy(P:Program):List AV->List Field->Prop
 |[],[]=>True
 |a::l,f::fs=>br P a f.type/\dy P l fs
 |_,_=>False
end
theorem tL{v:Value}(h:a9 v=true):ep v=false:=by cases v<;>simp_all[a9,ep]
def dm:Value->Value->Bool
 | .int k a, .int k' b=>k==k'&&a==b
 | .string a, .string b=>a==b
 | .bool a, .bool b=>a==b
 |_,_=>false
def plainKey(P:Program)(K:TypeId):Value->Bool
 | .int k _=>(match P.underlying K with|some (.int k')=>k==k'|_=>false)
 | .string _=>(match P.underlying K with|some .string=>true|_=>false)
 | .bool _=>(match P.underlying K with|some .bool=>true|_=>false)
 |_=>false
structure k9(P:Program)(K:TypeId)(ents:List MapEntry)(clock:Nat):Prop where
 keys: ∀e,e∈ents->plainKey P K e.key=true
 apart:ents.Pairwise fun e e'=>dm e'.key e.key=false
 born:ents.Pairwise fun e e'=>e.born<e'.born
 clock: ∀e,e∈ents->e.born<clock
structure G where
 block:Nat
 cap:Nat
 isNil:Bool
structure Pg extends Program where
 kept:Nat->Option Go.Obj
 UA:TypeId->Bool:=fun _=>false
instance:CoeOut Pg Program:=⟨Pg.toProgram⟩
structure Ctx where
 P:Pg
 X:Nat->Prop
 ι:Nat->G
 st:List Obj
 w:World
 cls:Nat->Nat:=id
 rk:Nat->Nat:=fun _=>0
 lr:Nat->Option (List AV)->(Nat->Prop)->(Nat->Prop)->World->Prop:=fun _ _ _ _ _=>True
def gC:Obj->Option (TypeId×List AV)
 | .row T xs=>some (T,xs)
 | .kC T xs=>some (T,xs)
 |_=>none
def lB(C:Ctx)(B:Nat)(E:TypeId)(k:Nat)(l:List Value)(m:Nat)(v:Value):Prop:=
 m<=l.length/\((v= .slice none 0 0/\m=0)\/ ∃b cap c,v= .slice (some ⟨b,0,none⟩) m cap/\m<=cap/\cap<=maxLen/\C.cls b=B/\b≠B/\C.rk b=k/\
  C.w.heap[b]? =some (.cells c E (0,0))/\cap=c.size/\∀j,j<m->c[j]? =l[j]?)
def kH(C:Ctx)(i lo n:Nat)(v:Value):Prop:=
 (∀T xs,gC (an C.st i)=some (T,xs)->
  lo+n<=xs.length/\
  (((C.ι i).isNil=true/\v= .slice none 0 0/\lo=0/\n=0)\/
   ((C.ι i).isNil=false/\∃cap q,v= .slice (some q) n cap/\(q=⟨(C.ι i).block,lo*C.P.cellsOf T,none⟩\/(cap=0/\0<lo))/\n<=cap/\lo+cap<=(C.ι i).cap)))/\
 ∀T E ls pd,an C.st i= .rows T E ls pd->
  match lo with
  |0=>n=ls.length/\∃cap,v= .slice (some ⟨(C.ι i).block,0,none⟩) n cap/\n<=cap
  |k+1=>k<ls.length/\lB C (C.ι i).block E k (ej ls k) n v
def oZ(C:Ctx)(i k off:Nat)(v:Value):Prop:=
 (∀T xs,gC (an C.st i)=some (T,xs)->k<xs.length/\v= .pointer (some ⟨(C.ι i).block,k*C.P.cellsOf T+off,none⟩))/\
 (∀T a,an C.st i= .box T a->k=0/\v= .pointer (some ⟨(C.ι i).block,off,none⟩))/\
 (∀m n ks,an C.st i= .iter m n ks->v= .pointer (some ⟨(C.ι i).block,off,none⟩))/\
 (∀s p,an C.st i= .dq s p->v= .pointer (some ⟨(C.ι i).block,off,none⟩))/\
 (∀K V ks vs met,an C.st i= .fit K V ks vs met->v= .pointer (some ⟨(C.ι i).block,off,none⟩))/\
 (∀T E ls pd,an C.st i= .rows T E ls pd->k<ls.length/\off=0/\v= .pointer (some ⟨(C.ι i).block,k,none⟩))
def KE(C:Ctx)(i:Nat)(v:Value):Prop:=
 ∀K V es,an C.st i= .map K V es->v= .map (some (C.ι i).block)
def xm(C:Ctx)(i:Nat)(v:Value):Prop:=
 (∀r,an C.st i= .loop r->v= .func (.yield (C.ι i).block) #[] #[])/\∀t,an C.st i= .ext t->v= .func (.yield (C.ι i).block) #[] #[]
def vR(C:Ctx)(i:Nat)(key:Value)(v:Value):Prop:=
 ∀K V es,an C.st i= .map K V es->∃entries clock,C.w.heap[(C.ι i).block]? =some (.map entries clock)/\∃e,e∈entries/\e.key=key/\v= .int .i64 e.born
abbrev Src:=Nat->Option Value
mutual
def M(C:Ctx):AV->Src->Nat->Prop
 | .cK,_,_=>True
 | .lit u,s,o=>s o=some u/\a9 u=true
 | .ad T l,s,o=>bC C.P l T/\∃p cap,s o=some (.slice p l.length cap)/\l.length<=cap/\
   (l≠[]->∃b off,p=some ⟨b,off,none⟩/\C.X b/\MR C l (C.P.cellsOf T) (fun j=>C.w.cell? ⟨b,j,none⟩) off)
 | .agg l,s,o=>ML C l s o
 | .aX l,s,o=>∃vs,s o=some (.tuple vs)/\MT C l vs.toList
 | .aB i lo n,s,o=>i<C.st.length/\∃v,s o=some v/\a9 v=true/\kH C i lo n v
 | .ptr i k _ off,s,o=>i<C.st.length/\∃v,s o=some v/\a9 v=true/\oZ C i k off v
 | .iY T a,s,o=>∃b off,s o=some (.pointer (some ⟨b,off,none⟩))/\C.X b/\br C.P a T/\M C a (fun j=>C.w.cell? ⟨b,j,none⟩) off
 | .mp i,s,o=>i<C.st.length/\∃v,s o=some v/\a9 v=true/\KE C i v
 | .de i,s,o=>i<C.st.length/\∃v,s o=some v/\a9 v=true/\xm C i v
 | .jV i k,s,o=>i<C.st.length/\∃v,s o=some v/\a9 v=true/\vR C i k v
 | .bq f caps,s,o=>∃vs,s o=some (.func (.func f) #[] vs)/\MT C caps vs.toList
 | .fJ K V ks vs,s,o=>∃b ents clock,s o=some (.map (some b))/\C.X b/\C.w.heap[b]? =some (.map ents clock)/\k9 C.P K ents.toList clock/\
   ents.toList.map (·.key)=ks/\bC C.P vs V/\MT C vs (ents.toList.map (·.val))
 | .iN T a,s,o=>∃u,s o=some (.iface T u)/\ep u=bO a/\u.cells.size=wid a/\M C a (fun j=>u.cells[j]?) 0
def ML(C:Ctx):List AV->Src->Nat->Prop
 |[],_,_=>True
 |a::l,s,o=>M C a s o/\ML C l s (o+wid a)
def MR(C:Ctx):List AV->Nat->Src->Nat->Prop
 |[],_,_,_=>True
 |a::l,z,s,o=>M C a s o/\MR C l z s (o+z)
def MT(C:Ctx):List AV->List Value->Prop
 |[],vs=>vs=[]
 |_::_,[]=>False
 |a::l,v::vs=>(ep v=bO a\/a= .cK)/\(v.cells.size=wid a\/a= .cK)/\M C a (fun j=>v.cells[j]?) 0/\MT C l vs
end
def Rel(C:Ctx)(a:AV)(v:Value):Prop:=
 (ep v=bO a\/a= .cK)/\(v.cells.size=wid a\/a= .cK)/\M C a (fun j=>v.cells[j]?) 0
end Go.Dn
