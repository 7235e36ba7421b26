import Derived.CallsIn
import Derived.RangeFuncIn
import Derived.OrdersIn
import Derived.RangeFuncLeaves
namespace Go.Dn
open Go
abbrev aa1:= @decide_eq_true_eq
abbrev aa2:= @Bool.and_eq_true
abbrev aa3:= @decide_eq_false_iff_not
abbrev aa4.{u}:= @Option.some.injEq.{u}
abbrev aa5:= @decide_eq_false
abbrev aa6.{u}:= @cond_false.{u}
abbrev aa7:= @decide_eq_true
abbrev aa8.{u}:= @cond_true.{u}
abbrev aa9.{u}:= @List.drop_eq_nil_of_le.{u}
abbrev ab0.{u,v}:= @Prod.mk.injEq.{u,v}
abbrev ab1.{u}:= @List.drop_zero.{u}
abbrev ab2.{u}:= @List.drop_eq_getElem_cons.{u}
abbrev ab3:= @Bool.not_eq_false'
abbrev ab4.{u}:= @List.mem_append_right.{u}
abbrev ab5.{u}:= @List.mem_append_left.{u}
abbrev ab6:= @Bool.or_eq_true
abbrev ab7.{u}:= @List.getElem?_eq_getElem.{u}
abbrev ab8:= @Int.toNat_zero
abbrev ab9.{u}:= @List.length_append.{u}
abbrev ac0:= @Bool.true_and
abbrev ac1.{u,v}:= @List.map_cons.{u,v}
abbrev ac2.{u,v}:= @List.map_nil.{u,v}
abbrev ac3.{u}:= @List.mem_cons.{u}
inductive AV where
 |cy
 |lit (v:Value)
 |ad (T:TypeId) (l:List AV)
 |agg (l:List AV)
 |ba (l:List AV)
 |ar (i lo len:Nat)
 |ptr (i k:Nat) (path:List Nat) (off:Nat)
 |jO (T:TypeId) (a:AV)
 |mp (i:Nat)
 |cu (i:Nat)
 |kg (i:Nat) (key:Value)
 |bI (f:FuncId) (caps:List AV)
 |iX (T:TypeId) (a:AV)
 |js (K V:TypeId) (ks:List Value) (vs:List AV)
 deriving Inhabited
structure xM where
 state:LoopState
 pending:Option Code
 fn:FuncId
 bk:List AV
 params:Array Tmp
 assign:Code
 body:Code
inductive Obj where
 |dead
 |box (T:TypeId) (a:AV)
 |row (T:TypeId) (xs:List AV)
 |l4 (T:TypeId) (xs:List AV)
 |map (K V:TypeId) (es:List (Value×AV))
 |loop (r:xM)
 |iter (i n:Nat) (ks:List Value)
 |ext (todo:Option (List AV))
 |dw (s:ByteArray) (pos:Nat)
 |rows (T E:TypeId) (ls:List (List Value)) (pd:Option Nat)
 |fit (K V:TypeId) (ks:List Value) (vs:List AV) (met:List Value)
def nth:List AV->Nat->AV
 |[],_=> .cy
 |a::_,0=>a
 |_::l,n+1=>nth l n
def b8:List AV->Nat->AV->List AV
 |[],_,_=>[]
 |_::l,0,x=>x::l
 |a::l,n+1,x=>a::b8 l n x
def bQ:List (List Value)->Nat->List Value
 |[],_=>[]
 |a::_,0=>a
 |_::l,n+1=>bQ l n
def jw:List (List Value)->Nat->List Value->List (List Value)
 |[],_,_=>[]
 |_::l,0,x=>x::l
 |a::l,n+1,x=>a::jw l n x
def ax:List Obj->Nat->Obj
 |[],_=> .dead
 |a::_,0=>a
 |_::l,n+1=>ax l n
def db:List Obj->Nat->Obj->List Obj
 |[],_,_=>[]
 |_::l,0,x=>x::l
 |a::l,n+1,x=>a::db l n x
mutual
def wid:AV->Nat
 | .agg l=>eD l
 |_=>1
def eD:List AV->Nat
 |[]=>0
 |a::l=>wid a+eD l
end
def a8:Value->Bool
 | .agg _=>false
 | .tuple _=>false
 |_=>true
def eH:Value->Bool
 | .agg _=>true
 |_=>false
def bR:AV->Bool
 | .agg _=>true
 |_=>false
def toInt:AV->Int
 | .lit (.int _ n)=>n
 |_=>0
def toBool:AV->Bool
 | .lit (.bool b)=>b
 |_=>false
def toStr:AV->ByteArray
 | .lit (.string s)=>s
 |_=>ByteArray.empty
def ai:AV->List AV
 | .ad _ l=>l
 |_=>[]
def Cd:AV->List Value
 | .js _ _ ks _=>ks
 |_=>[]
def wE:AV->List AV
 | .js _ _ _ vs=>vs
 |_=>[]
def ae:AV->Nat->AV
 | .agg l,j=>nth l j
 |_,_=> .cy
def Hb(g:TypeId->AV->AV):List Field->Nat->AV->List AV
 |[],_,_=>[]
 |f::fs,j,a=>g f.type (ae a j)::Hb g fs (j+1) a
def expand(P:Program):Nat->TypeId->AV->AV
 |0,_,a=>a
 |d+1,T,a=>
  match P.underlying T with
  |some (.int k)=> .lit (.int k (toInt a))
  |some .bool=> .lit (.bool (toBool a))
  |some .string=> .lit (.string (toStr a))
  |some (.slice E)=> .ad E (ai a)
  |some (.map K V)=> .js K V (Cd a) (wE a)
  |some (.struct fs)=> .agg (Hb (expand P d) fs.toList 0 a)
  |_=>a
mutual
def bx(P:Program):AV->TypeId->Prop
 | .lit v,T=>
  match P.underlying T with
  |some (.int k)=>∃n,v= .int k n
  |some .bool=>∃b,v= .bool b
  |some .string=>∃s,v= .string s
  |some (.slice _)=>v= .slice none 0 0
  |some (.map _ _)=>v= .map none
  |some (.struct _)=>False
  |some (.array _ _)=>False
  |some _=>a8 v=true
  |none=>False
 | .ad E l,T=>P.underlying T=some (.slice E)/\bF P l E
 | .agg l,T=>∃fs,(P.underlying T=some (.struct fs)/\T<P.types.size)/\dz P l fs.toList
 | .jO E a,T=>P.underlying T=some (.pointer E)/\bx P a E
 | .iX U a,T=>(∃ms,P.underlying T=some (.interface ms))/\bx P a U
 | .js K V _ vs,T=>P.underlying T=some (.map K V)/\bF P vs V
 |_,_=>False
def bF(P:Program):List AV->TypeId->Prop
 |[],_=>True
 |a::l,T=>bx P a T/\bF P l T
def dz(P:Program):List AV->List Field->Prop
 |[],[]=>True
 |a::l,f::fs=>bx P a f.type/\dz P l fs
 |_,_=>False
end
theorem tW{v:Value}(h:a8 v=true):eH v=false:=by cases v<;>simp_all[a8,eH]
def dc:Value->Value->Bool
 | .int k a, .int k' b=>k==k'&&a==b
 | .string a, .string b=>a==b
 | .bool a, .bool b=>a==b
 |_,_=>false
def plainKey(P:Program)(K:TypeId):Value->Bool
 | .int k _=>(match P.underlying K with|some (.int k')=>k==k'|_=>false)
 | .string _=>(match P.underlying K with|some .string=>true|_=>false)
 | .bool _=>(match P.underlying K with|some .bool=>true|_=>false)
 |_=>false
structure la(P:Program)(K:TypeId)(ents:List MapEntry)(clock:Nat):Prop where
 keys: ∀e,e∈ents->plainKey P K e.key=true
 apart:ents.Pairwise fun e e'=>dc e'.key e.key=false
 born:ents.Pairwise fun e e'=>e.born<e'.born
 clock: ∀e,e∈ents->e.born<clock
structure G where
 block:Nat
 cap:Nat
 isNil:Bool
structure Pg extends Program where
 kept:Nat->Option Go.Obj
instance:CoeOut Pg Program:=⟨Pg.toProgram⟩
structure Ctx where
 P:Pg
 X:Nat->Prop
 ι:Nat->G
 st:List Obj
 w:World
 cls:Nat->Nat:=id
 qU:Nat->Nat:=fun _=>0
 lW:Nat->Option (List AV)->(Nat->Prop)->(Nat->Prop)->World->Prop:=fun _ _ _ _ _=>True
def gP:Obj->Option (TypeId×List AV)
 | .row T xs=>some (T,xs)
 | .l4 T xs=>some (T,xs)
 |_=>none
def lP(C:Ctx)(B:Nat)(E:TypeId)(k:Nat)(l:List Value)(m:Nat)(v:Value):Prop:=
 m<=l.length/\((v= .slice none 0 0/\m=0)\/ ∃b cap c,v= .slice (some ⟨b,0,none⟩) m cap/\m<=cap/\cap<=maxLen/\C.cls b=B/\b≠B/\C.qU b=k/\
  C.w.heap[b]? =some (.cells c E (0,0))/\cap=c.size/\∀j,j<m->c[j]? =l[j]?)
def lf(C:Ctx)(i lo n:Nat)(v:Value):Prop:=
 (∀T xs,gP (ax C.st i)=some (T,xs)->
  lo+n<=xs.length/\
  (((C.ι i).isNil=true/\v= .slice none 0 0/\lo=0/\n=0)\/
   ((C.ι i).isNil=false/\∃cap q,v= .slice (some q) n cap/\(q=⟨(C.ι i).block,lo*C.P.cellsOf T,none⟩\/(cap=0/\0<lo))/\n<=cap/\lo+cap<=(C.ι i).cap)))/\
 ∀T E ls pd,ax C.st i= .rows T E ls pd->
  match lo with
  |0=>n=ls.length/\∃cap,v= .slice (some ⟨(C.ι i).block,0,none⟩) n cap/\n<=cap
  |k+1=>k<ls.length/\lP C (C.ι i).block E k (bQ ls k) n v
def oV(C:Ctx)(i k off:Nat)(v:Value):Prop:=
 (∀T xs,gP (ax C.st i)=some (T,xs)->k<xs.length/\v= .pointer (some ⟨(C.ι i).block,k*C.P.cellsOf T+off,none⟩))/\
 (∀T a,ax C.st i= .box T a->k=0/\v= .pointer (some ⟨(C.ι i).block,off,none⟩))/\
 (∀m n ks,ax C.st i= .iter m n ks->v= .pointer (some ⟨(C.ι i).block,off,none⟩))/\
 (∀s p,ax C.st i= .dw s p->v= .pointer (some ⟨(C.ι i).block,off,none⟩))/\
 (∀K V ks vs met,ax C.st i= .fit K V ks vs met->v= .pointer (some ⟨(C.ι i).block,off,none⟩))/\
 (∀T E ls pd,ax C.st i= .rows T E ls pd->k<ls.length/\off=0/\v= .pointer (some ⟨(C.ι i).block,k,none⟩))
def JE(C:Ctx)(i:Nat)(v:Value):Prop:=
 ∀K V es,ax C.st i= .map K V es->v= .map (some (C.ι i).block)
def w8(C:Ctx)(i:Nat)(v:Value):Prop:=
 (∀r,ax C.st i= .loop r->v= .func (.yield (C.ι i).block) #[] #[])/\∀t,ax C.st i= .ext t->v= .func (.yield (C.ι i).block) #[] #[]
def vR(C:Ctx)(i:Nat)(key:Value)(v:Value):Prop:=
 ∀K V es,ax C.st i= .map K V es->∃entries clock,C.w.heap[(C.ι i).block]? =some (.map entries clock)/\∃e,e∈entries/\e.key=key/\v= .int .i64 e.born
abbrev Src:=Nat->Option Value
mutual
def M(C:Ctx):AV->Src->Nat->Prop
 | .cy,_,_=>True
 | .lit u,s,o=>s o=some u/\a8 u=true
 | .ad T l,s,o=>bF C.P l T/\∃p cap,s o=some (.slice p l.length cap)/\l.length<=cap/\
   (l≠[]->∃b off,p=some ⟨b,off,none⟩/\C.X b/\MR C l (C.P.cellsOf T) (fun j=>C.w.cell? ⟨b,j,none⟩) off)
 | .agg l,s,o=>ML C l s o
 | .ba l,s,o=>∃vs,s o=some (.tuple vs)/\MT C l vs.toList
 | .ar i lo n,s,o=>i<C.st.length/\∃v,s o=some v/\a8 v=true/\lf C i lo n v
 | .ptr i k _ off,s,o=>i<C.st.length/\∃v,s o=some v/\a8 v=true/\oV C i k off v
 | .jO T a,s,o=>∃b off,s o=some (.pointer (some ⟨b,off,none⟩))/\C.X b/\bx C.P a T/\M C a (fun j=>C.w.cell? ⟨b,j,none⟩) off
 | .mp i,s,o=>i<C.st.length/\∃v,s o=some v/\a8 v=true/\JE C i v
 | .cu i,s,o=>i<C.st.length/\∃v,s o=some v/\a8 v=true/\w8 C i v
 | .kg i k,s,o=>i<C.st.length/\∃v,s o=some v/\a8 v=true/\vR C i k v
 | .bI f caps,s,o=>∃vs,s o=some (.func (.func f) #[] vs)/\MT C caps vs.toList
 | .js K V ks vs,s,o=>(s o=some (.map none)/\ks=[]/\vs=[])\/ ∃b ents clock,s o=some (.map (some b))/\C.X b/\C.w.heap[b]? =some (.map ents clock)/\la C.P K ents.toList clock/\
   ents.toList.map (·.key)=ks/\bF C.P vs V/\MT C vs (ents.toList.map (·.val))
 | .iX T a,s,o=>∃u,s o=some (.iface T u)/\eH u=bR a/\u.cells.size=wid a/\M C a (fun j=>u.cells[j]?) 0
def ML(C:Ctx):List AV->Src->Nat->Prop
 |[],_,_=>True
 |a::l,s,o=>M C a s o/\ML C l s (o+wid a)
def MR(C:Ctx):List AV->Nat->Src->Nat->Prop
 |[],_,_,_=>True
 |a::l,z,s,o=>M C a s o/\MR C l z s (o+z)
def MT(C:Ctx):List AV->List Value->Prop
 |[],vs=>vs=[]
 |_::_,[]=>False
 |a::l,v::vs=>(eH v=bR a\/a= .cy)/\(v.cells.size=wid a\/a= .cy)/\M C a (fun j=>v.cells[j]?) 0/\MT C l vs
end
def Rel(C:Ctx)(a:AV)(v:Value):Prop:=
 (eH v=bR a\/a= .cy)/\(v.cells.size=wid a\/a= .cy)/\M C a (fun j=>v.cells[j]?) 0
end Go.Dn
