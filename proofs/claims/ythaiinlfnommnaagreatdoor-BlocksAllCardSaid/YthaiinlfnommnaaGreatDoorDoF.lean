import Derived.Test.YthaiinlfnommnaaGreatDoorDoE
namespace Go.Dn
open Go
inductive Out (α:Type):Type 1 where
 |one (a:α)
 |aC (b:Bool) (x y:Out α)
 |all {β:Type} (p:β->Prop) (f:β->Out α)
def Out.run{α:Type}(K:α->Prop):Out α->Prop
 | .one a=>K a
 | .aC b x y=>Go.Dn.aC b (x.run K) (y.run K)
 | .all p f=>∀y,p y->(f y).run K
theorem af{b:Bool}{p q:Prop}:aC b p q↔(b=true->p)/\(b=false->q):=by
 cases b<;>simp[aC]
theorem Out.og{α:Type}{K K':α->Prop}(h: ∀a,K a->K' a): ∀o:Out α,o.run K->o.run K'
 | .one a,hh=>h a hh
 | .aC b x y,hh=>by
  simp only[Out.run,af] at hh⊢
  exact⟨fun e=>Out.og h x (hh.1 e),fun e=>Out.og h y (hh.2 e)⟩
 | .all p f,hh=>fun y hy=>Out.og h (f y) (hh y hy)
def eY{α:Type}(st:α->S)(side:α->Prop)(out:α->Out (Exit×S))(μ:α->Nat)(K:Exit->S->Prop):Nat->S->Prop:=
 fun n s=>∃a,s=st a/\side a/\μ a=n/\(out a).run fun x=>K x.1 x.2
def qH(sel:S->Bool)(a b:fY):fY:=fun rd base s K=>
 match sel s with
 |true=>a rd base s K
 |false=>b rd base s K
theorem kE{sel:S->Bool}{a b:fY}(ha:a.jk)(hb:b.jk):(qH sel a b).jk:=fun rd base s K K' hK h=>by
 unfold qH at h⊢
 cases hs:sel s<;>simp only[hs] at h⊢
 ·exact hb _ _ _ _ _ hK h
 ·exact ha _ _ _ _ _ hK h
theorem nv{E:Env}{N f k:Nat}{sel:S->Bool}{a b:fY}(ha:bk E N f k a)(hb:bk E N f k b):bk E N f k (qH sel a b):=fun rd base s K h=>by
 unfold qH at h
 cases hs:sel s<;>rw[hs] at h
 ·exact hb _ _ _ _ h
 ·exact ha _ _ _ _ h
def fU(bt:List AV):List (Nat×AV)->List AV
 |[]=>bt
 |(i,a)::l=>cm (fU bt l) i a
def sp(n:Nat)(l:List (Nat×AV))(st:List Obj):S:={bt:=fU (bJ n) l,st:=st}
def gh(k:Nat):Code->Option (Array Tmp×Code×Code)
 | .rangeFunc _ ps a b=>
  match lN a with
  |some n=>(bif Nat.beq n k then some (ps,a,b) else(match gh k a with|some x=>some x|none=>gh k b))
  |none=>(match gh k a with|some x=>some x|none=>gh k b)
 | .seq a b=>(match gh k a with|some x=>some x|none=>gh k b)
 | .cond _ a b=>(match gh k a with|some x=>some x|none=>gh k b)
 | .block _ c| .scope c| .loop c=>gh k c
 |_=>none
def gj(P:Program)(f k:Nat)(state:LoopState)(pending:Option Code)(bt:List AV):xZ:=
 match P.funcs[f]? with
 | some fn=>
  (match fn.body with
   |some c=>
    (match gh k c with
    |some (ps,a,b)=>{state,pending,fn:=f,bt,params:=ps,assign:=a,body:=b}
    |none=>{state,pending,fn:=f,bt,params:= #[],assign:= .skip,body:= .skip})
   |none=>{state,pending,fn:=f,bt,params:= #[],assign:= .skip,body:= .skip})
 |none=>{state,pending,fn:=f,bt,params:= #[],assign:= .skip,body:= .skip}
abbrev aJ:List Obj:=[]
def aR{α:Type}(st:α->List AV×List Obj)(side:α->Prop)(out:α->Out (AV×List Obj)):dw:=fun args s K=>
 ∃a,(args,s)=st a/\side a/\(out a).run fun x=>K x.1 x.2
theorem aK{α:Type}{st:α->List AV×List Obj}{side:α->Prop}{out:α->Out (AV×List Obj)}:(aR st side out).jk:=fun _ _ _ _ hK ⟨a,h1,h2,h3⟩=>
 ⟨a,h1,h2,Out.og (fun _ hh=>hK _ _ hh) _ h3⟩
theorem bg{E:Env}{N f:Nat}{α:Type}{st:α->List AV×List Obj}{side:α->Prop}{out:α->Out (AV×List Obj)}
  (h: ∀a K,side a->((out a).run fun x=>K x.1 x.2)->bf E N f (st a).1 (st a).2 K):bz E N f (aR st side out):=by
 rintro args s K ⟨a,h1,h2,h3⟩
 have:=h a K h2 h3
 rw[←h1] at this
 exact this
def aP{α:Type}(b:Nat)(st:α->S)(side:α->Prop)(out:α->Out (Exit×S)):fY:=fun rd base s K=>
 match rd,Nat.beq base b with
 |none,true=>∃a,s=st a/\side a/\(out a).run fun x=>K x.1 x.2
 |_,_=>False
theorem yn{α:Type}{b:Nat}{st:α->S}{side:α->Prop}{out:α->Out (Exit×S)}{rd:Option Nat}{base:Nat}{s:S}{K:Exit->S->Prop}:aP b st side out rd base s K↔rd=none/\base=b/\∃a,s=st a/\side a/\(out a).run fun x=>K x.1 x.2:=by
 unfold aP
 cases rd with
 |none=>
  cases h:Nat.beq base b with
  |true=>simp[Nat.eq_of_beq_eq_true h]
  |false=>simp[Nat.ne_of_beq_eq_false h]
 |some r=>simp
theorem aI{α:Type}{b:Nat}{st:α->S}{side:α->Prop}{out:α->Out (Exit×S)}:(aP b st side out).jk:=fun _ _ _ _ _ hK h=>by
 rw[yn] at h⊢
 obtain⟨h1,h2,a,h3,h4,h5⟩:=h
 exact⟨h1,h2,a,h3,h4,Out.og (fun _ hh=>hK _ _ hh) _ h5⟩
theorem aL{E:Env}{N f k:Nat}{α:Type}{b:Nat}{st:α->S}{side:α->Prop}{out:α->Out (Exit×S)}(μ:α->Nat)
  (h: ∀a K,side a->((out a).run fun x=>K x.1 x.2)->vc E N f none b (ah E.P f k) (st a) (bL E f k b (eY st side out μ K) (μ a) K)):bk E N f k (aP b st side out):=by
 intro rd base s K hh
 obtain⟨rfl,rfl,a,hs,h1,h2⟩:=yn.1 hh
 refine⟨eY st side out μ K,μ a,⟨a,hs,h1,rfl,h2⟩,?_⟩
 rintro n s' ⟨a,rfl,h1,rfl,h2⟩
 exact h a K h1 h2
theorem aD.tO{P:Pg}{f:Nat}(sp:Nat->dw){N:Nat}(ext:Nat->Env)
  (hext: ∀n,(∀args st K,(∃m,m<n/\sp m args st K)->dq P f args st K)->aD (ext n)/\aj (ext n)/\(ext n).P=P) (h: ∀n,bz (ext n) N f (sp n)):
  ∀n args st K,sp n args st K->dq P f args st K:=by
 intro n
 induction n using Nat.strongRecOn with
 |_ n ih=>
  intro args st K hs
  obtain⟨h1,h2,h3⟩:=hext n (fun args st K ⟨m,hlt,hh⟩=>ih m hlt args st K hh)
  have:=iK h1 h2 (h n _ _ _ hs)
  rwa [h3] at this
abbrev AV.int(n:Int):AV:= .lit (.int .i64 n)
abbrev AV.bool(b:Bool):AV:= .lit (.bool b)
abbrev AV.str(s:ByteArray):AV:= .lit (.string s)
abbrev AV.nil:AV:= .lit (.slice none 0 0)
end Go.Dn
