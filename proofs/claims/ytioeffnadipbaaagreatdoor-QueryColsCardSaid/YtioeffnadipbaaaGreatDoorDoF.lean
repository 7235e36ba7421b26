import Derived.Test.YtioeffnadipbaaaGreatDoorDoE
namespace Go.Dn
open Go
inductive Out (α:Type):Type 1 where
 |one (a:α)
 |aw (b:Bool) (x y:Out α)
 |all {β:Type} (p:β->Prop) (f:β->Out α)
def Out.run{α:Type}(K:α->Prop):Out α->Prop
 | .one a=>K a
 | .aw b x y=>Go.Dn.aw b (x.run K) (y.run K)
 | .all p f=>∀y,p y->(f y).run K
theorem ae{b:Bool}{p q:Prop}:aw b p q↔(b=true->p)/\(b=false->q):=by
 cases b<;>simp[aw]
theorem Out.nR{α:Type}{K K':α->Prop}(h: ∀a,K a->K' a): ∀o:Out α,o.run K->o.run K'
 | .one a,hh=>h a hh
 | .aw b x y,hh=>by
  simp only[Out.run,ae] at hh⊢
  exact⟨fun e=>Out.nR h x (hh.1 e),fun e=>Out.nR h y (hh.2 e)⟩
 | .all p f,hh=>fun y hy=>Out.nR h (f y) (hh y hy)
def ig{α:Type}(st:α->S)(side:α->Prop)(out:α->Out (Exit×S))(μ:α->Nat)(K:Exit->S->Prop):Nat->S->Prop:=
 fun n s=>∃a,s=st a/\side a/\μ a=n/\(out a).run fun x=>K x.1 x.2
def ic(bg:List AV):List (Nat×AV)->List AV
 |[]=>bg
 |(i,a)::l=>bJ (ic bg l) i a
def sp(n:Nat)(l:List (Nat×AV))(st:List Obj):S:={bg:=ic (bM n) l,st:=st}
def fR(k:Nat):Code->Option (Array Tmp×Code×Code)
 | .rangeFunc _ ps a b=>
  match lh a with
  |some n=>(bif Nat.beq n k then some (ps,a,b) else(match fR k a with|some x=>some x|none=>fR k b))
  |none=>(match fR k a with|some x=>some x|none=>fR k b)
 | .seq a b=>(match fR k a with|some x=>some x|none=>fR k b)
 | .cond _ a b=>(match fR k a with|some x=>some x|none=>fR k b)
 | .block _ c| .scope c| .loop c=>fR k c
 |_=>none
def iw(P:Program)(f k:Nat)(state:LoopState)(pending:Option Code)(bg:List AV):xF:=
 match P.funcs[f]? with
 | some fn=>
  (match fn.body with
   |some c=>
    (match fR k c with
    |some (ps,a,b)=>{state,pending,fn:=f,bg,params:=ps,assign:=a,body:=b}
    |none=>{state,pending,fn:=f,bg,params:= #[],assign:= .skip,body:= .skip})
   |none=>{state,pending,fn:=f,bg,params:= #[],assign:= .skip,body:= .skip})
 |none=>{state,pending,fn:=f,bg,params:= #[],assign:= .skip,body:= .skip}
abbrev aJ:List Obj:=[]
def a0{α:Type}(st:α->List AV×List Obj)(side:α->Prop)(out:α->Out (AV×List Obj)):b7:=fun args s K=>
 ∃a,(args,s)=st a/\side a/\(out a).run fun x=>K x.1 x.2
theorem aZ{α:Type}{st:α->List AV×List Obj}{side:α->Prop}{out:α->Out (AV×List Obj)}:(a0 st side out).ib:=fun _ _ _ _ hK ⟨a,h1,h2,h3⟩=>
 ⟨a,h1,h2,Out.nR (fun _ hh=>hK _ _ hh) _ h3⟩
theorem bc{E:Env}{N f:Nat}{α:Type}{st:α->List AV×List Obj}{side:α->Prop}{out:α->Out (AV×List Obj)}
  (h: ∀a K,side a->((out a).run fun x=>K x.1 x.2)->ba E N f (st a).1 (st a).2 K):bG E N f (a0 st side out):=by
 rintro args s K ⟨a,h1,h2,h3⟩
 grind
def aR{α:Type}(b:Nat)(st:α->S)(side:α->Prop)(out:α->Out (Exit×S)):jl:=fun rd base s K=>
 match rd,Nat.beq base b with
 |none,true=>∃a,s=st a/\side a/\(out a).run fun x=>K x.1 x.2
 |_,_=>False
theorem xd{α:Type}{b:Nat}{st:α->S}{side:α->Prop}{out:α->Out (Exit×S)}{rd:Option Nat}{base:Nat}{s:S}{K:Exit->S->Prop}:aR b st side out rd base s K↔rd=none/\base=b/\∃a,s=st a/\side a/\(out a).run fun x=>K x.1 x.2:=by
 unfold aR
 cases rd with
 |none=>
  cases h:Nat.beq base b with
  |true=>simp[Nat.eq_of_beq_eq_true h]
  |false=>simp[Nat.ne_of_beq_eq_false h]
 |some r=>simp
theorem aW{α:Type}{b:Nat}{st:α->S}{side:α->Prop}{out:α->Out (Exit×S)}:(aR b st side out).ib:=fun _ _ _ _ _ hK h=>by
 rw[xd] at h⊢
 obtain⟨h1,h2,a,h3,h4,h5⟩:=h
 exact⟨h1,h2,a,h3,h4,Out.nR (fun _ hh=>hK _ _ hh) _ h5⟩
theorem aG{E:Env}{N f k:Nat}{α:Type}{b:Nat}{st:α->S}{side:α->Prop}{out:α->Out (Exit×S)}(μ:α->Nat)
  (h: ∀a K,side a->((out a).run fun x=>K x.1 x.2)->vc E N f none b (ag E.P f k) (st a) (bB E f k b (ig st side out μ K) (μ a) K)):bf E N f k (aR b st side out):=by
 intro rd base s K hh
 obtain⟨rfl,rfl,a,hs,h1,h2⟩:=xd.1 hh
 refine⟨ig st side out μ K,μ a,⟨a,hs,h1,rfl,h2⟩,?_⟩
 rintro n s' ⟨a,rfl,h1,rfl,h2⟩
 exact h a K h1 h2
theorem aE.q9{P:Pg}{f:Nat}(sp:Nat->b7){N:Nat}(ext:Nat->Env)
  (hext: ∀n,(∀args st K,(∃m,m<n/\sp m args st K)->bD P f args st K)->aE (ext n)/\aj (ext n)/\(ext n).P=P) (h: ∀n,bG (ext n) N f (sp n)):
  ∀n args st K,sp n args st K->bD P f args st K:=by
 intro n
 induction n using Nat.strongRecOn with
 |_ n ih=>
  intro args st K hs
  obtain⟨h1,h2,h3⟩:=hext n (fun args st K ⟨m,hlt,hh⟩=>ih m hlt args st K hh)
  have:=cZ h1 h2 (h n _ _ _ hs)
  rwa [h3] at this
abbrev AV.int(n:Int):AV:= .lit (.int .i64 n)
abbrev AV.bool(b:Bool):AV:= .lit (.bool b)
abbrev AV.str(s:ByteArray):AV:= .lit (.string s)
abbrev AV.nil:AV:= .lit (.slice none 0 0)
end Go.Dn
