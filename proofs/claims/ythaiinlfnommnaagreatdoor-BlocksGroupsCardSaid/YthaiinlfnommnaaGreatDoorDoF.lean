import Derived.Test.YthaiinlfnommnaaGreatDoorDoE
namespace Go.Dn
open Go
inductive Out (α:Type):Type 1 where
 |one (a:α)
 |aD (b:Bool) (x y:Out α)
 |all {β:Type} (p:β->Prop) (f:β->Out α)
def Out.run{α:Type}(K:α->Prop):Out α->Prop
 | .one a=>K a
 | .aD b x y=>Go.Dn.aD b (x.run K) (y.run K)
 | .all p f=>∀y,p y->(f y).run K
theorem ah{b:Bool}{p q:Prop}:aD b p q↔(b=true->p)/\(b=false->q):=by
 cases b<;>simp[aD]
theorem Out.mY{α:Type}{K K':α->Prop}(h: ∀a,K a->K' a): ∀o:Out α,o.run K->o.run K'
 | .one a,hh=>h a hh
 | .aD b x y,hh=>by
  simp only[Out.run,ah] at hh⊢
  exact⟨fun e=>Out.mY h x (hh.1 e),fun e=>Out.mY h y (hh.2 e)⟩
 | .all p f,hh=>fun y hy=>Out.mY h (f y) (hh y hy)
def fe{α:Type}(st:α->S)(side:α->Prop)(out:α->Out (Exit×S))(μ:α->Nat)(K:Exit->S->Prop):Nat->S->Prop:=
 fun n s=>∃a,s=st a/\side a/\μ a=n/\(out a).run fun x=>K x.1 x.2
def o6(sel:S->Bool)(a b:fI):fI:=fun rd base s K=>
 match sel s with
 |true=>a rd base s K
 |false=>b rd base s K
theorem jg{sel:S->Bool}{a b:fI}(ha:a.iT)(hb:b.iT):(o6 sel a b).iT:=fun rd base s K K' hK h=>by
 unfold o6 at h⊢
 cases hs:sel s<;>simp only[hs] at h⊢
 ·exact hb _ _ _ _ _ hK h
 ·exact ha _ _ _ _ _ hK h
theorem lS{E:Env}{N f k:Nat}{sel:S->Bool}{a b:fI}(ha:bh E N f k a)(hb:bh E N f k b):bh E N f k (o6 sel a b):=fun rd base s K h=>by
 unfold o6 at h
 cases hs:sel s<;>rw[hs] at h
 ·exact hb _ _ _ _ h
 ·exact ha _ _ _ _ h
def fK(bk:List AV):List (Nat×AV)->List AV
 |[]=>bk
 |(i,a)::l=>b8 (fK bk l) i a
def sp(n:Nat)(l:List (Nat×AV))(st:List Obj):S:={bk:=fK (bz n) l,st:=st}
def fO(k:Nat):Code->Option (Array Tmp×Code×Code)
 | .rangeFunc _ ps a b=>
  match lu a with
  |some n=>(bif Nat.beq n k then some (ps,a,b) else(match fO k a with|some x=>some x|none=>fO k b))
  |none=>(match fO k a with|some x=>some x|none=>fO k b)
 | .seq a b=>(match fO k a with|some x=>some x|none=>fO k b)
 | .cond _ a b=>(match fO k a with|some x=>some x|none=>fO k b)
 | .block _ c| .scope c| .loop c=>fO k c
 |_=>none
def fR(P:Program)(f k:Nat)(state:LoopState)(pending:Option Code)(bk:List AV):xM:=
 match P.funcs[f]? with
 | some fn=>
  (match fn.body with
   |some c=>
    (match fO k c with
    |some (ps,a,b)=>{state,pending,fn:=f,bk,params:=ps,assign:=a,body:=b}
    |none=>{state,pending,fn:=f,bk,params:= #[],assign:= .skip,body:= .skip})
   |none=>{state,pending,fn:=f,bk,params:= #[],assign:= .skip,body:= .skip})
 |none=>{state,pending,fn:=f,bk,params:= #[],assign:= .skip,body:= .skip}
abbrev aI:List Obj:=[]
def aM{α:Type}(st:α->List AV×List Obj)(side:α->Prop)(out:α->Out (AV×List Obj)):dj:=fun args s K=>
 ∃a,(args,s)=st a/\side a/\(out a).run fun x=>K x.1 x.2
theorem aJ{α:Type}{st:α->List AV×List Obj}{side:α->Prop}{out:α->Out (AV×List Obj)}:(aM st side out).iT:=fun _ _ _ _ hK ⟨a,h1,h2,h3⟩=>
 ⟨a,h1,h2,Out.mY (fun _ hh=>hK _ _ hh) _ h3⟩
theorem aZ{E:Env}{N f:Nat}{α:Type}{st:α->List AV×List Obj}{side:α->Prop}{out:α->Out (AV×List Obj)}
  (h: ∀a K,side a->((out a).run fun x=>K x.1 x.2)->a9 E N f (st a).1 (st a).2 K):bq E N f (aM st side out):=by
 rintro args s K ⟨a,h1,h2,h3⟩
 have:=h a K h2 h3
 rw[←h1] at this
 exact this
def aP{α:Type}(b:Nat)(st:α->S)(side:α->Prop)(out:α->Out (Exit×S)):fI:=fun rd base s K=>
 match rd,Nat.beq base b with
 |none,true=>∃a,s=st a/\side a/\(out a).run fun x=>K x.1 x.2
 |_,_=>False
theorem xh{α:Type}{b:Nat}{st:α->S}{side:α->Prop}{out:α->Out (Exit×S)}{rd:Option Nat}{base:Nat}{s:S}{K:Exit->S->Prop}:aP b st side out rd base s K↔rd=none/\base=b/\∃a,s=st a/\side a/\(out a).run fun x=>K x.1 x.2:=by
 unfold aP
 cases rd with
 |none=>
  cases h:Nat.beq base b with
  |true=>simp[Nat.eq_of_beq_eq_true h]
  |false=>simp[Nat.ne_of_beq_eq_false h]
 |some r=>simp
theorem aF{α:Type}{b:Nat}{st:α->S}{side:α->Prop}{out:α->Out (Exit×S)}:(aP b st side out).iT:=fun _ _ _ _ _ hK h=>by
 rw[xh] at h⊢
 obtain⟨h1,h2,a,h3,h4,h5⟩:=h
 exact⟨h1,h2,a,h3,h4,Out.mY (fun _ hh=>hK _ _ hh) _ h5⟩
theorem aL{E:Env}{N f k:Nat}{α:Type}{b:Nat}{st:α->S}{side:α->Prop}{out:α->Out (Exit×S)}(μ:α->Nat)
  (h: ∀a K,side a->((out a).run fun x=>K x.1 x.2)->vc E N f none b (af E.P f k) (st a) (bH E f k b (fe st side out μ K) (μ a) K)):bh E N f k (aP b st side out):=by
 intro rd base s K hh
 obtain⟨rfl,rfl,a,hs,h1,h2⟩:=xh.1 hh
 refine⟨fe st side out μ K,μ a,⟨a,hs,h1,rfl,h2⟩,?_⟩
 rintro n s' ⟨a,rfl,h1,rfl,h2⟩
 exact h a K h1 h2
theorem aB.sV{P:Pg}{f:Nat}(sp:Nat->dj){N:Nat}(ext:Nat->Env)
  (hext: ∀n,(∀args st K,(∃m,m<n/\sp m args st K)->dp P f args st K)->aB (ext n)/\aj (ext n)/\(ext n).P=P) (h: ∀n,bq (ext n) N f (sp n)):
  ∀n args st K,sp n args st K->dp P f args st K:=by
 intro n
 induction n using Nat.strongRecOn with
 |_ n ih=>
  intro args st K hs
  obtain⟨h1,h2,h3⟩:=hext n (fun args st K ⟨m,hlt,hh⟩=>ih m hlt args st K hh)
  have:=il h1 h2 (h n _ _ _ hs)
  rwa [h3] at this
abbrev AV.int(n:Int):AV:= .lit (.int .i64 n)
abbrev AV.bool(b:Bool):AV:= .lit (.bool b)
abbrev AV.str(s:ByteArray):AV:= .lit (.string s)
abbrev AV.nil:AV:= .lit (.slice none 0 0)
end Go.Dn
