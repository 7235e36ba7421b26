import Derived.Test.YtdpmikfheebicaaGreatDoorDoE
namespace Go.Dn
open Go
inductive Out (α:Type):Type 1 where
 |one (a:α)
 |ax (b:Bool) (x y:Out α)
 |all {β:Type} (p:β->Prop) (f:β->Out α)
def Out.run{α:Type}(K:α->Prop):Out α->Prop
 | .one a=>K a
 | .ax b x y=>Go.Dn.ax b (x.run K) (y.run K)
 | .all p f=>∀y,p y->(f y).run K
theorem af{b:Bool}{p q:Prop}:ax b p q↔(b=true->p)/\(b=false->q):=by
 cases b<;>simp[ax]
theorem Out.ng{α:Type}{K K':α->Prop}(h: ∀a,K a->K' a): ∀o:Out α,o.run K->o.run K'
 | .one a,hh=>h a hh
 | .ax b x y,hh=>by
  simp only[Out.run,af] at hh⊢
  exact⟨fun e=>Out.ng h x (hh.1 e),fun e=>Out.ng h y (hh.2 e)⟩
 | .all p f,hh=>fun y hy=>Out.ng h (f y) (hh y hy)
def fw{α:Type}(st:α->S)(side:α->Prop)(out:α->Out (Exit×S))(μ:α->Nat)(K:Exit->S->Prop):Nat->S->Prop:=
 fun n s=>∃a,s=st a/\side a/\μ a=n/\(out a).run fun x=>K x.1 x.2
def pn(sel:S->Bool)(a b:fj):fj:=fun rd base s K=>
 match sel s with
 |true=>a rd base s K
 |false=>b rd base s K
theorem jU{sel:S->Bool}{a b:fj}(ha:a.jI)(hb:b.jI):(pn sel a b).jI:=fun rd base s K K' hK h=>by
 unfold pn at h⊢
 cases hs:sel s<;>simp only[hs] at h⊢
 ·exact hb _ _ _ _ _ hK h
 ·exact ha _ _ _ _ _ hK h
theorem nw{E:Env}{N f k:Nat}{sel:S->Bool}{a b:fj}(ha:bn E N f k a)(hb:bn E N f k b):bn E N f k (pn sel a b):=fun rd base s K h=>by
 unfold pn at h
 cases hs:sel s<;>rw[hs] at h
 ·exact hb _ _ _ _ h
 ·exact ha _ _ _ _ h
def ie(a9:List AV):List (Nat×AV)->List AV
 |[]=>a9
 |(i,a)::l=>bQ (ie a9 l) i a
def sp(n:Nat)(l:List (Nat×AV))(st:List Obj):S:={a9:=ie (bK n) l,st:=st}
def fo(k:Nat):Code->Option (Array Tmp×Code×Code)
 | .rangeFunc _ ps a b=>
  match kG a with
  |some n=>(bif Nat.beq n k then some (ps,a,b) else(match fo k a with|some x=>some x|none=>fo k b))
  |none=>(match fo k a with|some x=>some x|none=>fo k b)
 | .seq a b=>(match fo k a with|some x=>some x|none=>fo k b)
 | .cond _ a b=>(match fo k a with|some x=>some x|none=>fo k b)
 | .block _ c| .scope c| .loop c=>fo k c
 |_=>none
def il(P:Program)(f k:Nat)(state:LoopState)(pending:Option Code)(a9:List AV):vW:=
 match P.funcs[f]? with
 | some fn=>
  (match fn.body with
   |some c=>
    (match fo k c with
    |some (ps,a,b)=>{state,pending,fn:=f,a9,params:=ps,assign:=a,body:=b}
    |none=>{state,pending,fn:=f,a9,params:= #[],assign:= .skip,body:= .skip})
   |none=>{state,pending,fn:=f,a9,params:= #[],assign:= .skip,body:= .skip})
 |none=>{state,pending,fn:=f,a9,params:= #[],assign:= .skip,body:= .skip}
abbrev aB:List Obj:=[]
def aZ{α:Type}(st:α->List AV×List Obj)(side:α->Prop)(out:α->Out (AV×List Obj)):cX:=fun args s K=>
 ∃a,(args,s)=st a/\side a/\(out a).run fun x=>K x.1 x.2
theorem aI{α:Type}{st:α->List AV×List Obj}{side:α->Prop}{out:α->Out (AV×List Obj)}:(aZ st side out).jI:=fun _ _ _ _ hK ⟨a,h1,h2,h3⟩=>
 ⟨a,h1,h2,Out.ng (fun _ hh=>hK _ _ hh) _ h3⟩
theorem bh{E:Env}{N f:Nat}{α:Type}{st:α->List AV×List Obj}{side:α->Prop}{out:α->Out (AV×List Obj)}
  (h: ∀a K,side a->((out a).run fun x=>K x.1 x.2)->bg E N f (st a).1 (st a).2 K):bz E N f (aZ st side out):=by
 rintro args s K ⟨a,h1,h2,h3⟩
 have:=h a K h2 h3
 rw[←h1] at this
 exact this
def aQ{α:Type}(b:Nat)(st:α->S)(side:α->Prop)(out:α->Out (Exit×S)):fj:=fun rd base s K=>
 match rd,Nat.beq base b with
 |none,true=>∃a,s=st a/\side a/\(out a).run fun x=>K x.1 x.2
 |_,_=>False
theorem vM{α:Type}{b:Nat}{st:α->S}{side:α->Prop}{out:α->Out (Exit×S)}{rd:Option Nat}{base:Nat}{s:S}{K:Exit->S->Prop}:aQ b st side out rd base s K↔rd=none/\base=b/\∃a,s=st a/\side a/\(out a).run fun x=>K x.1 x.2:=by
 unfold aQ
 cases rd with
 |none=>
  cases h:Nat.beq base b with
  |true=>simp[Nat.eq_of_beq_eq_true h]
  |false=>simp[Nat.ne_of_beq_eq_false h]
 |some r=>simp
theorem aG{α:Type}{b:Nat}{st:α->S}{side:α->Prop}{out:α->Out (Exit×S)}:(aQ b st side out).jI:=fun _ _ _ _ _ hK h=>by
 rw[vM] at h⊢
 obtain⟨h1,h2,a,h3,h4,h5⟩:=h
 exact⟨h1,h2,a,h3,h4,Out.ng (fun _ hh=>hK _ _ hh) _ h5⟩
theorem aR{E:Env}{N f k:Nat}{α:Type}{b:Nat}{st:α->S}{side:α->Prop}{out:α->Out (Exit×S)}(μ:α->Nat)
  (h: ∀a K,side a->((out a).run fun x=>K x.1 x.2)->vc E N f none b (ag E.P f k) (st a) (bI E f k b (fw st side out μ K) (μ a) K)):bn E N f k (aQ b st side out):=by
 intro rd base s K hh
 obtain⟨rfl,rfl,a,hs,h1,h2⟩:=vM.1 hh
 refine⟨fw st side out μ K,μ a,⟨a,hs,h1,rfl,h2⟩,?_⟩
 rintro n s' ⟨a,rfl,h1,rfl,h2⟩
 exact h a K h1 h2
theorem aC.x0{P:Pg}{f:Nat}(sp:Nat->cX){N:Nat}(ext:Nat->Env)
  (hext: ∀n,(∀args st K,(∃m,m<n/\sp m args st K)->dj P f args st K)->aC (ext n)/\ai (ext n)/\(ext n).P=P) (h: ∀n,bz (ext n) N f (sp n)):
  ∀n args st K,sp n args st K->dj P f args st K:=by
 intro n
 induction n using Nat.strongRecOn with
 |_ n ih=>
  intro args st K hs
  obtain⟨h1,h2,h3⟩:=hext n (fun args st K ⟨m,hlt,hh⟩=>ih m hlt args st K hh)
  have:=gL h1 h2 (h n _ _ _ hs)
  rwa [h3] at this
abbrev AV.int(n:Int):AV:= .lit (.int .i64 n)
abbrev AV.bool(b:Bool):AV:= .lit (.bool b)
abbrev AV.str(s:ByteArray):AV:= .lit (.string s)
abbrev AV.nil:AV:= .lit (.slice none 0 0)
end Go.Dn
