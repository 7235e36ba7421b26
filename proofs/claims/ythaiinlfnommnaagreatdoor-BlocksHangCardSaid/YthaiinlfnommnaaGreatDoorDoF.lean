import Derived.Test.YthaiinlfnommnaaGreatDoorDoE
namespace Go.Dn
open Go
inductive Out (α:Type):Type 1 where
 |one (a:α)
 |aD (b:Bool) (x y:Out α)
 |all {β:Type} (p:β->Prop) (f:β->Out α)
def Out.run{α:Type}(K:α->Prop):Out α->Prop
 | .one a=>K a
 | .aD b x y=>Go.Dn.aD b (x.run K) (y.run K)
 | .all p f=>∀y,p y->(f y).run K
theorem ah{b:Bool}{p q:Prop}:aD b p q↔(b=true->p)/\(b=false->q):=by
 cases b<;>simp[aD]
theorem Out.oD{α:Type}{K K':α->Prop}(h: ∀a,K a->K' a): ∀o:Out α,o.run K->o.run K'
 | .one a,hh=>h a hh
 | .aD b x y,hh=>by
  simp only[Out.run,ah] at hh⊢
  exact⟨fun e=>Out.oD h x (hh.1 e),fun e=>Out.oD h y (hh.2 e)⟩
 | .all p f,hh=>fun y hy=>Out.oD h (f y) (hh y hy)
def fq{α:Type}(st:α->S)(side:α->Prop)(out:α->Out (Exit×S))(μ:α->Nat)(K:Exit->S->Prop):Nat->S->Prop:=
 fun n s=>∃a,s=st a/\side a/\μ a=n/\(out a).run fun x=>K x.1 x.2
def qu(sel:S->Bool)(a b:gg):gg:=fun rd base s K=>
 match sel s with
 |true=>a rd base s K
 |false=>b rd base s K
theorem kU{sel:S->Bool}{a b:gg}(ha:a.ji)(hb:b.ji):(qu sel a b).ji:=fun rd base s K K' hK h=>by
 unfold qu at h⊢
 cases hs:sel s<;>simp only[hs] at h⊢
 ·exact hb _ _ _ _ _ hK h
 ·exact ha _ _ _ _ _ hK h
theorem nz{E:Env}{N f k:Nat}{sel:S->Bool}{a b:gg}(ha:bj E N f k a)(hb:bj E N f k b):bj E N f k (qu sel a b):=fun rd base s K h=>by
 unfold qu at h
 cases hs:sel s<;>rw[hs] at h
 ·exact hb _ _ _ _ h
 ·exact ha _ _ _ _ h
def fW(bn:List AV):List (Nat×AV)->List AV
 |[]=>bn
 |(i,a)::l=>cg (fW bn l) i a
def sp(n:Nat)(l:List (Nat×AV))(st:List Obj):S:={bn:=fW (bG n) l,st:=st}
def gj(k:Nat):Code->Option (Array Tmp×Code×Code)
 | .rangeFunc _ ps a b=>
  match lH a with
  |some n=>(bif Nat.beq n k then some (ps,a,b) else(match gj k a with|some x=>some x|none=>gj k b))
  |none=>(match gj k a with|some x=>some x|none=>gj k b)
 | .seq a b=>(match gj k a with|some x=>some x|none=>gj k b)
 | .cond _ a b=>(match gj k a with|some x=>some x|none=>gj k b)
 | .block _ c| .scope c| .loop c=>gj k c
 |_=>none
def gl(P:Program)(f k:Nat)(state:LoopState)(pending:Option Code)(bn:List AV):xO:=
 match P.funcs[f]? with
 | some fn=>
  (match fn.body with
   |some c=>
    (match gj k c with
    |some (ps,a,b)=>{state,pending,fn:=f,bn,params:=ps,assign:=a,body:=b}
    |none=>{state,pending,fn:=f,bn,params:= #[],assign:= .skip,body:= .skip})
   |none=>{state,pending,fn:=f,bn,params:= #[],assign:= .skip,body:= .skip})
 |none=>{state,pending,fn:=f,bn,params:= #[],assign:= .skip,body:= .skip}
abbrev aI:List Obj:=[]
def aL{α:Type}(st:α->List AV×List Obj)(side:α->Prop)(out:α->Out (AV×List Obj)):dr:=fun args s K=>
 ∃a,(args,s)=st a/\side a/\(out a).run fun x=>K x.1 x.2
theorem aJ{α:Type}{st:α->List AV×List Obj}{side:α->Prop}{out:α->Out (AV×List Obj)}:(aL st side out).ji:=fun _ _ _ _ hK ⟨a,h1,h2,h3⟩=>
 ⟨a,h1,h2,Out.oD (fun _ hh=>hK _ _ hh) _ h3⟩
theorem aZ{E:Env}{N f:Nat}{α:Type}{st:α->List AV×List Obj}{side:α->Prop}{out:α->Out (AV×List Obj)}
  (h: ∀a K,side a->((out a).run fun x=>K x.1 x.2)->a8 E N f (st a).1 (st a).2 K):bt E N f (aL st side out):=by
 rintro args s K ⟨a,h1,h2,h3⟩
 have:=h a K h2 h3
 rw[←h1] at this
 exact this
def aO{α:Type}(b:Nat)(st:α->S)(side:α->Prop)(out:α->Out (Exit×S)):gg:=fun rd base s K=>
 match rd,Nat.beq base b with
 |none,true=>∃a,s=st a/\side a/\(out a).run fun x=>K x.1 x.2
 |_,_=>False
theorem yv{α:Type}{b:Nat}{st:α->S}{side:α->Prop}{out:α->Out (Exit×S)}{rd:Option Nat}{base:Nat}{s:S}{K:Exit->S->Prop}:aO b st side out rd base s K↔rd=none/\base=b/\∃a,s=st a/\side a/\(out a).run fun x=>K x.1 x.2:=by
 unfold aO
 cases rd with
 |none=>
  cases h:Nat.beq base b with
  |true=>simp[Nat.eq_of_beq_eq_true h]
  |false=>simp[Nat.ne_of_beq_eq_false h]
 |some r=>simp
theorem aG{α:Type}{b:Nat}{st:α->S}{side:α->Prop}{out:α->Out (Exit×S)}:(aO b st side out).ji:=fun _ _ _ _ _ hK h=>by
 rw[yv] at h⊢
 obtain⟨h1,h2,a,h3,h4,h5⟩:=h
 exact⟨h1,h2,a,h3,h4,Out.oD (fun _ hh=>hK _ _ hh) _ h5⟩
theorem aK{E:Env}{N f k:Nat}{α:Type}{b:Nat}{st:α->S}{side:α->Prop}{out:α->Out (Exit×S)}(μ:α->Nat)
  (h: ∀a K,side a->((out a).run fun x=>K x.1 x.2)->vc E N f none b (af E.P f k) (st a) (bK E f k b (fq st side out μ K) (μ a) K)):bj E N f k (aO b st side out):=by
 intro rd base s K hh
 obtain⟨rfl,rfl,a,hs,h1,h2⟩:=yv.1 hh
 refine⟨fq st side out μ K,μ a,⟨a,hs,h1,rfl,h2⟩,?_⟩
 rintro n s' ⟨a,rfl,h1,rfl,h2⟩
 exact h a K h1 h2
theorem aB.tX{P:Pg}{f:Nat}(sp:Nat->dr){N:Nat}(ext:Nat->Env)
  (hext: ∀n,(∀args st K,(∃m,m<n/\sp m args st K)->cM P f args st K)->aB (ext n)/\aj (ext n)/\(ext n).P=P) (h: ∀n,bt (ext n) N f (sp n)):
  ∀n args st K,sp n args st K->cM P f args st K:=by
 intro n
 induction n using Nat.strongRecOn with
 |_ n ih=>
  intro args st K hs
  obtain⟨h1,h2,h3⟩:=hext n (fun args st K ⟨m,hlt,hh⟩=>ih m hlt args st K hh)
  have:=iK h1 h2 (h n _ _ _ hs)
  rwa [h3] at this
abbrev AV.int(n:Int):AV:= .lit (.int .i64 n)
abbrev AV.bool(b:Bool):AV:= .lit (.bool b)
abbrev AV.str(s:ByteArray):AV:= .lit (.string s)
abbrev AV.nil:AV:= .lit (.slice none 0 0)
end Go.Dn
