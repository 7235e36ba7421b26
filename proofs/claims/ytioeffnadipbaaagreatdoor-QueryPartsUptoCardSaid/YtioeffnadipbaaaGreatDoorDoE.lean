import Derived.Test.YtioeffnadipbaaaGreatDoorDoD
namespace Go.Dn
open Go
def G9(P:Program):List Field->Nat->Nat->Bool
 |[],n,t=>Nat.beq n t
 |f::a,n,t=>Nat.beq f.offset n&&G9 P a (n+P.cellsOf f.type) t
def Mf(P:Program)(T:TypeId):Bool:=
 match P.underlying T with
 |some (.struct a)=>G9 P a.toList 0 (P.cellsOf T)
 |some (.array _ _)=>true
 |some _=>Nat.beq (P.cellsOf T) 1
 |none=>true
def rL(p:Nat->Bool):Nat->Bool
 |0=>true
 |n+1=>p n&&rL p n
theorem qm{p}: ∀{n},rL p n=true->∀i,i<n->p i=true
 |0,_,i,b=>by omega
 |n+1,h,i,b=>by
  simp[rL] at h;rcases Nat.lt_or_ge i n with a|a
  ·exact qm h.2 i a
  grind
theorem wR{P}: ∀l n t,G9 P l n t=true->AO P l n t
 |[],n,t,h=>Nat.eq_of_beq_eq_true h
 |f::a,n,t,h=>by
  simp[G9] at h;exact⟨by omega,wR _ _ _ h.2⟩
theorem E9{P T}(h:Mf P T=true):s7 P T:=by
 grind [Mf,s7,wR,Nat.eq_of_beq_eq_true]
theorem Dp{f d i}(h:Made.reckon f d=some i):
  (i.desc=d/\i.size=1/\∀n u,d≠ .named n u)\/(∃n e,i.desc= .array n e)\/ ∃g,i.desc= .struct g:=by
 cases d<;>simp only[Made.reckon,Option.bind_eq_bind,Option.bind_eq_some_iff,Option.pure_def,reduceCtorEq] at h
 case pointer e=>
  obtain⟨j,_,h⟩:=h;refine .inl ?_;split at h
  ·cases h
  ·split at h
   ·cases h
   ·rw[Option.bind_eq_some_iff] at h;obtain⟨_,_,h⟩:=h;cases h;exact⟨rfl,rfl,by simp⟩
  ·rw[Option.bind_eq_some_iff] at h;obtain⟨_,_,h⟩:=h;cases h;exact⟨rfl,rfl,by simp⟩
 case slice e=>obtain⟨_,_,_,_,h⟩:=h;cases h;exact .inl ⟨rfl,rfl,by simp⟩
 case map k e=>obtain⟨_,_,_,_,_,_,_,_,h⟩:=h;cases h;exact .inl ⟨rfl,rfl,by simp⟩
 case chan a e=>obtain⟨_,_,_,_,h⟩:=h;cases h;exact .inl ⟨rfl,rfl,by simp⟩
 case func a b c=>obtain⟨_,_,h⟩:=h;cases h;exact .inl ⟨rfl,rfl,by simp⟩
 case array n e=>obtain⟨_,_,_,_,h⟩:=h;cases h;exact .inr (.inl ⟨_,_,rfl⟩)
 case struct g=>
  refine .inr (.inr ?_);unfold Made.reckonStruct at h;simp only[Option.bind_eq_bind,Option.pure_def] at h;rw[Option.bind_eq_some_iff] at h
  grind
theorem Mn{P:Program}{T:TypeId}(h:P.types.size<=T):s7 P T:=by
 unfold s7;have c:P.info? T=(Made.decode (T - P.types.size)).bind (Made.reckon (Made.infoAt P.toTables 99)):=by
  unfold Tables.info?;rw[if_neg (Nat.not_lt.2 h)];show Made.infoAt _ (99+1) T=_
  rw[Made.infoAt,if_neg (Nat.not_lt.2 h)]
 have f: ∀i,P.info? T=some i->(i.size=1/\∀n u,i.desc≠ .named n u)\/(∃n e,i.desc= .array n e)\/ ∃b,i.desc= .struct b:=by
  intro i a;rw[c,Option.bind_eq_some_iff] at a;obtain⟨d,_,hd⟩:=a;rcases Dp hd with⟨g,k,j⟩|h|h
  ·grind
  ·exact .inr (.inl h)
  grind
 grind [Program.underlying,Program.cellsOf]
def Ub(P:Program):=P.funcs.toList.all fun a=>!a.name== "runtime.NumGoroutine"
def Sc P:=rL (Mf P) P.types.size&&Ub P&&P.follows .mixedOrders
theorem Qy{P}(h:Sc P=true):qH P:=by
 simp[Sc] at h;obtain⟨⟨b,c⟩,a⟩:=h;refine⟨fun T=>?_,fun f d e=>?_,a⟩
 ·rcases Nat.lt_or_ge T _ with h|h
  ·exact E9 (qm b T h)
  grind [Mn]
 ·have:=List.all_eq_true.1 c d (by
   grind)
  grind
end Go.Dn
namespace Go.Dn
open Go
inductive Out (α:Type):Type 1 where
 |one (a:α)
 |an (b:Bool) (x y:Out α)
 |all {β:Type} (p:β->Prop) (f:β->Out α)
def Out.run{α:Type}(K:α->Prop):Out α->Prop
 | .one a=>K a
 | .an b x y=>Go.Dn.an b (x.run K) (y.run K)
 | .all p f=>∀y,p y->(f y).run K
theorem ag{b p q}:an b p q↔(b=true->p)/\(b=false->q):=by
 cases b<;>simp[an]
theorem Out.pf{α K d}(h: ∀a,K a->d a): ∀o:Out α,o.run K->o.run d
 | .one a,c=>h a c
 | .an b x y,c=>by
  simp[Out.run,ag] at c⊢;exact⟨fun e=>Out.pf h x (c.1 e),fun e=>Out.pf h y (c.2 e)⟩
 | .all p f,c=>fun y g=>Out.pf h _ (c y g)
def gq{α:Type}(st:α->S)(b:α->Prop)(c:α->Out (Exit×S))(μ:α->Nat)(K:Exit->S->Prop):=
 fun n s=>∃a,s=st a/\b a/\μ a=n/\(c a).run fun x=>K x.1 x.2
def Dv(c:S->Bool)(a b:jS):jS:=fun d base s K=>
 match c s with
 |true=>a d base s K
 |false=>b d base s K
theorem FT{c a b}(e:a.gA)(f:b.gA):(Dv c a b).gA:=fun i base s K j d h=>by
 unfold Dv at h⊢;cases g:c s<;>simp[g] at h⊢
 ·exact f _ _ _ _ _ d h
 ·exact e _ _ _ _ _ d h
theorem Nu{E N f k c a b}(e:aP E N f k a)(g:aP E N f k b):aP E N f k (Dv c a b):=fun i base s K h=>by
 unfold Dv at h;cases d:c s<;>rw[d] at h
 ·exact g _ _ _ _ h
 ·exact e _ _ _ _ h
def ig(b:List AV):List (Nat×AV)->List AV
 |[]=>b
 |(i,a)::l=>bQ (ig b l) i a
def sp(n:Nat)(l:List (Nat×AV))(st:List Obj):S:={bz:=ig (bL n) l,st:=st}
def gx(k:Nat):Code->Option (Array Tmp×Code×Code)
 | .rangeFunc _ ps a b=>
  match mj a with
  |some n=>(bif Nat.beq n k then some (ps,a,b) else(match gx k a with|some x=>some x|none=>gx k b))
  |none=>(match gx k a with|some x=>some x|none=>gx k b)
 | .seq a b=>(match gx k a with|some x=>some x|none=>gx k b)
 | .cond _ a b=>(match gx k a with|some x=>some x|none=>gx k b)
 | .block _ c| .scope c| .loop c=>gx k c
 |_=>none
def iE(P:Program)(f k:Nat)(state:LoopState)(pending:Option Code)(bz:List AV):Lf:=
 match P.funcs[f]? with
 | some fn=>
  match fn.body with
   |some c=>
    match gx k c with
    |some (ps,a,b)=>{state,pending,fn:=f,bz,params:=ps,assign:=a,body:=b}
    |none=>{state,pending,fn:=f,bz,params:= #[],assign:= .skip,body:= .skip}
   |none=>{state,pending,fn:=f,bz,params:= #[],assign:= .skip,body:= .skip}
 |none=>{state,pending,fn:=f,bz,params:= #[],assign:= .skip,body:= .skip}
abbrev aO:List Obj:=[]
def aX{α:Type}(st:α->List AV×List Obj)(c:α->Prop)(d:α->Out (AV×List Obj)):cO:=fun b s K=>
 ∃a,(b,s)=st a/\c a/\(d a).run fun x=>K x.1 x.2
theorem aZ{α st}{b:α->Prop}{c}:(aX st b c).gA:=fun _ _ _ _ g ⟨a,f,e,d⟩=>
 ⟨a,f,e,Out.pf (by grind) _ d⟩
theorem a7{E}{N f:Nat}{α st}{b:α->Prop}{c}
  (h: ∀a K,b a->((c a).run fun x=>K x.1 x.2)->a8 E N f (st a).1 (st a).2 K):bq E N f (aX st b c):=by
 rintro d s K ⟨a,g,i,e⟩
 grind
def aI{α:Type}(b:Nat)(st:α->S)(c:α->Prop)(d:α->Out (Exit×S)):jS:=fun e base s K=>
 match e,Nat.beq base b with
 |none,true=>∃a,s=st a/\c a/\(d a).run fun x=>K x.1 x.2
 |_,_=>False
theorem zh{α b}{st:α->S}{c d e base s K}:aI b st c d e base s K↔e=none/\base=b/\∃a,s=st a/\c a/\(d a).run fun x=>K x.1 x.2:=by
 grind [aI,Nat.eq_of_beq_eq_true,Nat.ne_of_beq_eq_false]
theorem a0{α b}{st:α->S}{a c}:(aI b st a c).gA:=fun _ _ _ _ _ d h=>by
 grind [zh,Out.pf]
theorem aD{E}{N f k:Nat}{α b}{st:α->S}{side out} μ
  (h: ∀a K,side a->((out a).run fun x=>K x.1 x.2)->vc E N f none b (ah E.P f k) (st a) (bh E f k b (gq st side out μ K) (μ a) K)):aP E N f k (aI b st side out):=by
 intro rd base s K hh;obtain⟨rfl,rfl,a,hs,h1,h2⟩:=zh.1 hh;refine⟨gq _ _ _ μ K,_,⟨a,hs,h1,rfl,h2⟩,?_⟩;rintro n s' ⟨a,rfl,h1,rfl,h2⟩
 grind
theorem aF.nf{P}{f:Nat}(sp:Nat->cO){N}(b:Nat->Env)
  (c: ∀n,(∀a st K,(∃m,m<n/\sp m a st K)->bt P f a st K)->aF (b n)/\aj (b n)/\(b n).P=P) (h: ∀n,bq (b n) N f (sp n)):
  ∀n a st K,sp n a st K->bt P f a st K:=by
 intro n;induction n using Nat.strongRecOn with
 |_ n j=>
  intro a st K d;obtain⟨g,e,i⟩:=c n (by grind);have:=cZ g e (h n _ _ _ d)
  grind
abbrev AV.int(n:Int):AV:= .lit (.int .i64 n)
abbrev AV.bool(b:Bool):AV:= .lit (.bool b)
abbrev AV.str(s:ByteArray):AV:= .lit (.string s)
abbrev AV.nil:AV:= .lit (.slice none 0 0)
end Go.Dn
