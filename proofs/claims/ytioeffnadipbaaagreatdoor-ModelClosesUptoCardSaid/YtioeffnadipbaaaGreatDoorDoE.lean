import Derived.Test.YtioeffnadipbaaaGreatDoorDoD
namespace Go.Dn
open Go
def JA(P:Program):List Field->Nat->Nat->Bool
 |[],n,t=>Nat.beq n t
 |f::a,n,t=>Nat.beq f.offset n&&JA P a (n+P.cellsOf f.type) t
def O6(P:Program)(T:TypeId):Bool:=
 match P.underlying T with
 |some (.struct a)=>JA P a.toList 0 (P.cellsOf T)
 |some (.array _ _)=>true
 |some _=>Nat.beq (P.cellsOf T) 1
 |none=>true
def sb(p:Nat->Bool):Nat->Bool
 |0=>true
 |n+1=>p n&&sb p n
theorem qT{p}: ∀{n},sb p n=true->∀i,i<n->p i=true
 |0,_,i,b=>by omega
 |n+1,h,i,b=>by
  simp[sb] at h;rcases Nat.lt_or_ge i n with a|a
  ·exact qT h.2 i a
  grind
theorem x6{P}: ∀l n t,JA P l n t=true->Cb P l n t
 |[],n,t,h=>Nat.eq_of_beq_eq_true h
 |f::a,n,t,h=>by
  simp[JA] at h;exact⟨by omega,x6 _ _ _ h.2⟩
theorem Hm{P T}(h:O6 P T=true):tL P T:=by
 grind [O6,tL,x6,Nat.eq_of_beq_eq_true]
theorem Ft{f d i}(h:Made.reckon f d=some i):
  (i.desc=d/\i.size=1/\∀n u,d≠ .named n u)\/(∃n e,i.desc= .array n e)\/ ∃g,i.desc= .struct g:=by
 cases d<;>simp only[Made.reckon,Option.bind_eq_bind,Option.bind_eq_some_iff,Option.pure_def,reduceCtorEq] at h
 case pointer e=>
  obtain⟨j,_,h⟩:=h;refine .inl ?_;split at h
  ·cases h
  ·split at h
   ·cases h
   ·rw[Option.bind_eq_some_iff] at h;obtain⟨_,_,h⟩:=h;cases h;exact⟨rfl,rfl,by simp⟩
  ·rw[Option.bind_eq_some_iff] at h;obtain⟨_,_,h⟩:=h;cases h;exact⟨rfl,rfl,by simp⟩
 case slice e=>obtain⟨_,_,_,_,h⟩:=h;cases h;exact .inl ⟨rfl,rfl,by simp⟩
 case map k e=>obtain⟨_,_,_,_,_,_,_,_,h⟩:=h;cases h;exact .inl ⟨rfl,rfl,by simp⟩
 case chan a e=>obtain⟨_,_,_,_,h⟩:=h;cases h;exact .inl ⟨rfl,rfl,by simp⟩
 case func a b c=>obtain⟨_,_,h⟩:=h;cases h;exact .inl ⟨rfl,rfl,by simp⟩
 case array n e=>obtain⟨_,_,_,_,h⟩:=h;cases h;exact .inr (.inl ⟨_,_,rfl⟩)
 case struct g=>
  refine .inr (.inr ?_);unfold Made.reckonStruct at h;simp only[Option.bind_eq_bind,Option.pure_def] at h;rw[Option.bind_eq_some_iff] at h
  grind
theorem Ph{P:Program}{T:TypeId}(h:P.types.size<=T):tL P T:=by
 unfold tL;have c:P.info? T=(Made.decode (T - P.types.size)).bind (Made.reckon (Made.infoAt P.toTables 99)):=by
  unfold Tables.info?;rw[if_neg (Nat.not_lt.2 h)];show Made.infoAt _ (99+1) T=_
  rw[Made.infoAt,if_neg (Nat.not_lt.2 h)]
 have f: ∀i,P.info? T=some i->(i.size=1/\∀n u,i.desc≠ .named n u)\/(∃n e,i.desc= .array n e)\/ ∃b,i.desc= .struct b:=by
  intro i a;rw[c,Option.bind_eq_some_iff] at a;obtain⟨d,_,hd⟩:=a;rcases Ft hd with⟨g,k,j⟩|h|h
  ·grind
  ·exact .inr (.inl h)
  grind
 grind [Program.underlying,Program.cellsOf]
def Yf(P:Program):=P.funcs.toList.all fun a=>!a.name== "runtime.NumGoroutine"
def Wc P:=sb (O6 P) P.types.size&&Yf P&&P.follows .mixedOrders
theorem Ub{P}(h:Wc P=true):rn P:=by
 simp[Wc] at h;obtain⟨⟨b,c⟩,a⟩:=h;refine⟨fun T=>?_,fun f d e=>?_,a⟩
 ·rcases Nat.lt_or_ge T _ with h|h
  ·exact Hm (qT b T h)
  grind [Ph]
 ·have:=List.all_eq_true.1 c d (by
   grind)
  grind
end Go.Dn
namespace Go.Dn
open Go
inductive Out (α:Type):Type 1 where
 |one (a:α)
 |aq (b:Bool) (x y:Out α)
 |all {β:Type} (p:β->Prop) (f:β->Out α)
def Out.run{α:Type}(K:α->Prop):Out α->Prop
 | .one a=>K a
 | .aq b x y=>Go.Dn.aq b (x.run K) (y.run K)
 | .all p f=>∀y,p y->(f y).run K
theorem ae{b p q}:aq b p q↔(b=true->p)/\(b=false->q):=by
 cases b<;>simp[aq]
theorem Out.pQ{α K d}(h: ∀a,K a->d a): ∀o:Out α,o.run K->o.run d
 | .one a,c=>h a c
 | .aq b x y,c=>by
  simp[Out.run,ae] at c⊢;exact⟨fun e=>Out.pQ h x (c.1 e),fun e=>Out.pQ h y (c.2 e)⟩
 | .all p f,c=>fun y g=>Out.pQ h _ (c y g)
def eW{α:Type}(st:α->S)(b:α->Prop)(c:α->Out (Exit×S))(μ:α->Nat)(K:Exit->S->Prop):=
 fun n s=>∃a,s=st a/\b a/\μ a=n/\(c a).run fun x=>K x.1 x.2
def tj(c:S->Bool)(a b:ki):ki:=fun d base s K=>
 match c s with
 |true=>a d base s K
 |false=>b d base s K
theorem lT{c a b}(e:a.gl)(f:b.gl):(tj c a b).gl:=fun i base s K j d h=>by
 unfold tj at h⊢;cases g:c s<;>simp[g] at h⊢
 ·exact f _ _ _ _ _ d h
 ·exact e _ _ _ _ _ d h
theorem pR{E N f k c a b}(e:aU E N f k a)(g:aU E N f k b):aU E N f k (tj c a b):=fun i base s K h=>by
 unfold tj at h;cases d:c s<;>rw[d] at h
 ·exact g _ _ _ _ h
 ·exact e _ _ _ _ h
def iO(b:List AV):List (Nat×AV)->List AV
 |[]=>b
 |(i,a)::l=>bP (iO b l) i a
def sp(n:Nat)(l:List (Nat×AV))(st:List Obj):S:={bF:=iO (bR n) l,st:=st}
def gN(k:Nat):Code->Option (Array Tmp×Code×Code)
 | .rangeFunc _ ps a b=>
  match mK a with
  |some n=>(bif Nat.beq n k then some (ps,a,b) else(match gN k a with|some x=>some x|none=>gN k b))
  |none=>(match gN k a with|some x=>some x|none=>gN k b)
 | .seq a b=>(match gN k a with|some x=>some x|none=>gN k b)
 | .cond _ a b=>(match gN k a with|some x=>some x|none=>gN k b)
 | .block _ c| .scope c| .loop c=>gN k c
 |_=>none
def jq(P:Program)(f k:Nat)(state:LoopState)(pending:Option Code)(bF:List AV):NV:=
 match P.funcs[f]? with
 | some fn=>
  match fn.body with
   |some c=>
    match gN k c with
    |some (ps,a,b)=>{state,pending,fn:=f,bF,params:=ps,assign:=a,body:=b}
    |none=>{state,pending,fn:=f,bF,params:= #[],assign:= .skip,body:= .skip}
   |none=>{state,pending,fn:=f,bF,params:= #[],assign:= .skip,body:= .skip}
 |none=>{state,pending,fn:=f,bF,params:= #[],assign:= .skip,body:= .skip}
abbrev aR:List Obj:=[]
def aM{α:Type}(st:α->List AV×List Obj)(c:α->Prop)(d:α->Out (AV×List Obj)):dN:=fun b s K=>
 ∃a,(b,s)=st a/\c a/\(d a).run fun x=>K x.1 x.2
theorem aJ{α st}{b:α->Prop}{c}:(aM st b c).gl:=fun _ _ _ _ g ⟨a,f,e,d⟩=>
 ⟨a,f,e,Out.pQ (by grind) _ d⟩
theorem aQ{E}{N f:Nat}{α st}{b:α->Prop}{c}
  (h: ∀a K,b a->((c a).run fun x=>K x.1 x.2)->a8 E N f (st a).1 (st a).2 K):bd E N f (aM st b c):=by
 rintro d s K ⟨a,g,i,e⟩
 grind
def aG{α:Type}(b:Nat)(st:α->S)(c:α->Prop)(d:α->Out (Exit×S)):ki:=fun e base s K=>
 match e,Nat.beq base b with
 |none,true=>∃a,s=st a/\c a/\(d a).run fun x=>K x.1 x.2
 |_,_=>False
theorem AF{α b}{st:α->S}{c d e base s K}:aG b st c d e base s K↔e=none/\base=b/\∃a,s=st a/\c a/\(d a).run fun x=>K x.1 x.2:=by
 grind [aG,Nat.eq_of_beq_eq_true,Nat.ne_of_beq_eq_false]
theorem aK{α b}{st:α->S}{a c}:(aG b st a c).gl:=fun _ _ _ _ _ d h=>by
 grind [AF,Out.pQ]
theorem aC{E}{N f k:Nat}{α b}{st:α->S}{side out} μ
  (h: ∀a K,side a->((out a).run fun x=>K x.1 x.2)->vc E N f none b (ad E.P f k) (st a) (bg E f k b (eW st side out μ K) (μ a) K)):aU E N f k (aG b st side out):=by
 intro rd base s K hh;obtain⟨rfl,rfl,a,hs,h1,h2⟩:=AF.1 hh;refine⟨eW _ _ _ μ K,_,⟨a,hs,h1,rfl,h2⟩,?_⟩;rintro n s' ⟨a,rfl,h1,rfl,h2⟩
 grind
theorem aE.qh{P}{f:Nat}(sp:Nat->dN){N}(b:Nat->Env)
  (c: ∀n,(∀a st K,(∃m,m<n/\sp m a st K)->cf P f a st K)->aE (b n)/\aj (b n)/\(b n).P=P) (h: ∀n,bd (b n) N f (sp n)):
  ∀n a st K,sp n a st K->cf P f a st K:=by
 intro n;induction n using Nat.strongRecOn with
 |_ n j=>
  intro a st K d;obtain⟨g,e,i⟩:=c n (by grind);have:=gO g e (h n _ _ _ d)
  grind
abbrev AV.int(n:Int):AV:= .lit (.int .i64 n)
abbrev AV.bool(b:Bool):AV:= .lit (.bool b)
abbrev AV.str(s:ByteArray):AV:= .lit (.string s)
abbrev AV.nil:AV:= .lit (.slice none 0 0)
end Go.Dn
