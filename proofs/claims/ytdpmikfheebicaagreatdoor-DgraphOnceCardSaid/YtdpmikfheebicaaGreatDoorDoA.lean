import Derived.Test.YtdpmikfheebicaaGreatDoorDnZ
namespace Go.Dn
open Go
structure uG(o:Op)(s1 s2:S):Prop where
 ev: ∀x,x∈opsOf o->ev s1 x=ev s2 x
theorem fL{s1 s2:S}: ∀{l:List Operand},(∀x,x∈l->ev s1 x=ev s2 x)->mq s1 l=mq s2 l
 |[],_=>rfl
 |x::l,h=>by
  simp only[mq]
  rw[h x (by simp),fL (fun y hy=>h y (by simp[hy]))]
theorem gT{s1 s2:S}: ∀{l:List (Nat×Operand)},(∀x,x∈l.map (·.2)->ev s1 x=ev s2 x)->eL s1 l=eL s2 l
 |[],_=>rfl
 |(i,x)::l,h=>by
  simp only[eL]
  rw[h x (by simp),gT (fun y hy=>h y (by simp at hy⊢;exact .inr hy))]
theorem rS{s1 s2:S}{o:Option Operand}{d:Nat}(h: ∀x,x∈pf o->ev s1 x=ev s2 x):eX s1 o d=eX s2 o d:=by
 cases o with
 |none=>rfl
 |some x=>simp only[eX];rw[h x (by simp[pf])]
theorem wP{s1 s2:S}{o:Option Operand}(h: ∀x,x∈pf o->ev s1 x=ev s2 x):tt s1 o=tt s2 o:=by
 cases o with
 |none=>rfl
 |some x=>simp only[tt];rw[h x (by simp[pf])]
theorem wM{E:Env}{s1 s2:S}{o:Op}(h:uG o s1 s2)(hst:s1.st=s2.st):bC E s1 o=bC E s2 o:=by
 have he:=h.ev
 cases o with
 |move x=>simp only[bC];rw[he x (by simp[opsOf])]
 |assign x=>simp only[bC];rw[he x (by simp[opsOf])]
 |load T x=>simp only[bC];rw[he x (by simp[opsOf]),hst]
 |nilCheck x=>simp only[bC];rw[he x (by simp[opsOf]),hst]
 |binOp op T x y T'=>simp only[bC];rw[he x (by simp[opsOf]),he y (by simp[opsOf])]
 |unOp op T x=>simp only[bC];rw[he x (by simp[opsOf])]
 |makeInterface T x=>simp only[bC];rw[he x (by simp[opsOf])]
 |convert S T x=>simp only[bC];rw[he x (by simp[opsOf])]
 | slice T x lo hi m=>
  cases m with
  |some m=>
   simp only[bC,lZ]
   rw[he x (by simp[opsOf]),hst,wP (o:=hi) (fun y hy=>he y (by simp[opsOf,hy])),wP (o:=some m) (fun y hy=>he y (by simp[opsOf,hy]))]
  |none=>
   simp only[bC,oY]
   rw[he x (by simp[opsOf]),hst]
   simp only[rS (s1:=s1) (s2:=s2) (o:=lo) (fun y hy=>he y (by simp[opsOf,hy])),rS (s1:=s1) (s2:=s2) (o:=hi) (fun y hy=>he y (by simp[opsOf,hy]))]
 |fieldAddr T x f=>simp only[bC];rw[he x (by simp[opsOf]),hst]
 |field T x f=>simp only[bC];rw[he x (by simp[opsOf])]
 |indexAddr T x i=>simp only[bC,fF];rw[he x (by simp[opsOf]),he i (by simp[opsOf]),hst]
 |index T x i=>simp only[bC];rw[he x (by simp[opsOf]),he i (by simp[opsOf])]
 |lookup T m k ok=>simp only[bC,mf];rw[he m (by simp[opsOf]),he k (by simp[opsOf]),hst]
 |extract x i=>simp only[bC];rw[he x (by simp[opsOf])]
 |makeFunc fn first caps=>
  cases fn with
  |func f=>simp only[bC];rw[fL (fun x hx=>he x (by simpa[opsOf] using hx))]
  |_=>rfl
 |build T parts=>simp only[bC];rw[gT (fun x hx=>he x (by simpa only[opsOf] using hx))]
 | call c=>
  obtain⟨callee,args,ats⟩:=c
  cases callee with
  |builtin b=>
   have:=fL (s1:=s1) (s2:=s2) (l:=args.toList) (fun x hx=>he x (by simpa only[opsOf] using hx))
   cases b<;>first|rfl|(simp only[bC];rw[this];done)|(simp only[bC];rw[this,hst])
  |value g=>
   have:=fL (s1:=s1) (s2:=s2) (l:=args.toList) (fun x hx=>he x (by simp only[opsOf,ac1];exact .inr hx))
   cases g<;>first|rfl|(simp only[bC];rw[this,hst])
  |invoke r m=>rfl
 |_=>rfl
def Kept(st st':List Obj):Prop:=∀i,ar st i= .dead\/ar st' i=ar st i
theorem Kept.refl(st:List Obj):Kept st st:=fun _=> .inr rfl
theorem Kept.app(st l:List Obj):Kept st (st++l):=fun i=>by
 rcases Nat.lt_or_ge i st.length with h|h
 ·exact .inr (dv _ _ _ h)
 ·exact .inl (eD _ _ h)
theorem Kept.gb{st st':List Obj}(h:Kept st st'){i:Nat}{x:TypeId×List AV}(he:gb (ar st i)=some x):gb (ar st' i)=some x:=by
 rcases h i with e|e
 ·rw[e] at he;cases he
 ·rw[e];exact he
theorem Kept.get{st st':List Obj}(h:Kept st st'){i:Nat}{o:Obj}(he:ar st i=o)(hd:o≠ .dead):ar st' i=o:=by
 rcases h i with e|e
 ·exact absurd (he.symm.trans e) hd
 ·exact e.trans he
theorem Kept.live{st st':List Obj}(h:Kept st st'){i:Nat}(he:kP st i=true):kP st' i=true:=by
 unfold kP at he⊢
 rcases h i with e|e
 ·rw[e] at he;cases he
 ·rw[e];exact he
mutual
theorem jX{st st':List Obj}(h:Kept st st'): ∀(a b:AV),bV st a=some b->bV st' a=some b
 | .lit v,b,e=>by simpa only[bV] using e
 | .ae T l,b,e=>by simpa only[bV] using e
 | .az i lo n,b,e=>by
  simp only[bV] at e⊢
  split at e
  ·rename_i T xs hx
   rw[h.gb hx];exact e
  ·cases e
 | .agg l,b,e=>by
  simp only[bV] at e⊢
  cases hl:kk st l with
  |none=>rw[hl] at e;cases e
  |some m=>rw[hl] at e;rw[sV h l m hl];exact e
 | .jc T a,b,e=>by simpa only[bV] using e
 | .iq T a,b,e=>by
  simp only[bV] at e⊢
  cases ha:bV st a with
  |none=>rw[ha] at e;cases e
  |some m=>rw[ha] at e;rw[jX h a m ha];exact e
 | .bP f caps,b,e=>by
  cases caps with
  |nil=>simpa only[bV] using e
  |cons x l=>simp[bV] at e
 | .ptr _ _ _ _,b,e=>by simp[bV] at e
 | .iZ _ _ _ _,b,e=>by simpa only[bV] using e
 | .mp i,b,e=>by
  simp only[bV] at e⊢
  rcases h i with e2|e2
  ·rw[e2] at e;cases e
  ·rw[e2];exact e
 | .bp _,b,e=>by simp[bV] at e
 | .cf,b,e=>by simp[bV] at e
 | .cx _,b,e=>by simp[bV] at e
 | .jJ _ _,b,e=>by simp[bV] at e
theorem sV{st st':List Obj}(h:Kept st st'): ∀(l m:List AV),kk st l=some m->kk st' l=some m
 |[],m,e=>by simpa only[kk] using e
 | a::l,m,e=>by
  simp only[kk] at e⊢
  cases ha:bV st a with
  |none=>rw[ha] at e;cases e
  |some b=>
   cases hl:kk st l with
   |none=>rw[ha,hl] at e;cases e
   |some k=>rw[ha,hl] at e;rw[jX h a b ha,sV h l k hl];exact e
end
theorem Cv{st st':List Obj}(h:Kept st st'){a b:AV}(e:qp st a=some b):qp st' a=some b:=by
 unfold qp at e⊢
 cases a with
 | az i lo m=>
  cases lo with
  |zero=>exact jX h _ _ e
  | succ k=>
   rcases h i with e2|e2
   ·simp[e2,bV,gb] at e
   ·cases hx:ar st i with
    |rows T E ls pd=>rw[hx] at e2;simp only[hx] at e;simp only[e2];exact e
    |_=>rw[hx] at e2;simp only[hx] at e;simp only[e2];exact jX h _ _ e
 |_=>exact jX h _ _ e
theorem oH{st st':List Obj}(h:Kept st st'): ∀(l m:List AV),eP st l=some m->eP st' l=some m
 |[],m,e=>by simpa only[eP] using e
 | a::l,m,e=>by
  simp only[eP] at e⊢
  cases ha:qp st a with
  |none=>rw[ha] at e;cases e
  |some b=>
   cases hl:eP st l with
   |none=>rw[ha,hl] at e;cases e
   |some k=>rw[ha,hl] at e;rw[Cv h ha,oH h l k hl];exact e
theorem BC{P:Program}{st st':List Obj}(h:Kept st st'){T:TypeId}{a:AV}{x:Bool×AV}(e:mV P st T a=some x):mV P st' T a=some x:=by
 cases a<;>try exact e
 rename_i i k p off
 rcases h i with e2|e2
 ·simp only[mV,e2] at e;cases e
 ·simp only[mV,e2] at e⊢;exact e
theorem FA{P:Program}{st st':List Obj}(h:Kept st st'){T:TypeId}{a x:AV}(e:yc P st T a=some x):yc P st' T a=some x:=by
 unfold yc at e⊢
 split at e<;>try exact e
 ·rename_i i _
  rcases h i with e2|e2
  ·rw[e2] at e;cases e
  ·rw[e2];exact e
 ·rename_i i _ _ _
  rcases h i with e2|e2
  ·rw[e2] at e;cases e
  ·rw[e2];exact e
theorem vt{P:Program}{st st':List Obj}(h:Kept st st'){T:TypeId}{a:AV}{f:Nat}{x:Bool×AV}(e:gB P st T a f=some x):gB P st' T a f=some x:=by
 unfold gB at e⊢
 split at e
 ·cases e
 ·split at e
  ·cases e
  ·rename_i h1
   rw[if_neg h1]
   split at e
   ·split at e
    ·rename_i h2
     rw[if_pos (h.live h2)];exact e
    ·cases e
   ·exact e
   ·cases e
theorem Al{P:Program}{s s':S}(h:Kept s.st s'.st){T:TypeId}{a:AV}{lo hi:Option Operand}(h1: ∀d,eX s lo d=eX s' lo d)(h2: ∀d,eX s hi d=eX s' hi d){x:Bool×AV}(e:oY P s T a lo hi=some x):oY P s' T a lo hi=some x:=by
 unfold oY at e⊢
 simp only[←h1,←h2]
 split at e<;>try exact e
 cases hx:gb (ar s.st _) with
 |none=>rw[hx] at e;split at e<;>first|cases e|simp_all
 |some y=>rw[hx] at e;rw[h.gb hx];exact e
theorem uW{P:Program}{s s':S}(h:Kept s.st s'.st){T:TypeId}{a i:AV}{x:Bool×AV}(e:fF P s T a i=some x):fF P s' T a i=some x:=by
 unfold fF at e⊢
 split at e<;>try exact e
 split at e<;>try exact e
 split at e
 ·rename_i hx
  rw[h.gb hx];exact e
 ·split at e
  ·rename_i hst
   have:=h.get hst (by simp)
   rw[this];exact e
  ·cases e
theorem zj{P:Program}{s s':S}(h:Kept s.st s'.st){T:TypeId}{a:AV}{lo hi:Option Operand}{m:Operand}(h1: ∀o,tt s o=tt s' o){x:Bool×AV}(e:lZ P s T a lo hi m=some x):lZ P s' T a lo hi m=some x:=by
 unfold lZ at e⊢
 simp only[←h1]
 split at e<;>try exact e
 cases hx:gb (ar s.st _) with
 |none=>rw[hx] at e;split at e<;>first|cases e|simp_all
 |some y=>rw[hx] at e;rw[h.gb hx];exact e
theorem Ab{P:Program}{s s':S}(h:Kept s.st s'.st){T:TypeId}{m k:AV}{ok:Bool}{x:Bool×AV}(e:mf P s T m k ok=some x):mf P s' T m k ok=some x:=by
 unfold mf at e⊢
 split at e<;>try exact e
 split at e<;>try exact e
 rename Nat=>i
 rcases h i with e2|e2
 ·rw[e2] at e;cases e
 ·rw[e2];exact e
theorem Fq{E:Env}{s1 s2:S}{o:Op}(h:uG o s1 s2)(hk:Kept s1.st s2.st){x:Bool×AV}(e:bC E s1 o=some x):bC E s2 o=some x:=by
 have he:=h.ev
 have e0:bC E {s2 with st:=s1.st} o=some x:=by
  rw[←e]
  exact(wM (s1:=s1) (s2:={s2 with st:=s1.st}) ⟨fun y hy=>by rw[he y hy];cases y<;>rfl⟩ rfl).symm
 cases o with
 |load T y=>
  simp only[bC] at e0⊢
  have e1:ev {s2 with st:=s1.st} y=ev s2 y:=by cases y<;>rfl
  rw[e1] at e0
  split at e0
  ·exact e0
  ·exact BC hk e0
 | nilCheck y=>
  simp only[bC] at e0⊢
  have e1:ev {s2 with st:=s1.st} y=ev s2 y:=by cases y<;>rfl
  rw[e1] at e0
  split at e0<;>try exact e0
  split at e0
  ·rename_i h2
   rw[if_pos (hk.live h2)];exact e0
  ·cases e0
 | slice T y lo hi m=>
  cases m with
  | some m=>
   simp only[bC] at e0⊢
   have e1:ev {s2 with st:=s1.st} y=ev s2 y:=by cases y<;>rfl
   rw[e1] at e0
   have hb: ∀(o:Option Operand),tt {s2 with st:=s1.st} o=tt s2 o:=fun o=>by
    cases o with
    |none=>rfl
    |some y=>cases y<;>rfl
   exact zj (s:={s2 with st:=s1.st}) hk hb e0
  | none=>
   simp only[bC] at e0⊢
   have e1:ev {s2 with st:=s1.st} y=ev s2 y:=by cases y<;>rfl
   rw[e1] at e0
   have hb: ∀(o:Option Operand) d,eX {s2 with st:=s1.st} o d=eX s2 o d:=fun o d=>by
    cases o with
    |none=>rfl
    |some y=>cases y<;>rfl
   exact Al (s:={s2 with st:=s1.st}) hk (hb lo) (hb hi) e0
 |fieldAddr T y f=>
  simp only[bC] at e0⊢
  have e1:ev {s2 with st:=s1.st} y=ev s2 y:=by cases y<;>rfl
  rw[e1] at e0
  exact vt hk e0
 |indexAddr T y i=>
  simp only[bC] at e0⊢
  have e1: ∀y,ev {s2 with st:=s1.st} y=ev s2 y:=fun y=>by cases y<;>rfl
  rw[e1,e1] at e0
  exact uW (s:={s2 with st:=s1.st}) hk e0
 |lookup T m k ok=>
  simp only[bC] at e0⊢
  have e1: ∀y,ev {s2 with st:=s1.st} y=ev s2 y:=fun y=>by cases y<;>rfl
  rw[e1,e1] at e0
  exact Ab (s:={s2 with st:=s1.st}) hk e0
 | call c=>
  obtain⟨callee,args,ats⟩:=c
  have e1: ∀l,mq {s2 with st:=s1.st} l=mq s2 l:=fun l=>fL fun y _=>by cases y<;>rfl
  cases callee with
  | builtin b=>
   cases b<;>try (simp only[bC,e1] at e0⊢;exact e0)
   simp only[bC,e1] at e0⊢
   split at e0<;>try exact e0
   split at e0
   ·rename_i hx
    rw[FA hk hx];exact e0
   ·cases e0
  | value g=>
   cases g<;>try (simp only[bC] at e0⊢;exact e0)
   simp only[bC,e1] at e0⊢
   split at e0
   ·rename_i hx
    rw[oH hk _ _ hx];exact e0
   ·cases e0
  |invoke r m=>exact e0
 |makeFunc fn first caps=>
  have e1: ∀l,mq {s2 with st:=s1.st} l=mq s2 l:=fun l=>fL fun y _=>by cases y<;>rfl
  cases fn<;>try (simp only[bC] at e0⊢;exact e0)
  simp only[bC,e1] at e0⊢;exact e0
 |build T parts=>
  have e1: ∀l,eL {s2 with st:=s1.st} l=eL s2 l:=fun l=>gT fun y _=>by cases y<;>rfl
  simp only[bC,e1] at e0⊢;exact e0
 |_=>
  have e1: ∀y,ev {s2 with st:=s1.st} y=ev s2 y:=fun y=>by cases y<;>rfl
  simp only[bC,e1] at e0⊢;exact e0
theorem AA(st st':List Obj)(s s':S)(v:Value):qp st (ev s (.const v))=qp st' (ev s' (.const v)):=by
 simp only[ev]
 split<;>rfl
theorem nd(st st':List Obj)(s s':S): ∀l:List Operand,Fw l=true->eP st (mq s l)=eP st' (mq s' l)
 |[],_=>rfl
 | .const v::l,h=>by
  simp only[mq,eP]
  rw[AA st st' s s' v,nd st st' s s' l h]
 | .tmp _::_,h=>nomatch h
 | .global _::_,h=>nomatch h
 | .func _::_,h=>nomatch h
theorem Bp{E:Env}{s1 s2:S}{o:Op}(h:uG o s1 s2)(hc:dZ E.quiet o=0):bC E s1 o=bC E s2 o:=by
 have he:=h.ev
 cases o with
 |move x=>simp only[bC];rw[he x (by simp[opsOf])]
 |assign x=>simp only[bC];rw[he x (by simp[opsOf])]
 |binOp op T x y T'=>simp only[bC];rw[he x (by simp[opsOf]),he y (by simp[opsOf])]
 |unOp op T x=>simp only[bC];rw[he x (by simp[opsOf])]
 |makeInterface T x=>simp only[bC];rw[he x (by simp[opsOf])]
 |convert S T x=>simp only[bC];rw[he x (by simp[opsOf])]
 |extract x i=>simp only[bC];rw[he x (by simp[opsOf])]
 |makeFunc fn first caps=>
  cases fn with
  |func f=>simp only[bC];rw[fL (fun x hx=>he x (by simpa[opsOf] using hx))]
  |_=>rfl
 |pick c a b=>rfl
 |load T x=>simp[dZ] at hc
 |nilCheck x=>simp[dZ] at hc
 |slice T x lo hi m=>simp[dZ] at hc
 |fieldAddr T x f=>simp[dZ] at hc
 |field T x f=>simp only[bC];rw[he x (by simp[opsOf])]
 |indexAddr T x i=>simp[dZ] at hc
 |index T x i=>simp only[bC];rw[he x (by simp[opsOf]),he i (by simp[opsOf])]
 |lookup T m k ok=>simp[dZ] at hc
 |build T parts=>simp only[bC];rw[gT (fun x hx=>he x (by simpa only[opsOf] using hx))]
 | call c=>
  obtain⟨callee,args,ats⟩:=c
  cases callee with
  |builtin b=>cases b<;>simp[dZ] at hc
  | value g=>
   cases g with
   | func f=>
    simp only[dZ] at hc
    cases hq:E.quiet f with
    |false=>simp[hq] at hc
    |true=>
     rw[hq,aa7] at hc
     cases ha:Fw args.toList with
     |false=>simp[ha] at hc
     |true=>simp only[bC];rw[nd s1.st s2.st s1 s2 _ ha]
   |_=>simp[dZ] at hc
  |invoke r m=>simp[dZ] at hc
 |_=>rfl
theorem zI{s1 s2:S}{o:Op}(h:uG o s1 s2):gj s1 o=gj s2 o:=by
 have he:=h.ev
 cases o with
 | call c=>
  obtain⟨callee,args,ats⟩:=c
  cases callee with
  |value g=>
   simp only[gj]
   rw[he g (by simp[opsOf]),fL (fun x hx=>he x (by simp only[opsOf,ac1];exact .inr hx))]
  |_=>rfl
 |_=>rfl
theorem xI{P:Program}{s1 s2:S}(hst:s1.st=s2.st){T:TypeId}{x y:AV}{K1 K2:List Obj->AV->Prop}(hK: ∀st a,K1 st a->K2 st a)(h:nK P s1 T x y K1):nK P s2 T x y K2:=by
 unfold nK at h⊢
 rw[hst] at h
 split at h<;>try exact h.elim
 rename_i q0
 try simp only[q0]
 split at h<;>try exact h.elim
 rename_i q0 q1
 try simp only[q0,q1]
 split at h<;>try exact h.elim
 rename_i q0
 try simp only[q0]
 split at h<;>try exact h.elim
 ·exact cV (hK _ _) h
 ·split at h<;>try exact h.elim
  ·rename_i q0
   try simp only[q0]
   split at h<;>try exact h.elim
   rename_i hif
   try rw[if_pos hif]
   exact cV (hK _ _) h
  ·rename_i q0
   try simp only[q0]
   split at h<;>try exact h.elim
   rename_i q1
   try simp only[q1]
   split at h<;>try exact h.elim
   rename_i hif
   try rw[if_pos hif]
   exact cV (hK _ _) h
theorem zM{P:Program}{s1 s2:S}(hst:s1.st=s2.st){T:TypeId}{x y:AV}{K1 K2:List Obj->Prop}(hK: ∀st,K1 st->K2 st)(h:qy P s1 T x y K1):qy P s2 T x y K2:=by
 unfold qy at h⊢
 rw[hst] at h
 split at h<;>try exact h.elim
 split at h<;>try exact h.elim
 ·rename_i h1
  try simp only[h1]
  split at h<;>try exact h.elim
  rename_i hif
  try rw[if_pos hif]
  exact hK _ h
 ·rename_i h1
  try simp only[h1]
  split at h<;>try exact h.elim
  rename_i q0 q1
  try simp only[q0,q1]
  split at h<;>try exact h.elim
  rename_i hif
  try rw[if_pos hif]
  exact hK _ h
 ·rename_i h1
  try simp only[h1]
  split at h<;>try exact h.elim
  split at h<;>try exact h.elim
  rename_i hif
  try rw[if_pos hif]
  exact cV (hK _) h
theorem qg{P:Program}{st:List Obj}{T:TypeId}{y:Operand}{a:AV}{K1 K2:Bool->Prop}(hK: ∀b,K1 b->K2 b)(h:l5 P st T y a K1):l5 P st T y a K2:=by
 unfold l5 at h⊢
 split at h
 ·split at h
  ·exact hK _ h
  ·exact⟨fun e=>hK _ (h.1 e),hK _ h.2⟩
  ·split at h
   ·exact⟨fun e=>hK _ (h.1 e),hK _ h.2⟩
   ·exact h.elim
  ·exact h.elim
 ·exact h.elim
theorem u9{P:Program}{Kt Vt:TypeId}{es:List (Value×AV)}{ks:List Value}{p p':Value->AV->Prop}{q q':Prop}(hp: ∀k a,p k a->p' k a)(hq:q->q')(h:Bh P Kt Vt es ks p q):Bh P Kt Vt es ks p' q':=by
 refine⟨?_,fun hs=>hq (h.2 hs)⟩
 have h1:=h.1
 split at h1
 ·exact fun n v a b=>hp _ _ (h1 n v a b)
 ·exact fun n v a b=>hp _ _ (h1 n v a b)
 ·exact h1.elim
theorem uO{P:Program}{s1 s2:S}{o:Op}(hs:uG o s1 s2)(hst:s1.st=s2.st){d1 d2:Option Tmp}{K1 K2:S->Prop}(hK: ∀st a,K1 (put {s1 with st:=st} d1 a)->K2 (put {s2 with st:=st} d2 a))
  (h:b7 P s1 d1 o K1):b7 P s2 d2 o K2:=by
 have he:=hs.ev
 cases o with
 |alloc T=>
  simp only[b7] at h⊢
  rw[hst] at h
  split at h<;>try exact h.elim
  rename_i q0
  try simp only[q0]
  exact hK _ _ h
 |box T x=>
  simp only[b7] at h⊢
  rw[hst,he x (by simp[opsOf])] at h
  split at h<;>try exact h.elim
  rename_i hif
  try rw[if_pos hif]
  exact hK _ _ h
 |store T p x=>
  simp only[b7] at h⊢
  rw[he x (by simp[opsOf]),he p (by simp[opsOf])] at h
  exact zM hst (fun st=>hK st _) h
 |buildSlice T len parts=>
  simp only[b7] at h⊢
  rw[hst,gT (fun x hx=>he x (by simpa only[opsOf] using hx))] at h
  split at h<;>try exact h.elim
  rename_i q0
  try simp only[q0]
  split at h<;>try exact h.elim
  rename_i q0
  try simp only[q0]
  split at h<;>try exact h.elim
  rename_i q0
  try simp only[q0]
  split at h<;>try exact h.elim
  rename_i hif
  try rw[if_pos hif]
  exact hK _ _ h
 |makeSlice T ln cp=>
  simp only[b7] at h⊢
  rw[hst,he ln (by simp[opsOf]),he cp (by simp[opsOf])] at h
  split at h<;>try exact h.elim
  rename_i q0 q1 q2
  try simp only[q0,q1,q2]
  split at h<;>try exact h.elim
  rename_i q0
  try simp only[q0]
  exact cV (hK _ _) h
 | makeMap T r=>
  cases r with
  |some r=>exact h.elim
  |none=>
   simp only[b7] at h⊢
   rw[hst] at h
   split at h<;>try exact h.elim
   rename_i q0
   try simp only[q0]
   exact hK _ _ h
 |mapUpdate T m k x=>
  simp only[b7] at h⊢
  rw[hst,he m (by simp[opsOf]),he k (by simp[opsOf]),he x (by simp[opsOf])] at h
  split at h<;>try exact h.elim
  rename_i q0 q1 q2 q3
  try simp only[q0,q1,q2,q3]
  split at h<;>try exact h.elim
  rename_i q0
  try simp only[q0]
  split at h<;>try exact h.elim
  rename_i hif
  try rw[if_pos hif]
  exact hK _ _ h
 |mapEntry T m k=>
  simp only[b7] at h⊢
  rw[hst,he m (by simp[opsOf]),he k (by simp[opsOf])] at h
  split at h<;>try exact h.elim
  rename_i q0 q1 q2
  try simp only[q0,q1,q2]
  split at h<;>try exact h.elim
  rename_i q0 q1
  try simp only[q0,q1]
  split at h<;>try exact h.elim
  rename_i hif
  try rw[if_pos hif]
  exact hK _ _ h
 |entryStore T m jJ x=>
  simp only[b7] at h⊢
  rw[hst,he m (by simp[opsOf]),he jJ (by simp[opsOf]),he x (by simp[opsOf])] at h
  split at h<;>try exact h.elim
  rename_i q0 q1 q2 q3
  try simp only[q0,q1,q2,q3]
  split at h<;>try exact h.elim
  rename_i q0
  try simp only[q0]
  split at h<;>try exact h.elim
  rename_i hif
  try rw[if_pos hif]
  exact hK _ _ h
 | range T x=>
  simp only[b7] at h⊢
  rw[hst,he x (by simp[opsOf])] at h
  split at h<;>try exact h.elim
  ·rename_i q0 q1
   try simp only[q0,q1]
   split at h<;>try exact h.elim
   rename_i q0
   try simp only[q0]
   exact hK _ _ h
  ·rename_i q0 q1
   try simp only[q0,q1]
   exact hK _ _ h
  ·rename_i q0 q1
   try simp only[q0,q1]
   exact hK _ _ h
  ·rename_i q0 q1
   try simp only[q0,q1]
   exact hK _ _ h
 | next it str=>
  cases str with
  | true=>
   simp only[b7] at h⊢
   rw[hst,he it (by simp[opsOf])] at h
   split at h<;>try exact h.elim
   rename_i q0
   try simp only[q0]
   split at h<;>try exact h.elim
   rename_i q0
   try simp only[q0]
   have hK': ∀a,K1 (put s1 d1 a)->K2 (put s2 d2 a):=fun a hh=>by
    have:=hK s1.st a hh
    rw[show({s2 with st:=s1.st}:S)=s2 by rw[hst]] at this
    exact this
   obtain⟨h1,h2⟩:=EA h
   cases hb:Nat.blt _ _ with
   |true=>rw[hb] at h1;exact hK _ _ (h1 rfl)
   |false=>rw[hb] at h2;exact hK' _ (h2 rfl)
  | false=>
   simp only[b7] at h⊢
   rw[hst,he it (by simp[opsOf])] at h
   have hK': ∀a,K1 (put s1 d1 a)->K2 (put s2 d2 a):=fun a hh=>by
    have:=hK s1.st a hh
    rw[show({s2 with st:=s1.st}:S)=s2 by rw[hst]] at this
    exact this
   split at h<;>try exact h.elim
   rename_i q0
   try simp only[q0]
   split at h<;>try exact h.elim
   ·rename_i q0
    try simp only[q0]
    split at h
    case h_2=>
     rename_i q0
     split at h<;>try exact h.elim
     exact hK' _ h
    rename_i q0
    try simp only[q0]
    exact cV (u9 (fun k a=>hK _ _) (hK' _)) h
   ·rename_i q0
    try simp only[q0]
    exact u9 (fun k a=>hK _ _) (hK' _) h
 | entry it=>
  have hK': ∀a,K1 (put s1 d1 a)->K2 (put s2 d2 a):=fun a hh=>by
   have:=hK s1.st a hh
   rw[show({s2 with st:=s1.st}:S)=s2 by rw[hst]] at this
   exact this
  simp only[b7] at h⊢
  rw[hst,he it (by simp[opsOf])] at h
  split at h<;>try exact h.elim
  rename_i q0
  try simp only[q0]
  split at h
  case h_3=>exact h.elim
  case h_2=>
   rename_i q1
   try simp only[q1]
   split at h<;>try exact h.elim
   rename_i q0
   try simp only[q0]
   exact hK' _ h
  rename_i q0
  try simp only[q0]
  split at h<;>try exact h.elim
  rename_i q0
  try simp only[q0]
  split at h<;>try exact h.elim
  rename_i q0
  try simp only[q0]
  exact cV (hK' _) h
 | call c=>
  obtain⟨callee,args,ats⟩:=c
  cases callee with
  | builtin b=>
   cases b<;>try exact h.elim
   case clear=>
    simp only[b7] at h⊢
    rw[fL (fun x hx=>he x (by simpa only[opsOf] using hx)),hst] at h
    split at h<;>try exact h.elim
    rename_i q0 q1
    try simp only[q0,q1]
    split at h<;>try exact h.elim
    rename_i q0 q1
    try simp only[q0,q1]
    split at h<;>try exact h.elim
    rename_i q0
    try simp only[q0]
    split at h<;>try exact h.elim
    rename_i hif
    try rw[if_pos hif]
    exact hK _ _ h
   simp only[b7] at h⊢
   rw[fL (fun x hx=>he x (by simpa only[opsOf] using hx))] at h
   split at h<;>try exact h.elim
   rename_i q0 q1
   try simp only[q0,q1]
   split at h<;>try exact h.elim
   rename_i hif
   try rw[if_pos hif]
   exact xI hst (fun st a=>hK st a) h
  |_=>exact h.elim
 | binOp op T x y T'=>
  have hK': ∀a,K1 (put s1 d1 a)->K2 (put s2 d2 a):=fun a hh=>by
   have:=hK s1.st a hh
   rw[show({s2 with st:=s1.st}:S)=s2 by rw[hst]] at this
   exact this
  cases op with
  |eql=>
   simp only[b7] at h⊢
   rw[hst,he x (by simp[opsOf])] at h
   exact qg (fun _=>hK' _) h
  |neq=>
   simp only[b7] at h⊢
   rw[hst,he x (by simp[opsOf])] at h
   exact qg (fun _=>hK' _) h
  |_=>exact h.elim
 |_=>exact h.elim
end Go.Dn
