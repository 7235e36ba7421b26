import Derived.Test.YthaiinlfnommnaaGreatDoorDnZ
namespace Go.Dn
open Go
structure sJ(o:Op)(s1 s2:S):Prop where
 ev: ∀x,x∈opsOf o->ev s1 x=ev s2 x
theorem gm{s1 s2:S}: ∀{l:List Operand},(∀x,x∈l->ev s1 x=ev s2 x)->mO s1 l=mO s2 l
 |[],_=>rfl
 |x::l,h=>by
  simp only[mO]
  rw[h x (by simp),gm (fun y hy=>h y (by simp[hy]))]
theorem iI{s1 s2:S}: ∀{l:List (Nat×Operand)},(∀x,x∈l.map (·.2)->ev s1 x=ev s2 x)->ff s1 l=ff s2 l
 |[],_=>rfl
 |(i,x)::l,h=>by
  simp only[ff]
  rw[h x (by simp),iI (fun y hy=>h y (by simp at hy⊢;exact .inr hy))]
theorem sd{s1 s2:S}{o:Option Operand}{d:Nat}(h: ∀x,x∈pK o->ev s1 x=ev s2 x):fy s1 o d=fy s2 o d:=by
 cases o with
 |none=>rfl
 |some x=>simp only[fy];rw[h x (by simp[pK])]
theorem wM{s1 s2:S}{o:Option Operand}(h: ∀x,x∈pK o->ev s1 x=ev s2 x):tK s1 o=tK s2 o:=by
 cases o with
 |none=>rfl
 |some x=>simp only[tK];rw[h x (by simp[pK])]
theorem xq{E:Env}{s1 s2:S}{o:Op}(h:sJ o s1 s2)(hst:s1.st=s2.st):bG E s1 o=bG E s2 o:=by
 have he:=h.ev
 cases o with
 |move x=>simp only[bG];rw[he x (by simp[opsOf])]
 |assign x=>simp only[bG];rw[he x (by simp[opsOf])]
 |load T x=>simp only[bG];rw[he x (by simp[opsOf]),hst]
 |nilCheck x=>simp only[bG];rw[he x (by simp[opsOf]),hst]
 |binOp op T x y T'=>simp only[bG];rw[he x (by simp[opsOf]),he y (by simp[opsOf])]
 |unOp op T x=>simp only[bG];rw[he x (by simp[opsOf])]
 |makeInterface T x=>simp only[bG];rw[he x (by simp[opsOf])]
 |convert S T x=>simp only[bG];rw[he x (by simp[opsOf])]
 | slice T x lo hi m=>
  cases m with
  |some m=>
   simp only[bG,l9]
   rw[he x (by simp[opsOf]),hst,wM (o:=hi) (fun y hy=>he y (by simp[opsOf,hy])),wM (o:=some m) (fun y hy=>he y (by simp[opsOf,hy]))]
  |none=>
   simp only[bG,pJ]
   rw[he x (by simp[opsOf]),hst]
   simp only[sd (s1:=s1) (s2:=s2) (o:=lo) (fun y hy=>he y (by simp[opsOf,hy])),sd (s1:=s1) (s2:=s2) (o:=hi) (fun y hy=>he y (by simp[opsOf,hy]))]
 |fieldAddr T x f=>simp only[bG];rw[he x (by simp[opsOf]),hst]
 |field T x f=>simp only[bG];rw[he x (by simp[opsOf])]
 |indexAddr T x i=>simp only[bG,fW];rw[he x (by simp[opsOf]),he i (by simp[opsOf]),hst]
 |index T x i=>simp only[bG];rw[he x (by simp[opsOf]),he i (by simp[opsOf])]
 |lookup T m k ok=>simp only[bG,mi];rw[he m (by simp[opsOf]),he k (by simp[opsOf]),hst]
 |extract x i=>simp only[bG];rw[he x (by simp[opsOf])]
 |makeFunc fn first caps=>
  cases fn with
  |func f=>simp only[bG];rw[gm (fun x hx=>he x (by simpa[opsOf] using hx))]
  |_=>rfl
 |build T parts=>simp only[bG];rw[iI (fun x hx=>he x (by simpa only[opsOf] using hx))]
 | call c=>
  obtain⟨callee,args,ats⟩:=c
  cases callee with
  |builtin b=>
   have:=gm (s1:=s1) (s2:=s2) (l:=args.toList) (fun x hx=>he x (by simpa only[opsOf] using hx))
   cases b<;>first|rfl|(simp only[bG];rw[this];done)|(simp only[bG];rw[this,hst])
  |value g=>
   have:=gm (s1:=s1) (s2:=s2) (l:=args.toList) (fun x hx=>he x (by simp only[opsOf,ac3];exact .inr hx))
   cases g<;>first|rfl|(simp only[bG];rw[this,hst])
  |invoke r m=>rfl
 |_=>rfl
def Kept(st st':List Obj):Prop:=∀i,ax st i= .dead\/ax st' i=ax st i
theorem Kept.refl(st:List Obj):Kept st st:=fun _=> .inr rfl
theorem Kept.app(st l:List Obj):Kept st (st++l):=fun i=>by
 rcases Nat.lt_or_ge i st.length with h|h
 ·exact .inr (dL _ _ _ h)
 ·exact .inl (dZ _ _ h)
theorem Kept.gP{st st':List Obj}(h:Kept st st'){i:Nat}{x:TypeId×List AV}(he:gP (ax st i)=some x):gP (ax st' i)=some x:=by
 rcases h i with e|e
 ·rw[e] at he;cases he
 ·rw[e];exact he
theorem Kept.get{st st':List Obj}(h:Kept st st'){i:Nat}{o:Obj}(he:ax st i=o)(hd:o≠ .dead):ax st' i=o:=by
 rcases h i with e|e
 ·exact absurd (he.symm.trans e) hd
 ·exact e.trans he
theorem Kept.live{st st':List Obj}(h:Kept st st'){i:Nat}(he:ky st i=true):ky st' i=true:=by
 unfold ky at he⊢
 rcases h i with e|e
 ·rw[e] at he;cases he
 ·rw[e];exact he
mutual
theorem km{st st':List Obj}(h:Kept st st'): ∀(a b:AV),cf st a=some b->cf st' a=some b
 | .lit v,b,e=>by simpa only[cf] using e
 | .ad T l,b,e=>by simpa only[cf] using e
 | .ar i lo n,b,e=>by
  simp only[cf] at e⊢
  split at e
  ·rename_i T xs hx
   rw[h.gP hx];exact e
  ·cases e
 | .agg l,b,e=>by
  simp only[cf] at e⊢
  cases hl:lj st l with
  |none=>rw[hl] at e;cases e
  |some m=>rw[hl] at e;rw[uA h l m hl];exact e
 | .jO T a,b,e=>by simpa only[cf] using e
 | .iX T a,b,e=>by
  simp only[cf] at e⊢
  cases ha:cf st a with
  |none=>rw[ha] at e;cases e
  |some m=>rw[ha] at e;rw[km h a m ha];exact e
 | .bI f caps,b,e=>by
  cases caps with
  |nil=>simpa only[cf] using e
  |cons x l=>simp[cf] at e
 | .ptr _ _ _ _,b,e=>by simp[cf] at e
 | .js _ _ _ _,b,e=>by simpa only[cf] using e
 | .mp i,b,e=>by
  simp only[cf] at e⊢
  rcases h i with e2|e2
  ·rw[e2] at e;cases e
  ·rw[e2];exact e
 | .ba _,b,e=>by simp[cf] at e
 | .cy,b,e=>by simp[cf] at e
 | .cu _,b,e=>by simp[cf] at e
 | .kg _ _,b,e=>by simp[cf] at e
theorem uA{st st':List Obj}(h:Kept st st'): ∀(l m:List AV),lj st l=some m->lj st' l=some m
 |[],m,e=>by simpa only[lj] using e
 | a::l,m,e=>by
  simp only[lj] at e⊢
  cases ha:cf st a with
  |none=>rw[ha] at e;cases e
  |some b=>
   cases hl:lj st l with
   |none=>rw[ha,hl] at e;cases e
   |some k=>rw[ha,hl] at e;rw[km h a b ha,uA h l k hl];exact e
end
theorem Dg{st st':List Obj}(h:Kept st st'){a b:AV}(e:qH st a=some b):qH st' a=some b:=by
 unfold qH at e⊢
 cases a with
 | ar i lo m=>
  cases lo with
  |zero=>exact km h _ _ e
  | succ k=>
   rcases h i with e2|e2
   ·simp[e2,cf,gP] at e
   ·cases hx:ax st i with
    |rows T E ls pd=>rw[hx] at e2;simp only[hx] at e;simp only[e2];exact e
    |_=>rw[hx] at e2;simp only[hx] at e;simp only[e2];exact km h _ _ e
 |_=>exact km h _ _ e
theorem oZ{st st':List Obj}(h:Kept st st'): ∀(l m:List AV),fo st l=some m->fo st' l=some m
 |[],m,e=>by simpa only[fo] using e
 | a::l,m,e=>by
  simp only[fo] at e⊢
  cases ha:qH st a with
  |none=>rw[ha] at e;cases e
  |some b=>
   cases hl:fo st l with
   |none=>rw[ha,hl] at e;cases e
   |some k=>rw[ha,hl] at e;rw[Dg h ha,oZ h l k hl];exact e
theorem DT{P:Program}{st st':List Obj}(h:Kept st st'){T:TypeId}{a:AV}{x:Bool×AV}(e:mL P st T a=some x):mL P st' T a=some x:=by
 cases a<;>try exact e
 rename_i i k p off
 rcases h i with e2|e2
 ·simp only[mL,e2] at e;cases e
 ·simp only[mL,e2] at e⊢;exact e
theorem GL{P:Program}{st st':List Obj}(h:Kept st st'){T:TypeId}{a x:AV}(e:yS P st T a=some x):yS P st' T a=some x:=by
 unfold yS at e⊢
 split at e<;>try exact e
 ·rename_i i _
  rcases h i with e2|e2
  ·rw[e2] at e;cases e
  ·rw[e2];exact e
 ·rename_i i _ _ _
  rcases h i with e2|e2
  ·rw[e2] at e;cases e
  ·rw[e2];exact e
theorem vh{P:Program}{st st':List Obj}(h:Kept st st'){T:TypeId}{a:AV}{f:Nat}{x:Bool×AV}(e:gq P st T a f=some x):gq P st' T a f=some x:=by
 unfold gq at e⊢
 split at e
 ·cases e
 ·split at e
  ·cases e
  ·rename_i h1
   rw[if_neg h1]
   split at e
   ·split at e
    ·rename_i h2
     rw[if_pos (h.live h2)];exact e
    ·cases e
   ·exact e
   ·cases e
theorem BR{P:Program}{s s':S}(h:Kept s.st s'.st){T:TypeId}{a:AV}{lo hi:Option Operand}(h1: ∀d,fy s lo d=fy s' lo d)(h2: ∀d,fy s hi d=fy s' hi d){x:Bool×AV}(e:pJ P s T a lo hi=some x):pJ P s' T a lo hi=some x:=by
 unfold pJ at e⊢
 simp only[←h1,←h2]
 split at e<;>try exact e
 cases hx:gP (ax s.st _) with
 |none=>rw[hx] at e;split at e<;>first|cases e|simp_all
 |some y=>rw[hx] at e;rw[h.gP hx];exact e
theorem vP{P:Program}{s s':S}(h:Kept s.st s'.st){T:TypeId}{a i:AV}{x:Bool×AV}(e:fW P s T a i=some x):fW P s' T a i=some x:=by
 unfold fW at e⊢
 split at e<;>try exact e
 split at e<;>try exact e
 split at e
 ·rename_i hx
  rw[h.gP hx];exact e
 ·split at e
  ·rename_i hst
   have:=h.get hst (by simp)
   rw[this];exact e
  ·cases e
theorem BU{P:Program}{s s':S}(h:Kept s.st s'.st){T:TypeId}{a:AV}{lo hi:Option Operand}{m:Operand}(h1: ∀o,tK s o=tK s' o){x:Bool×AV}(e:l9 P s T a lo hi m=some x):l9 P s' T a lo hi m=some x:=by
 unfold l9 at e⊢
 simp only[←h1]
 split at e<;>try exact e
 cases hx:gP (ax s.st _) with
 |none=>rw[hx] at e;split at e<;>first|cases e|simp_all
 |some y=>rw[hx] at e;rw[h.gP hx];exact e
theorem Ai{P:Program}{s s':S}(h:Kept s.st s'.st){T:TypeId}{m k:AV}{ok:Bool}{x:Bool×AV}(e:mi P s T m k ok=some x):mi P s' T m k ok=some x:=by
 unfold mi at e⊢
 split at e<;>try exact e
 split at e<;>try exact e
 rename Nat=>i
 rcases h i with e2|e2
 ·rw[e2] at e;cases e
 ·rw[e2];exact e
theorem GD{E:Env}{s1 s2:S}{o:Op}(h:sJ o s1 s2)(hk:Kept s1.st s2.st){x:Bool×AV}(e:bG E s1 o=some x):bG E s2 o=some x:=by
 have he:=h.ev
 have e0:bG E {s2 with st:=s1.st} o=some x:=by
  rw[←e]
  exact(xq (s1:=s1) (s2:={s2 with st:=s1.st}) ⟨fun y hy=>by rw[he y hy];cases y<;>rfl⟩ rfl).symm
 cases o with
 |load T y=>
  simp only[bG] at e0⊢
  have e1:ev {s2 with st:=s1.st} y=ev s2 y:=by cases y<;>rfl
  rw[e1] at e0
  split at e0
  ·exact e0
  ·exact DT hk e0
 | nilCheck y=>
  simp only[bG] at e0⊢
  have e1:ev {s2 with st:=s1.st} y=ev s2 y:=by cases y<;>rfl
  rw[e1] at e0
  split at e0<;>try exact e0
  split at e0
  ·rename_i h2
   rw[if_pos (hk.live h2)];exact e0
  ·cases e0
 | slice T y lo hi m=>
  cases m with
  | some m=>
   simp only[bG] at e0⊢
   have e1:ev {s2 with st:=s1.st} y=ev s2 y:=by cases y<;>rfl
   rw[e1] at e0
   have hb: ∀(o:Option Operand),tK {s2 with st:=s1.st} o=tK s2 o:=fun o=>by
    cases o with
    |none=>rfl
    |some y=>cases y<;>rfl
   exact BU (s:={s2 with st:=s1.st}) hk hb e0
  | none=>
   simp only[bG] at e0⊢
   have e1:ev {s2 with st:=s1.st} y=ev s2 y:=by cases y<;>rfl
   rw[e1] at e0
   have hb: ∀(o:Option Operand) d,fy {s2 with st:=s1.st} o d=fy s2 o d:=fun o d=>by
    cases o with
    |none=>rfl
    |some y=>cases y<;>rfl
   exact BR (s:={s2 with st:=s1.st}) hk (hb lo) (hb hi) e0
 |fieldAddr T y f=>
  simp only[bG] at e0⊢
  have e1:ev {s2 with st:=s1.st} y=ev s2 y:=by cases y<;>rfl
  rw[e1] at e0
  exact vh hk e0
 |indexAddr T y i=>
  simp only[bG] at e0⊢
  have e1: ∀y,ev {s2 with st:=s1.st} y=ev s2 y:=fun y=>by cases y<;>rfl
  rw[e1,e1] at e0
  exact vP (s:={s2 with st:=s1.st}) hk e0
 |lookup T m k ok=>
  simp only[bG] at e0⊢
  have e1: ∀y,ev {s2 with st:=s1.st} y=ev s2 y:=fun y=>by cases y<;>rfl
  rw[e1,e1] at e0
  exact Ai (s:={s2 with st:=s1.st}) hk e0
 | call c=>
  obtain⟨callee,args,ats⟩:=c
  have e1: ∀l,mO {s2 with st:=s1.st} l=mO s2 l:=fun l=>gm fun y _=>by cases y<;>rfl
  cases callee with
  | builtin b=>
   cases b<;>try (simp only[bG,e1] at e0⊢;exact e0)
   simp only[bG,e1] at e0⊢
   split at e0<;>try exact e0
   split at e0
   ·rename_i hx
    rw[GL hk hx];exact e0
   ·cases e0
  | value g=>
   cases g<;>try (simp only[bG] at e0⊢;exact e0)
   simp only[bG,e1] at e0⊢
   split at e0
   ·rename_i hx
    rw[oZ hk _ _ hx];exact e0
   ·cases e0
  |invoke r m=>exact e0
 |makeFunc fn first caps=>
  have e1: ∀l,mO {s2 with st:=s1.st} l=mO s2 l:=fun l=>gm fun y _=>by cases y<;>rfl
  cases fn<;>try (simp only[bG] at e0⊢;exact e0)
  simp only[bG,e1] at e0⊢;exact e0
 |build T parts=>
  have e1: ∀l,ff {s2 with st:=s1.st} l=ff s2 l:=fun l=>iI fun y _=>by cases y<;>rfl
  simp only[bG,e1] at e0⊢;exact e0
 |_=>
  have e1: ∀y,ev {s2 with st:=s1.st} y=ev s2 y:=fun y=>by cases y<;>rfl
  simp only[bG,e1] at e0⊢;exact e0
theorem Bc(st st':List Obj)(s s':S)(v:Value):qH st (ev s (.const v))=qH st' (ev s' (.const v)):=by
 simp only[ev]
 split<;>rfl
theorem nC(st st':List Obj)(s s':S): ∀l:List Operand,G4 l=true->fo st (mO s l)=fo st' (mO s' l)
 |[],_=>rfl
 | .const v::l,h=>by
  simp only[mO,fo]
  rw[Bc st st' s s' v,nC st st' s s' l h]
 | .tmp _::_,h=>nomatch h
 | .global _::_,h=>nomatch h
 | .func _::_,h=>nomatch h
theorem Cr{E:Env}{s1 s2:S}{o:Op}(h:sJ o s1 s2)(hc:ea E.quiet o=0):bG E s1 o=bG E s2 o:=by
 have he:=h.ev
 cases o with
 |move x=>simp only[bG];rw[he x (by simp[opsOf])]
 |assign x=>simp only[bG];rw[he x (by simp[opsOf])]
 |binOp op T x y T'=>simp only[bG];rw[he x (by simp[opsOf]),he y (by simp[opsOf])]
 |unOp op T x=>simp only[bG];rw[he x (by simp[opsOf])]
 |makeInterface T x=>simp only[bG];rw[he x (by simp[opsOf])]
 |convert S T x=>simp only[bG];rw[he x (by simp[opsOf])]
 |extract x i=>simp only[bG];rw[he x (by simp[opsOf])]
 |makeFunc fn first caps=>
  cases fn with
  |func f=>simp only[bG];rw[gm (fun x hx=>he x (by simpa[opsOf] using hx))]
  |_=>rfl
 |pick c a b=>rfl
 |load T x=>simp[ea] at hc
 |nilCheck x=>simp[ea] at hc
 |slice T x lo hi m=>simp[ea] at hc
 |fieldAddr T x f=>simp[ea] at hc
 |field T x f=>simp only[bG];rw[he x (by simp[opsOf])]
 |indexAddr T x i=>simp[ea] at hc
 |index T x i=>simp only[bG];rw[he x (by simp[opsOf]),he i (by simp[opsOf])]
 |lookup T m k ok=>simp[ea] at hc
 |build T parts=>simp only[bG];rw[iI (fun x hx=>he x (by simpa only[opsOf] using hx))]
 | call c=>
  obtain⟨callee,args,ats⟩:=c
  cases callee with
  |builtin b=>cases b<;>simp[ea] at hc
  | value g=>
   cases g with
   | func f=>
    simp only[ea] at hc
    cases hq:E.quiet f with
    |false=>simp[hq] at hc
    |true=>
     rw[hq,aa8] at hc
     cases ha:G4 args.toList with
     |false=>simp[ha] at hc
     |true=>simp only[bG];rw[nC s1.st s2.st s1 s2 _ ha]
   |_=>simp[ea] at hc
  |invoke r m=>simp[ea] at hc
 |_=>rfl
theorem Ae{s1 s2:S}{o:Op}(h:sJ o s1 s2):gh s1 o=gh s2 o:=by
 have he:=h.ev
 cases o with
 | call c=>
  obtain⟨callee,args,ats⟩:=c
  cases callee with
  |value g=>
   simp only[gh]
   rw[he g (by simp[opsOf]),gm (fun x hx=>he x (by simp only[opsOf,ac3];exact .inr hx))]
  |_=>rfl
 |_=>rfl
theorem yN{P:Program}{s1 s2:S}(hst:s1.st=s2.st){T:TypeId}{x y:AV}{K1 K2:List Obj->AV->Prop}(hK: ∀st a,K1 st a->K2 st a)(h:oq P s1 T x y K1):oq P s2 T x y K2:=by
 unfold oq at h⊢
 rw[hst] at h
 split at h<;>try exact h.elim
 rename_i q0
 try simp only[q0]
 split at h<;>try exact h.elim
 rename_i q0 q1
 try simp only[q0,q1]
 split at h<;>try exact h.elim
 rename_i q0
 try simp only[q0]
 split at h<;>try exact h.elim
 ·exact dd (hK _ _) h
 ·split at h<;>try exact h.elim
  ·rename_i q0
   try simp only[q0]
   split at h<;>try exact h.elim
   rename_i hif
   try rw[if_pos hif]
   exact dd (hK _ _) h
  ·rename_i q0
   try simp only[q0]
   split at h<;>try exact h.elim
   rename_i q1
   try simp only[q1]
   split at h<;>try exact h.elim
   rename_i hif
   try rw[if_pos hif]
   exact dd (hK _ _) h
theorem Bo{P:Program}{s1 s2:S}(hst:s1.st=s2.st){T:TypeId}{x y:AV}{K1 K2:List Obj->Prop}(hK: ∀st,K1 st->K2 st)(h:ph P s1 T x y K1):ph P s2 T x y K2:=by
 unfold ph at h⊢
 rw[hst] at h
 split at h<;>try exact h.elim
 split at h<;>try exact h.elim
 ·rename_i h1
  try simp only[h1]
  split at h<;>try exact h.elim
  rename_i hif
  try rw[if_pos hif]
  exact hK _ h
 ·rename_i h1
  try simp only[h1]
  split at h<;>try exact h.elim
  rename_i q0 q1
  try simp only[q0,q1]
  split at h<;>try exact h.elim
  rename_i hif
  try rw[if_pos hif]
  exact hK _ h
 ·rename_i h1
  try simp only[h1]
  split at h<;>try exact h.elim
  split at h<;>try exact h.elim
  rename_i hif
  try rw[if_pos hif]
  exact dd (hK _) h
theorem qf{P:Program}{st:List Obj}{T:TypeId}{y:Operand}{a:AV}{K1 K2:Bool->Prop}(hK: ∀b,K1 b->K2 b)(h:mA P st T y a K1):mA P st T y a K2:=by
 unfold mA at h⊢
 split at h
 ·split at h
  ·exact hK _ h
  ·exact⟨fun e=>hK _ (h.1 e),hK _ h.2⟩
  ·split at h
   ·exact⟨fun e=>hK _ (h.1 e),hK _ h.2⟩
   ·exact h.elim
  ·exact h.elim
 ·exact h.elim
theorem vD{P:Program}{Kt Vt:TypeId}{es:List (Value×AV)}{ks:List Value}{p p':Value->AV->Prop}{q q':Prop}(hp: ∀k a,p k a->p' k a)(hq:q->q')(h:Bn P Kt Vt es ks p q):Bn P Kt Vt es ks p' q':=by
 refine⟨?_,fun hs=>hq (h.2 hs)⟩
 have h1:=h.1
 split at h1
 ·exact fun n v a b=>hp _ _ (h1 n v a b)
 ·exact fun n v a b=>hp _ _ (h1 n v a b)
 ·exact h1.elim
theorem v8{P:Program}{s1 s2:S}{o:Op}(hs:sJ o s1 s2)(hst:s1.st=s2.st){d1 d2:Option Tmp}{K1 K2:S->Prop}(hK: ∀st a,K1 (put {s1 with st:=st} d1 a)->K2 (put {s2 with st:=st} d2 a))
  (h:ck P s1 d1 o K1):ck P s2 d2 o K2:=by
 have he:=hs.ev
 cases o with
 |alloc T=>
  simp only[ck] at h⊢
  rw[hst] at h
  split at h<;>try exact h.elim
  rename_i q0
  try simp only[q0]
  exact hK _ _ h
 |box T x=>
  simp only[ck] at h⊢
  rw[hst,he x (by simp[opsOf])] at h
  split at h<;>try exact h.elim
  rename_i hif
  try rw[if_pos hif]
  exact hK _ _ h
 |store T p x=>
  simp only[ck] at h⊢
  rw[he x (by simp[opsOf]),he p (by simp[opsOf])] at h
  exact Bo hst (fun st=>hK st _) h
 |buildSlice T len parts=>
  simp only[ck] at h⊢
  rw[hst,iI (fun x hx=>he x (by simpa only[opsOf] using hx))] at h
  split at h<;>try exact h.elim
  rename_i q0
  try simp only[q0]
  split at h<;>try exact h.elim
  rename_i q0
  try simp only[q0]
  split at h<;>try exact h.elim
  rename_i q0
  try simp only[q0]
  split at h<;>try exact h.elim
  rename_i hif
  try rw[if_pos hif]
  exact hK _ _ h
 |makeSlice T ln cp=>
  simp only[ck] at h⊢
  rw[hst,he ln (by simp[opsOf]),he cp (by simp[opsOf])] at h
  split at h<;>try exact h.elim
  rename_i q0 q1 q2
  try simp only[q0,q1,q2]
  split at h<;>try exact h.elim
  rename_i q0
  try simp only[q0]
  exact dd (hK _ _) h
 | makeMap T r=>
  cases r with
  |some r=>exact h.elim
  |none=>
   simp only[ck] at h⊢
   rw[hst] at h
   split at h<;>try exact h.elim
   rename_i q0
   try simp only[q0]
   exact hK _ _ h
 |mapUpdate T m k x=>
  simp only[ck] at h⊢
  rw[hst,he m (by simp[opsOf]),he k (by simp[opsOf]),he x (by simp[opsOf])] at h
  split at h<;>try exact h.elim
  rename_i q0 q1 q2 q3
  try simp only[q0,q1,q2,q3]
  split at h<;>try exact h.elim
  rename_i q0
  try simp only[q0]
  split at h<;>try exact h.elim
  rename_i hif
  try rw[if_pos hif]
  exact hK _ _ h
 |mapEntry T m k=>
  simp only[ck] at h⊢
  rw[hst,he m (by simp[opsOf]),he k (by simp[opsOf])] at h
  split at h<;>try exact h.elim
  rename_i q0 q1 q2
  try simp only[q0,q1,q2]
  split at h<;>try exact h.elim
  rename_i q0 q1
  try simp only[q0,q1]
  split at h<;>try exact h.elim
  rename_i hif
  try rw[if_pos hif]
  exact hK _ _ h
 |entryStore T m kg x=>
  simp only[ck] at h⊢
  rw[hst,he m (by simp[opsOf]),he kg (by simp[opsOf]),he x (by simp[opsOf])] at h
  split at h<;>try exact h.elim
  rename_i q0 q1 q2 q3
  try simp only[q0,q1,q2,q3]
  split at h<;>try exact h.elim
  rename_i q0
  try simp only[q0]
  split at h<;>try exact h.elim
  rename_i hif
  try rw[if_pos hif]
  exact hK _ _ h
 | range T x=>
  simp only[ck] at h⊢
  rw[hst,he x (by simp[opsOf])] at h
  split at h<;>try exact h.elim
  ·rename_i q0 q1
   try simp only[q0,q1]
   split at h<;>try exact h.elim
   rename_i q0
   try simp only[q0]
   exact hK _ _ h
  ·rename_i q0 q1
   try simp only[q0,q1]
   exact hK _ _ h
  ·rename_i q0 q1
   try simp only[q0,q1]
   exact hK _ _ h
  ·rename_i q0 q1
   try simp only[q0,q1]
   exact hK _ _ h
 | next it str=>
  cases str with
  | true=>
   simp only[ck] at h⊢
   rw[hst,he it (by simp[opsOf])] at h
   split at h<;>try exact h.elim
   rename_i q0
   try simp only[q0]
   split at h<;>try exact h.elim
   rename_i q0
   try simp only[q0]
   have hK': ∀a,K1 (put s1 d1 a)->K2 (put s2 d2 a):=fun a hh=>by
    have:=hK s1.st a hh
    rw[show({s2 with st:=s1.st}:S)=s2 by rw[hst]] at this
    exact this
   obtain⟨h1,h2⟩:=Fm h
   cases hb:Nat.blt _ _ with
   |true=>rw[hb] at h1;exact hK _ _ (h1 rfl)
   |false=>rw[hb] at h2;exact hK' _ (h2 rfl)
  | false=>
   simp only[ck] at h⊢
   rw[hst,he it (by simp[opsOf])] at h
   have hK': ∀a,K1 (put s1 d1 a)->K2 (put s2 d2 a):=fun a hh=>by
    have:=hK s1.st a hh
    rw[show({s2 with st:=s1.st}:S)=s2 by rw[hst]] at this
    exact this
   split at h<;>try exact h.elim
   rename_i q0
   try simp only[q0]
   split at h<;>try exact h.elim
   ·rename_i q0
    try simp only[q0]
    split at h
    case h_2=>
     rename_i q0
     split at h<;>try exact h.elim
     exact hK' _ h
    rename_i q0
    try simp only[q0]
    exact dd (vD (fun k a=>hK _ _) (hK' _)) h
   ·rename_i q0
    try simp only[q0]
    exact vD (fun k a=>hK _ _) (hK' _) h
 | entry it=>
  have hK': ∀a,K1 (put s1 d1 a)->K2 (put s2 d2 a):=fun a hh=>by
   have:=hK s1.st a hh
   rw[show({s2 with st:=s1.st}:S)=s2 by rw[hst]] at this
   exact this
  simp only[ck] at h⊢
  rw[hst,he it (by simp[opsOf])] at h
  split at h<;>try exact h.elim
  rename_i q0
  try simp only[q0]
  split at h
  case h_3=>exact h.elim
  case h_2=>
   rename_i q1
   try simp only[q1]
   split at h<;>try exact h.elim
   rename_i q0
   try simp only[q0]
   exact hK' _ h
  rename_i q0
  try simp only[q0]
  split at h<;>try exact h.elim
  rename_i q0
  try simp only[q0]
  split at h<;>try exact h.elim
  rename_i q0
  try simp only[q0]
  exact dd (hK' _) h
 | call c=>
  obtain⟨callee,args,ats⟩:=c
  cases callee with
  | builtin b=>
   cases b<;>try exact h.elim
   case clear=>
    simp only[ck] at h⊢
    rw[gm (fun x hx=>he x (by simpa only[opsOf] using hx)),hst] at h
    split at h<;>try exact h.elim
    rename_i q0 q1
    try simp only[q0,q1]
    split at h<;>try exact h.elim
    rename_i q0 q1
    try simp only[q0,q1]
    split at h<;>try exact h.elim
    rename_i q0
    try simp only[q0]
    split at h<;>try exact h.elim
    rename_i hif
    try rw[if_pos hif]
    exact hK _ _ h
   simp only[ck] at h⊢
   rw[gm (fun x hx=>he x (by simpa only[opsOf] using hx))] at h
   split at h<;>try exact h.elim
   rename_i q0 q1
   try simp only[q0,q1]
   split at h<;>try exact h.elim
   rename_i hif
   try rw[if_pos hif]
   exact yN hst (fun st a=>hK st a) h
  |_=>exact h.elim
 | binOp op T x y T'=>
  have hK': ∀a,K1 (put s1 d1 a)->K2 (put s2 d2 a):=fun a hh=>by
   have:=hK s1.st a hh
   rw[show({s2 with st:=s1.st}:S)=s2 by rw[hst]] at this
   exact this
  cases op with
  |eql=>
   simp only[ck] at h⊢
   rw[hst,he x (by simp[opsOf])] at h
   exact qf (fun _=>hK' _) h
  |neq=>
   simp only[ck] at h⊢
   rw[hst,he x (by simp[opsOf])] at h
   exact qf (fun _=>hK' _) h
  |_=>exact h.elim
 |_=>exact h.elim
end Go.Dn
