import Derived.Test.YthaiinlfnommnaaGreatDoorDnZ
namespace Go.Dn
open Go
structure tx(o:Op)(s1 s2:S):Prop where
 ev: ∀x,x∈opsOf o->ev s1 x=ev s2 x
theorem gE{s1 s2:S}: ∀{l:List Operand},(∀x,x∈l->ev s1 x=ev s2 x)->nt s1 l=nt s2 l
 |[],_=>rfl
 |x::l,h=>by
  simp only[nt]
  rw[h x (by simp),gE (fun y hy=>h y (by simp[hy]))]
theorem iY{s1 s2:S}: ∀{l:List (Nat×Operand)},(∀x,x∈l.map (·.2)->ev s1 x=ev s2 x)->fx s1 l=fx s2 l
 |[],_=>rfl
 |(i,x)::l,h=>by
  simp only[fx]
  rw[h x (by simp),iY (fun y hy=>h y (by simp at hy⊢;exact .inr hy))]
theorem tr{s1 s2:S}{o:Option Operand}{d:Nat}(h: ∀x,x∈pY o->ev s1 x=ev s2 x):fL s1 o d=fL s2 o d:=by
 cases o with
 |none=>rfl
 |some x=>simp only[fL];rw[h x (by simp[pY])]
theorem xV{s1 s2:S}{o:Option Operand}(h: ∀x,x∈pY o->ev s1 x=ev s2 x):uW s1 o=uW s2 o:=by
 cases o with
 |none=>rfl
 |some x=>simp only[uW];rw[h x (by simp[pY])]
theorem xX{E:Env}{s1 s2:S}{o:Op}(h:tx o s1 s2)(hst:s1.st=s2.st):bO E s1 o=bO E s2 o:=by
 have he:=h.ev
 cases o with
 |move x=>simp only[bO];rw[he x (by simp[opsOf])]
 |assign x=>simp only[bO];rw[he x (by simp[opsOf])]
 |load T x=>simp only[bO];rw[he x (by simp[opsOf]),hst]
 |nilCheck x=>simp only[bO];rw[he x (by simp[opsOf]),hst]
 |binOp op T x y T'=>simp only[bO];rw[he x (by simp[opsOf]),he y (by simp[opsOf])]
 |unOp op T x=>simp only[bO];rw[he x (by simp[opsOf])]
 |makeInterface T x=>simp only[bO];rw[he x (by simp[opsOf])]
 |convert S T x=>simp only[bO];rw[he x (by simp[opsOf])]
 | slice T x lo hi m=>
  cases m with
  |some m=>
   simp only[bO,na]
   rw[he x (by simp[opsOf]),hst,xV (o:=hi) (fun y hy=>he y (by simp[opsOf,hy])),xV (o:=some m) (fun y hy=>he y (by simp[opsOf,hy]))]
  |none=>
   simp only[bO,qi]
   rw[he x (by simp[opsOf]),hst]
   simp only[tr (s1:=s1) (s2:=s2) (o:=lo) (fun y hy=>he y (by simp[opsOf,hy])),tr (s1:=s1) (s2:=s2) (o:=hi) (fun y hy=>he y (by simp[opsOf,hy]))]
 |fieldAddr T x f=>simp only[bO];rw[he x (by simp[opsOf]),hst]
 |field T x f=>simp only[bO];rw[he x (by simp[opsOf])]
 |indexAddr T x i=>simp only[bO,gx];rw[he x (by simp[opsOf]),he i (by simp[opsOf]),hst]
 |index T x i=>simp only[bO];rw[he x (by simp[opsOf]),he i (by simp[opsOf])]
 |lookup T m k ok=>simp only[bO,mT];rw[he m (by simp[opsOf]),he k (by simp[opsOf]),hst]
 |extract x i=>simp only[bO];rw[he x (by simp[opsOf])]
 |makeFunc fn first caps=>
  cases fn with
  |func f=>simp only[bO];rw[gE (fun x hx=>he x (by simpa[opsOf] using hx))]
  |_=>rfl
 |build T parts=>simp only[bO];rw[iY (fun x hx=>he x (by simpa only[opsOf] using hx))]
 | call c=>
  obtain⟨callee,args,ats⟩:=c
  cases callee with
  |builtin b=>
   have:=gE (s1:=s1) (s2:=s2) (l:=args.toList) (fun x hx=>he x (by simpa only[opsOf] using hx))
   cases b<;>first|rfl|(simp only[bO];rw[this];done)|(simp only[bO];rw[this,hst])
  |value g=>
   have:=gE (s1:=s1) (s2:=s2) (l:=args.toList) (fun x hx=>he x (by simp only[opsOf,ac4];exact .inr hx))
   cases g<;>first|rfl|(simp only[bO];rw[this,hst])
  |invoke r m=>rfl
 |_=>rfl
def Kept(st st':List Obj):Prop:=∀i,az st i= .dead\/az st' i=az st i
theorem Kept.refl(st:List Obj):Kept st st:=fun _=> .inr rfl
theorem Kept.app(st l:List Obj):Kept st (st++l):=fun i=>by
 rcases Nat.lt_or_ge i st.length with h|h
 ·exact .inr (dV _ _ _ h)
 ·exact .inl (eD _ _ h)
theorem Kept.ia{st st':List Obj}(h:Kept st st'){i:Nat}{x:TypeId×List AV}(he:ia (az st i)=some x):ia (az st' i)=some x:=by
 rcases h i with e|e
 ·rw[e] at he;cases he
 ·rw[e];exact he
theorem Kept.get{st st':List Obj}(h:Kept st st'){i:Nat}{o:Obj}(he:az st i=o)(hd:o≠ .dead):az st' i=o:=by
 rcases h i with e|e
 ·exact absurd (he.symm.trans e) hd
 ·exact e.trans he
theorem Kept.live{st st':List Obj}(h:Kept st st'){i:Nat}(he:kU st i=true):kU st' i=true:=by
 unfold kU at he⊢
 rcases h i with e|e
 ·rw[e] at he;cases he
 ·rw[e];exact he
mutual
theorem kZ{st st':List Obj}(h:Kept st st'): ∀(a b:AV),cr st a=some b->cr st' a=some b
 | .lit v,b,e=>by simpa only[cr] using e
 | .ad T l,b,e=>by simpa only[cr] using e
 | .ar i lo n,b,e=>by
  simp only[cr] at e⊢
  split at e
  ·rename_i T xs hx
   rw[h.ia hx];exact e
  ·cases e
 | .agg l,b,e=>by
  simp only[cr] at e⊢
  cases hl:lv st l with
  |none=>rw[hl] at e;cases e
  |some m=>rw[hl] at e;rw[uQ h l m hl];exact e
 | .jX T a,b,e=>by simpa only[cr] using e
 | .jq T a,b,e=>by
  simp only[cr] at e⊢
  cases ha:cr st a with
  |none=>rw[ha] at e;cases e
  |some m=>rw[ha] at e;rw[kZ h a m ha];exact e
 | .bQ f caps,b,e=>by
  cases caps with
  |nil=>simpa only[cr] using e
  |cons x l=>simp[cr] at e
 | .ptr _ _ _ _,b,e=>by simp[cr] at e
 | .jJ _ _ _ _,b,e=>by simpa only[cr] using e
 | .mp i,b,e=>by
  simp only[cr] at e⊢
  rcases h i with e2|e2
  ·rw[e2] at e;cases e
  ·rw[e2];exact e
 | .bp _,b,e=>by simp[cr] at e
 | .cP,b,e=>by simp[cr] at e
 | .cK _,b,e=>by simp[cr] at e
 | .kx _ _,b,e=>by simp[cr] at e
theorem uQ{st st':List Obj}(h:Kept st st'): ∀(l m:List AV),lv st l=some m->lv st' l=some m
 |[],m,e=>by simpa only[lv] using e
 | a::l,m,e=>by
  simp only[lv] at e⊢
  cases ha:cr st a with
  |none=>rw[ha] at e;cases e
  |some b=>
   cases hl:lv st l with
   |none=>rw[ha,hl] at e;cases e
   |some k=>rw[ha,hl] at e;rw[kZ h a b ha,uQ h l k hl];exact e
end
theorem EO{st st':List Obj}(h:Kept st st'){a b:AV}(e:rr st a=some b):rr st' a=some b:=by
 unfold rr at e⊢
 cases a with
 | ar i lo m=>
  cases lo with
  |zero=>exact kZ h _ _ e
  | succ k=>
   rcases h i with e2|e2
   ·simp[e2,cr,ia] at e
   ·cases hx:az st i with
    |rows T E ls pd=>rw[hx] at e2;simp only[hx] at e;simp only[e2];exact e
    |_=>rw[hx] at e2;simp only[hx] at e;simp only[e2];exact kZ h _ _ e
 |_=>exact kZ h _ _ e
theorem ph{st st':List Obj}(h:Kept st st'): ∀(l m:List AV),fE st l=some m->fE st' l=some m
 |[],m,e=>by simpa only[fE] using e
 | a::l,m,e=>by
  simp only[fE] at e⊢
  cases ha:rr st a with
  |none=>rw[ha] at e;cases e
  |some b=>
   cases hl:fE st l with
   |none=>rw[ha,hl] at e;cases e
   |some k=>rw[ha,hl] at e;rw[EO h ha,ph h l k hl];exact e
theorem Fw{P:Program}{st st':List Obj}(h:Kept st st'){T:TypeId}{a:AV}{x:Bool×AV}(e:np P st T a=some x):np P st' T a=some x:=by
 cases a<;>try exact e
 rename_i i k p off
 rcases h i with e2|e2
 ·simp only[np,e2] at e;cases e
 ·simp only[np,e2] at e⊢;exact e
theorem H7{P:Program}{st st':List Obj}(h:Kept st st'){T:TypeId}{a x:AV}(e:zk P st T a=some x):zk P st' T a=some x:=by
 unfold zk at e⊢
 split at e<;>try exact e
 ·rename_i i _
  rcases h i with e2|e2
  ·rw[e2] at e;cases e
  ·rw[e2];exact e
 ·rename_i i _ _ _
  rcases h i with e2|e2
  ·rw[e2] at e;cases e
  ·rw[e2];exact e
theorem w9{P:Program}{st st':List Obj}(h:Kept st st'){T:TypeId}{a:AV}{f:Nat}{x:Bool×AV}(e:gz P st T a f=some x):gz P st' T a f=some x:=by
 unfold gz at e⊢
 split at e
 ·cases e
 ·split at e
  ·cases e
  ·rename_i h1
   rw[if_neg h1]
   split at e
   ·split at e
    ·rename_i h2
     rw[if_pos (h.live h2)];exact e
    ·cases e
   ·exact e
   ·cases e
theorem Dh{P:Program}{s s':S}(h:Kept s.st s'.st){T:TypeId}{a:AV}{lo hi:Option Operand}(h1: ∀d,fL s lo d=fL s' lo d)(h2: ∀d,fL s hi d=fL s' hi d){x:Bool×AV}(e:qi P s T a lo hi=some x):qi P s' T a lo hi=some x:=by
 unfold qi at e⊢
 simp only[←h1,←h2]
 split at e<;>try exact e
 cases hx:ia (az s.st _) with
 |none=>rw[hx] at e;split at e<;>first|cases e|simp_all
 |some y=>rw[hx] at e;rw[h.ia hx];exact e
theorem vd{P:Program}{s s':S}(h:Kept s.st s'.st){T:TypeId}{a i:AV}{x:Bool×AV}(e:gx P s T a i=some x):gx P s' T a i=some x:=by
 unfold gx at e⊢
 split at e<;>try exact e
 split at e<;>try exact e
 split at e
 ·rename_i hx
  rw[h.ia hx];exact e
 ·split at e
  ·rename_i hst
   have:=h.get hst (by simp)
   rw[this];exact e
  ·cases e
theorem Cu{P:Program}{s s':S}(h:Kept s.st s'.st){T:TypeId}{a:AV}{lo hi:Option Operand}{m:Operand}(h1: ∀o,uW s o=uW s' o){x:Bool×AV}(e:na P s T a lo hi m=some x):na P s' T a lo hi m=some x:=by
 unfold na at e⊢
 simp only[←h1]
 split at e<;>try exact e
 cases hx:ia (az s.st _) with
 |none=>rw[hx] at e;split at e<;>first|cases e|simp_all
 |some y=>rw[hx] at e;rw[h.ia hx];exact e
theorem Bb{P:Program}{s s':S}(h:Kept s.st s'.st){T:TypeId}{m k:AV}{ok:Bool}{x:Bool×AV}(e:mT P s T m k ok=some x):mT P s' T m k ok=some x:=by
 unfold mT at e⊢
 split at e<;>try exact e
 split at e<;>try exact e
 rename Nat=>i
 rcases h i with e2|e2
 ·rw[e2] at e;cases e
 ·rw[e2];exact e
theorem IW{E:Env}{s1 s2:S}{o:Op}(h:tx o s1 s2)(hk:Kept s1.st s2.st){x:Bool×AV}(e:bO E s1 o=some x):bO E s2 o=some x:=by
 have he:=h.ev
 have e0:bO E {s2 with st:=s1.st} o=some x:=by
  rw[←e]
  exact(xX (s1:=s1) (s2:={s2 with st:=s1.st}) ⟨fun y hy=>by rw[he y hy];cases y<;>rfl⟩ rfl).symm
 cases o with
 |load T y=>
  simp only[bO] at e0⊢
  have e1:ev {s2 with st:=s1.st} y=ev s2 y:=by cases y<;>rfl
  rw[e1] at e0
  split at e0
  ·exact e0
  ·exact Fw hk e0
 | nilCheck y=>
  simp only[bO] at e0⊢
  have e1:ev {s2 with st:=s1.st} y=ev s2 y:=by cases y<;>rfl
  rw[e1] at e0
  split at e0<;>try exact e0
  split at e0
  ·rename_i h2
   rw[if_pos (hk.live h2)];exact e0
  ·cases e0
 | slice T y lo hi m=>
  cases m with
  | some m=>
   simp only[bO] at e0⊢
   have e1:ev {s2 with st:=s1.st} y=ev s2 y:=by cases y<;>rfl
   rw[e1] at e0
   have hb: ∀(o:Option Operand),uW {s2 with st:=s1.st} o=uW s2 o:=fun o=>by
    cases o with
    |none=>rfl
    |some y=>cases y<;>rfl
   exact Cu (s:={s2 with st:=s1.st}) hk hb e0
  | none=>
   simp only[bO] at e0⊢
   have e1:ev {s2 with st:=s1.st} y=ev s2 y:=by cases y<;>rfl
   rw[e1] at e0
   have hb: ∀(o:Option Operand) d,fL {s2 with st:=s1.st} o d=fL s2 o d:=fun o d=>by
    cases o with
    |none=>rfl
    |some y=>cases y<;>rfl
   exact Dh (s:={s2 with st:=s1.st}) hk (hb lo) (hb hi) e0
 |fieldAddr T y f=>
  simp only[bO] at e0⊢
  have e1:ev {s2 with st:=s1.st} y=ev s2 y:=by cases y<;>rfl
  rw[e1] at e0
  exact w9 hk e0
 |indexAddr T y i=>
  simp only[bO] at e0⊢
  have e1: ∀y,ev {s2 with st:=s1.st} y=ev s2 y:=fun y=>by cases y<;>rfl
  rw[e1,e1] at e0
  exact vd (s:={s2 with st:=s1.st}) hk e0
 |lookup T m k ok=>
  simp only[bO] at e0⊢
  have e1: ∀y,ev {s2 with st:=s1.st} y=ev s2 y:=fun y=>by cases y<;>rfl
  rw[e1,e1] at e0
  exact Bb (s:={s2 with st:=s1.st}) hk e0
 | call c=>
  obtain⟨callee,args,ats⟩:=c
  have e1: ∀l,nt {s2 with st:=s1.st} l=nt s2 l:=fun l=>gE fun y _=>by cases y<;>rfl
  cases callee with
  | builtin b=>
   cases b<;>try (simp only[bO,e1] at e0⊢;exact e0)
   simp only[bO,e1] at e0⊢
   split at e0<;>try exact e0
   split at e0
   ·rename_i hx
    rw[H7 hk hx];exact e0
   ·cases e0
  | value g=>
   cases g<;>try (simp only[bO] at e0⊢;exact e0)
   simp only[bO,e1] at e0⊢
   split at e0
   ·rename_i hx
    rw[ph hk _ _ hx];exact e0
   ·cases e0
  |invoke r m=>exact e0
 |makeFunc fn first caps=>
  have e1: ∀l,nt {s2 with st:=s1.st} l=nt s2 l:=fun l=>gE fun y _=>by cases y<;>rfl
  cases fn<;>try (simp only[bO] at e0⊢;exact e0)
  simp only[bO,e1] at e0⊢;exact e0
 |build T parts=>
  have e1: ∀l,fx {s2 with st:=s1.st} l=fx s2 l:=fun l=>iY fun y _=>by cases y<;>rfl
  simp only[bO,e1] at e0⊢;exact e0
 |_=>
  have e1: ∀y,ev {s2 with st:=s1.st} y=ev s2 y:=fun y=>by cases y<;>rfl
  simp only[bO,e1] at e0⊢;exact e0
theorem BR(st st':List Obj)(s s':S)(v:Value):rr st (ev s (.const v))=rr st' (ev s' (.const v)):=by
 simp only[ev]
 split<;>rfl
theorem n8(st st':List Obj)(s s':S): ∀l:List Operand,Is l=true->fE st (nt s l)=fE st' (nt s' l)
 |[],_=>rfl
 | .const v::l,h=>by
  simp only[nt,fE]
  rw[BR st st' s s' v,n8 st st' s s' l h]
 | .tmp _::_,h=>nomatch h
 | .global _::_,h=>nomatch h
 | .func _::_,h=>nomatch h
theorem Er{E:Env}{s1 s2:S}{o:Op}(h:tx o s1 s2)(hc:eC E.quiet o=0):bO E s1 o=bO E s2 o:=by
 have he:=h.ev
 cases o with
 |move x=>simp only[bO];rw[he x (by simp[opsOf])]
 |assign x=>simp only[bO];rw[he x (by simp[opsOf])]
 |binOp op T x y T'=>simp only[bO];rw[he x (by simp[opsOf]),he y (by simp[opsOf])]
 |unOp op T x=>simp only[bO];rw[he x (by simp[opsOf])]
 |makeInterface T x=>simp only[bO];rw[he x (by simp[opsOf])]
 |convert S T x=>simp only[bO];rw[he x (by simp[opsOf])]
 |extract x i=>simp only[bO];rw[he x (by simp[opsOf])]
 |makeFunc fn first caps=>
  cases fn with
  |func f=>simp only[bO];rw[gE (fun x hx=>he x (by simpa[opsOf] using hx))]
  |_=>rfl
 |pick c a b=>rfl
 |load T x=>simp[eC] at hc
 |nilCheck x=>simp[eC] at hc
 |slice T x lo hi m=>simp[eC] at hc
 |fieldAddr T x f=>simp[eC] at hc
 |field T x f=>simp only[bO];rw[he x (by simp[opsOf])]
 |indexAddr T x i=>simp[eC] at hc
 |index T x i=>simp only[bO];rw[he x (by simp[opsOf]),he i (by simp[opsOf])]
 |lookup T m k ok=>simp[eC] at hc
 |build T parts=>simp only[bO];rw[iY (fun x hx=>he x (by simpa only[opsOf] using hx))]
 | call c=>
  obtain⟨callee,args,ats⟩:=c
  cases callee with
  |builtin b=>cases b<;>simp[eC] at hc
  | value g=>
   cases g with
   | func f=>
    simp only[eC] at hc
    cases hq:E.quiet f with
    |false=>simp[hq] at hc
    |true=>
     rw[hq,aa9] at hc
     cases ha:Is args.toList with
     |false=>simp[ha] at hc
     |true=>simp only[bO];rw[n8 s1.st s2.st s1 s2 _ ha]
   |_=>simp[eC] at hc
  |invoke r m=>simp[eC] at hc
 |_=>rfl
theorem BA{s1 s2:S}{o:Op}(h:tx o s1 s2):gB s1 o=gB s2 o:=by
 have he:=h.ev
 cases o with
 | call c=>
  obtain⟨callee,args,ats⟩:=c
  cases callee with
  |value g=>
   simp only[gB]
   rw[he g (by simp[opsOf]),gE (fun x hx=>he x (by simp only[opsOf,ac4];exact .inr hx))]
  |_=>rfl
 |_=>rfl
theorem AH{P:Program}{s1 s2:S}(hst:s1.st=s2.st){T:TypeId}{x y:AV}{K1 K2:List Obj->AV->Prop}(hK: ∀st a,K1 st a->K2 st a)(h:oI P s1 T x y K1):oI P s2 T x y K2:=by
 unfold oI at h⊢
 rw[hst] at h
 split at h<;>try exact h.elim
 rename_i q0
 try simp only[q0]
 split at h<;>try exact h.elim
 rename_i q0 q1
 try simp only[q0,q1]
 split at h<;>try exact h.elim
 rename_i q0
 try simp only[q0]
 split at h<;>try exact h.elim
 ·exact dk (hK _ _) h
 ·split at h<;>try exact h.elim
  ·rename_i q0
   try simp only[q0]
   split at h<;>try exact h.elim
   rename_i hif
   try rw[if_pos hif]
   exact dk (hK _ _) h
  ·rename_i q0
   try simp only[q0]
   split at h<;>try exact h.elim
   rename_i q1
   try simp only[q1]
   split at h<;>try exact h.elim
   rename_i hif
   try rw[if_pos hif]
   exact dk (hK _ _) h
theorem C8{P:Program}{s1 s2:S}(hst:s1.st=s2.st){T:TypeId}{x y:AV}{K1 K2:List Obj->Prop}(hK: ∀st,K1 st->K2 st)(h:qg P s1 T x y K1):qg P s2 T x y K2:=by
 unfold qg at h⊢
 rw[hst] at h
 split at h<;>try exact h.elim
 split at h<;>try exact h.elim
 ·rename_i h1
  try simp only[h1]
  split at h<;>try exact h.elim
  rename_i hif
  try rw[if_pos hif]
  exact hK _ h
 ·rename_i h1
  try simp only[h1]
  split at h<;>try exact h.elim
  rename_i q0 q1
  try simp only[q0,q1]
  split at h<;>try exact h.elim
  rename_i hif
  try rw[if_pos hif]
  exact hK _ h
 ·rename_i h1
  try simp only[h1]
  split at h<;>try exact h.elim
  split at h<;>try exact h.elim
  rename_i hif
  try rw[if_pos hif]
  exact dk (hK _) h
theorem qT{P:Program}{st:List Obj}{T:TypeId}{y:Operand}{a:AV}{K1 K2:Bool->Prop}(hK: ∀b,K1 b->K2 b)(h:mS P st T y a K1):mS P st T y a K2:=by
 unfold mS at h⊢
 split at h
 ·split at h
  ·exact hK _ h
  ·exact⟨fun e=>hK _ (h.1 e),hK _ h.2⟩
  ·split at h
   ·exact⟨fun e=>hK _ (h.1 e),hK _ h.2⟩
   ·exact h.elim
  ·exact h.elim
 ·exact h.elim
theorem wU{P:Program}{Kt Vt:TypeId}{es:List (Value×AV)}{ks:List Value}{p p':Value->AV->Prop}{q q':Prop}(hp: ∀k a,p k a->p' k a)(hq:q->q')(h:CP P Kt Vt es ks p q):CP P Kt Vt es ks p' q':=by
 refine⟨?_,fun hs=>hq (h.2 hs)⟩
 have h1:=h.1
 split at h1
 ·exact fun n v a b=>hp _ _ (h1 n v a b)
 ·exact fun n v a b=>hp _ _ (h1 n v a b)
 ·exact h1.elim
theorem um{P:Program}{s1 s2:S}{o:Op}(hs:tx o s1 s2)(hst:s1.st=s2.st){d1 d2:Option Tmp}{K1 K2:S->Prop}(hK: ∀st a,K1 (put {s1 with st:=st} d1 a)->K2 (put {s2 with st:=st} d2 a))
  (h:cu P s1 d1 o K1):cu P s2 d2 o K2:=by
 have he:=hs.ev
 cases o with
 |alloc T=>
  simp only[cu] at h⊢
  rw[hst] at h
  split at h<;>try exact h.elim
  rename_i q0
  try simp only[q0]
  exact hK _ _ h
 |box T x=>
  simp only[cu] at h⊢
  rw[hst,he x (by simp[opsOf])] at h
  split at h<;>try exact h.elim
  rename_i hif
  try rw[if_pos hif]
  exact hK _ _ h
 |store T p x=>
  simp only[cu] at h⊢
  rw[he x (by simp[opsOf]),he p (by simp[opsOf])] at h
  exact C8 hst (fun st=>hK st _) h
 |buildSlice T len parts=>
  simp only[cu] at h⊢
  rw[hst,iY (fun x hx=>he x (by simpa only[opsOf] using hx))] at h
  split at h<;>try exact h.elim
  rename_i q0
  try simp only[q0]
  split at h<;>try exact h.elim
  rename_i q0
  try simp only[q0]
  split at h<;>try exact h.elim
  rename_i q0
  try simp only[q0]
  split at h<;>try exact h.elim
  rename_i hif
  try rw[if_pos hif]
  exact hK _ _ h
 |makeSlice T ln cp=>
  simp only[cu] at h⊢
  rw[hst,he ln (by simp[opsOf]),he cp (by simp[opsOf])] at h
  split at h<;>try exact h.elim
  rename_i q0 q1 q2
  try simp only[q0,q1,q2]
  split at h<;>try exact h.elim
  rename_i q0
  try simp only[q0]
  exact dk (hK _ _) h
 | makeMap T r=>
  cases r with
  |some r=>exact h.elim
  |none=>
   simp only[cu] at h⊢
   rw[hst] at h
   split at h<;>try exact h.elim
   rename_i q0
   try simp only[q0]
   exact hK _ _ h
 |mapUpdate T m k x=>
  simp only[cu] at h⊢
  rw[hst,he m (by simp[opsOf]),he k (by simp[opsOf]),he x (by simp[opsOf])] at h
  split at h<;>try exact h.elim
  rename_i q0 q1 q2 q3
  try simp only[q0,q1,q2,q3]
  split at h<;>try exact h.elim
  rename_i q0
  try simp only[q0]
  split at h<;>try exact h.elim
  rename_i hif
  try rw[if_pos hif]
  exact hK _ _ h
 |mapEntry T m k=>
  simp only[cu] at h⊢
  rw[hst,he m (by simp[opsOf]),he k (by simp[opsOf])] at h
  split at h<;>try exact h.elim
  rename_i q0 q1 q2
  try simp only[q0,q1,q2]
  split at h<;>try exact h.elim
  rename_i q0 q1
  try simp only[q0,q1]
  split at h<;>try exact h.elim
  rename_i hif
  try rw[if_pos hif]
  exact hK _ _ h
 |entryStore T m kx x=>
  simp only[cu] at h⊢
  rw[hst,he m (by simp[opsOf]),he kx (by simp[opsOf]),he x (by simp[opsOf])] at h
  split at h<;>try exact h.elim
  rename_i q0 q1 q2 q3
  try simp only[q0,q1,q2,q3]
  split at h<;>try exact h.elim
  rename_i q0
  try simp only[q0]
  split at h<;>try exact h.elim
  rename_i hif
  try rw[if_pos hif]
  exact hK _ _ h
 | range T x=>
  simp only[cu] at h⊢
  rw[hst,he x (by simp[opsOf])] at h
  split at h<;>try exact h.elim
  ·rename_i q0 q1
   try simp only[q0,q1]
   split at h<;>try exact h.elim
   rename_i q0
   try simp only[q0]
   exact hK _ _ h
  ·rename_i q0 q1
   try simp only[q0,q1]
   exact hK _ _ h
  ·rename_i q0 q1
   try simp only[q0,q1]
   exact hK _ _ h
  ·rename_i q0 q1
   try simp only[q0,q1]
   exact hK _ _ h
 | next it str=>
  cases str with
  | true=>
   simp only[cu] at h⊢
   rw[hst,he it (by simp[opsOf])] at h
   split at h<;>try exact h.elim
   rename_i q0
   try simp only[q0]
   split at h<;>try exact h.elim
   rename_i q0
   try simp only[q0]
   have hK': ∀a,K1 (put s1 d1 a)->K2 (put s2 d2 a):=fun a hh=>by
    have:=hK s1.st a hh
    rw[show({s2 with st:=s1.st}:S)=s2 by rw[hst]] at this
    exact this
   obtain⟨h1,h2⟩:=Gc h
   cases hb:Nat.blt _ _ with
   |true=>rw[hb] at h1;exact hK _ _ (h1 rfl)
   |false=>rw[hb] at h2;exact hK' _ (h2 rfl)
  | false=>
   simp only[cu] at h⊢
   rw[hst,he it (by simp[opsOf])] at h
   have hK': ∀a,K1 (put s1 d1 a)->K2 (put s2 d2 a):=fun a hh=>by
    have:=hK s1.st a hh
    rw[show({s2 with st:=s1.st}:S)=s2 by rw[hst]] at this
    exact this
   split at h<;>try exact h.elim
   rename_i q0
   try simp only[q0]
   split at h<;>try exact h.elim
   ·rename_i q0
    try simp only[q0]
    split at h
    case h_2=>
     rename_i q0
     split at h<;>try exact h.elim
     exact hK' _ h
    rename_i q0
    try simp only[q0]
    exact dk (wU (fun k a=>hK _ _) (hK' _)) h
   ·rename_i q0
    try simp only[q0]
    exact wU (fun k a=>hK _ _) (hK' _) h
 | entry it=>
  have hK': ∀a,K1 (put s1 d1 a)->K2 (put s2 d2 a):=fun a hh=>by
   have:=hK s1.st a hh
   rw[show({s2 with st:=s1.st}:S)=s2 by rw[hst]] at this
   exact this
  simp only[cu] at h⊢
  rw[hst,he it (by simp[opsOf])] at h
  split at h<;>try exact h.elim
  rename_i q0
  try simp only[q0]
  split at h
  case h_3=>exact h.elim
  case h_2=>
   rename_i q1
   try simp only[q1]
   split at h<;>try exact h.elim
   rename_i q0
   try simp only[q0]
   exact hK' _ h
  rename_i q0
  try simp only[q0]
  split at h<;>try exact h.elim
  rename_i q0
  try simp only[q0]
  split at h<;>try exact h.elim
  rename_i q0
  try simp only[q0]
  exact dk (hK' _) h
 | call c=>
  obtain⟨callee,args,ats⟩:=c
  cases callee with
  | builtin b=>
   cases b<;>try exact h.elim
   case clear=>
    simp only[cu] at h⊢
    rw[gE (fun x hx=>he x (by simpa only[opsOf] using hx)),hst] at h
    split at h<;>try exact h.elim
    rename_i q0 q1
    try simp only[q0,q1]
    split at h<;>try exact h.elim
    rename_i q0 q1
    try simp only[q0,q1]
    split at h<;>try exact h.elim
    rename_i q0
    try simp only[q0]
    split at h<;>try exact h.elim
    rename_i hif
    try rw[if_pos hif]
    exact hK _ _ h
   simp only[cu] at h⊢
   rw[gE (fun x hx=>he x (by simpa only[opsOf] using hx))] at h
   split at h<;>try exact h.elim
   rename_i q0 q1
   try simp only[q0,q1]
   split at h<;>try exact h.elim
   rename_i hif
   try rw[if_pos hif]
   exact AH hst (fun st a=>hK st a) h
  |_=>exact h.elim
 | binOp op T x y T'=>
  have hK': ∀a,K1 (put s1 d1 a)->K2 (put s2 d2 a):=fun a hh=>by
   have:=hK s1.st a hh
   rw[show({s2 with st:=s1.st}:S)=s2 by rw[hst]] at this
   exact this
  cases op with
  |eql=>
   simp only[cu] at h⊢
   rw[hst,he x (by simp[opsOf])] at h
   exact qT (fun _=>hK' _) h
  |neq=>
   simp only[cu] at h⊢
   rw[hst,he x (by simp[opsOf])] at h
   exact qT (fun _=>hK' _) h
  |_=>exact h.elim
 |_=>exact h.elim
end Go.Dn
