import Derived.Test.YthaiinlfnommnaaGreatDoorDnZ
namespace Go.Dn
open Go
structure sZ(o:Op)(s1 s2:S):Prop where
 ev: ∀x,x∈opsOf o->ev s1 x=ev s2 x
theorem gr{s1 s2:S}: ∀{l:List Operand},(∀x,x∈l->ev s1 x=ev s2 x)->mZ s1 l=mZ s2 l
 |[],_=>rfl
 |x::l,h=>by
  simp only[mZ]
  rw[h x (by simp),gr (fun y hy=>h y (by simp[hy]))]
theorem jc{s1 s2:S}: ∀{l:List (Nat×Operand)},(∀x,x∈l.map (·.2)->ev s1 x=ev s2 x)->fp s1 l=fp s2 l
 |[],_=>rfl
 |(i,x)::l,h=>by
  simp only[fp]
  rw[h x (by simp),jc (fun y hy=>h y (by simp at hy⊢;exact .inr hy))]
theorem sM{s1 s2:S}{o:Option Operand}{d:Nat}(h: ∀x,x∈pX o->ev s1 x=ev s2 x):fL s1 o d=fL s2 o d:=by
 cases o with
 |none=>rfl
 |some x=>simp only[fL];rw[h x (by simp[pX])]
theorem yo{s1 s2:S}{o:Option Operand}(h: ∀x,x∈pX o->ev s1 x=ev s2 x):vQ s1 o=vQ s2 o:=by
 cases o with
 |none=>rfl
 |some x=>simp only[vQ];rw[h x (by simp[pX])]
theorem yh{E:Env}{s1 s2:S}{o:Op}(h:sZ o s1 s2)(hst:s1.st=s2.st):bK E s1 o=bK E s2 o:=by
 have he:=h.ev
 cases o with
 |move x=>simp only[bK];rw[he x (by simp[opsOf])]
 |assign x=>simp only[bK];rw[he x (by simp[opsOf])]
 |load T x=>simp only[bK];rw[he x (by simp[opsOf]),hst]
 |nilCheck x=>simp only[bK];rw[he x (by simp[opsOf]),hst]
 |binOp op T x y T'=>simp only[bK];rw[he x (by simp[opsOf]),he y (by simp[opsOf])]
 |unOp op T x=>simp only[bK];rw[he x (by simp[opsOf])]
 |makeInterface T x=>simp only[bK];rw[he x (by simp[opsOf])]
 |convert S T x=>simp only[bK];rw[he x (by simp[opsOf])]
 | slice T x lo hi m=>
  cases m with
  |some m=>
   simp only[bK,mu]
   rw[he x (by simp[opsOf]),hst,yo (o:=hi) (fun y hy=>he y (by simp[opsOf,hy])),yo (o:=some m) (fun y hy=>he y (by simp[opsOf,hy]))]
  |none=>
   simp only[bK,pT]
   rw[he x (by simp[opsOf]),hst]
   simp only[sM (s1:=s1) (s2:=s2) (o:=lo) (fun y hy=>he y (by simp[opsOf,hy])),sM (s1:=s1) (s2:=s2) (o:=hi) (fun y hy=>he y (by simp[opsOf,hy]))]
 |fieldAddr T x f=>simp only[bK];rw[he x (by simp[opsOf]),hst]
 |field T x f=>simp only[bK];rw[he x (by simp[opsOf])]
 |indexAddr T x i=>simp only[bK,gn];rw[he x (by simp[opsOf]),he i (by simp[opsOf]),hst]
 |index T x i=>simp only[bK];rw[he x (by simp[opsOf]),he i (by simp[opsOf])]
 |lookup T m k ok=>simp only[bK,mF];rw[he m (by simp[opsOf]),he k (by simp[opsOf]),hst]
 |extract x i=>simp only[bK];rw[he x (by simp[opsOf])]
 |makeFunc fn first caps=>
  cases fn with
  |func f=>simp only[bK];rw[gr (fun x hx=>he x (by simpa[opsOf] using hx))]
  |_=>rfl
 |build T parts=>simp only[bK];rw[jc (fun x hx=>he x (by simpa only[opsOf] using hx))]
 | call c=>
  obtain⟨callee,args,ats⟩:=c
  cases callee with
  |builtin b=>
   have:=gr (s1:=s1) (s2:=s2) (l:=args.toList) (fun x hx=>he x (by simpa only[opsOf] using hx))
   cases b<;>first|rfl|(simp only[bK];rw[this];done)|(simp only[bK];rw[this,hst])
  |value g=>
   have:=gr (s1:=s1) (s2:=s2) (l:=args.toList) (fun x hx=>he x (by simp only[opsOf,ac3];exact .inr hx))
   cases g<;>first|rfl|(simp only[bK];rw[this,hst])
  |invoke r m=>rfl
 |_=>rfl
def Kept(st st':List Obj):Prop:=∀i,ax st i= .dead\/ax st' i=ax st i
theorem Kept.refl(st:List Obj):Kept st st:=fun _=> .inr rfl
theorem Kept.app(st l:List Obj):Kept st (st++l):=fun i=>by
 rcases Nat.lt_or_ge i st.length with h|h
 ·exact .inr (dR _ _ _ h)
 ·exact .inl (eg _ _ h)
theorem Kept.gY{st st':List Obj}(h:Kept st st'){i:Nat}{x:TypeId×List AV}(he:gY (ax st i)=some x):gY (ax st' i)=some x:=by
 rcases h i with e|e
 ·rw[e] at he;cases he
 ·rw[e];exact he
theorem Kept.get{st st':List Obj}(h:Kept st st'){i:Nat}{o:Obj}(he:ax st i=o)(hd:o≠ .dead):ax st' i=o:=by
 rcases h i with e|e
 ·exact absurd (he.symm.trans e) hd
 ·exact e.trans he
theorem Kept.live{st st':List Obj}(h:Kept st st'){i:Nat}(he:kB st i=true):kB st' i=true:=by
 unfold kB at he⊢
 rcases h i with e|e
 ·rw[e] at he;cases he
 ·rw[e];exact he
mutual
theorem kM{st st':List Obj}(h:Kept st st'): ∀(a b:AV),ck st a=some b->ck st' a=some b
 | .lit v,b,e=>by simpa only[ck] using e
 | .ad T l,b,e=>by simpa only[ck] using e
 | .aq i lo n,b,e=>by
  simp only[ck] at e⊢
  split at e
  ·rename_i T xs hx
   rw[h.gY hx];exact e
  ·cases e
 | .agg l,b,e=>by
  simp only[ck] at e⊢
  cases hl:ly st l with
  |none=>rw[hl] at e;cases e
  |some m=>rw[hl] at e;rw[v8 h l m hl];exact e
 | .jO T a,b,e=>by simpa only[ck] using e
 | .jj T a,b,e=>by
  simp only[ck] at e⊢
  cases ha:ck st a with
  |none=>rw[ha] at e;cases e
  |some m=>rw[ha] at e;rw[kM h a m ha];exact e
 | .bL f caps,b,e=>by
  cases caps with
  |nil=>simpa only[ck] using e
  |cons x l=>simp[ck] at e
 | .ptr _ _ _ _,b,e=>by simp[ck] at e
 | .jG _ _ _ _,b,e=>by simpa only[ck] using e
 | .mp i,b,e=>by
  simp only[ck] at e⊢
  rcases h i with e2|e2
  ·rw[e2] at e;cases e
  ·rw[e2];exact e
 | .bh _,b,e=>by simp[ck] at e
 | .cH,b,e=>by simp[ck] at e
 | .cD _,b,e=>by simp[ck] at e
 | .kq _ _,b,e=>by simp[ck] at e
theorem v8{st st':List Obj}(h:Kept st st'): ∀(l m:List AV),ly st l=some m->ly st' l=some m
 |[],m,e=>by simpa only[ly] using e
 | a::l,m,e=>by
  simp only[ly] at e⊢
  cases ha:ck st a with
  |none=>rw[ha] at e;cases e
  |some b=>
   cases hl:ly st l with
   |none=>rw[ha,hl] at e;cases e
   |some k=>rw[ha,hl] at e;rw[kM h a b ha,v8 h l k hl];exact e
end
theorem El{st st':List Obj}(h:Kept st st'){a b:AV}(e:qG st a=some b):qG st' a=some b:=by
 unfold qG at e⊢
 cases a with
 | aq i lo m=>
  cases lo with
  |zero=>exact kM h _ _ e
  | succ k=>
   rcases h i with e2|e2
   ·simp[e2,ck,gY] at e
   ·cases hx:ax st i with
    |rows T E ls pd=>rw[hx] at e2;simp only[hx] at e;simp only[e2];exact e
    |_=>rw[hx] at e2;simp only[hx] at e;simp only[e2];exact kM h _ _ e
 |_=>exact kM h _ _ e
theorem pw{st st':List Obj}(h:Kept st st'): ∀(l m:List AV),fv st l=some m->fv st' l=some m
 |[],m,e=>by simpa only[fv] using e
 | a::l,m,e=>by
  simp only[fv] at e⊢
  cases ha:qG st a with
  |none=>rw[ha] at e;cases e
  |some b=>
   cases hl:fv st l with
   |none=>rw[ha,hl] at e;cases e
   |some k=>rw[ha,hl] at e;rw[El h ha,pw h l k hl];exact e
theorem Dv{P:Program}{st st':List Obj}(h:Kept st st'){T:TypeId}{a:AV}{x:Bool×AV}(e:mW P st T a=some x):mW P st' T a=some x:=by
 cases a<;>try exact e
 rename_i i k p off
 rcases h i with e2|e2
 ·simp only[mW,e2] at e;cases e
 ·simp only[mW,e2] at e⊢;exact e
theorem HX{P:Program}{st st':List Obj}(h:Kept st st'){T:TypeId}{a x:AV}(e:yN P st T a=some x):yN P st' T a=some x:=by
 unfold yN at e⊢
 split at e<;>try exact e
 ·rename_i i _
  rcases h i with e2|e2
  ·rw[e2] at e;cases e
  ·rw[e2];exact e
 ·rename_i i _ _ _
  rcases h i with e2|e2
  ·rw[e2] at e;cases e
  ·rw[e2];exact e
theorem wG{P:Program}{st st':List Obj}(h:Kept st st'){T:TypeId}{a:AV}{f:Nat}{x:Bool×AV}(e:gA P st T a f=some x):gA P st' T a f=some x:=by
 unfold gA at e⊢
 split at e
 ·cases e
 ·split at e
  ·cases e
  ·rename_i h1
   rw[if_neg h1]
   split at e
   ·split at e
    ·rename_i h2
     rw[if_pos (h.live h2)];exact e
    ·cases e
   ·exact e
   ·cases e
theorem Cw{P:Program}{s s':S}(h:Kept s.st s'.st){T:TypeId}{a:AV}{lo hi:Option Operand}(h1: ∀d,fL s lo d=fL s' lo d)(h2: ∀d,fL s hi d=fL s' hi d){x:Bool×AV}(e:pT P s T a lo hi=some x):pT P s' T a lo hi=some x:=by
 unfold pT at e⊢
 simp only[←h1,←h2]
 split at e<;>try exact e
 cases hx:gY (ax s.st _) with
 |none=>rw[hx] at e;split at e<;>first|cases e|simp_all
 |some y=>rw[hx] at e;rw[h.gY hx];exact e
theorem wH{P:Program}{s s':S}(h:Kept s.st s'.st){T:TypeId}{a i:AV}{x:Bool×AV}(e:gn P s T a i=some x):gn P s' T a i=some x:=by
 unfold gn at e⊢
 split at e<;>try exact e
 split at e<;>try exact e
 split at e
 ·rename_i hx
  rw[h.gY hx];exact e
 ·split at e
  ·rename_i hst
   have:=h.get hst (by simp)
   rw[this];exact e
  ·cases e
theorem B9{P:Program}{s s':S}(h:Kept s.st s'.st){T:TypeId}{a:AV}{lo hi:Option Operand}{m:Operand}(h1: ∀o,vQ s o=vQ s' o){x:Bool×AV}(e:mu P s T a lo hi m=some x):mu P s' T a lo hi m=some x:=by
 unfold mu at e⊢
 simp only[←h1]
 split at e<;>try exact e
 cases hx:gY (ax s.st _) with
 |none=>rw[hx] at e;split at e<;>first|cases e|simp_all
 |some y=>rw[hx] at e;rw[h.gY hx];exact e
theorem Bt{P:Program}{s s':S}(h:Kept s.st s'.st){T:TypeId}{m k:AV}{ok:Bool}{x:Bool×AV}(e:mF P s T m k ok=some x):mF P s' T m k ok=some x:=by
 unfold mF at e⊢
 split at e<;>try exact e
 split at e<;>try exact e
 rename Nat=>i
 rcases h i with e2|e2
 ·rw[e2] at e;cases e
 ·rw[e2];exact e
theorem Ir{E:Env}{s1 s2:S}{o:Op}(h:sZ o s1 s2)(hk:Kept s1.st s2.st){x:Bool×AV}(e:bK E s1 o=some x):bK E s2 o=some x:=by
 have he:=h.ev
 have e0:bK E {s2 with st:=s1.st} o=some x:=by
  rw[←e]
  exact(yh (s1:=s1) (s2:={s2 with st:=s1.st}) ⟨fun y hy=>by rw[he y hy];cases y<;>rfl⟩ rfl).symm
 cases o with
 |load T y=>
  simp only[bK] at e0⊢
  have e1:ev {s2 with st:=s1.st} y=ev s2 y:=by cases y<;>rfl
  rw[e1] at e0
  split at e0
  ·exact e0
  ·exact Dv hk e0
 | nilCheck y=>
  simp only[bK] at e0⊢
  have e1:ev {s2 with st:=s1.st} y=ev s2 y:=by cases y<;>rfl
  rw[e1] at e0
  split at e0<;>try exact e0
  split at e0
  ·rename_i h2
   rw[if_pos (hk.live h2)];exact e0
  ·cases e0
 | slice T y lo hi m=>
  cases m with
  | some m=>
   simp only[bK] at e0⊢
   have e1:ev {s2 with st:=s1.st} y=ev s2 y:=by cases y<;>rfl
   rw[e1] at e0
   have hb: ∀(o:Option Operand),vQ {s2 with st:=s1.st} o=vQ s2 o:=fun o=>by
    cases o with
    |none=>rfl
    |some y=>cases y<;>rfl
   exact B9 (s:={s2 with st:=s1.st}) hk hb e0
  | none=>
   simp only[bK] at e0⊢
   have e1:ev {s2 with st:=s1.st} y=ev s2 y:=by cases y<;>rfl
   rw[e1] at e0
   have hb: ∀(o:Option Operand) d,fL {s2 with st:=s1.st} o d=fL s2 o d:=fun o d=>by
    cases o with
    |none=>rfl
    |some y=>cases y<;>rfl
   exact Cw (s:={s2 with st:=s1.st}) hk (hb lo) (hb hi) e0
 |fieldAddr T y f=>
  simp only[bK] at e0⊢
  have e1:ev {s2 with st:=s1.st} y=ev s2 y:=by cases y<;>rfl
  rw[e1] at e0
  exact wG hk e0
 |indexAddr T y i=>
  simp only[bK] at e0⊢
  have e1: ∀y,ev {s2 with st:=s1.st} y=ev s2 y:=fun y=>by cases y<;>rfl
  rw[e1,e1] at e0
  exact wH (s:={s2 with st:=s1.st}) hk e0
 |lookup T m k ok=>
  simp only[bK] at e0⊢
  have e1: ∀y,ev {s2 with st:=s1.st} y=ev s2 y:=fun y=>by cases y<;>rfl
  rw[e1,e1] at e0
  exact Bt (s:={s2 with st:=s1.st}) hk e0
 | call c=>
  obtain⟨callee,args,ats⟩:=c
  have e1: ∀l,mZ {s2 with st:=s1.st} l=mZ s2 l:=fun l=>gr fun y _=>by cases y<;>rfl
  cases callee with
  | builtin b=>
   cases b<;>try (simp only[bK,e1] at e0⊢;exact e0)
   simp only[bK,e1] at e0⊢
   split at e0<;>try exact e0
   split at e0
   ·rename_i hx
    rw[HX hk hx];exact e0
   ·cases e0
  | value g=>
   cases g<;>try (simp only[bK] at e0⊢;exact e0)
   simp only[bK,e1] at e0⊢
   split at e0
   ·rename_i hx
    rw[pw hk _ _ hx];exact e0
   ·cases e0
  |invoke r m=>exact e0
 |makeFunc fn first caps=>
  have e1: ∀l,mZ {s2 with st:=s1.st} l=mZ s2 l:=fun l=>gr fun y _=>by cases y<;>rfl
  cases fn<;>try (simp only[bK] at e0⊢;exact e0)
  simp only[bK,e1] at e0⊢;exact e0
 |build T parts=>
  have e1: ∀l,fp {s2 with st:=s1.st} l=fp s2 l:=fun l=>jc fun y _=>by cases y<;>rfl
  simp only[bK,e1] at e0⊢;exact e0
 |_=>
  have e1: ∀y,ev {s2 with st:=s1.st} y=ev s2 y:=fun y=>by cases y<;>rfl
  simp only[bK,e1] at e0⊢;exact e0
theorem CS(st st':List Obj)(s s':S)(v:Value):qG st (ev s (.const v))=qG st' (ev s' (.const v)):=by
 simp only[ev]
 split<;>rfl
theorem nk(st st':List Obj)(s s':S): ∀l:List Operand,HK l=true->fv st (mZ s l)=fv st' (mZ s' l)
 |[],_=>rfl
 | .const v::l,h=>by
  simp only[mZ,fv]
  rw[CS st st' s s' v,nk st st' s s' l h]
 | .tmp _::_,h=>nomatch h
 | .global _::_,h=>nomatch h
 | .func _::_,h=>nomatch h
theorem Dj{E:Env}{s1 s2:S}{o:Op}(h:sZ o s1 s2)(hc:ei E.quiet o=0):bK E s1 o=bK E s2 o:=by
 have he:=h.ev
 cases o with
 |move x=>simp only[bK];rw[he x (by simp[opsOf])]
 |assign x=>simp only[bK];rw[he x (by simp[opsOf])]
 |binOp op T x y T'=>simp only[bK];rw[he x (by simp[opsOf]),he y (by simp[opsOf])]
 |unOp op T x=>simp only[bK];rw[he x (by simp[opsOf])]
 |makeInterface T x=>simp only[bK];rw[he x (by simp[opsOf])]
 |convert S T x=>simp only[bK];rw[he x (by simp[opsOf])]
 |extract x i=>simp only[bK];rw[he x (by simp[opsOf])]
 |makeFunc fn first caps=>
  cases fn with
  |func f=>simp only[bK];rw[gr (fun x hx=>he x (by simpa[opsOf] using hx))]
  |_=>rfl
 |pick c a b=>rfl
 |load T x=>simp[ei] at hc
 |nilCheck x=>simp[ei] at hc
 |slice T x lo hi m=>simp[ei] at hc
 |fieldAddr T x f=>simp[ei] at hc
 |field T x f=>simp only[bK];rw[he x (by simp[opsOf])]
 |indexAddr T x i=>simp[ei] at hc
 |index T x i=>simp only[bK];rw[he x (by simp[opsOf]),he i (by simp[opsOf])]
 |lookup T m k ok=>simp[ei] at hc
 |build T parts=>simp only[bK];rw[jc (fun x hx=>he x (by simpa only[opsOf] using hx))]
 | call c=>
  obtain⟨callee,args,ats⟩:=c
  cases callee with
  |builtin b=>cases b<;>simp[ei] at hc
  | value g=>
   cases g with
   | func f=>
    simp only[ei] at hc
    cases hq:E.quiet f with
    |false=>simp[hq] at hc
    |true=>
     rw[hq,aa8] at hc
     cases ha:HK args.toList with
     |false=>simp[ha] at hc
     |true=>simp only[bK];rw[nk s1.st s2.st s1 s2 _ ha]
   |_=>simp[ei] at hc
  |invoke r m=>simp[ei] at hc
 |_=>rfl
theorem A7{s1 s2:S}{o:Op}(h:sZ o s1 s2):gy s1 o=gy s2 o:=by
 have he:=h.ev
 cases o with
 | call c=>
  obtain⟨callee,args,ats⟩:=c
  cases callee with
  |value g=>
   simp only[gy]
   rw[he g (by simp[opsOf]),gr (fun x hx=>he x (by simp only[opsOf,ac3];exact .inr hx))]
  |_=>rfl
 |_=>rfl
theorem zq{P:Program}{s1 s2:S}(hst:s1.st=s2.st){T:TypeId}{x y:AV}{K1 K2:List Obj->AV->Prop}(hK: ∀st a,K1 st a->K2 st a)(h:oV P s1 T x y K1):oV P s2 T x y K2:=by
 unfold oV at h⊢
 rw[hst] at h
 split at h<;>try exact h.elim
 rename_i q0
 try simp only[q0]
 split at h<;>try exact h.elim
 rename_i q0 q1
 try simp only[q0,q1]
 split at h<;>try exact h.elim
 rename_i q0
 try simp only[q0]
 split at h<;>try exact h.elim
 ·exact dj (hK _ _) h
 ·split at h<;>try exact h.elim
  ·rename_i q0
   try simp only[q0]
   split at h<;>try exact h.elim
   rename_i hif
   try rw[if_pos hif]
   exact dj (hK _ _) h
  ·rename_i q0
   try simp only[q0]
   split at h<;>try exact h.elim
   rename_i q1
   try simp only[q1]
   split at h<;>try exact h.elim
   rename_i hif
   try rw[if_pos hif]
   exact dj (hK _ _) h
theorem CM{P:Program}{s1 s2:S}(hst:s1.st=s2.st){T:TypeId}{x y:AV}{K1 K2:List Obj->Prop}(hK: ∀st,K1 st->K2 st)(h:pE P s1 T x y K1):pE P s2 T x y K2:=by
 unfold pE at h⊢
 rw[hst] at h
 split at h<;>try exact h.elim
 split at h<;>try exact h.elim
 ·rename_i h1
  try simp only[h1]
  split at h<;>try exact h.elim
  rename_i hif
  try rw[if_pos hif]
  exact hK _ h
 ·rename_i h1
  try simp only[h1]
  split at h<;>try exact h.elim
  rename_i q0 q1
  try simp only[q0,q1]
  split at h<;>try exact h.elim
  rename_i hif
  try rw[if_pos hif]
  exact hK _ h
 ·rename_i h1
  try simp only[h1]
  split at h<;>try exact h.elim
  split at h<;>try exact h.elim
  rename_i hif
  try rw[if_pos hif]
  exact dj (hK _) h
theorem qM{P:Program}{st:List Obj}{T:TypeId}{y:Operand}{a:AV}{K1 K2:Bool->Prop}(hK: ∀b,K1 b->K2 b)(h:mO P st T y a K1):mO P st T y a K2:=by
 unfold mO at h⊢
 split at h
 ·split at h
  ·exact hK _ h
  ·exact⟨fun e=>hK _ (h.1 e),hK _ h.2⟩
  ·split at h
   ·exact⟨fun e=>hK _ (h.1 e),hK _ h.2⟩
   ·exact h.elim
  ·exact h.elim
 ·exact h.elim
theorem uK{P:Program}{Kt Vt:TypeId}{es:List (Value×AV)}{ks:List Value}{p p':Value->AV->Prop}{q q':Prop}(hp: ∀k a,p k a->p' k a)(hq:q->q')(h:Cu P Kt Vt es ks p q):Cu P Kt Vt es ks p' q':=by
 refine⟨?_,fun hs=>hq (h.2 hs)⟩
 have h1:=h.1
 split at h1
 ·exact fun n v a b=>hp _ _ (h1 n v a b)
 ·exact fun n v a b=>hp _ _ (h1 n v a b)
 ·exact h1.elim
theorem u6{P:Program}{s1 s2:S}{o:Op}(hs:sZ o s1 s2)(hst:s1.st=s2.st){d1 d2:Option Tmp}{K1 K2:S->Prop}(hK: ∀st a,K1 (put {s1 with st:=st} d1 a)->K2 (put {s2 with st:=st} d2 a))
  (h:cr P s1 d1 o K1):cr P s2 d2 o K2:=by
 have he:=hs.ev
 cases o with
 |alloc T=>
  simp only[cr] at h⊢
  rw[hst] at h
  split at h<;>try exact h.elim
  rename_i q0
  try simp only[q0]
  exact hK _ _ h
 |box T x=>
  simp only[cr] at h⊢
  rw[hst,he x (by simp[opsOf])] at h
  split at h<;>try exact h.elim
  rename_i hif
  try rw[if_pos hif]
  exact hK _ _ h
 |store T p x=>
  simp only[cr] at h⊢
  rw[he x (by simp[opsOf]),he p (by simp[opsOf])] at h
  exact CM hst (fun st=>hK st _) h
 |buildSlice T len parts=>
  simp only[cr] at h⊢
  rw[hst,jc (fun x hx=>he x (by simpa only[opsOf] using hx))] at h
  split at h<;>try exact h.elim
  rename_i q0
  try simp only[q0]
  split at h<;>try exact h.elim
  rename_i q0
  try simp only[q0]
  split at h<;>try exact h.elim
  rename_i q0
  try simp only[q0]
  split at h<;>try exact h.elim
  rename_i hif
  try rw[if_pos hif]
  exact hK _ _ h
 |makeSlice T ln cp=>
  simp only[cr] at h⊢
  rw[hst,he ln (by simp[opsOf]),he cp (by simp[opsOf])] at h
  split at h<;>try exact h.elim
  rename_i q0 q1 q2
  try simp only[q0,q1,q2]
  split at h<;>try exact h.elim
  rename_i q0
  try simp only[q0]
  exact dj (hK _ _) h
 | makeMap T r=>
  cases r with
  |some r=>exact h.elim
  |none=>
   simp only[cr] at h⊢
   rw[hst] at h
   split at h<;>try exact h.elim
   rename_i q0
   try simp only[q0]
   exact hK _ _ h
 |mapUpdate T m k x=>
  simp only[cr] at h⊢
  rw[hst,he m (by simp[opsOf]),he k (by simp[opsOf]),he x (by simp[opsOf])] at h
  split at h<;>try exact h.elim
  rename_i q0 q1 q2 q3
  try simp only[q0,q1,q2,q3]
  split at h<;>try exact h.elim
  rename_i q0
  try simp only[q0]
  split at h<;>try exact h.elim
  rename_i hif
  try rw[if_pos hif]
  exact hK _ _ h
 |mapEntry T m k=>
  simp only[cr] at h⊢
  rw[hst,he m (by simp[opsOf]),he k (by simp[opsOf])] at h
  split at h<;>try exact h.elim
  rename_i q0 q1 q2
  try simp only[q0,q1,q2]
  split at h<;>try exact h.elim
  rename_i q0 q1
  try simp only[q0,q1]
  split at h<;>try exact h.elim
  rename_i hif
  try rw[if_pos hif]
  exact hK _ _ h
 |entryStore T m kq x=>
  simp only[cr] at h⊢
  rw[hst,he m (by simp[opsOf]),he kq (by simp[opsOf]),he x (by simp[opsOf])] at h
  split at h<;>try exact h.elim
  rename_i q0 q1 q2 q3
  try simp only[q0,q1,q2,q3]
  split at h<;>try exact h.elim
  rename_i q0
  try simp only[q0]
  split at h<;>try exact h.elim
  rename_i hif
  try rw[if_pos hif]
  exact hK _ _ h
 | range T x=>
  simp only[cr] at h⊢
  rw[hst,he x (by simp[opsOf])] at h
  split at h<;>try exact h.elim
  ·rename_i q0 q1
   try simp only[q0,q1]
   split at h<;>try exact h.elim
   rename_i q0
   try simp only[q0]
   exact hK _ _ h
  ·rename_i q0 q1
   try simp only[q0,q1]
   exact hK _ _ h
  ·rename_i q0 q1
   try simp only[q0,q1]
   exact hK _ _ h
  ·rename_i q0 q1
   try simp only[q0,q1]
   exact hK _ _ h
 | next it str=>
  cases str with
  | true=>
   simp only[cr] at h⊢
   rw[hst,he it (by simp[opsOf])] at h
   split at h<;>try exact h.elim
   rename_i q0
   try simp only[q0]
   split at h<;>try exact h.elim
   rename_i q0
   try simp only[q0]
   have hK': ∀a,K1 (put s1 d1 a)->K2 (put s2 d2 a):=fun a hh=>by
    have:=hK s1.st a hh
    rw[show({s2 with st:=s1.st}:S)=s2 by rw[hst]] at this
    exact this
   obtain⟨h1,h2⟩:=G9 h
   cases hb:Nat.blt _ _ with
   |true=>rw[hb] at h1;exact hK _ _ (h1 rfl)
   |false=>rw[hb] at h2;exact hK' _ (h2 rfl)
  | false=>
   simp only[cr] at h⊢
   rw[hst,he it (by simp[opsOf])] at h
   have hK': ∀a,K1 (put s1 d1 a)->K2 (put s2 d2 a):=fun a hh=>by
    have:=hK s1.st a hh
    rw[show({s2 with st:=s1.st}:S)=s2 by rw[hst]] at this
    exact this
   split at h<;>try exact h.elim
   rename_i q0
   try simp only[q0]
   split at h<;>try exact h.elim
   ·rename_i q0
    try simp only[q0]
    split at h
    case h_2=>
     rename_i q0
     split at h<;>try exact h.elim
     exact hK' _ h
    rename_i q0
    try simp only[q0]
    exact dj (uK (fun k a=>hK _ _) (hK' _)) h
   ·rename_i q0
    try simp only[q0]
    exact uK (fun k a=>hK _ _) (hK' _) h
 | entry it=>
  have hK': ∀a,K1 (put s1 d1 a)->K2 (put s2 d2 a):=fun a hh=>by
   have:=hK s1.st a hh
   rw[show({s2 with st:=s1.st}:S)=s2 by rw[hst]] at this
   exact this
  simp only[cr] at h⊢
  rw[hst,he it (by simp[opsOf])] at h
  split at h<;>try exact h.elim
  rename_i q0
  try simp only[q0]
  split at h
  case h_3=>exact h.elim
  case h_2=>
   rename_i q1
   try simp only[q1]
   split at h<;>try exact h.elim
   rename_i q0
   try simp only[q0]
   exact hK' _ h
  rename_i q0
  try simp only[q0]
  split at h<;>try exact h.elim
  rename_i q0
  try simp only[q0]
  split at h<;>try exact h.elim
  rename_i q0
  try simp only[q0]
  exact dj (hK' _) h
 | call c=>
  obtain⟨callee,args,ats⟩:=c
  cases callee with
  | builtin b=>
   cases b<;>try exact h.elim
   case clear=>
    simp only[cr] at h⊢
    rw[gr (fun x hx=>he x (by simpa only[opsOf] using hx)),hst] at h
    split at h<;>try exact h.elim
    rename_i q0 q1
    try simp only[q0,q1]
    split at h<;>try exact h.elim
    rename_i q0 q1
    try simp only[q0,q1]
    split at h<;>try exact h.elim
    rename_i q0
    try simp only[q0]
    split at h<;>try exact h.elim
    rename_i hif
    try rw[if_pos hif]
    exact hK _ _ h
   simp only[cr] at h⊢
   rw[gr (fun x hx=>he x (by simpa only[opsOf] using hx))] at h
   split at h<;>try exact h.elim
   rename_i q0 q1
   try simp only[q0,q1]
   split at h<;>try exact h.elim
   rename_i hif
   try rw[if_pos hif]
   exact zq hst (fun st a=>hK st a) h
  |_=>exact h.elim
 | binOp op T x y T'=>
  have hK': ∀a,K1 (put s1 d1 a)->K2 (put s2 d2 a):=fun a hh=>by
   have:=hK s1.st a hh
   rw[show({s2 with st:=s1.st}:S)=s2 by rw[hst]] at this
   exact this
  cases op with
  |eql=>
   simp only[cr] at h⊢
   rw[hst,he x (by simp[opsOf])] at h
   exact qM (fun _=>hK' _) h
  |neq=>
   simp only[cr] at h⊢
   rw[hst,he x (by simp[opsOf])] at h
   exact qM (fun _=>hK' _) h
  |_=>exact h.elim
 |_=>exact h.elim
end Go.Dn
