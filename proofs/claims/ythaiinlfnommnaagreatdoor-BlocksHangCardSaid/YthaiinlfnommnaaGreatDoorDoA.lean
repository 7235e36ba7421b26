import Derived.Test.YthaiinlfnommnaaGreatDoorDnZ
namespace Go.Dn
open Go
structure tC(o:Op)(s1 s2:S):Prop where
 ev: ∀x,x∈opsOf o->ev s1 x=ev s2 x
theorem gH{s1 s2:S}: ∀{l:List Operand},(∀x,x∈l->ev s1 x=ev s2 x)->np s1 l=np s2 l
 |[],_=>rfl
 |x::l,h=>by
  simp only[np]
  rw[h x (by simp),gH (fun y hy=>h y (by simp[hy]))]
theorem iW{s1 s2:S}: ∀{l:List (Nat×Operand)},(∀x,x∈l.map (·.2)->ev s1 x=ev s2 x)->fv s1 l=fv s2 l
 |[],_=>rfl
 |(i,x)::l,h=>by
  simp only[fv]
  rw[h x (by simp),iW (fun y hy=>h y (by simp at hy⊢;exact .inr hy))]
theorem tf{s1 s2:S}{o:Option Operand}{d:Nat}(h: ∀x,x∈ql o->ev s1 x=ev s2 x):fR s1 o d=fR s2 o d:=by
 cases o with
 |none=>rfl
 |some x=>simp only[fR];rw[h x (by simp[ql])]
theorem yP{s1 s2:S}{o:Option Operand}(h: ∀x,x∈ql o->ev s1 x=ev s2 x):vd s1 o=vd s2 o:=by
 cases o with
 |none=>rfl
 |some x=>simp only[vd];rw[h x (by simp[ql])]
theorem xK{E:Env}{s1 s2:S}{o:Op}(h:tC o s1 s2)(hst:s1.st=s2.st):bJ E s1 o=bJ E s2 o:=by
 have he:=h.ev
 cases o with
 |move x=>simp only[bJ];rw[he x (by simp[opsOf])]
 |assign x=>simp only[bJ];rw[he x (by simp[opsOf])]
 |load T x=>simp only[bJ];rw[he x (by simp[opsOf]),hst]
 |nilCheck x=>simp only[bJ];rw[he x (by simp[opsOf]),hst]
 |binOp op T x y T'=>simp only[bJ];rw[he x (by simp[opsOf]),he y (by simp[opsOf])]
 |unOp op T x=>simp only[bJ];rw[he x (by simp[opsOf])]
 |makeInterface T x=>simp only[bJ];rw[he x (by simp[opsOf])]
 |convert S T x=>simp only[bJ];rw[he x (by simp[opsOf])]
 | slice T x lo hi m=>
  cases m with
  |some m=>
   simp only[bJ,mG]
   rw[he x (by simp[opsOf]),hst,yP (o:=hi) (fun y hy=>he y (by simp[opsOf,hy])),yP (o:=some m) (fun y hy=>he y (by simp[opsOf,hy]))]
  |none=>
   simp only[bJ,qd]
   rw[he x (by simp[opsOf]),hst]
   simp only[tf (s1:=s1) (s2:=s2) (o:=lo) (fun y hy=>he y (by simp[opsOf,hy])),tf (s1:=s1) (s2:=s2) (o:=hi) (fun y hy=>he y (by simp[opsOf,hy]))]
 |fieldAddr T x f=>simp only[bJ];rw[he x (by simp[opsOf]),hst]
 |field T x f=>simp only[bJ];rw[he x (by simp[opsOf])]
 |indexAddr T x i=>simp only[bJ,gI];rw[he x (by simp[opsOf]),he i (by simp[opsOf]),hst]
 |index T x i=>simp only[bJ];rw[he x (by simp[opsOf]),he i (by simp[opsOf])]
 |lookup T m k ok=>simp only[bJ,mV];rw[he m (by simp[opsOf]),he k (by simp[opsOf]),hst]
 |extract x i=>simp only[bJ];rw[he x (by simp[opsOf])]
 |makeFunc fn first caps=>
  cases fn with
  |func f=>simp only[bJ];rw[gH (fun x hx=>he x (by simpa[opsOf] using hx))]
  |_=>rfl
 |build T parts=>simp only[bJ];rw[iW (fun x hx=>he x (by simpa only[opsOf] using hx))]
 | call c=>
  obtain⟨callee,args,ats⟩:=c
  cases callee with
  |builtin b=>
   have:=gH (s1:=s1) (s2:=s2) (l:=args.toList) (fun x hx=>he x (by simpa only[opsOf] using hx))
   cases b<;>first|rfl|(simp only[bJ];rw[this];done)|(simp only[bJ];rw[this,hst])
  |value g=>
   have:=gH (s1:=s1) (s2:=s2) (l:=args.toList) (fun x hx=>he x (by simp only[opsOf,ac3];exact .inr hx))
   cases g<;>first|rfl|(simp only[bJ];rw[this,hst])
  |invoke r m=>rfl
 |_=>rfl
def Kept(st st':List Obj):Prop:=∀i,aw st i= .dead\/aw st' i=aw st i
theorem Kept.refl(st:List Obj):Kept st st:=fun _=> .inr rfl
theorem Kept.app(st l:List Obj):Kept st (st++l):=fun i=>by
 rcases Nat.lt_or_ge i st.length with h|h
 ·exact .inr (dT _ _ _ h)
 ·exact .inl (eo _ _ h)
theorem Kept.hJ{st st':List Obj}(h:Kept st st'){i:Nat}{x:TypeId×List AV}(he:hJ (aw st i)=some x):hJ (aw st' i)=some x:=by
 rcases h i with e|e
 ·rw[e] at he;cases he
 ·rw[e];exact he
theorem Kept.get{st st':List Obj}(h:Kept st st'){i:Nat}{o:Obj}(he:aw st i=o)(hd:o≠ .dead):aw st' i=o:=by
 rcases h i with e|e
 ·exact absurd (he.symm.trans e) hd
 ·exact e.trans he
theorem Kept.live{st st':List Obj}(h:Kept st st'){i:Nat}(he:kR st i=true):kR st' i=true:=by
 unfold kR at he⊢
 rcases h i with e|e
 ·rw[e] at he;cases he
 ·rw[e];exact he
mutual
theorem kI{st st':List Obj}(h:Kept st st'): ∀(a b:AV),ck st a=some b->ck st' a=some b
 | .lit v,b,e=>by simpa only[ck] using e
 | .ad T l,b,e=>by simpa only[ck] using e
 | .an i lo n,b,e=>by
  simp only[ck] at e⊢
  split at e
  ·rename_i T xs hx
   rw[h.hJ hx];exact e
  ·cases e
 | .agg l,b,e=>by
  simp only[ck] at e⊢
  cases hl:lz st l with
  |none=>rw[hl] at e;cases e
  |some m=>rw[hl] at e;rw[u9 h l m hl];exact e
 | .jS T a,b,e=>by simpa only[ck] using e
 | .jj T a,b,e=>by
  simp only[ck] at e⊢
  cases ha:ck st a with
  |none=>rw[ha] at e;cases e
  |some m=>rw[ha] at e;rw[kI h a m ha];exact e
 | .bL f caps,b,e=>by
  cases caps with
  |nil=>simpa only[ck] using e
  |cons x l=>simp[ck] at e
 | .ptr _ _ _ _,b,e=>by simp[ck] at e
 | .jE _ _ _ _,b,e=>by simpa only[ck] using e
 | .mp i,b,e=>by
  simp only[ck] at e⊢
  rcases h i with e2|e2
  ·rw[e2] at e;cases e
  ·rw[e2];exact e
 | .bh _,b,e=>by simp[ck] at e
 | .cG,b,e=>by simp[ck] at e
 | .cD _,b,e=>by simp[ck] at e
 | .ku _ _,b,e=>by simp[ck] at e
theorem u9{st st':List Obj}(h:Kept st st'): ∀(l m:List AV),lz st l=some m->lz st' l=some m
 |[],m,e=>by simpa only[lz] using e
 | a::l,m,e=>by
  simp only[lz] at e⊢
  cases ha:ck st a with
  |none=>rw[ha] at e;cases e
  |some b=>
   cases hl:lz st l with
   |none=>rw[ha,hl] at e;cases e
   |some k=>rw[ha,hl] at e;rw[kI h a b ha,u9 h l k hl];exact e
end
theorem Fq{st st':List Obj}(h:Kept st st'){a b:AV}(e:ry st a=some b):ry st' a=some b:=by
 unfold ry at e⊢
 cases a with
 | an i lo m=>
  cases lo with
  |zero=>exact kI h _ _ e
  | succ k=>
   rcases h i with e2|e2
   ·simp[e2,ck,hJ] at e
   ·cases hx:aw st i with
    |rows T E ls pd=>rw[hx] at e2;simp only[hx] at e;simp only[e2];exact e
    |_=>rw[hx] at e2;simp only[hx] at e;simp only[e2];exact kI h _ _ e
 |_=>exact kI h _ _ e
theorem pI{st st':List Obj}(h:Kept st st'): ∀(l m:List AV),fw st l=some m->fw st' l=some m
 |[],m,e=>by simpa only[fw] using e
 | a::l,m,e=>by
  simp only[fw] at e⊢
  cases ha:ry st a with
  |none=>rw[ha] at e;cases e
  |some b=>
   cases hl:fw st l with
   |none=>rw[ha,hl] at e;cases e
   |some k=>rw[ha,hl] at e;rw[Fq h ha,pI h l k hl];exact e
theorem D6{P:Program}{st st':List Obj}(h:Kept st st'){T:TypeId}{a:AV}{x:Bool×AV}(e:nj P st T a=some x):nj P st' T a=some x:=by
 cases a<;>try exact e
 rename_i i k p off
 rcases h i with e2|e2
 ·simp only[nj,e2] at e;cases e
 ·simp only[nj,e2] at e⊢;exact e
theorem HQ{P:Program}{st st':List Obj}(h:Kept st st'){T:TypeId}{a x:AV}(e:Ah P st T a=some x):Ah P st' T a=some x:=by
 unfold Ah at e⊢
 split at e<;>try exact e
 ·rename_i i _
  rcases h i with e2|e2
  ·rw[e2] at e;cases e
  ·rw[e2];exact e
 ·rename_i i _ _ _
  rcases h i with e2|e2
  ·rw[e2] at e;cases e
  ·rw[e2];exact e
theorem w7{P:Program}{st st':List Obj}(h:Kept st st'){T:TypeId}{a:AV}{f:Nat}{x:Bool×AV}(e:gw P st T a f=some x):gw P st' T a f=some x:=by
 unfold gw at e⊢
 split at e
 ·cases e
 ·split at e
  ·cases e
  ·rename_i h1
   rw[if_neg h1]
   split at e
   ·split at e
    ·rename_i h2
     rw[if_pos (h.live h2)];exact e
    ·cases e
   ·exact e
   ·cases e
theorem Co{P:Program}{s s':S}(h:Kept s.st s'.st){T:TypeId}{a:AV}{lo hi:Option Operand}(h1: ∀d,fR s lo d=fR s' lo d)(h2: ∀d,fR s hi d=fR s' hi d){x:Bool×AV}(e:qd P s T a lo hi=some x):qd P s' T a lo hi=some x:=by
 unfold qd at e⊢
 simp only[←h1,←h2]
 split at e<;>try exact e
 cases hx:hJ (aw s.st _) with
 |none=>rw[hx] at e;split at e<;>first|cases e|simp_all
 |some y=>rw[hx] at e;rw[h.hJ hx];exact e
theorem vt{P:Program}{s s':S}(h:Kept s.st s'.st){T:TypeId}{a i:AV}{x:Bool×AV}(e:gI P s T a i=some x):gI P s' T a i=some x:=by
 unfold gI at e⊢
 split at e<;>try exact e
 split at e<;>try exact e
 split at e
 ·rename_i hx
  rw[h.hJ hx];exact e
 ·split at e
  ·rename_i hst
   have:=h.get hst (by simp)
   rw[this];exact e
  ·cases e
theorem Bo{P:Program}{s s':S}(h:Kept s.st s'.st){T:TypeId}{a:AV}{lo hi:Option Operand}{m:Operand}(h1: ∀o,vd s o=vd s' o){x:Bool×AV}(e:mG P s T a lo hi m=some x):mG P s' T a lo hi m=some x:=by
 unfold mG at e⊢
 simp only[←h1]
 split at e<;>try exact e
 cases hx:hJ (aw s.st _) with
 |none=>rw[hx] at e;split at e<;>first|cases e|simp_all
 |some y=>rw[hx] at e;rw[h.hJ hx];exact e
theorem B3{P:Program}{s s':S}(h:Kept s.st s'.st){T:TypeId}{m k:AV}{ok:Bool}{x:Bool×AV}(e:mV P s T m k ok=some x):mV P s' T m k ok=some x:=by
 unfold mV at e⊢
 split at e<;>try exact e
 split at e<;>try exact e
 rename Nat=>i
 rcases h i with e2|e2
 ·rw[e2] at e;cases e
 ·rw[e2];exact e
theorem Ib{E:Env}{s1 s2:S}{o:Op}(h:tC o s1 s2)(hk:Kept s1.st s2.st){x:Bool×AV}(e:bJ E s1 o=some x):bJ E s2 o=some x:=by
 have he:=h.ev
 have e0:bJ E {s2 with st:=s1.st} o=some x:=by
  rw[←e]
  exact(xK (s1:=s1) (s2:={s2 with st:=s1.st}) ⟨fun y hy=>by rw[he y hy];cases y<;>rfl⟩ rfl).symm
 cases o with
 |load T y=>
  simp only[bJ] at e0⊢
  have e1:ev {s2 with st:=s1.st} y=ev s2 y:=by cases y<;>rfl
  rw[e1] at e0
  split at e0
  ·exact e0
  ·exact D6 hk e0
 | nilCheck y=>
  simp only[bJ] at e0⊢
  have e1:ev {s2 with st:=s1.st} y=ev s2 y:=by cases y<;>rfl
  rw[e1] at e0
  split at e0<;>try exact e0
  split at e0
  ·rename_i h2
   rw[if_pos (hk.live h2)];exact e0
  ·cases e0
 | slice T y lo hi m=>
  cases m with
  | some m=>
   simp only[bJ] at e0⊢
   have e1:ev {s2 with st:=s1.st} y=ev s2 y:=by cases y<;>rfl
   rw[e1] at e0
   have hb: ∀(o:Option Operand),vd {s2 with st:=s1.st} o=vd s2 o:=fun o=>by
    cases o with
    |none=>rfl
    |some y=>cases y<;>rfl
   exact Bo (s:={s2 with st:=s1.st}) hk hb e0
  | none=>
   simp only[bJ] at e0⊢
   have e1:ev {s2 with st:=s1.st} y=ev s2 y:=by cases y<;>rfl
   rw[e1] at e0
   have hb: ∀(o:Option Operand) d,fR {s2 with st:=s1.st} o d=fR s2 o d:=fun o d=>by
    cases o with
    |none=>rfl
    |some y=>cases y<;>rfl
   exact Co (s:={s2 with st:=s1.st}) hk (hb lo) (hb hi) e0
 |fieldAddr T y f=>
  simp only[bJ] at e0⊢
  have e1:ev {s2 with st:=s1.st} y=ev s2 y:=by cases y<;>rfl
  rw[e1] at e0
  exact w7 hk e0
 |indexAddr T y i=>
  simp only[bJ] at e0⊢
  have e1: ∀y,ev {s2 with st:=s1.st} y=ev s2 y:=fun y=>by cases y<;>rfl
  rw[e1,e1] at e0
  exact vt (s:={s2 with st:=s1.st}) hk e0
 |lookup T m k ok=>
  simp only[bJ] at e0⊢
  have e1: ∀y,ev {s2 with st:=s1.st} y=ev s2 y:=fun y=>by cases y<;>rfl
  rw[e1,e1] at e0
  exact B3 (s:={s2 with st:=s1.st}) hk e0
 | call c=>
  obtain⟨callee,args,ats⟩:=c
  have e1: ∀l,np {s2 with st:=s1.st} l=np s2 l:=fun l=>gH fun y _=>by cases y<;>rfl
  cases callee with
  | builtin b=>
   cases b<;>try (simp only[bJ,e1] at e0⊢;exact e0)
   simp only[bJ,e1] at e0⊢
   split at e0<;>try exact e0
   split at e0
   ·rename_i hx
    rw[HQ hk hx];exact e0
   ·cases e0
  | value g=>
   cases g<;>try (simp only[bJ] at e0⊢;exact e0)
   simp only[bJ,e1] at e0⊢
   split at e0
   ·rename_i hx
    rw[pI hk _ _ hx];exact e0
   ·cases e0
  |invoke r m=>exact e0
 |makeFunc fn first caps=>
  have e1: ∀l,np {s2 with st:=s1.st} l=np s2 l:=fun l=>gH fun y _=>by cases y<;>rfl
  cases fn<;>try (simp only[bJ] at e0⊢;exact e0)
  simp only[bJ,e1] at e0⊢;exact e0
 |build T parts=>
  have e1: ∀l,fv {s2 with st:=s1.st} l=fv s2 l:=fun l=>iW fun y _=>by cases y<;>rfl
  simp only[bJ,e1] at e0⊢;exact e0
 |_=>
  have e1: ∀y,ev {s2 with st:=s1.st} y=ev s2 y:=fun y=>by cases y<;>rfl
  simp only[bJ,e1] at e0⊢;exact e0
theorem CE(st st':List Obj)(s s':S)(v:Value):ry st (ev s (.const v))=ry st' (ev s' (.const v)):=by
 simp only[ev]
 split<;>rfl
theorem ou(st st':List Obj)(s s':S): ∀l:List Operand,Jf l=true->fw st (np s l)=fw st' (np s' l)
 |[],_=>rfl
 | .const v::l,h=>by
  simp only[np,fw]
  rw[CE st st' s s' v,ou st st' s s' l h]
 | .tmp _::_,h=>nomatch h
 | .global _::_,h=>nomatch h
 | .func _::_,h=>nomatch h
theorem Dz{E:Env}{s1 s2:S}{o:Op}(h:tC o s1 s2)(hc:er E.quiet o=0):bJ E s1 o=bJ E s2 o:=by
 have he:=h.ev
 cases o with
 |move x=>simp only[bJ];rw[he x (by simp[opsOf])]
 |assign x=>simp only[bJ];rw[he x (by simp[opsOf])]
 |binOp op T x y T'=>simp only[bJ];rw[he x (by simp[opsOf]),he y (by simp[opsOf])]
 |unOp op T x=>simp only[bJ];rw[he x (by simp[opsOf])]
 |makeInterface T x=>simp only[bJ];rw[he x (by simp[opsOf])]
 |convert S T x=>simp only[bJ];rw[he x (by simp[opsOf])]
 |extract x i=>simp only[bJ];rw[he x (by simp[opsOf])]
 |makeFunc fn first caps=>
  cases fn with
  |func f=>simp only[bJ];rw[gH (fun x hx=>he x (by simpa[opsOf] using hx))]
  |_=>rfl
 |pick c a b=>rfl
 |load T x=>simp[er] at hc
 |nilCheck x=>simp[er] at hc
 |slice T x lo hi m=>simp[er] at hc
 |fieldAddr T x f=>simp[er] at hc
 |field T x f=>simp only[bJ];rw[he x (by simp[opsOf])]
 |indexAddr T x i=>simp[er] at hc
 |index T x i=>simp only[bJ];rw[he x (by simp[opsOf]),he i (by simp[opsOf])]
 |lookup T m k ok=>simp[er] at hc
 |build T parts=>simp only[bJ];rw[iW (fun x hx=>he x (by simpa only[opsOf] using hx))]
 | call c=>
  obtain⟨callee,args,ats⟩:=c
  cases callee with
  |builtin b=>cases b<;>simp[er] at hc
  | value g=>
   cases g with
   | func f=>
    simp only[er] at hc
    cases hq:E.quiet f with
    |false=>simp[hq] at hc
    |true=>
     rw[hq,aa8] at hc
     cases ha:Jf args.toList with
     |false=>simp[ha] at hc
     |true=>simp only[bJ];rw[ou s1.st s2.st s1 s2 _ ha]
   |_=>simp[er] at hc
  |invoke r m=>simp[er] at hc
 |_=>rfl
theorem Bm{s1 s2:S}{o:Op}(h:tC o s1 s2):gx s1 o=gx s2 o:=by
 have he:=h.ev
 cases o with
 | call c=>
  obtain⟨callee,args,ats⟩:=c
  cases callee with
  |value g=>
   simp only[gx]
   rw[he g (by simp[opsOf]),gH (fun x hx=>he x (by simp only[opsOf,ac3];exact .inr hx))]
  |_=>rfl
 |_=>rfl
theorem AU{P:Program}{s1 s2:S}(hst:s1.st=s2.st){T:TypeId}{x y:AV}{K1 K2:List Obj->AV->Prop}(hK: ∀st a,K1 st a->K2 st a)(h:oT P s1 T x y K1):oT P s2 T x y K2:=by
 unfold oT at h⊢
 rw[hst] at h
 split at h<;>try exact h.elim
 rename_i q0
 try simp only[q0]
 split at h<;>try exact h.elim
 rename_i q0 q1
 try simp only[q0,q1]
 split at h<;>try exact h.elim
 rename_i q0
 try simp only[q0]
 split at h<;>try exact h.elim
 ·exact dj (hK _ _) h
 ·split at h<;>try exact h.elim
  ·rename_i q0
   try simp only[q0]
   split at h<;>try exact h.elim
   rename_i hif
   try rw[if_pos hif]
   exact dj (hK _ _) h
  ·rename_i q0
   try simp only[q0]
   split at h<;>try exact h.elim
   rename_i q1
   try simp only[q1]
   split at h<;>try exact h.elim
   rename_i hif
   try rw[if_pos hif]
   exact dj (hK _ _) h
theorem CD{P:Program}{s1 s2:S}(hst:s1.st=s2.st){T:TypeId}{x y:AV}{K1 K2:List Obj->Prop}(hK: ∀st,K1 st->K2 st)(h:qa P s1 T x y K1):qa P s2 T x y K2:=by
 unfold qa at h⊢
 rw[hst] at h
 split at h<;>try exact h.elim
 split at h<;>try exact h.elim
 ·rename_i h1
  try simp only[h1]
  split at h<;>try exact h.elim
  rename_i hif
  try rw[if_pos hif]
  exact hK _ h
 ·rename_i h1
  try simp only[h1]
  split at h<;>try exact h.elim
  rename_i q0 q1
  try simp only[q0,q1]
  split at h<;>try exact h.elim
  rename_i hif
  try rw[if_pos hif]
  exact hK _ h
 ·rename_i h1
  try simp only[h1]
  split at h<;>try exact h.elim
  split at h<;>try exact h.elim
  rename_i hif
  try rw[if_pos hif]
  exact dj (hK _) h
theorem qX{P:Program}{st:List Obj}{T:TypeId}{y:Operand}{a:AV}{K1 K2:Bool->Prop}(hK: ∀b,K1 b->K2 b)(h:mB P st T y a K1):mB P st T y a K2:=by
 unfold mB at h⊢
 split at h
 ·split at h
  ·exact hK _ h
  ·exact⟨fun e=>hK _ (h.1 e),hK _ h.2⟩
  ·split at h
   ·exact⟨fun e=>hK _ (h.1 e),hK _ h.2⟩
   ·exact h.elim
  ·exact h.elim
 ·exact h.elim
theorem ux{P:Program}{Kt Vt:TypeId}{es:List (Value×AV)}{ks:List Value}{p p':Value->AV->Prop}{q q':Prop}(hp: ∀k a,p k a->p' k a)(hq:q->q')(h:BO P Kt Vt es ks p q):BO P Kt Vt es ks p' q':=by
 refine⟨?_,fun hs=>hq (h.2 hs)⟩
 have h1:=h.1
 split at h1
 ·exact fun n v a b=>hp _ _ (h1 n v a b)
 ·exact fun n v a b=>hp _ _ (h1 n v a b)
 ·exact h1.elim
theorem vh{P:Program}{s1 s2:S}{o:Op}(hs:tC o s1 s2)(hst:s1.st=s2.st){d1 d2:Option Tmp}{K1 K2:S->Prop}(hK: ∀st a,K1 (put {s1 with st:=st} d1 a)->K2 (put {s2 with st:=st} d2 a))
  (h:cr P s1 d1 o K1):cr P s2 d2 o K2:=by
 have he:=hs.ev
 cases o with
 |alloc T=>
  simp only[cr] at h⊢
  rw[hst] at h
  split at h<;>try exact h.elim
  rename_i q0
  try simp only[q0]
  exact hK _ _ h
 |box T x=>
  simp only[cr] at h⊢
  rw[hst,he x (by simp[opsOf])] at h
  split at h<;>try exact h.elim
  rename_i hif
  try rw[if_pos hif]
  exact hK _ _ h
 |store T p x=>
  simp only[cr] at h⊢
  rw[he x (by simp[opsOf]),he p (by simp[opsOf])] at h
  exact CD hst (fun st=>hK st _) h
 |buildSlice T len parts=>
  simp only[cr] at h⊢
  rw[hst,iW (fun x hx=>he x (by simpa only[opsOf] using hx))] at h
  split at h<;>try exact h.elim
  rename_i q0
  try simp only[q0]
  split at h<;>try exact h.elim
  rename_i q0
  try simp only[q0]
  split at h<;>try exact h.elim
  rename_i q0
  try simp only[q0]
  split at h<;>try exact h.elim
  rename_i hif
  try rw[if_pos hif]
  exact hK _ _ h
 |makeSlice T ln cp=>
  simp only[cr] at h⊢
  rw[hst,he ln (by simp[opsOf]),he cp (by simp[opsOf])] at h
  split at h<;>try exact h.elim
  rename_i q0 q1 q2
  try simp only[q0,q1,q2]
  split at h<;>try exact h.elim
  rename_i q0
  try simp only[q0]
  exact dj (hK _ _) h
 | makeMap T r=>
  cases r with
  |some r=>exact h.elim
  |none=>
   simp only[cr] at h⊢
   rw[hst] at h
   split at h<;>try exact h.elim
   rename_i q0
   try simp only[q0]
   exact hK _ _ h
 |mapUpdate T m k x=>
  simp only[cr] at h⊢
  rw[hst,he m (by simp[opsOf]),he k (by simp[opsOf]),he x (by simp[opsOf])] at h
  split at h<;>try exact h.elim
  rename_i q0 q1 q2 q3
  try simp only[q0,q1,q2,q3]
  split at h<;>try exact h.elim
  rename_i q0
  try simp only[q0]
  split at h<;>try exact h.elim
  rename_i hif
  try rw[if_pos hif]
  exact hK _ _ h
 |mapEntry T m k=>
  simp only[cr] at h⊢
  rw[hst,he m (by simp[opsOf]),he k (by simp[opsOf])] at h
  split at h<;>try exact h.elim
  rename_i q0 q1 q2
  try simp only[q0,q1,q2]
  split at h<;>try exact h.elim
  rename_i q0 q1
  try simp only[q0,q1]
  split at h<;>try exact h.elim
  rename_i hif
  try rw[if_pos hif]
  exact hK _ _ h
 |entryStore T m ku x=>
  simp only[cr] at h⊢
  rw[hst,he m (by simp[opsOf]),he ku (by simp[opsOf]),he x (by simp[opsOf])] at h
  split at h<;>try exact h.elim
  rename_i q0 q1 q2 q3
  try simp only[q0,q1,q2,q3]
  split at h<;>try exact h.elim
  rename_i q0
  try simp only[q0]
  split at h<;>try exact h.elim
  rename_i hif
  try rw[if_pos hif]
  exact hK _ _ h
 | range T x=>
  simp only[cr] at h⊢
  rw[hst,he x (by simp[opsOf])] at h
  split at h<;>try exact h.elim
  ·rename_i q0 q1
   try simp only[q0,q1]
   split at h<;>try exact h.elim
   rename_i q0
   try simp only[q0]
   exact hK _ _ h
  ·rename_i q0 q1
   try simp only[q0,q1]
   exact hK _ _ h
  ·rename_i q0 q1
   try simp only[q0,q1]
   exact hK _ _ h
  ·rename_i q0 q1
   try simp only[q0,q1]
   exact hK _ _ h
 | next it str=>
  cases str with
  | true=>
   simp only[cr] at h⊢
   rw[hst,he it (by simp[opsOf])] at h
   split at h<;>try exact h.elim
   rename_i q0
   try simp only[q0]
   split at h<;>try exact h.elim
   rename_i q0
   try simp only[q0]
   have hK': ∀a,K1 (put s1 d1 a)->K2 (put s2 d2 a):=fun a hh=>by
    have:=hK s1.st a hh
    rw[show({s2 with st:=s1.st}:S)=s2 by rw[hst]] at this
    exact this
   obtain⟨h1,h2⟩:=Hy h
   cases hb:Nat.blt _ _ with
   |true=>rw[hb] at h1;exact hK _ _ (h1 rfl)
   |false=>rw[hb] at h2;exact hK' _ (h2 rfl)
  | false=>
   simp only[cr] at h⊢
   rw[hst,he it (by simp[opsOf])] at h
   have hK': ∀a,K1 (put s1 d1 a)->K2 (put s2 d2 a):=fun a hh=>by
    have:=hK s1.st a hh
    rw[show({s2 with st:=s1.st}:S)=s2 by rw[hst]] at this
    exact this
   split at h<;>try exact h.elim
   rename_i q0
   try simp only[q0]
   split at h<;>try exact h.elim
   ·rename_i q0
    try simp only[q0]
    split at h
    case h_2=>
     rename_i q0
     split at h<;>try exact h.elim
     exact hK' _ h
    rename_i q0
    try simp only[q0]
    exact dj (ux (fun k a=>hK _ _) (hK' _)) h
   ·rename_i q0
    try simp only[q0]
    exact ux (fun k a=>hK _ _) (hK' _) h
 | entry it=>
  have hK': ∀a,K1 (put s1 d1 a)->K2 (put s2 d2 a):=fun a hh=>by
   have:=hK s1.st a hh
   rw[show({s2 with st:=s1.st}:S)=s2 by rw[hst]] at this
   exact this
  simp only[cr] at h⊢
  rw[hst,he it (by simp[opsOf])] at h
  split at h<;>try exact h.elim
  rename_i q0
  try simp only[q0]
  split at h
  case h_3=>exact h.elim
  case h_2=>
   rename_i q1
   try simp only[q1]
   split at h<;>try exact h.elim
   rename_i q0
   try simp only[q0]
   exact hK' _ h
  rename_i q0
  try simp only[q0]
  split at h<;>try exact h.elim
  rename_i q0
  try simp only[q0]
  split at h<;>try exact h.elim
  rename_i q0
  try simp only[q0]
  exact dj (hK' _) h
 | call c=>
  obtain⟨callee,args,ats⟩:=c
  cases callee with
  | builtin b=>
   cases b<;>try exact h.elim
   case clear=>
    simp only[cr] at h⊢
    rw[gH (fun x hx=>he x (by simpa only[opsOf] using hx)),hst] at h
    split at h<;>try exact h.elim
    rename_i q0 q1
    try simp only[q0,q1]
    split at h<;>try exact h.elim
    rename_i q0 q1
    try simp only[q0,q1]
    split at h<;>try exact h.elim
    rename_i q0
    try simp only[q0]
    split at h<;>try exact h.elim
    rename_i hif
    try rw[if_pos hif]
    exact hK _ _ h
   simp only[cr] at h⊢
   rw[gH (fun x hx=>he x (by simpa only[opsOf] using hx))] at h
   split at h<;>try exact h.elim
   rename_i q0 q1
   try simp only[q0,q1]
   split at h<;>try exact h.elim
   rename_i hif
   try rw[if_pos hif]
   exact AU hst (fun st a=>hK st a) h
  |_=>exact h.elim
 | binOp op T x y T'=>
  have hK': ∀a,K1 (put s1 d1 a)->K2 (put s2 d2 a):=fun a hh=>by
   have:=hK s1.st a hh
   rw[show({s2 with st:=s1.st}:S)=s2 by rw[hst]] at this
   exact this
  cases op with
  |eql=>
   simp only[cr] at h⊢
   rw[hst,he x (by simp[opsOf])] at h
   exact qX (fun _=>hK' _) h
  |neq=>
   simp only[cr] at h⊢
   rw[hst,he x (by simp[opsOf])] at h
   exact qX (fun _=>hK' _) h
  |_=>exact h.elim
 |_=>exact h.elim
end Go.Dn
