import Derived.Test.YtioeffnadipbaaaGreatDoorDnZ
namespace Go.Dn
open Go
structure vQ(o:Op)(s1 s2:S):Prop where
 ev: ∀x,x∈opsOf o->ev s1 x=ev s2 x
theorem ig{s1 s2}: ∀{l},(∀x,x∈l->ev s1 x=ev s2 x)->pj s1 l=pj s2 l
 |[],_=>rfl
 |x::l,h=>by
  simp only[pj];rw[h x (by simp),ig fun y a=>h y (by grind)]
theorem jD{s1 s2}: ∀{l},(∀x,x∈l.map (·.2)->ev s1 x=ev s2 x)->fG s1 l=fG s2 l
 |[],_=>rfl
 |(i,x)::l,h=>by
  simp only[fG];rw[h x (by simp),jD fun y a=>h y (by grind)]
theorem vj{s1 s2 o d}(h: ∀x,x∈rL o->ev s1 x=ev s2 x):gp s1 o d=gp s2 o d:=by
 cases o<;>grind [gp,rL]
theorem Mi{s1 s2 o}(h: ∀x,x∈rL o->ev s1 x=ev s2 x):yz s1 o=yz s2 o:=by
 cases o<;>grind [yz,rL]
theorem A2{E s1 s2 o}(h:vQ o s1 s2)(d:s1.st=s2.st):bM E s1 o=bM E s2 o:=by
 have a:=h.ev;cases o with
 |move x=>simp only[bM];rw[a x (by simp[opsOf])]
 |assign x=>simp only[bM];rw[a x (by simp[opsOf])]
 |load T x=>simp only[bM];rw[a x (by simp[opsOf]),d]
 |nilCheck x=>simp only[bM];rw[a x (by simp[opsOf]),d]
 |binOp w T x y B=>simp only[bM];rw[a x (by simp[opsOf]),a y (by simp[opsOf])]
 |unOp w T x=>simp only[bM];rw[a x (by simp[opsOf])]
 |makeInterface T x=>simp only[bM];rw[a x (by simp[opsOf])]
 |convert S T x=>simp only[bM];rw[a x (by simp[opsOf]),d]
 | slice T x lo z m=>
  cases m with
  |some m=>
   simp only[bM,oz]
   grind [opsOf,Mi]
  |none=>
   simp only[bM,rU];rw[a x (by simp[opsOf]),d];simp only[vj (s1:=s1) (s2:=s2) (o:=lo) (fun y s=>a y (by simp[opsOf,s])),vj (s1:=s1) (s2:=s2) (o:=z) (fun y s=>a y (by simp[opsOf,s]))]
 |fieldAddr T x f=>simp only[bM];rw[a x (by simp[opsOf]),d]
 |field T x f=>simp only[bM];rw[a x (by simp[opsOf])]
 |indexAddr T x i=>simp only[bM,il];rw[a x (by simp[opsOf]),a i (by simp[opsOf]),d]
 |index T x i=>simp only[bM];rw[a x (by simp[opsOf]),a i (by simp[opsOf])]
 |lookup T m k A=>simp only[bM,oe];rw[a m (by simp[opsOf]),a k (by simp[opsOf]),d]
 |extract x i=>simp only[bM];rw[a x (by simp[opsOf])]
 |makeFunc u q t=>
  cases u with
  |func f=>simp only[bM];rw[ig (fun x n=>a x (by simpa[opsOf] using n))]
  |_=>rfl
 |build T p=>simp only[bM];rw[jD (fun x n=>a x (by simpa only[opsOf] using n))]
 | call c=>
  obtain⟨e,j,v⟩:=c;cases e with
  |builtin b=>
   have:=ig (s1:=s1) (s2:=s2) (l:=j.toList) (fun x n=>a x (by simpa only[opsOf] using n))
   cases b<;>first|rfl|(simp only[bM];rw[this];done)|(simp only[bM];rw[this,d])
  |value g=>
   have:=ig (s1:=s1) (s2:=s2) (l:=j.toList) (fun x n=>a x (by simp only[opsOf,aE5];exact .inr n))
   cases g<;>first|rfl|(simp only[bM];rw[this,d])
  |invoke r m=>rfl
 |_=>rfl
def Kept st st':=∀i,ay st i= .dead\/ay st' i=ay st i
theorem Kept.refl st:Kept st st:=fun _=> .inr rfl
theorem Kept.app st l:Kept st (st++l):=fun i=>by
 grind [et,fk]
theorem Kept.iL{st st'}(h:Kept st st'){i x}(he:iL (ay st i)=some x):iL (ay st' i)=some x:=by
 rcases h i with e|e
 ·rw[e] at he;cases he
 grind
theorem Kept.get{st st'}(h:Kept st st'){i o}(he:ay st i=o)(hd:o≠ .dead):ay st' i=o:=by
 rcases h i with e|e
 ·grind
 grind
theorem Kept.live{st st'}(h:Kept st st'){i}(he:ju st i=true):ju st' i=true:=by
 unfold ju at he⊢;rcases h i with e|e
 ·grind
 grind
mutual
theorem lO{st st':List Obj}(h:Kept st st'): ∀(a b:AV),cq st a=some b->cq st' a=some b
 | .lit v,b,e=>by simpa only[cq] using e
 | .ah T l,b,e=>by simpa only[cq] using e
 | .ak i lo n,b,e=>by
  simp only[cq] at e⊢;split at e
  ·rename_i T xs hx
   rw[h.iL hx];exact e
  ·cases e
 | .agg l,b,e=>by
  simp only[cq] at e⊢;cases hl:mu st l with
  |none=>rw[hl] at e;cases e
  |some m=>rw[hl] at e;rw[yR h l m hl];exact e
 | .jK T a,b,e=>by simpa only[cq] using e
 | .jT T a,b,e=>by
  simp only[cq] at e⊢;cases ha:cq st a with
  |none=>rw[ha] at e;cases e
  |some m=>rw[ha] at e;rw[lO h a m ha];exact e
 | .bo f caps,b,e=>by
  cases caps with
  |nil=>simpa only[cq] using e
  |cons x l=>simp[cq] at e
 | .ptr _ _ _ _,b,e=>by simp[cq] at e
 | .fh _ _ _ _,b,e=>by simpa only[cq] using e
 | .mp i,b,e=>by
  simp only[cq] at e⊢;rcases h i with e2|e2
  ·rw[e2] at e;cases e
  ·rw[e2];exact e
 | .aH _,b,e=>by simp[cq] at e
 | .cP,b,e=>by simp[cq] at e
 | .cn _,b,e=>by simp[cq] at e
 | .lZ _ _,b,e=>by simp[cq] at e
theorem yR{st st':List Obj}(h:Kept st st'): ∀(l m:List AV),mu st l=some m->mu st' l=some m
 |[],m,e=>by simpa only[mu] using e
 | a::l,m,e=>by
  simp only[mu] at e⊢;cases ha:cq st a with
  |none=>rw[ha] at e;cases e
  |some b=>
   cases hl:mu st l with
   |none=>rw[ha,hl] at e;cases e
   |some k=>rw[ha,hl] at e;rw[lO h a b ha,yR h l k hl];exact e
end
theorem HU{st st'}(h:Kept st st'){a b}(e:s6 st a=some b):s6 st' a=some b:=by
 unfold s6 at e⊢;cases a with
 | ak i lo m=>
  cases lo with
  |zero=>grind [lO]
  |succ k=>
   rcases h i with e2|e2
   ·grind [cq,iL]
   ·grind [lO]
 |_=>exact lO h _ _ e
theorem re{st st'}(h:Kept st st'): ∀l m,fW st l=some m->fW st' l=some m
 |[],m,e=>by grind [fW]
 | a::l,m,e=>by
  simp[fW] at e⊢;cases ha:s6 st a with
  |none=>grind
  |some b=>
   cases hl:fW st l with
   |none=>grind
   |some k=>rw[ha,hl] at e;rw[HU h ha,re h l k hl];omega
theorem Hq{P st st'}(h:Kept st st'){T a x}(e:oK P st T a=some x):oK P st' T a=some x:=by
 cases a<;>try exact e
 rename_i i k p off;rcases h i with e2|e2
 ·simp[oK,e2] at e;cases e
 grind [oK]
theorem LW{P st st'}(h:Kept st st'){T a x}(e:Cc P st T a=some x):Cc P st' T a=some x:=by
 unfold Cc at e⊢;split at e<;>try exact e
 ·rename_i i _
  rcases h i with e2|e2
  ·grind
  grind
 ·rename_i i _ _ _
  rcases h i with e2|e2
  ·rw[e2] at e;cases e
  grind
theorem xv{P st st'}(h:Kept st st'){T a f x}(e:ij P st T a f=some x):ij P st' T a f=some x:=by
 unfold ij at e⊢;split at e
 ·cases e
 ·split at e
  ·cases e
  ·rename_i h1
   rw[if_neg h1];split at e
   ·split at e
    ·rename_i h2
     rw[if_pos (h.live h2)];exact e
    grind
   ·exact e
   ·cases e
theorem FJ{P s s'}(h:Kept s.st s'.st){T a lo hi}(h1: ∀d,gp s lo d=gp s' lo d)(h2: ∀d,gp s hi d=gp s' hi d){x}(e:rU P s T a lo hi=some x):rU P s' T a lo hi=some x:=by
 unfold rU at e⊢;simp only[←h1,←h2];split at e<;>try exact e
 cases hx:iL (ay s.st _) with
 |none=>rw[hx] at e;grind
 |some y=>rw[hx] at e;rw[h.iL hx];exact e
theorem xW{P s s'}(h:Kept s.st s'.st){T a i x}(e:il P s T a i=some x):il P s' T a i=some x:=by
 unfold il at e⊢;split at e<;>try exact e
 ·split at e<;>try exact e
  split at e
  ·rename_i hx
   rw[h.iL hx];exact e
  ·split at e
   ·rename_i hst
    have:=h.get hst (by simp)
    grind
   ·cases e
 ·split at e<;>try exact e
  split at e
  ·rename_i hc
   rw[if_pos ⟨hc.1,hc.2.1,h.live hc.2.2⟩];exact e
  ·cases e
theorem FI{P s s'}(h:Kept s.st s'.st){T a lo hi m}(h1: ∀o,yz s o=yz s' o){x}(e:oz P s T a lo hi m=some x):oz P s' T a lo hi m=some x:=by
 unfold oz at e⊢;simp only[←h1];split at e<;>try exact e
 cases hx:iL (ay s.st _) with
 |none=>rw[hx] at e;grind
 |some y=>rw[hx] at e;rw[h.iL hx];exact e
theorem G0{P st st'}(h:Kept st st'){S T a x}(e:Ea P st S T a=some x):Ea P st' S T a=some x:=by
 unfold Ea at e⊢;split at e
 ·split at e<;>try cases e
  split at e<;>try cases e
  rename_i hc;rw[if_pos hc];split at e<;>try exact e
  split at e
  ·rename_i hel
   simp only[h.iL hel];exact e
  grind
 ·exact e
theorem EC{P s s'}(h:Kept s.st s'.st){T m k ok x}(e:oe P s T m k ok=some x):oe P s' T m k ok=some x:=by
 unfold oe at e⊢;split at e<;>try exact e
 split at e<;>try exact e
 rename Nat=>i
 rcases h i with e2|e2
 ·grind
 grind
theorem Mw{E s1 s2 o}(h:vQ o s1 s2)(n:Kept s1.st s2.st){x}(e:bM E s1 o=some x):bM E s2 o=some x:=by
 have H:=h.ev;have a:bM E {s2 with st:=s1.st} o=some x:=by
  rw[←e];exact(A2 (s1:=s1) (s2:={s2 with st:=s1.st}) ⟨fun y A=>by rw[H y A];cases y<;>rfl⟩ rfl).symm
 cases o with
 |load T y=>
  simp only[bM] at a⊢;have j:ev {s2 with st:=s1.st} y=ev s2 y:=by cases y<;>rfl
  rw[j] at a;split at a
  ·exact a
  split at a
  ·exact a
  ·exact Hq n a
 | nilCheck y=>
  simp only[bM] at a⊢;have j:ev {s2 with st:=s1.st} y=ev s2 y:=by cases y<;>rfl
  rw[j] at a;split at a<;>try exact a
  split at a
  ·rename_i C
   rw[if_pos (n.live C)];exact a
  ·cases a
 | slice T y lo B m=>
  cases m with
  | some m=>
   simp only[bM] at a⊢;have j:ev {s2 with st:=s1.st} y=ev s2 y:=by cases y<;>rfl
   rw[j] at a;have q: ∀(o:Option Operand),yz {s2 with st:=s1.st} o=yz s2 o:=fun o=>by
    cases o with
    |none=>rfl
    |some y=>cases y<;>rfl
   exact FI (s:={s2 with st:=s1.st}) n q a
  | none=>
   simp only[bM] at a⊢;have j:ev {s2 with st:=s1.st} y=ev s2 y:=by cases y<;>rfl
   rw[j] at a;have q: ∀(o:Option Operand) d,gp {s2 with st:=s1.st} o d=gp s2 o d:=fun o d=>by
    cases o with
    |none=>rfl
    |some y=>cases y<;>rfl
   exact FJ (s:={s2 with st:=s1.st}) n (q lo) (q B) a
 |fieldAddr T y f=>
  simp only[bM] at a⊢;have j:ev {s2 with st:=s1.st} y=ev s2 y:=by cases y<;>rfl
  rw[j] at a;exact xv n a
 |convert S T y=>
  simp only[bM] at a⊢;have j:ev {s2 with st:=s1.st} y=ev s2 y:=by cases y<;>rfl
  rw[j] at a;exact G0 n a
 |indexAddr T y i=>
  simp only[bM] at a⊢;have j: ∀y,ev {s2 with st:=s1.st} y=ev s2 y:=fun y=>by cases y<;>rfl
  rw[j,j] at a;exact xW (s:={s2 with st:=s1.st}) n a
 |lookup T m k I=>
  simp only[bM] at a⊢;have j: ∀y,ev {s2 with st:=s1.st} y=ev s2 y:=fun y=>by cases y<;>rfl
  rw[j,j] at a;exact EC (s:={s2 with st:=s1.st}) n a
 | call c=>
  obtain⟨p,w,F⟩:=c;have j: ∀l,pj {s2 with st:=s1.st} l=pj s2 l:=fun l=>ig fun y _=>by cases y<;>rfl
  cases p with
  | builtin b=>
   cases b<;>try (simp only[bM,j] at a⊢;exact a)
   simp only[bM,j] at a⊢;split at a<;>try exact a
   split at a
   ·rename_i t
    rw[LW n t];exact a
   ·cases a
  | value g=>
   cases g<;>try (simp only[bM] at a⊢;exact a)
   simp only[bM,j] at a⊢;split at a
   ·rename_i t
    rw[re n _ _ t];exact a
   ·cases a
  |invoke r m=>exact a
 |makeFunc D v z=>
  have j: ∀l,pj {s2 with st:=s1.st} l=pj s2 l:=fun l=>ig fun y _=>by cases y<;>rfl
  cases D<;>try (simp only[bM] at a⊢;exact a)
  simp only[bM,j] at a⊢;exact a
 |build T u=>
  have j: ∀l,fG {s2 with st:=s1.st} l=fG s2 l:=fun l=>jD fun y _=>by cases y<;>rfl
  simp only[bM,j] at a⊢;exact a
 |_=>
  have j: ∀y,ev {s2 with st:=s1.st} y=ev s2 y:=fun y=>by cases y<;>rfl
  simp only[bM,j] at a⊢;exact a
theorem Fk st st' s s' v:s6 st (ev s (.const v))=s6 st' (ev s' (.const v)):=by
 simp[ev];split<;>rfl
theorem pL st st' s s': ∀l,N6 l=true->fW st (pj s l)=fW st' (pj s' l)
 |[],_=>rfl
 | .const v::l,h=>by
  simp[pj,fW];rw[Fk _ _ s _ v,pL _ _ s _ l h]
 | .tmp _::_,h=>nomatch h
 | .global _::_,h=>nomatch h
 | .func _::_,h=>nomatch h
theorem HX{E s1 s2 o}(h:vQ o s1 s2)(d:fE E.quiet o=0):bM E s1 o=bM E s2 o:=by
 have j:=h.ev;cases o with
 |move x=>simp only[bM];rw[j x (by simp[opsOf])]
 |assign x=>simp only[bM];rw[j x (by simp[opsOf])]
 |binOp v T x y B=>simp_all[bM,opsOf]
 |unOp v T x=>simp only[bM];rw[j x (by simp[opsOf])]
 |makeInterface T x=>simp only[bM];rw[j x (by simp[opsOf])]
 |convert S T x=>simp[fE] at d
 |extract x i=>simp only[bM];rw[j x (by simp[opsOf])]
 |makeFunc z n t=>
  cases z with
  |func f=>simp only[bM];rw[ig (fun x p=>j x (by simpa[opsOf] using p))]
  |_=>rfl
 |pick c a b=>rfl
 |load T x=>simp[fE] at d
 |nilCheck x=>simp[fE] at d
 |slice T x lo C m=>simp[fE] at d
 |fieldAddr T x f=>simp[fE] at d
 |field T x f=>simp only[bM];rw[j x (by simp[opsOf])]
 |indexAddr T x i=>simp[fE] at d
 |index T x i=>simp_all[bM,opsOf]
 |lookup T m k A=>simp[fE] at d
 |build T q=>simp only[bM];rw[jD (fun x p=>j x (by simpa only[opsOf] using p))]
 | call c=>
  obtain⟨e,l,w⟩:=c;cases e with
  |builtin b=>cases b<;>simp[fE] at d
  | value g=>
   cases g with
   | func f=>
    simp only[fE] at d;cases u:E.quiet f with
    |false=>simp[u] at d
    |true=>
     rw[u,aD2] at d;cases s:N6 l.toList with
     |false=>simp[s] at d
     |true=>simp only[bM];rw[pL s1.st s2.st s1 s2 _ s]
   |_=>simp[fE] at d
  |invoke r m=>simp[fE] at d
 |_=>rfl
theorem D7{s1 s2 o}(h:vQ o s1 s2):ic s1 o=ic s2 o:=by
 have e:=h.ev;cases o with
 |call c=>
  obtain⟨a,b,d⟩:=c;cases a<;>grind [ic,opsOf,ig]
 |_=>rfl
theorem BC{P s1 s2}(d:s1.st=s2.st){T x y i g}(f: ∀st a,i st a->g st a)(h:qi P s1 T x y i):qi P s2 T x y g:=by
 unfold qi at h⊢;rw[d] at h;split at h<;>try exact h.elim
 rename_i b
 try simp only[b]
 split at h<;>try exact h.elim
 rename_i b e
 try simp only[b,e]
 split at h<;>try exact h.elim
 rename_i b
 try simp only[b]
 split at h<;>try exact h.elim
 ·exact cH (f _ _) h
 ·split at h<;>try exact h.elim
  ·rename_i b
   try simp only[b]
   split at h<;>try exact h.elim
   rename_i c
   try rw[if_pos c]
   exact cH (f _ _) h
  ·rename_i b
   try simp only[b]
   split at h<;>try exact h.elim
   rename_i e
   try simp only[e]
   split at h<;>try exact h.elim
   rename_i c
   try rw[if_pos c]
   exact cH (f _ _) h
theorem FY{P s1 s2}(c:s1.st=s2.st){T x y b a}(d: ∀st,b st->a st)(h:rZ P s1 T x y b):rZ P s2 T x y a:=by
 unfold rZ at h⊢;split at h<;>try exact h.elim
 split at h<;>try exact h.elim
 ·grind
 ·grind
 ·grind [cH]
theorem sV{P st T y a d c}(e: ∀b,d b->c b)(h:oi P st T y a d):oi P st T y a c:=by
 unfold oi at h⊢
 grind
theorem yp{P Kt Vt es ks p p' q q'}(hp: ∀k a,p k a->p' k a)(hq:q->q')(h:EO P Kt Vt es ks p q):EO P Kt Vt es ks p' q':=by
 refine⟨?_,fun hs=>hq (h.2 hs)⟩;have h1:=h.1
 grind
theorem zx{P s1 s2 o}(L:vQ o s1 s2)(e:s1.st=s2.st){t u v w}(i: ∀st a,v (put {s1 with st:=st} t a)->w (put {s2 with st:=st} u a))
  (h:cy P s1 t o v):cy P s2 u o w:=by
 have l:=L.ev;cases o with
 |alloc T=>
  simp only[cy] at h⊢;rw[e] at h;split at h<;>try exact h.elim
  rename_i d
  try simp only[d]
  exact i _ _ h
 | box T x=>
  simp only[cy] at h⊢;rw[e,l x (by simp[opsOf])] at h;split at h<;>try exact h.elim
  rename_i f
  try rw[if_pos f]
  split at h
  ·rename_i C
   first|simp only[C]|skip
   exact cH (i _ _) h
  ·rename_i C
   first|simp only[C]|skip
   exact i _ _ h
 |store T p x=>
  simp only[cy] at h⊢;rw[l x (by simp[opsOf]),l p (by simp[opsOf])] at h;exact FY e (fun st=>i st _) h
 |buildSlice T N E=>
  simp only[cy] at h⊢;rw[e,jD (fun x z=>l x (by simpa only[opsOf] using z))] at h;split at h<;>try exact h.elim
  rename_i d
  try simp only[d]
  split at h<;>try exact h.elim
  rename_i d
  try simp only[d]
  split at h<;>try exact h.elim
  rename_i d
  try simp only[d]
  split at h<;>try exact h.elim
  rename_i f
  try rw[if_pos f]
  exact i _ _ h
 |makeSlice T O R=>
  simp only[cy] at h⊢;rw[e,l O (by simp[opsOf]),l R (by simp[opsOf])] at h;split at h<;>try exact h.elim
  rename_i d g q
  try simp only[d,g,q]
  split at h<;>try exact h.elim
  rename_i d
  try simp only[d]
  exact cH (i _ _) h
 | makeMap T r=>
  cases r with
  |some r=>exact h.elim
  |none=>
   simp only[cy] at h⊢;rw[e] at h;split at h<;>try exact h.elim
   rename_i d
   try simp only[d]
   exact i _ _ h
 |mapUpdate T m k x=>
  simp only[cy] at h⊢;rw[e,l m (by simp[opsOf]),l k (by simp[opsOf]),l x (by simp[opsOf])] at h;split at h<;>try exact h.elim
  rename_i d g q B
  try simp only[d,g,q,B]
  split at h<;>try exact h.elim
  rename_i d
  try simp only[d]
  split at h<;>try exact h.elim
  rename_i f
  try rw[if_pos f]
  exact i _ _ h
 |mapEntry T m k=>
  simp only[cy] at h⊢;rw[e,l m (by simp[opsOf]),l k (by simp[opsOf])] at h;split at h<;>try exact h.elim
  rename_i d g q
  try simp only[d,g,q]
  split at h<;>try exact h.elim
  rename_i d g
  try simp only[d,g]
  split at h<;>try exact h.elim
  rename_i f
  try rw[if_pos f]
  exact i _ _ h
 |entryStore T m F x=>
  simp only[cy] at h⊢;rw[e,l m (by simp[opsOf]),l F (by simp[opsOf]),l x (by simp[opsOf])] at h;split at h<;>try exact h.elim
  rename_i d g q B
  try simp only[d,g,q,B]
  split at h<;>try exact h.elim
  rename_i d
  try simp only[d]
  split at h<;>try exact h.elim
  rename_i f
  try rw[if_pos f]
  exact i _ _ h
 | range T x=>
  simp only[cy] at h⊢;rw[e,l x (by simp[opsOf])] at h;split at h<;>try exact h.elim
  ·rename_i d g
   try simp only[d,g]
   split at h<;>try exact h.elim
   rename_i d
   try simp only[d]
   exact i _ _ h
  ·rename_i d g
   try simp only[d,g]
   exact i _ _ h
  ·rename_i d g
   try simp only[d,g]
   exact i _ _ h
  ·rename_i d g
   try simp only[d,g]
   exact i _ _ h
 | next A D=>
  cases D with
  | true=>
   simp only[cy] at h⊢;rw[e,l A (by simp[opsOf])] at h;split at h<;>try exact h.elim
   rename_i d
   try simp only[d]
   split at h<;>try exact h.elim
   rename_i d
   try simp only[d]
   have j: ∀a,v (put s1 t a)->w (put s2 u a):=fun a s=>by
    have:=i s1.st a s
    rw[show({s2 with st:=s1.st}:S)=s2 by rw[e]] at this;exact this
   obtain⟨I,H⟩:=I7 h;cases K:Nat.blt _ _ with
   |true=>rw[K] at I;exact i _ _ (I rfl)
   |false=>rw[K] at H;exact j _ (H rfl)
  | false=>
   simp only[cy] at h⊢;rw[e,l A (by simp[opsOf])] at h;have j: ∀a,v (put s1 t a)->w (put s2 u a):=fun a s=>by
    have:=i s1.st a s
    rw[show({s2 with st:=s1.st}:S)=s2 by rw[e]] at this;exact this
   split at h<;>try exact h.elim
   rename_i d
   try simp only[d]
   split at h<;>try exact h.elim
   ·rename_i d
    try simp only[d]
    split at h
    case h_2=>
     rename_i d;split at h<;>try exact h.elim
     exact j _ h
    rename_i d
    try simp only[d]
    exact cH (yp (fun k a=>i _ _) (j _)) h
   ·rename_i d
    try simp only[d]
    exact yp (fun k a=>i _ _) (j _) h
 | entry A=>
  have j: ∀a,v (put s1 t a)->w (put s2 u a):=fun a s=>by
   have:=i s1.st a s
   rw[show({s2 with st:=s1.st}:S)=s2 by rw[e]] at this;exact this
  simp only[cy] at h⊢;rw[e,l A (by simp[opsOf])] at h;split at h<;>try exact h.elim
  rename_i d
  try simp only[d]
  split at h
  case h_3=>exact h.elim
  case h_2=>
   rename_i g
   try simp only[g]
   split at h<;>try exact h.elim
   rename_i d
   try simp only[d]
   exact j _ h
  rename_i d
  try simp only[d]
  split at h<;>try exact h.elim
  rename_i d
  try simp only[d]
  split at h<;>try exact h.elim
  rename_i d
  try simp only[d]
  exact cH (j _) h
 | call c=>
  obtain⟨n,J,Q⟩:=c;cases n with
  | builtin b=>
   cases b<;>try exact h.elim
   case clear=>
    simp only[cy] at h⊢;rw[ig (fun x z=>l x (by simpa only[opsOf] using z)),e] at h;split at h<;>try exact h.elim
    rename_i d g
    try simp only[d,g]
    split at h<;>try exact h.elim
    rename_i d g
    try simp only[d,g]
    split at h<;>try exact h.elim
    rename_i d
    try simp only[d]
    split at h<;>try exact h.elim
    rename_i f
    try rw[if_pos f]
    exact i _ _ h
   simp only[cy] at h⊢;rw[ig (fun x z=>l x (by simpa only[opsOf] using z))] at h;split at h<;>try exact h.elim
   rename_i d g
   try simp only[d,g]
   split at h<;>try exact h.elim
   rename_i f
   try rw[if_pos f]
   exact BC e (fun st a=>i st a) h
  |_=>exact h.elim
 | binOp U T x y V=>
  have j: ∀a,v (put s1 t a)->w (put s2 u a):=fun a s=>by
   have:=i s1.st a s
   rw[show({s2 with st:=s1.st}:S)=s2 by rw[e]] at this;exact this
  cases U with
  |eql=>
   simp only[cy] at h⊢;rw[e,l x (by simp[opsOf])] at h;exact sV (fun _=>j _) h
  |neq=>
   simp only[cy] at h⊢;rw[e,l x (by simp[opsOf])] at h;exact sV (fun _=>j _) h
  |_=>exact h.elim
 |_=>exact h.elim
end Go.Dn
