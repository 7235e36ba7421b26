import Derived.Test.YtioeffnadipbaaaGreatDoorDnZ
namespace Go.Dn
open Go
structure uY(o:Op)(s1 s2:S):Prop where
 ev: ∀x,x∈opsOf o->ev s1 x=ev s2 x
theorem gO{s1 s2}: ∀{l},(∀x,x∈l->ev s1 x=ev s2 x)->oI s1 l=oI s2 l
 |[],_=>rfl
 |x::l,h=>by
  simp only[oI];rw[h x (by simp),gO fun y a=>h y (by grind)]
theorem jd{s1 s2}: ∀{l},(∀x,x∈l.map (·.2)->ev s1 x=ev s2 x)->fj s1 l=fj s2 l
 |[],_=>rfl
 |(i,x)::l,h=>by
  simp only[fj];rw[h x (by simp),jd fun y a=>h y (by grind)]
theorem ux{s1 s2 o d}(h: ∀x,x∈q9 o->ev s1 x=ev s2 x):gi s1 o d=gi s2 o d:=by
 cases o<;>grind [gi,q9]
theorem JK{s1 s2 o}(h: ∀x,x∈q9 o->ev s1 x=ev s2 x):xm s1 o=xm s2 o:=by
 cases o<;>grind [xm,q9]
theorem zC{E s1 s2 o}(h:uY o s1 s2)(d:s1.st=s2.st):bH E s1 o=bH E s2 o:=by
 have a:=h.ev;cases o with
 |move x=>simp only[bH];rw[a x (by simp[opsOf])]
 |assign x=>simp only[bH];rw[a x (by simp[opsOf])]
 |load T x=>simp only[bH];rw[a x (by simp[opsOf]),d]
 |nilCheck x=>simp only[bH];rw[a x (by simp[opsOf]),d]
 |binOp w T x y B=>simp only[bH];rw[a x (by simp[opsOf]),a y (by simp[opsOf])]
 |unOp w T x=>simp only[bH];rw[a x (by simp[opsOf])]
 |makeInterface T x=>simp only[bH];rw[a x (by simp[opsOf])]
 |convert S T x=>simp only[bH];rw[a x (by simp[opsOf]),d]
 | slice T x lo z m=>
  cases m with
  |some m=>
   simp only[bH,nP]
   grind [opsOf,JK]
  |none=>
   simp only[bH,rq];rw[a x (by simp[opsOf]),d];simp only[ux (s1:=s1) (s2:=s2) (o:=lo) (fun y s=>a y (by simp[opsOf,s])),ux (s1:=s1) (s2:=s2) (o:=z) (fun y s=>a y (by simp[opsOf,s]))]
 |fieldAddr T x f=>simp only[bH];rw[a x (by simp[opsOf]),d]
 |field T x f=>simp only[bH];rw[a x (by simp[opsOf])]
 |indexAddr T x i=>simp only[bH,gR];rw[a x (by simp[opsOf]),a i (by simp[opsOf]),d]
 |index T x i=>simp only[bH];rw[a x (by simp[opsOf]),a i (by simp[opsOf])]
 |lookup T m k A=>simp only[bH,nG];rw[a m (by simp[opsOf]),a k (by simp[opsOf]),d]
 |extract x i=>simp only[bH];rw[a x (by simp[opsOf])]
 |makeFunc u q t=>
  cases u with
  |func f=>simp only[bH];rw[gO (fun x n=>a x (by simpa[opsOf] using n))]
  |_=>rfl
 |build T p=>simp only[bH];rw[jd (fun x n=>a x (by simpa only[opsOf] using n))]
 | call c=>
  obtain⟨e,j,v⟩:=c;cases e with
  |builtin b=>
   have:=gO (s1:=s1) (s2:=s2) (l:=j.toList) (fun x n=>a x (by simpa only[opsOf] using n))
   cases b<;>first|rfl|(simp only[bH];rw[this];done)|(simp only[bH];rw[this,d])
  |value g=>
   have:=gO (s1:=s1) (s2:=s2) (l:=j.toList) (fun x n=>a x (by simp only[opsOf,ap0];exact .inr n))
   cases g<;>first|rfl|(simp only[bH];rw[this,d])
  |invoke r m=>rfl
 |_=>rfl
def Kept st st':=∀i,au st i= .dead\/au st' i=au st i
theorem Kept.refl st:Kept st st:=fun _=> .inr rfl
theorem Kept.app st l:Kept st (st++l):=fun i=>by
 grind [dV,eC]
theorem Kept.ib{st st'}(h:Kept st st'){i x}(he:ib (au st i)=some x):ib (au st' i)=some x:=by
 rcases h i with e|e
 ·rw[e] at he;cases he
 grind
theorem Kept.get{st st'}(h:Kept st st'){i o}(he:au st i=o)(hd:o≠ .dead):au st' i=o:=by
 rcases h i with e|e
 ·grind
 grind
theorem Kept.live{st st'}(h:Kept st st'){i}(he:iR st i=true):iR st' i=true:=by
 unfold iR at he⊢;rcases h i with e|e
 ·grind
 grind
mutual
theorem ll{st st':List Obj}(h:Kept st st'): ∀(a b:AV),b9 st a=some b->b9 st' a=some b
 | .lit v,b,e=>by simpa only[b9] using e
 | .ad T l,b,e=>by simpa only[b9] using e
 | .ax i lo n,b,e=>by
  simp only[b9] at e⊢;split at e
  ·rename_i T xs hx
   rw[h.ib hx];exact e
  ·cases e
 | .agg l,b,e=>by
  simp only[b9] at e⊢;cases hl:lV st l with
  |none=>rw[hl] at e;cases e
  |some m=>rw[hl] at e;rw[xF h l m hl];exact e
 | .jA T a,b,e=>by simpa only[b9] using e
 | .jz T a,b,e=>by
  simp only[b9] at e⊢;cases ha:b9 st a with
  |none=>rw[ha] at e;cases e
  |some m=>rw[ha] at e;rw[ll h a m ha];exact e
 | .bp f caps,b,e=>by
  cases caps with
  |nil=>simpa only[b9] using e
  |cons x l=>simp[b9] at e
 | .ptr _ _ _ _,b,e=>by simp[b9] at e
 | .eO _ _ _ _,b,e=>by simpa only[b9] using e
 | .mp i,b,e=>by
  simp only[b9] at e⊢;rcases h i with e2|e2
  ·rw[e2] at e;cases e
  ·rw[e2];exact e
 | .aK _,b,e=>by simp[b9] at e
 | .cK,b,e=>by simp[b9] at e
 | .bJ _,b,e=>by simp[b9] at e
 | .lC _ _,b,e=>by simp[b9] at e
theorem xF{st st':List Obj}(h:Kept st st'): ∀(l m:List AV),lV st l=some m->lV st' l=some m
 |[],m,e=>by simpa only[lV] using e
 | a::l,m,e=>by
  simp only[lV] at e⊢;cases ha:b9 st a with
  |none=>rw[ha] at e;cases e
  |some b=>
   cases hl:lV st l with
   |none=>rw[ha,hl] at e;cases e
   |some k=>rw[ha,hl] at e;rw[ll h a b ha,xF h l k hl];exact e
end
theorem FJ{st st'}(h:Kept st st'){a b}(e:sv st a=some b):sv st' a=some b:=by
 unfold sv at e⊢;cases a with
 | ax i lo m=>
  cases lo with
  |zero=>grind [ll]
  |succ k=>
   rcases h i with e2|e2
   ·grind [b9,ib]
   ·grind [ll]
 |_=>exact ll h _ _ e
theorem qx{st st'}(h:Kept st st'): ∀l m,fP st l=some m->fP st' l=some m
 |[],m,e=>by grind [fP]
 | a::l,m,e=>by
  simp[fP] at e⊢;cases ha:sv st a with
  |none=>grind
  |some b=>
   cases hl:fP st l with
   |none=>grind
   |some k=>rw[ha,hl] at e;rw[FJ h ha,qx h l k hl];omega
theorem Ff{P st st'}(h:Kept st st'){T a x}(e:n8 P st T a=some x):n8 P st' T a=some x:=by
 cases a<;>try exact e
 rename_i i k p off;rcases h i with e2|e2
 ·simp[n8,e2] at e;cases e
 grind [n8]
theorem Jp{P st st'}(h:Kept st st'){T a x}(e:AP P st T a=some x):AP P st' T a=some x:=by
 unfold AP at e⊢;split at e<;>try exact e
 ·rename_i i _
  rcases h i with e2|e2
  ·grind
  grind
 ·rename_i i _ _ _
  rcases h i with e2|e2
  ·rw[e2] at e;cases e
  grind
theorem wj{P st st'}(h:Kept st st'){T a f x}(e:gP P st T a f=some x):gP P st' T a f=some x:=by
 unfold gP at e⊢;split at e
 ·cases e
 ·split at e
  ·cases e
  ·rename_i h1
   rw[if_neg h1];split at e
   ·split at e
    ·rename_i h2
     rw[if_pos (h.live h2)];exact e
    grind
   ·exact e
   ·cases e
theorem DF{P s s'}(h:Kept s.st s'.st){T a lo hi}(h1: ∀d,gi s lo d=gi s' lo d)(h2: ∀d,gi s hi d=gi s' hi d){x}(e:rq P s T a lo hi=some x):rq P s' T a lo hi=some x:=by
 unfold rq at e⊢;simp only[←h1,←h2];split at e<;>try exact e
 cases hx:ib (au s.st _) with
 |none=>rw[hx] at e;grind
 |some y=>rw[hx] at e;rw[h.ib hx];exact e
theorem wG{P s s'}(h:Kept s.st s'.st){T a i x}(e:gR P s T a i=some x):gR P s' T a i=some x:=by
 unfold gR at e⊢;split at e<;>try exact e
 ·split at e<;>try exact e
  split at e
  ·rename_i hx
   rw[h.ib hx];exact e
  ·split at e
   ·rename_i hst
    have:=h.get hst (by simp)
    grind
   ·cases e
 ·split at e<;>try exact e
  split at e
  ·rename_i hc
   rw[if_pos ⟨hc.1,hc.2.1,h.live hc.2.2⟩];exact e
  ·cases e
theorem DE{P s s'}(h:Kept s.st s'.st){T a lo hi m}(h1: ∀o,xm s o=xm s' o){x}(e:nP P s T a lo hi m=some x):nP P s' T a lo hi m=some x:=by
 unfold nP at e⊢;simp only[←h1];split at e<;>try exact e
 cases hx:ib (au s.st _) with
 |none=>rw[hx] at e;grind
 |some y=>rw[hx] at e;rw[h.ib hx];exact e
theorem EI{P st st'}(h:Kept st st'){S T a x}(e:Cs P st S T a=some x):Cs P st' S T a=some x:=by
 unfold Cs at e⊢;split at e
 ·split at e<;>try cases e
  split at e<;>try cases e
  rename_i hc;rw[if_pos hc];split at e<;>try exact e
  split at e
  ·rename_i hel
   simp only[h.ib hel];exact e
  grind
 ·exact e
theorem CO{P s s'}(h:Kept s.st s'.st){T m k ok x}(e:nG P s T m k ok=some x):nG P s' T m k ok=some x:=by
 unfold nG at e⊢;split at e<;>try exact e
 split at e<;>try exact e
 rename Nat=>i
 rcases h i with e2|e2
 ·grind
 grind
theorem JX{E s1 s2 o}(h:uY o s1 s2)(n:Kept s1.st s2.st){x}(e:bH E s1 o=some x):bH E s2 o=some x:=by
 have H:=h.ev;have a:bH E {s2 with st:=s1.st} o=some x:=by
  rw[←e];exact(zC (s1:=s1) (s2:={s2 with st:=s1.st}) ⟨fun y A=>by rw[H y A];cases y<;>rfl⟩ rfl).symm
 cases o with
 |load T y=>
  simp only[bH] at a⊢;have j:ev {s2 with st:=s1.st} y=ev s2 y:=by cases y<;>rfl
  rw[j] at a;split at a
  ·exact a
  split at a
  ·exact a
  ·exact Ff n a
 | nilCheck y=>
  simp only[bH] at a⊢;have j:ev {s2 with st:=s1.st} y=ev s2 y:=by cases y<;>rfl
  rw[j] at a;split at a<;>try exact a
  split at a
  ·rename_i C
   rw[if_pos (n.live C)];exact a
  ·cases a
 | slice T y lo B m=>
  cases m with
  | some m=>
   simp only[bH] at a⊢;have j:ev {s2 with st:=s1.st} y=ev s2 y:=by cases y<;>rfl
   rw[j] at a;have q: ∀(o:Option Operand),xm {s2 with st:=s1.st} o=xm s2 o:=fun o=>by
    cases o with
    |none=>rfl
    |some y=>cases y<;>rfl
   exact DE (s:={s2 with st:=s1.st}) n q a
  | none=>
   simp only[bH] at a⊢;have j:ev {s2 with st:=s1.st} y=ev s2 y:=by cases y<;>rfl
   rw[j] at a;have q: ∀(o:Option Operand) d,gi {s2 with st:=s1.st} o d=gi s2 o d:=fun o d=>by
    cases o with
    |none=>rfl
    |some y=>cases y<;>rfl
   exact DF (s:={s2 with st:=s1.st}) n (q lo) (q B) a
 |fieldAddr T y f=>
  simp only[bH] at a⊢;have j:ev {s2 with st:=s1.st} y=ev s2 y:=by cases y<;>rfl
  rw[j] at a;exact wj n a
 |convert S T y=>
  simp only[bH] at a⊢;have j:ev {s2 with st:=s1.st} y=ev s2 y:=by cases y<;>rfl
  rw[j] at a;exact EI n a
 |indexAddr T y i=>
  simp only[bH] at a⊢;have j: ∀y,ev {s2 with st:=s1.st} y=ev s2 y:=fun y=>by cases y<;>rfl
  rw[j,j] at a;exact wG (s:={s2 with st:=s1.st}) n a
 |lookup T m k I=>
  simp only[bH] at a⊢;have j: ∀y,ev {s2 with st:=s1.st} y=ev s2 y:=fun y=>by cases y<;>rfl
  rw[j,j] at a;exact CO (s:={s2 with st:=s1.st}) n a
 | call c=>
  obtain⟨p,w,F⟩:=c;have j: ∀l,oI {s2 with st:=s1.st} l=oI s2 l:=fun l=>gO fun y _=>by cases y<;>rfl
  cases p with
  | builtin b=>
   cases b<;>try (simp only[bH,j] at a⊢;exact a)
   simp only[bH,j] at a⊢;split at a<;>try exact a
   split at a
   ·rename_i t
    rw[Jp n t];exact a
   ·cases a
  | value g=>
   cases g<;>try (simp only[bH] at a⊢;exact a)
   simp only[bH,j] at a⊢;split at a
   ·rename_i t
    rw[qx n _ _ t];exact a
   ·cases a
  |invoke r m=>exact a
 |makeFunc D v z=>
  have j: ∀l,oI {s2 with st:=s1.st} l=oI s2 l:=fun l=>gO fun y _=>by cases y<;>rfl
  cases D<;>try (simp only[bH] at a⊢;exact a)
  simp only[bH,j] at a⊢;exact a
 |build T u=>
  have j: ∀l,fj {s2 with st:=s1.st} l=fj s2 l:=fun l=>jd fun y _=>by cases y<;>rfl
  simp only[bH,j] at a⊢;exact a
 |_=>
  have j: ∀y,ev {s2 with st:=s1.st} y=ev s2 y:=fun y=>by cases y<;>rfl
  simp only[bH,j] at a⊢;exact a
theorem Di st st' s s' v:sv st (ev s (.const v))=sv st' (ev s' (.const v)):=by
 simp[ev];split<;>rfl
theorem o6 st st' s s': ∀l,Lo l=true->fP st (oI s l)=fP st' (oI s' l)
 |[],_=>rfl
 | .const v::l,h=>by
  simp[oI,fP];rw[Di _ _ s _ v,o6 _ _ s _ l h]
 | .tmp _::_,h=>nomatch h
 | .global _::_,h=>nomatch h
 | .func _::_,h=>nomatch h
theorem FM{E s1 s2 o}(h:uY o s1 s2)(d:fg E.quiet o=0):bH E s1 o=bH E s2 o:=by
 have j:=h.ev;cases o with
 |move x=>simp only[bH];rw[j x (by simp[opsOf])]
 |assign x=>simp only[bH];rw[j x (by simp[opsOf])]
 |binOp v T x y B=>simp_all[bH,opsOf]
 |unOp v T x=>simp only[bH];rw[j x (by simp[opsOf])]
 |makeInterface T x=>simp only[bH];rw[j x (by simp[opsOf])]
 |convert S T x=>simp[fg] at d
 |extract x i=>simp only[bH];rw[j x (by simp[opsOf])]
 |makeFunc z n t=>
  cases z with
  |func f=>simp only[bH];rw[gO (fun x p=>j x (by simpa[opsOf] using p))]
  |_=>rfl
 |pick c a b=>rfl
 |load T x=>simp[fg] at d
 |nilCheck x=>simp[fg] at d
 |slice T x lo C m=>simp[fg] at d
 |fieldAddr T x f=>simp[fg] at d
 |field T x f=>simp only[bH];rw[j x (by simp[opsOf])]
 |indexAddr T x i=>simp[fg] at d
 |index T x i=>simp_all[bH,opsOf]
 |lookup T m k A=>simp[fg] at d
 |build T q=>simp only[bH];rw[jd (fun x p=>j x (by simpa only[opsOf] using p))]
 | call c=>
  obtain⟨e,l,w⟩:=c;cases e with
  |builtin b=>cases b<;>simp[fg] at d
  | value g=>
   cases g with
   | func f=>
    simp only[fg] at d;cases u:E.quiet f with
    |false=>simp[u] at d
    |true=>
     rw[u,an9] at d;cases s:Lo l.toList with
     |false=>simp[s] at d
     |true=>simp only[bH];rw[o6 s1.st s2.st s1 s2 _ s]
   |_=>simp[fg] at d
  |invoke r m=>simp[fg] at d
 |_=>rfl
theorem Cn{s1 s2 o}(h:uY o s1 s2):gM s1 o=gM s2 o:=by
 have e:=h.ev;cases o with
 |call c=>
  obtain⟨a,b,d⟩:=c;cases a<;>grind [gM,opsOf,gO]
 |_=>rfl
theorem Ak{P s1 s2}(d:s1.st=s2.st){T x y i g}(f: ∀st a,i st a->g st a)(h:pL P s1 T x y i):pL P s2 T x y g:=by
 unfold pL at h⊢;rw[d] at h;split at h<;>try exact h.elim
 rename_i b
 try simp only[b]
 split at h<;>try exact h.elim
 rename_i b e
 try simp only[b,e]
 split at h<;>try exact h.elim
 rename_i b
 try simp only[b]
 split at h<;>try exact h.elim
 ·exact cj (f _ _) h
 ·split at h<;>try exact h.elim
  ·rename_i b
   try simp only[b]
   split at h<;>try exact h.elim
   rename_i c
   try rw[if_pos c]
   exact cj (f _ _) h
  ·rename_i b
   try simp only[b]
   split at h<;>try exact h.elim
   rename_i e
   try simp only[e]
   split at h<;>try exact h.elim
   rename_i c
   try rw[if_pos c]
   exact cj (f _ _) h
theorem DV{P s1 s2}(c:s1.st=s2.st){T x y b a}(d: ∀st,b st->a st)(h:rC P s1 T x y b):rC P s2 T x y a:=by
 unfold rC at h⊢;split at h<;>try exact h.elim
 split at h<;>try exact h.elim
 ·grind
 ·grind
 ·grind [cj]
theorem sm{P st T y a d c}(e: ∀b,d b->c b)(h:nI P st T y a d):nI P st T y a c:=by
 unfold nI at h⊢
 grind
theorem xd{P Kt Vt es ks p p' q q'}(hp: ∀k a,p k a->p' k a)(hq:q->q')(h:uI P Kt Vt es ks p q):uI P Kt Vt es ks p' q':=by
 refine⟨?_,fun hs=>hq (h.2 hs)⟩;have h1:=h.1
 grind
theorem yi{P s1 s2 o}(L:uY o s1 s2)(e:s1.st=s2.st){t u v w}(i: ∀st a,v (put {s1 with st:=st} t a)->w (put {s2 with st:=st} u a))
  (h:cm P s1 t o v):cm P s2 u o w:=by
 have l:=L.ev;cases o with
 |alloc T=>
  simp only[cm] at h⊢;rw[e] at h;split at h<;>try exact h.elim
  rename_i d
  try simp only[d]
  exact i _ _ h
 | box T x=>
  simp only[cm] at h⊢;rw[e,l x (by simp[opsOf])] at h;split at h<;>try exact h.elim
  rename_i f
  try rw[if_pos f]
  split at h
  ·rename_i C
   first|simp only[C]|skip
   exact cj (i _ _) h
  ·rename_i C
   first|simp only[C]|skip
   exact i _ _ h
 |store T p x=>
  simp only[cm] at h⊢;rw[l x (by simp[opsOf]),l p (by simp[opsOf])] at h;exact DV e (fun st=>i st _) h
 |buildSlice T N E=>
  simp only[cm] at h⊢;rw[e,jd (fun x z=>l x (by simpa only[opsOf] using z))] at h;split at h<;>try exact h.elim
  rename_i d
  try simp only[d]
  split at h<;>try exact h.elim
  rename_i d
  try simp only[d]
  split at h<;>try exact h.elim
  rename_i d
  try simp only[d]
  split at h<;>try exact h.elim
  rename_i f
  try rw[if_pos f]
  exact i _ _ h
 |makeSlice T O R=>
  simp only[cm] at h⊢;rw[e,l O (by simp[opsOf]),l R (by simp[opsOf])] at h;split at h<;>try exact h.elim
  rename_i d g q
  try simp only[d,g,q]
  split at h<;>try exact h.elim
  rename_i d
  try simp only[d]
  exact cj (i _ _) h
 | makeMap T r=>
  cases r with
  |some r=>exact h.elim
  |none=>
   simp only[cm] at h⊢;rw[e] at h;split at h<;>try exact h.elim
   rename_i d
   try simp only[d]
   exact i _ _ h
 |mapUpdate T m k x=>
  simp only[cm] at h⊢;rw[e,l m (by simp[opsOf]),l k (by simp[opsOf]),l x (by simp[opsOf])] at h;split at h<;>try exact h.elim
  rename_i d g q B
  try simp only[d,g,q,B]
  split at h<;>try exact h.elim
  rename_i d
  try simp only[d]
  split at h<;>try exact h.elim
  rename_i f
  try rw[if_pos f]
  exact i _ _ h
 |mapEntry T m k=>
  simp only[cm] at h⊢;rw[e,l m (by simp[opsOf]),l k (by simp[opsOf])] at h;split at h<;>try exact h.elim
  rename_i d g q
  try simp only[d,g,q]
  split at h<;>try exact h.elim
  rename_i d g
  try simp only[d,g]
  split at h<;>try exact h.elim
  rename_i f
  try rw[if_pos f]
  exact i _ _ h
 |entryStore T m F x=>
  simp only[cm] at h⊢;rw[e,l m (by simp[opsOf]),l F (by simp[opsOf]),l x (by simp[opsOf])] at h;split at h<;>try exact h.elim
  rename_i d g q B
  try simp only[d,g,q,B]
  split at h<;>try exact h.elim
  rename_i d
  try simp only[d]
  split at h<;>try exact h.elim
  rename_i f
  try rw[if_pos f]
  exact i _ _ h
 | range T x=>
  simp only[cm] at h⊢;rw[e,l x (by simp[opsOf])] at h;split at h<;>try exact h.elim
  ·rename_i d g
   try simp only[d,g]
   split at h<;>try exact h.elim
   rename_i d
   try simp only[d]
   exact i _ _ h
  ·rename_i d g
   try simp only[d,g]
   exact i _ _ h
  ·rename_i d g
   try simp only[d,g]
   exact i _ _ h
  ·rename_i d g
   try simp only[d,g]
   exact i _ _ h
 | next A D=>
  cases D with
  | true=>
   simp only[cm] at h⊢;rw[e,l A (by simp[opsOf])] at h;split at h<;>try exact h.elim
   rename_i d
   try simp only[d]
   split at h<;>try exact h.elim
   rename_i d
   try simp only[d]
   have j: ∀a,v (put s1 t a)->w (put s2 u a):=fun a s=>by
    have:=i s1.st a s
    rw[show({s2 with st:=s1.st}:S)=s2 by rw[e]] at this;exact this
   obtain⟨I,H⟩:=GC h;cases K:Nat.blt _ _ with
   |true=>rw[K] at I;exact i _ _ (I rfl)
   |false=>rw[K] at H;exact j _ (H rfl)
  | false=>
   simp only[cm] at h⊢;rw[e,l A (by simp[opsOf])] at h;have j: ∀a,v (put s1 t a)->w (put s2 u a):=fun a s=>by
    have:=i s1.st a s
    rw[show({s2 with st:=s1.st}:S)=s2 by rw[e]] at this;exact this
   split at h<;>try exact h.elim
   rename_i d
   try simp only[d]
   split at h<;>try exact h.elim
   ·rename_i d
    try simp only[d]
    split at h
    case h_2=>
     rename_i d;split at h<;>try exact h.elim
     exact j _ h
    rename_i d
    try simp only[d]
    exact cj (xd (fun k a=>i _ _) (j _)) h
   ·rename_i d
    try simp only[d]
    exact xd (fun k a=>i _ _) (j _) h
 | entry A=>
  have j: ∀a,v (put s1 t a)->w (put s2 u a):=fun a s=>by
   have:=i s1.st a s
   rw[show({s2 with st:=s1.st}:S)=s2 by rw[e]] at this;exact this
  simp only[cm] at h⊢;rw[e,l A (by simp[opsOf])] at h;split at h<;>try exact h.elim
  rename_i d
  try simp only[d]
  split at h
  case h_3=>exact h.elim
  case h_2=>
   rename_i g
   try simp only[g]
   split at h<;>try exact h.elim
   rename_i d
   try simp only[d]
   exact j _ h
  rename_i d
  try simp only[d]
  split at h<;>try exact h.elim
  rename_i d
  try simp only[d]
  split at h<;>try exact h.elim
  rename_i d
  try simp only[d]
  exact cj (j _) h
 | call c=>
  obtain⟨n,J,Q⟩:=c;cases n with
  | builtin b=>
   cases b<;>try exact h.elim
   case clear=>
    simp only[cm] at h⊢;rw[gO (fun x z=>l x (by simpa only[opsOf] using z)),e] at h;split at h<;>try exact h.elim
    rename_i d g
    try simp only[d,g]
    split at h<;>try exact h.elim
    rename_i d g
    try simp only[d,g]
    split at h<;>try exact h.elim
    rename_i d
    try simp only[d]
    split at h<;>try exact h.elim
    rename_i f
    try rw[if_pos f]
    exact i _ _ h
   simp only[cm] at h⊢;rw[gO (fun x z=>l x (by simpa only[opsOf] using z))] at h;split at h<;>try exact h.elim
   rename_i d g
   try simp only[d,g]
   split at h<;>try exact h.elim
   rename_i f
   try rw[if_pos f]
   exact Ak e (fun st a=>i st a) h
  |_=>exact h.elim
 | binOp U T x y V=>
  have j: ∀a,v (put s1 t a)->w (put s2 u a):=fun a s=>by
   have:=i s1.st a s
   rw[show({s2 with st:=s1.st}:S)=s2 by rw[e]] at this;exact this
  cases U with
  |eql=>
   simp only[cm] at h⊢;rw[e,l x (by simp[opsOf])] at h;exact sm (fun _=>j _) h
  |neq=>
   simp only[cm] at h⊢;rw[e,l x (by simp[opsOf])] at h;exact sm (fun _=>j _) h
  |_=>exact h.elim
 |_=>exact h.elim
end Go.Dn
