import Derived.Test.YtioeffnadipbaaaGreatDoorDnZ
namespace Go.Dn
open Go
structure uL(o:Op)(s1 s2:S):Prop where
 ev: ∀x,x∈opsOf o->ev s1 x=ev s2 x
theorem gE{s1 s2}: ∀{l},(∀x,x∈l->ev s1 x=ev s2 x)->ot s1 l=ot s2 l
 |[],_=>rfl
 |x::l,h=>by
  simp only[ot];rw[h x (by simp),gE fun y a=>h y (by grind)]
theorem jh{s1 s2}: ∀{l},(∀x,x∈l.map (·.2)->ev s1 x=ev s2 x)->fm s1 l=fm s2 l
 |[],_=>rfl
 |(i,x)::l,h=>by
  simp only[fm];rw[h x (by simp),jh fun y a=>h y (by grind)]
theorem uo{s1 s2 o d}(h: ∀x,x∈qQ o->ev s1 x=ev s2 x):fK s1 o d=fK s2 o d:=by
 cases o<;>grind [fK,qQ]
theorem Jk{s1 s2 o}(h: ∀x,x∈qQ o->ev s1 x=ev s2 x):wm s1 o=wm s2 o:=by
 cases o<;>grind [wm,qQ]
theorem yS{E s1 s2 o}(h:uL o s1 s2)(d:s1.st=s2.st):bJ E s1 o=bJ E s2 o:=by
 have a:=h.ev;cases o with
 |move x=>simp only[bJ];rw[a x (by simp[opsOf])]
 |assign x=>simp only[bJ];rw[a x (by simp[opsOf])]
 |load T x=>simp only[bJ];rw[a x (by simp[opsOf]),d]
 |nilCheck x=>simp only[bJ];rw[a x (by simp[opsOf]),d]
 |binOp w T x y B=>simp only[bJ];rw[a x (by simp[opsOf]),a y (by simp[opsOf])]
 |unOp w T x=>simp only[bJ];rw[a x (by simp[opsOf])]
 |makeInterface T x=>simp only[bJ];rw[a x (by simp[opsOf])]
 |convert S T x=>simp only[bJ];rw[a x (by simp[opsOf]),d]
 | slice T x lo z m=>
  cases m with
  |some m=>
   simp only[bJ,mN]
   grind [opsOf,Jk]
  |none=>
   simp only[bJ,qh];rw[a x (by simp[opsOf]),d];simp only[uo (s1:=s1) (s2:=s2) (o:=lo) (fun y s=>a y (by simp[opsOf,s])),uo (s1:=s1) (s2:=s2) (o:=z) (fun y s=>a y (by simp[opsOf,s]))]
 |fieldAddr T x f=>simp only[bJ];rw[a x (by simp[opsOf]),d]
 |field T x f=>simp only[bJ];rw[a x (by simp[opsOf])]
 |indexAddr T x i=>simp only[bJ,gK];rw[a x (by simp[opsOf]),a i (by simp[opsOf]),d]
 |index T x i=>simp only[bJ];rw[a x (by simp[opsOf]),a i (by simp[opsOf])]
 |lookup T m k A=>simp only[bJ,nt];rw[a m (by simp[opsOf]),a k (by simp[opsOf]),d]
 |extract x i=>simp only[bJ];rw[a x (by simp[opsOf])]
 |makeFunc u q t=>
  cases u with
  |func f=>simp only[bJ];rw[gE (fun x n=>a x (by simpa[opsOf] using n))]
  |_=>rfl
 |build T p=>simp only[bJ];rw[jh (fun x n=>a x (by simpa only[opsOf] using n))]
 | call c=>
  obtain⟨e,j,v⟩:=c;cases e with
  |builtin b=>
   have:=gE (s1:=s1) (s2:=s2) (l:=j.toList) (fun x n=>a x (by simpa only[opsOf] using n))
   cases b<;>first|rfl|(simp only[bJ];rw[this];done)|(simp only[bJ];rw[this,d])
  |value g=>
   have:=gE (s1:=s1) (s2:=s2) (l:=j.toList) (fun x n=>a x (by simp only[opsOf,ar4];exact .inr n))
   cases g<;>first|rfl|(simp only[bJ];rw[this,d])
  |invoke r m=>rfl
 |_=>rfl
def Kept st st':=∀i,ay st i= .dead\/ay st' i=ay st i
theorem Kept.refl st:Kept st st:=fun _=> .inr rfl
theorem Kept.app st l:Kept st (st++l):=fun i=>by
 grind [dQ,eM]
theorem Kept.gY{st st'}(h:Kept st st'){i x}(he:gY (ay st i)=some x):gY (ay st' i)=some x:=by
 rcases h i with e|e
 ·rw[e] at he;cases he
 grind
theorem Kept.get{st st'}(h:Kept st st'){i o}(he:ay st i=o)(hd:o≠ .dead):ay st' i=o:=by
 rcases h i with e|e
 ·grind
 grind
theorem Kept.live{st st'}(h:Kept st st'){i}(he:iM st i=true):iM st' i=true:=by
 unfold iM at he⊢;rcases h i with e|e
 ·grind
 grind
mutual
theorem kF{st st':List Obj}(h:Kept st st'): ∀(a b:AV),cg st a=some b->cg st' a=some b
 | .lit v,b,e=>by simpa only[cg] using e
 | .ah T l,b,e=>by simpa only[cg] using e
 | .ak i lo n,b,e=>by
  simp only[cg] at e⊢;split at e
  ·rename_i T xs hx
   rw[h.gY hx];exact e
  ·cases e
 | .agg l,b,e=>by
  simp only[cg] at e⊢;cases hl:lQ st l with
  |none=>rw[hl] at e;cases e
  |some m=>rw[hl] at e;rw[xU h l m hl];exact e
 | .je T a,b,e=>by simpa only[cg] using e
 | .ju T a,b,e=>by
  simp only[cg] at e⊢;cases ha:cg st a with
  |none=>rw[ha] at e;cases e
  |some m=>rw[ha] at e;rw[kF h a m ha];exact e
 | .bm f caps,b,e=>by
  cases caps with
  |nil=>simpa only[cg] using e
  |cons x l=>simp[cg] at e
 | .ptr _ _ _ _,b,e=>by simp[cg] at e
 | .eS _ _ _ _,b,e=>by simpa only[cg] using e
 | .mp i,b,e=>by
  simp only[cg] at e⊢;rcases h i with e2|e2
  ·rw[e2] at e;cases e
  ·rw[e2];exact e
 | .aH _,b,e=>by simp[cg] at e
 | .cB,b,e=>by simp[cg] at e
 | .cf _,b,e=>by simp[cg] at e
 | .lj _ _,b,e=>by simp[cg] at e
theorem xU{st st':List Obj}(h:Kept st st'): ∀(l m:List AV),lQ st l=some m->lQ st' l=some m
 |[],m,e=>by simpa only[lQ] using e
 | a::l,m,e=>by
  simp only[lQ] at e⊢;cases ha:cg st a with
  |none=>rw[ha] at e;cases e
  |some b=>
   cases hl:lQ st l with
   |none=>rw[ha,hl] at e;cases e
   |some k=>rw[ha,hl] at e;rw[kF h a b ha,xU h l k hl];exact e
end
theorem F0{st st'}(h:Kept st st'){a b}(e:re st a=some b):re st' a=some b:=by
 unfold re at e⊢;cases a with
 | ak i lo m=>
  cases lo with
  |zero=>grind [kF]
  |succ k=>
   rcases h i with e2|e2
   ·grind [cg,gY]
   ·grind [kF]
 |_=>exact kF h _ _ e
theorem pR{st st'}(h:Kept st st'): ∀l m,fz st l=some m->fz st' l=some m
 |[],m,e=>by grind [fz]
 | a::l,m,e=>by
  simp[fz] at e⊢;cases ha:re st a with
  |none=>grind
  |some b=>
   cases hl:fz st l with
   |none=>grind
   |some k=>rw[ha,hl] at e;rw[F0 h ha,pR h l k hl];omega
theorem EP{P st st'}(h:Kept st st'){T a x}(e:nH P st T a=some x):nH P st' T a=some x:=by
 cases a<;>try exact e
 rename_i i k p off;rcases h i with e2|e2
 ·simp[nH,e2] at e;cases e
 grind [nH]
theorem KD{P st st'}(h:Kept st st'){T a x}(e:zW P st T a=some x):zW P st' T a=some x:=by
 unfold zW at e⊢;split at e<;>try exact e
 ·rename_i i _
  rcases h i with e2|e2
  ·grind
  grind
 ·rename_i i _ _ _
  rcases h i with e2|e2
  ·rw[e2] at e;cases e
  grind
theorem w5{P st st'}(h:Kept st st'){T a f x}(e:gG P st T a f=some x):gG P st' T a f=some x:=by
 unfold gG at e⊢;split at e
 ·cases e
 ·split at e
  ·cases e
  ·rename_i h1
   rw[if_neg h1];split at e
   ·split at e
    ·rename_i h2
     rw[if_pos (h.live h2)];exact e
    grind
   ·exact e
   ·cases e
theorem Cb{P s s'}(h:Kept s.st s'.st){T a lo hi}(h1: ∀d,fK s lo d=fK s' lo d)(h2: ∀d,fK s hi d=fK s' hi d){x}(e:qh P s T a lo hi=some x):qh P s' T a lo hi=some x:=by
 unfold qh at e⊢;simp only[←h1,←h2];split at e<;>try exact e
 cases hx:gY (ay s.st _) with
 |none=>rw[hx] at e;grind
 |some y=>rw[hx] at e;rw[h.gY hx];exact e
theorem wY{P s s'}(h:Kept s.st s'.st){T a i x}(e:gK P s T a i=some x):gK P s' T a i=some x:=by
 unfold gK at e⊢;split at e<;>try exact e
 ·split at e<;>try exact e
  split at e
  ·rename_i hx
   rw[h.gY hx];exact e
  ·split at e
   ·rename_i hst
    have:=h.get hst (by simp)
    grind
   ·cases e
 ·split at e<;>try exact e
  split at e
  ·rename_i hc
   rw[if_pos ⟨hc.1,hc.2.1,h.live hc.2.2⟩];exact e
  ·cases e
theorem Df{P s s'}(h:Kept s.st s'.st){T a lo hi m}(h1: ∀o,wm s o=wm s' o){x}(e:mN P s T a lo hi m=some x):mN P s' T a lo hi m=some x:=by
 unfold mN at e⊢;simp only[←h1];split at e<;>try exact e
 cases hx:gY (ay s.st _) with
 |none=>rw[hx] at e;grind
 |some y=>rw[hx] at e;rw[h.gY hx];exact e
theorem FC{P st st'}(h:Kept st st'){S T a x}(e:CF P st S T a=some x):CF P st' S T a=some x:=by
 unfold CF at e⊢;split at e
 ·split at e<;>try cases e
  split at e<;>try cases e
  rename_i hc;rw[if_pos hc];split at e<;>try exact e
  split at e
  ·rename_i hel
   simp only[h.gY hel];exact e
  grind
 ·exact e
theorem DM{P s s'}(h:Kept s.st s'.st){T m k ok x}(e:nt P s T m k ok=some x):nt P s' T m k ok=some x:=by
 unfold nt at e⊢;split at e<;>try exact e
 split at e<;>try exact e
 rename Nat=>i
 rcases h i with e2|e2
 ·grind
 grind
theorem Ju{E s1 s2 o}(h:uL o s1 s2)(n:Kept s1.st s2.st){x}(e:bJ E s1 o=some x):bJ E s2 o=some x:=by
 have H:=h.ev;have a:bJ E {s2 with st:=s1.st} o=some x:=by
  rw[←e];exact(yS (s1:=s1) (s2:={s2 with st:=s1.st}) ⟨fun y A=>by rw[H y A];cases y<;>rfl⟩ rfl).symm
 cases o with
 |load T y=>
  simp only[bJ] at a⊢;have j:ev {s2 with st:=s1.st} y=ev s2 y:=by cases y<;>rfl
  rw[j] at a;split at a
  ·exact a
  split at a
  ·exact a
  ·exact EP n a
 | nilCheck y=>
  simp only[bJ] at a⊢;have j:ev {s2 with st:=s1.st} y=ev s2 y:=by cases y<;>rfl
  rw[j] at a;split at a<;>try exact a
  split at a
  ·rename_i C
   rw[if_pos (n.live C)];exact a
  ·cases a
 | slice T y lo B m=>
  cases m with
  | some m=>
   simp only[bJ] at a⊢;have j:ev {s2 with st:=s1.st} y=ev s2 y:=by cases y<;>rfl
   rw[j] at a;have q: ∀(o:Option Operand),wm {s2 with st:=s1.st} o=wm s2 o:=fun o=>by
    cases o with
    |none=>rfl
    |some y=>cases y<;>rfl
   exact Df (s:={s2 with st:=s1.st}) n q a
  | none=>
   simp only[bJ] at a⊢;have j:ev {s2 with st:=s1.st} y=ev s2 y:=by cases y<;>rfl
   rw[j] at a;have q: ∀(o:Option Operand) d,fK {s2 with st:=s1.st} o d=fK s2 o d:=fun o d=>by
    cases o with
    |none=>rfl
    |some y=>cases y<;>rfl
   exact Cb (s:={s2 with st:=s1.st}) n (q lo) (q B) a
 |fieldAddr T y f=>
  simp only[bJ] at a⊢;have j:ev {s2 with st:=s1.st} y=ev s2 y:=by cases y<;>rfl
  rw[j] at a;exact w5 n a
 |convert S T y=>
  simp only[bJ] at a⊢;have j:ev {s2 with st:=s1.st} y=ev s2 y:=by cases y<;>rfl
  rw[j] at a;exact FC n a
 |indexAddr T y i=>
  simp only[bJ] at a⊢;have j: ∀y,ev {s2 with st:=s1.st} y=ev s2 y:=fun y=>by cases y<;>rfl
  rw[j,j] at a;exact wY (s:={s2 with st:=s1.st}) n a
 |lookup T m k I=>
  simp only[bJ] at a⊢;have j: ∀y,ev {s2 with st:=s1.st} y=ev s2 y:=fun y=>by cases y<;>rfl
  rw[j,j] at a;exact DM (s:={s2 with st:=s1.st}) n a
 | call c=>
  obtain⟨p,w,F⟩:=c;have j: ∀l,ot {s2 with st:=s1.st} l=ot s2 l:=fun l=>gE fun y _=>by cases y<;>rfl
  cases p with
  | builtin b=>
   cases b<;>try (simp only[bJ,j] at a⊢;exact a)
   simp only[bJ,j] at a⊢;split at a<;>try exact a
   split at a
   ·rename_i t
    rw[KD n t];exact a
   ·cases a
  | value g=>
   cases g<;>try (simp only[bJ] at a⊢;exact a)
   simp only[bJ,j] at a⊢;split at a
   ·rename_i t
    rw[pR n _ _ t];exact a
   ·cases a
  |invoke r m=>exact a
 |makeFunc D v z=>
  have j: ∀l,ot {s2 with st:=s1.st} l=ot s2 l:=fun l=>gE fun y _=>by cases y<;>rfl
  cases D<;>try (simp only[bJ] at a⊢;exact a)
  simp only[bJ,j] at a⊢;exact a
 |build T u=>
  have j: ∀l,fm {s2 with st:=s1.st} l=fm s2 l:=fun l=>jh fun y _=>by cases y<;>rfl
  simp only[bJ,j] at a⊢;exact a
 |_=>
  have j: ∀y,ev {s2 with st:=s1.st} y=ev s2 y:=fun y=>by cases y<;>rfl
  simp only[bJ,j] at a⊢;exact a
theorem Da st st' s s' v:re st (ev s (.const v))=re st' (ev s' (.const v)):=by
 simp[ev];split<;>rfl
theorem oD st st' s s': ∀l,PJ l=true->fz st (ot s l)=fz st' (ot s' l)
 |[],_=>rfl
 | .const v::l,h=>by
  simp[ot,fz];rw[Da _ _ s _ v,oD _ _ s _ l h]
 | .tmp _::_,h=>nomatch h
 | .global _::_,h=>nomatch h
 | .func _::_,h=>nomatch h
theorem GN{E s1 s2 o}(h:uL o s1 s2)(d:fg E.quiet o=0):bJ E s1 o=bJ E s2 o:=by
 have j:=h.ev;cases o with
 |move x=>simp only[bJ];rw[j x (by simp[opsOf])]
 |assign x=>simp only[bJ];rw[j x (by simp[opsOf])]
 |binOp v T x y B=>simp_all[bJ,opsOf]
 |unOp v T x=>simp only[bJ];rw[j x (by simp[opsOf])]
 |makeInterface T x=>simp only[bJ];rw[j x (by simp[opsOf])]
 |convert S T x=>simp[fg] at d
 |extract x i=>simp only[bJ];rw[j x (by simp[opsOf])]
 |makeFunc z n t=>
  cases z with
  |func f=>simp only[bJ];rw[gE (fun x p=>j x (by simpa[opsOf] using p))]
  |_=>rfl
 |pick c a b=>rfl
 |load T x=>simp[fg] at d
 |nilCheck x=>simp[fg] at d
 |slice T x lo C m=>simp[fg] at d
 |fieldAddr T x f=>simp[fg] at d
 |field T x f=>simp only[bJ];rw[j x (by simp[opsOf])]
 |indexAddr T x i=>simp[fg] at d
 |index T x i=>simp_all[bJ,opsOf]
 |lookup T m k A=>simp[fg] at d
 |build T q=>simp only[bJ];rw[jh (fun x p=>j x (by simpa only[opsOf] using p))]
 | call c=>
  obtain⟨e,l,w⟩:=c;cases e with
  |builtin b=>cases b<;>simp[fg] at d
  | value g=>
   cases g with
   | func f=>
    simp only[fg] at d;cases u:E.quiet f with
    |false=>simp[u] at d
    |true=>
     rw[u,aq3] at d;cases s:PJ l.toList with
     |false=>simp[s] at d
     |true=>simp only[bJ];rw[oD s1.st s2.st s1 s2 _ s]
   |_=>simp[fg] at d
  |invoke r m=>simp[fg] at d
 |_=>rfl
theorem Dw{s1 s2 o}(h:uL o s1 s2):gD s1 o=gD s2 o:=by
 have e:=h.ev;cases o with
 |call c=>
  obtain⟨a,b,d⟩:=c;cases a<;>grind [gD,opsOf,gE]
 |_=>rfl
theorem Ag{P s1 s2}(d:s1.st=s2.st){T x y i g}(f: ∀st a,i st a->g st a)(h:pC P s1 T x y i):pC P s2 T x y g:=by
 unfold pC at h⊢;rw[d] at h;split at h<;>try exact h.elim
 rename_i b
 try simp only[b]
 split at h<;>try exact h.elim
 rename_i b e
 try simp only[b,e]
 split at h<;>try exact h.elim
 rename_i b
 try simp only[b]
 split at h<;>try exact h.elim
 ·exact cx (f _ _) h
 ·split at h<;>try exact h.elim
  ·rename_i b
   try simp only[b]
   split at h<;>try exact h.elim
   rename_i c
   try rw[if_pos c]
   exact cx (f _ _) h
  ·rename_i b
   try simp only[b]
   split at h<;>try exact h.elim
   rename_i e
   try simp only[e]
   split at h<;>try exact h.elim
   rename_i c
   try rw[if_pos c]
   exact cx (f _ _) h
theorem Ck{P s1 s2}(c:s1.st=s2.st){T x y b a}(d: ∀st,b st->a st)(h:qP P s1 T x y b):qP P s2 T x y a:=by
 unfold qP at h⊢;split at h<;>try exact h.elim
 split at h<;>try exact h.elim
 ·grind
 ·grind
 ·grind [cx]
theorem q8{P st T y a d c}(e: ∀b,d b->c b)(h:nr P st T y a d):nr P st T y a c:=by
 unfold nr at h⊢
 grind
theorem x5{P Kt Vt es ks p p' q q'}(hp: ∀k a,p k a->p' k a)(hq:q->q')(h:B4 P Kt Vt es ks p q):B4 P Kt Vt es ks p' q':=by
 refine⟨?_,fun hs=>hq (h.2 hs)⟩;have h1:=h.1
 grind
theorem wo{P s1 s2 o}(L:uL o s1 s2)(e:s1.st=s2.st){t u v w}(i: ∀st a,v (put {s1 with st:=st} t a)->w (put {s2 with st:=st} u a))
  (h:cm P s1 t o v):cm P s2 u o w:=by
 have l:=L.ev;cases o with
 |alloc T=>
  simp only[cm] at h⊢;rw[e] at h;split at h<;>try exact h.elim
  rename_i d
  try simp only[d]
  exact i _ _ h
 | box T x=>
  simp only[cm] at h⊢;rw[e,l x (by simp[opsOf])] at h;split at h<;>try exact h.elim
  rename_i f
  try rw[if_pos f]
  split at h
  ·rename_i C
   first|simp only[C]|skip
   exact cx (i _ _) h
  ·rename_i C
   first|simp only[C]|skip
   exact i _ _ h
 |store T p x=>
  simp only[cm] at h⊢;rw[l x (by simp[opsOf]),l p (by simp[opsOf])] at h;exact Ck e (fun st=>i st _) h
 |buildSlice T N E=>
  simp only[cm] at h⊢;rw[e,jh (fun x z=>l x (by simpa only[opsOf] using z))] at h;split at h<;>try exact h.elim
  rename_i d
  try simp only[d]
  split at h<;>try exact h.elim
  rename_i d
  try simp only[d]
  split at h<;>try exact h.elim
  rename_i d
  try simp only[d]
  split at h<;>try exact h.elim
  rename_i f
  try rw[if_pos f]
  exact i _ _ h
 |makeSlice T O R=>
  simp only[cm] at h⊢;rw[e,l O (by simp[opsOf]),l R (by simp[opsOf])] at h;split at h<;>try exact h.elim
  rename_i d g q
  try simp only[d,g,q]
  split at h<;>try exact h.elim
  rename_i d
  try simp only[d]
  exact cx (i _ _) h
 | makeMap T r=>
  cases r with
  |some r=>exact h.elim
  |none=>
   simp only[cm] at h⊢;rw[e] at h;split at h<;>try exact h.elim
   rename_i d
   try simp only[d]
   exact i _ _ h
 |mapUpdate T m k x=>
  simp only[cm] at h⊢;rw[e,l m (by simp[opsOf]),l k (by simp[opsOf]),l x (by simp[opsOf])] at h;split at h<;>try exact h.elim
  rename_i d g q B
  try simp only[d,g,q,B]
  split at h<;>try exact h.elim
  rename_i d
  try simp only[d]
  split at h<;>try exact h.elim
  rename_i f
  try rw[if_pos f]
  exact i _ _ h
 |mapEntry T m k=>
  simp only[cm] at h⊢;rw[e,l m (by simp[opsOf]),l k (by simp[opsOf])] at h;split at h<;>try exact h.elim
  rename_i d g q
  try simp only[d,g,q]
  split at h<;>try exact h.elim
  rename_i d g
  try simp only[d,g]
  split at h<;>try exact h.elim
  rename_i f
  try rw[if_pos f]
  exact i _ _ h
 |entryStore T m F x=>
  simp only[cm] at h⊢;rw[e,l m (by simp[opsOf]),l F (by simp[opsOf]),l x (by simp[opsOf])] at h;split at h<;>try exact h.elim
  rename_i d g q B
  try simp only[d,g,q,B]
  split at h<;>try exact h.elim
  rename_i d
  try simp only[d]
  split at h<;>try exact h.elim
  rename_i f
  try rw[if_pos f]
  exact i _ _ h
 | range T x=>
  simp only[cm] at h⊢;rw[e,l x (by simp[opsOf])] at h;split at h<;>try exact h.elim
  ·rename_i d g
   try simp only[d,g]
   split at h<;>try exact h.elim
   rename_i d
   try simp only[d]
   exact i _ _ h
  ·rename_i d g
   try simp only[d,g]
   exact i _ _ h
  ·rename_i d g
   try simp only[d,g]
   exact i _ _ h
  ·rename_i d g
   try simp only[d,g]
   exact i _ _ h
 | next A D=>
  cases D with
  | true=>
   simp only[cm] at h⊢;rw[e,l A (by simp[opsOf])] at h;split at h<;>try exact h.elim
   rename_i d
   try simp only[d]
   split at h<;>try exact h.elim
   rename_i d
   try simp only[d]
   have j: ∀a,v (put s1 t a)->w (put s2 u a):=fun a s=>by
    have:=i s1.st a s
    rw[show({s2 with st:=s1.st}:S)=s2 by rw[e]] at this;exact this
   obtain⟨I,H⟩:=HM h;cases K:Nat.blt _ _ with
   |true=>rw[K] at I;exact i _ _ (I rfl)
   |false=>rw[K] at H;exact j _ (H rfl)
  | false=>
   simp only[cm] at h⊢;rw[e,l A (by simp[opsOf])] at h;have j: ∀a,v (put s1 t a)->w (put s2 u a):=fun a s=>by
    have:=i s1.st a s
    rw[show({s2 with st:=s1.st}:S)=s2 by rw[e]] at this;exact this
   split at h<;>try exact h.elim
   rename_i d
   try simp only[d]
   split at h<;>try exact h.elim
   ·rename_i d
    try simp only[d]
    split at h
    case h_2=>
     rename_i d;split at h<;>try exact h.elim
     exact j _ h
    rename_i d
    try simp only[d]
    exact cx (x5 (fun k a=>i _ _) (j _)) h
   ·rename_i d
    try simp only[d]
    exact x5 (fun k a=>i _ _) (j _) h
 | entry A=>
  have j: ∀a,v (put s1 t a)->w (put s2 u a):=fun a s=>by
   have:=i s1.st a s
   rw[show({s2 with st:=s1.st}:S)=s2 by rw[e]] at this;exact this
  simp only[cm] at h⊢;rw[e,l A (by simp[opsOf])] at h;split at h<;>try exact h.elim
  rename_i d
  try simp only[d]
  split at h
  case h_3=>exact h.elim
  case h_2=>
   rename_i g
   try simp only[g]
   split at h<;>try exact h.elim
   rename_i d
   try simp only[d]
   exact j _ h
  rename_i d
  try simp only[d]
  split at h<;>try exact h.elim
  rename_i d
  try simp only[d]
  split at h<;>try exact h.elim
  rename_i d
  try simp only[d]
  exact cx (j _) h
 | call c=>
  obtain⟨n,J,Q⟩:=c;cases n with
  | builtin b=>
   cases b<;>try exact h.elim
   case clear=>
    simp only[cm] at h⊢;rw[gE (fun x z=>l x (by simpa only[opsOf] using z)),e] at h;split at h<;>try exact h.elim
    rename_i d g
    try simp only[d,g]
    split at h<;>try exact h.elim
    rename_i d g
    try simp only[d,g]
    split at h<;>try exact h.elim
    rename_i d
    try simp only[d]
    split at h<;>try exact h.elim
    rename_i f
    try rw[if_pos f]
    exact i _ _ h
   simp only[cm] at h⊢;rw[gE (fun x z=>l x (by simpa only[opsOf] using z))] at h;split at h<;>try exact h.elim
   rename_i d g
   try simp only[d,g]
   split at h<;>try exact h.elim
   rename_i f
   try rw[if_pos f]
   exact Ag e (fun st a=>i st a) h
  |_=>exact h.elim
 | binOp U T x y V=>
  have j: ∀a,v (put s1 t a)->w (put s2 u a):=fun a s=>by
   have:=i s1.st a s
   rw[show({s2 with st:=s1.st}:S)=s2 by rw[e]] at this;exact this
  cases U with
  |eql=>
   simp only[cm] at h⊢;rw[e,l x (by simp[opsOf])] at h;exact q8 (fun _=>j _) h
  |neq=>
   simp only[cm] at h⊢;rw[e,l x (by simp[opsOf])] at h;exact q8 (fun _=>j _) h
  |_=>exact h.elim
 |_=>exact h.elim
end Go.Dn
