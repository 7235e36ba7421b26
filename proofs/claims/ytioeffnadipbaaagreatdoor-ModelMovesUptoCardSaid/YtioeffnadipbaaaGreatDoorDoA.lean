import Derived.Test.YtioeffnadipbaaaGreatDoorDnZ
namespace Go.Dn
open Go
structure uz(o:Op)(s1 s2:S):Prop where
 ev: ∀x,x∈opsOf o->ev s1 x=ev s2 x
theorem gO{s1 s2}: ∀{l},(∀x,x∈l->ev s1 x=ev s2 x)->oP s1 l=oP s2 l
 |[],_=>rfl
 |x::l,h=>by
  simp only[oP];rw[h x (by simp),gO fun y a=>h y (by grind)]
theorem ju{s1 s2}: ∀{l},(∀x,x∈l.map (·.2)->ev s1 x=ev s2 x)->fk s1 l=fk s2 l
 |[],_=>rfl
 |(i,x)::l,h=>by
  simp only[fk];rw[h x (by simp),ju fun y a=>h y (by grind)]
theorem uo{s1 s2 o d}(h: ∀x,x∈qs o->ev s1 x=ev s2 x):fO s1 o d=fO s2 o d:=by
 cases o<;>grind [fO,qs]
theorem KA{s1 s2 o}(h: ∀x,x∈qs o->ev s1 x=ev s2 x):yc s1 o=yc s2 o:=by
 cases o<;>grind [yc,qs]
theorem zG{E s1 s2 o}(h:uz o s1 s2)(d:s1.st=s2.st):bJ E s1 o=bJ E s2 o:=by
 have a:=h.ev;cases o with
 |move x=>simp only[bJ];rw[a x (by simp[opsOf])]
 |assign x=>simp only[bJ];rw[a x (by simp[opsOf])]
 |load T x=>simp only[bJ];rw[a x (by simp[opsOf]),d]
 |nilCheck x=>simp only[bJ];rw[a x (by simp[opsOf]),d]
 |binOp w T x y B=>simp only[bJ];rw[a x (by simp[opsOf]),a y (by simp[opsOf])]
 |unOp w T x=>simp only[bJ];rw[a x (by simp[opsOf])]
 |makeInterface T x=>simp only[bJ];rw[a x (by simp[opsOf])]
 |convert S T x=>simp only[bJ];rw[a x (by simp[opsOf]),d]
 | slice T x lo z m=>
  cases m with
  |some m=>
   simp only[bJ,nv]
   grind [opsOf,KA]
  |none=>
   simp only[bJ,qM];rw[a x (by simp[opsOf]),d];simp only[uo (s1:=s1) (s2:=s2) (o:=lo) (fun y s=>a y (by simp[opsOf,s])),uo (s1:=s1) (s2:=s2) (o:=z) (fun y s=>a y (by simp[opsOf,s]))]
 |fieldAddr T x f=>simp only[bJ];rw[a x (by simp[opsOf]),d]
 |field T x f=>simp only[bJ];rw[a x (by simp[opsOf])]
 |indexAddr T x i=>simp only[bJ,gG];rw[a x (by simp[opsOf]),a i (by simp[opsOf]),d]
 |index T x i=>simp only[bJ];rw[a x (by simp[opsOf]),a i (by simp[opsOf])]
 |lookup T m k A=>simp only[bJ,nd];rw[a m (by simp[opsOf]),a k (by simp[opsOf]),d]
 |extract x i=>simp only[bJ];rw[a x (by simp[opsOf])]
 |makeFunc u q t=>
  cases u with
  |func f=>simp only[bJ];rw[gO (fun x n=>a x (by simpa[opsOf] using n))]
  |_=>rfl
 |build T p=>simp only[bJ];rw[ju (fun x n=>a x (by simpa only[opsOf] using n))]
 | call c=>
  obtain⟨e,j,v⟩:=c;cases e with
  |builtin b=>
   have:=gO (s1:=s1) (s2:=s2) (l:=j.toList) (fun x n=>a x (by simpa only[opsOf] using n))
   cases b<;>first|rfl|(simp only[bJ];rw[this];done)|(simp only[bJ];rw[this,d])
  |value g=>
   have:=gO (s1:=s1) (s2:=s2) (l:=j.toList) (fun x n=>a x (by simp only[opsOf,ap7];exact .inr n))
   cases g<;>first|rfl|(simp only[bJ];rw[this,d])
  |invoke r m=>rfl
 |_=>rfl
def Kept st st':=∀i,ay st i= .dead\/ay st' i=ay st i
theorem Kept.refl st:Kept st st:=fun _=> .inr rfl
theorem Kept.app st l:Kept st (st++l):=fun i=>by
 grind [dT,eR]
theorem Kept.hR{st st'}(h:Kept st st'){i x}(he:hR (ay st i)=some x):hR (ay st' i)=some x:=by
 rcases h i with e|e
 ·rw[e] at he;cases he
 grind
theorem Kept.get{st st'}(h:Kept st st'){i o}(he:ay st i=o)(hd:o≠ .dead):ay st' i=o:=by
 rcases h i with e|e
 ·grind
 grind
theorem Kept.live{st st'}(h:Kept st st'){i}(he:iO st i=true):iO st' i=true:=by
 unfold iO at he⊢;rcases h i with e|e
 ·grind
 grind
mutual
theorem k9{st st':List Obj}(h:Kept st st'): ∀(a b:AV),cd st a=some b->cd st' a=some b
 | .lit v,b,e=>by simpa only[cd] using e
 | .ah T l,b,e=>by simpa only[cd] using e
 | .an i lo n,b,e=>by
  simp only[cd] at e⊢;split at e
  ·rename_i T xs hx
   rw[h.hR hx];exact e
  ·cases e
 | .agg l,b,e=>by
  simp only[cd] at e⊢;cases hl:lT st l with
  |none=>rw[hl] at e;cases e
  |some m=>rw[hl] at e;rw[xw h l m hl];exact e
 | .jh T a,b,e=>by simpa only[cd] using e
 | .jx T a,b,e=>by
  simp only[cd] at e⊢;cases ha:cd st a with
  |none=>rw[ha] at e;cases e
  |some m=>rw[ha] at e;rw[k9 h a m ha];exact e
 | .bn f caps,b,e=>by
  cases caps with
  |nil=>simpa only[cd] using e
  |cons x l=>simp[cd] at e
 | .ptr _ _ _ _,b,e=>by simp[cd] at e
 | .eQ _ _ _ _,b,e=>by simpa only[cd] using e
 | .mp i,b,e=>by
  simp only[cd] at e⊢;rcases h i with e2|e2
  ·rw[e2] at e;cases e
  ·rw[e2];exact e
 | .aJ _,b,e=>by simp[cd] at e
 | .cC,b,e=>by simp[cd] at e
 | .cf _,b,e=>by simp[cd] at e
 | .lv _ _,b,e=>by simp[cd] at e
theorem xw{st st':List Obj}(h:Kept st st'): ∀(l m:List AV),lT st l=some m->lT st' l=some m
 |[],m,e=>by simpa only[lT] using e
 | a::l,m,e=>by
  simp only[lT] at e⊢;cases ha:cd st a with
  |none=>rw[ha] at e;cases e
  |some b=>
   cases hl:lT st l with
   |none=>rw[ha,hl] at e;cases e
   |some k=>rw[ha,hl] at e;rw[k9 h a b ha,xw h l k hl];exact e
end
theorem Gj{st st'}(h:Kept st st'){a b}(e:rk st a=some b):rk st' a=some b:=by
 unfold rk at e⊢;cases a with
 | an i lo m=>
  cases lo with
  |zero=>grind [k9]
  |succ k=>
   rcases h i with e2|e2
   ·grind [cd,hR]
   ·grind [k9]
 |_=>exact k9 h _ _ e
theorem qh{st st'}(h:Kept st st'): ∀l m,fA st l=some m->fA st' l=some m
 |[],m,e=>by grind [fA]
 | a::l,m,e=>by
  simp[fA] at e⊢;cases ha:rk st a with
  |none=>grind
  |some b=>
   cases hl:fA st l with
   |none=>grind
   |some k=>rw[ha,hl] at e;rw[Gj h ha,qh h l k hl];omega
theorem EU{P st st'}(h:Kept st st'){T a x}(e:nG P st T a=some x):nG P st' T a=some x:=by
 cases a<;>try exact e
 rename_i i k p off;rcases h i with e2|e2
 ·simp[nG,e2] at e;cases e
 grind [nG]
theorem KB{P st st'}(h:Kept st st'){T a x}(e:BO P st T a=some x):BO P st' T a=some x:=by
 unfold BO at e⊢;split at e<;>try exact e
 ·rename_i i _
  rcases h i with e2|e2
  ·grind
  grind
 ·rename_i i _ _ _
  rcases h i with e2|e2
  ·rw[e2] at e;cases e
  grind
theorem yg{P st st'}(h:Kept st st'){T a f x}(e:gK P st T a f=some x):gK P st' T a f=some x:=by
 unfold gK at e⊢;split at e
 ·cases e
 ·split at e
  ·cases e
  ·rename_i h1
   rw[if_neg h1];split at e
   ·split at e
    ·rename_i h2
     rw[if_pos (h.live h2)];exact e
    grind
   ·exact e
   ·cases e
theorem CY{P s s'}(h:Kept s.st s'.st){T a lo hi}(h1: ∀d,fO s lo d=fO s' lo d)(h2: ∀d,fO s hi d=fO s' hi d){x}(e:qM P s T a lo hi=some x):qM P s' T a lo hi=some x:=by
 unfold qM at e⊢;simp only[←h1,←h2];split at e<;>try exact e
 cases hx:hR (ay s.st _) with
 |none=>rw[hx] at e;grind
 |some y=>rw[hx] at e;rw[h.hR hx];exact e
theorem wx{P s s'}(h:Kept s.st s'.st){T a i x}(e:gG P s T a i=some x):gG P s' T a i=some x:=by
 unfold gG at e⊢;split at e<;>try exact e
 ·split at e<;>try exact e
  split at e
  ·rename_i hx
   rw[h.hR hx];exact e
  ·split at e
   ·rename_i hst
    have:=h.get hst (by simp)
    grind
   ·cases e
 ·split at e<;>try exact e
  split at e
  ·rename_i hc
   rw[if_pos ⟨hc.1,hc.2.1,h.live hc.2.2⟩];exact e
  ·cases e
theorem Ed{P s s'}(h:Kept s.st s'.st){T a lo hi m}(h1: ∀o,yc s o=yc s' o){x}(e:nv P s T a lo hi m=some x):nv P s' T a lo hi m=some x:=by
 unfold nv at e⊢;simp only[←h1];split at e<;>try exact e
 cases hx:hR (ay s.st _) with
 |none=>rw[hx] at e;grind
 |some y=>rw[hx] at e;rw[h.hR hx];exact e
theorem GU{P st st'}(h:Kept st st'){S T a x}(e:De P st S T a=some x):De P st' S T a=some x:=by
 unfold De at e⊢;split at e
 ·split at e<;>try cases e
  split at e<;>try cases e
  rename_i hc;rw[if_pos hc];split at e<;>try exact e
  split at e
  ·rename_i hel
   simp only[h.hR hel];exact e
  grind
 ·exact e
theorem Dq{P s s'}(h:Kept s.st s'.st){T m k ok x}(e:nd P s T m k ok=some x):nd P s' T m k ok=some x:=by
 unfold nd at e⊢;split at e<;>try exact e
 split at e<;>try exact e
 rename Nat=>i
 rcases h i with e2|e2
 ·grind
 grind
theorem JX{E s1 s2 o}(h:uz o s1 s2)(n:Kept s1.st s2.st){x}(e:bJ E s1 o=some x):bJ E s2 o=some x:=by
 have H:=h.ev;have a:bJ E {s2 with st:=s1.st} o=some x:=by
  rw[←e];exact(zG (s1:=s1) (s2:={s2 with st:=s1.st}) ⟨fun y A=>by rw[H y A];cases y<;>rfl⟩ rfl).symm
 cases o with
 |load T y=>
  simp only[bJ] at a⊢;have j:ev {s2 with st:=s1.st} y=ev s2 y:=by cases y<;>rfl
  rw[j] at a;split at a
  ·exact a
  split at a
  ·exact a
  ·exact EU n a
 | nilCheck y=>
  simp only[bJ] at a⊢;have j:ev {s2 with st:=s1.st} y=ev s2 y:=by cases y<;>rfl
  rw[j] at a;split at a<;>try exact a
  split at a
  ·rename_i C
   rw[if_pos (n.live C)];exact a
  ·cases a
 | slice T y lo B m=>
  cases m with
  | some m=>
   simp only[bJ] at a⊢;have j:ev {s2 with st:=s1.st} y=ev s2 y:=by cases y<;>rfl
   rw[j] at a;have q: ∀(o:Option Operand),yc {s2 with st:=s1.st} o=yc s2 o:=fun o=>by
    cases o with
    |none=>rfl
    |some y=>cases y<;>rfl
   exact Ed (s:={s2 with st:=s1.st}) n q a
  | none=>
   simp only[bJ] at a⊢;have j:ev {s2 with st:=s1.st} y=ev s2 y:=by cases y<;>rfl
   rw[j] at a;have q: ∀(o:Option Operand) d,fO {s2 with st:=s1.st} o d=fO s2 o d:=fun o d=>by
    cases o with
    |none=>rfl
    |some y=>cases y<;>rfl
   exact CY (s:={s2 with st:=s1.st}) n (q lo) (q B) a
 |fieldAddr T y f=>
  simp only[bJ] at a⊢;have j:ev {s2 with st:=s1.st} y=ev s2 y:=by cases y<;>rfl
  rw[j] at a;exact yg n a
 |convert S T y=>
  simp only[bJ] at a⊢;have j:ev {s2 with st:=s1.st} y=ev s2 y:=by cases y<;>rfl
  rw[j] at a;exact GU n a
 |indexAddr T y i=>
  simp only[bJ] at a⊢;have j: ∀y,ev {s2 with st:=s1.st} y=ev s2 y:=fun y=>by cases y<;>rfl
  rw[j,j] at a;exact wx (s:={s2 with st:=s1.st}) n a
 |lookup T m k I=>
  simp only[bJ] at a⊢;have j: ∀y,ev {s2 with st:=s1.st} y=ev s2 y:=fun y=>by cases y<;>rfl
  rw[j,j] at a;exact Dq (s:={s2 with st:=s1.st}) n a
 | call c=>
  obtain⟨p,w,F⟩:=c;have j: ∀l,oP {s2 with st:=s1.st} l=oP s2 l:=fun l=>gO fun y _=>by cases y<;>rfl
  cases p with
  | builtin b=>
   cases b<;>try (simp only[bJ,j] at a⊢;exact a)
   simp only[bJ,j] at a⊢;split at a<;>try exact a
   split at a
   ·rename_i t
    rw[KB n t];exact a
   ·cases a
  | value g=>
   cases g<;>try (simp only[bJ] at a⊢;exact a)
   simp only[bJ,j] at a⊢;split at a
   ·rename_i t
    rw[qh n _ _ t];exact a
   ·cases a
  |invoke r m=>exact a
 |makeFunc D v z=>
  have j: ∀l,oP {s2 with st:=s1.st} l=oP s2 l:=fun l=>gO fun y _=>by cases y<;>rfl
  cases D<;>try (simp only[bJ] at a⊢;exact a)
  simp only[bJ,j] at a⊢;exact a
 |build T u=>
  have j: ∀l,fk {s2 with st:=s1.st} l=fk s2 l:=fun l=>ju fun y _=>by cases y<;>rfl
  simp only[bJ,j] at a⊢;exact a
 |_=>
  have j: ∀y,ev {s2 with st:=s1.st} y=ev s2 y:=fun y=>by cases y<;>rfl
  simp only[bJ,j] at a⊢;exact a
theorem Ep st st' s s' v:rk st (ev s (.const v))=rk st' (ev s' (.const v)):=by
 simp[ev];split<;>rfl
theorem oZ st st' s s': ∀l,Pa l=true->fA st (oP s l)=fA st' (oP s' l)
 |[],_=>rfl
 | .const v::l,h=>by
  simp[oP,fA];rw[Ep _ _ s _ v,oZ _ _ s _ l h]
 | .tmp _::_,h=>nomatch h
 | .global _::_,h=>nomatch h
 | .func _::_,h=>nomatch h
theorem Fl{E s1 s2 o}(h:uz o s1 s2)(d:fq E.quiet o=0):bJ E s1 o=bJ E s2 o:=by
 have j:=h.ev;cases o with
 |move x=>simp only[bJ];rw[j x (by simp[opsOf])]
 |assign x=>simp only[bJ];rw[j x (by simp[opsOf])]
 |binOp v T x y B=>simp_all[bJ,opsOf]
 |unOp v T x=>simp only[bJ];rw[j x (by simp[opsOf])]
 |makeInterface T x=>simp only[bJ];rw[j x (by simp[opsOf])]
 |convert S T x=>simp[fq] at d
 |extract x i=>simp only[bJ];rw[j x (by simp[opsOf])]
 |makeFunc z n t=>
  cases z with
  |func f=>simp only[bJ];rw[gO (fun x p=>j x (by simpa[opsOf] using p))]
  |_=>rfl
 |pick c a b=>rfl
 |load T x=>simp[fq] at d
 |nilCheck x=>simp[fq] at d
 |slice T x lo C m=>simp[fq] at d
 |fieldAddr T x f=>simp[fq] at d
 |field T x f=>simp only[bJ];rw[j x (by simp[opsOf])]
 |indexAddr T x i=>simp[fq] at d
 |index T x i=>simp_all[bJ,opsOf]
 |lookup T m k A=>simp[fq] at d
 |build T q=>simp only[bJ];rw[ju (fun x p=>j x (by simpa only[opsOf] using p))]
 | call c=>
  obtain⟨e,l,w⟩:=c;cases e with
  |builtin b=>cases b<;>simp[fq] at d
  | value g=>
   cases g with
   | func f=>
    simp only[fq] at d;cases u:E.quiet f with
    |false=>simp[u] at d
    |true=>
     rw[u,ao6] at d;cases s:Pa l.toList with
     |false=>simp[s] at d
     |true=>simp only[bJ];rw[oZ s1.st s2.st s1 s2 _ s]
   |_=>simp[fq] at d
  |invoke r m=>simp[fq] at d
 |_=>rfl
theorem Di{s1 s2 o}(h:uz o s1 s2):gP s1 o=gP s2 o:=by
 have e:=h.ev;cases o with
 |call c=>
  obtain⟨a,b,d⟩:=c;cases a<;>grind [gP,opsOf,gO]
 |_=>rfl
theorem Ak{P s1 s2}(d:s1.st=s2.st){T x y i g}(f: ∀st a,i st a->g st a)(h:pL P s1 T x y i):pL P s2 T x y g:=by
 unfold pL at h⊢;rw[d] at h;split at h<;>try exact h.elim
 rename_i b
 try simp only[b]
 split at h<;>try exact h.elim
 rename_i b e
 try simp only[b,e]
 split at h<;>try exact h.elim
 rename_i b
 try simp only[b]
 split at h<;>try exact h.elim
 ·exact cy (f _ _) h
 ·split at h<;>try exact h.elim
  ·rename_i b
   try simp only[b]
   split at h<;>try exact h.elim
   rename_i c
   try rw[if_pos c]
   exact cy (f _ _) h
  ·rename_i b
   try simp only[b]
   split at h<;>try exact h.elim
   rename_i e
   try simp only[e]
   split at h<;>try exact h.elim
   rename_i c
   try rw[if_pos c]
   exact cy (f _ _) h
theorem Dj{P s1 s2}(c:s1.st=s2.st){T x y b a}(d: ∀st,b st->a st)(h:qv P s1 T x y b):qv P s2 T x y a:=by
 unfold qv at h⊢;split at h<;>try exact h.elim
 split at h<;>try exact h.elim
 ·grind
 ·grind
 ·grind [cy]
theorem re{P st T y a d c}(e: ∀b,d b->c b)(h:ni P st T y a d):ni P st T y a c:=by
 unfold ni at h⊢
 grind
theorem xE{P Kt Vt es ks p p' q q'}(hp: ∀k a,p k a->p' k a)(hq:q->q')(h:Cw P Kt Vt es ks p q):Cw P Kt Vt es ks p' q':=by
 refine⟨?_,fun hs=>hq (h.2 hs)⟩;have h1:=h.1
 grind
theorem xe{P s1 s2 o}(L:uz o s1 s2)(e:s1.st=s2.st){t u v w}(i: ∀st a,v (put {s1 with st:=st} t a)->w (put {s2 with st:=st} u a))
  (h:cm P s1 t o v):cm P s2 u o w:=by
 have l:=L.ev;cases o with
 |alloc T=>
  simp only[cm] at h⊢;rw[e] at h;split at h<;>try exact h.elim
  rename_i d
  try simp only[d]
  exact i _ _ h
 | box T x=>
  simp only[cm] at h⊢;rw[e,l x (by simp[opsOf])] at h;split at h<;>try exact h.elim
  rename_i f
  try rw[if_pos f]
  split at h
  ·rename_i C
   first|simp only[C]|skip
   exact cy (i _ _) h
  ·rename_i C
   first|simp only[C]|skip
   exact i _ _ h
 |store T p x=>
  simp only[cm] at h⊢;rw[l x (by simp[opsOf]),l p (by simp[opsOf])] at h;exact Dj e (fun st=>i st _) h
 |buildSlice T N E=>
  simp only[cm] at h⊢;rw[e,ju (fun x z=>l x (by simpa only[opsOf] using z))] at h;split at h<;>try exact h.elim
  rename_i d
  try simp only[d]
  split at h<;>try exact h.elim
  rename_i d
  try simp only[d]
  split at h<;>try exact h.elim
  rename_i d
  try simp only[d]
  split at h<;>try exact h.elim
  rename_i f
  try rw[if_pos f]
  exact i _ _ h
 |makeSlice T O R=>
  simp only[cm] at h⊢;rw[e,l O (by simp[opsOf]),l R (by simp[opsOf])] at h;split at h<;>try exact h.elim
  rename_i d g q
  try simp only[d,g,q]
  split at h<;>try exact h.elim
  rename_i d
  try simp only[d]
  exact cy (i _ _) h
 | makeMap T r=>
  cases r with
  |some r=>exact h.elim
  |none=>
   simp only[cm] at h⊢;rw[e] at h;split at h<;>try exact h.elim
   rename_i d
   try simp only[d]
   exact i _ _ h
 |mapUpdate T m k x=>
  simp only[cm] at h⊢;rw[e,l m (by simp[opsOf]),l k (by simp[opsOf]),l x (by simp[opsOf])] at h;split at h<;>try exact h.elim
  rename_i d g q B
  try simp only[d,g,q,B]
  split at h<;>try exact h.elim
  rename_i d
  try simp only[d]
  split at h<;>try exact h.elim
  rename_i f
  try rw[if_pos f]
  exact i _ _ h
 |mapEntry T m k=>
  simp only[cm] at h⊢;rw[e,l m (by simp[opsOf]),l k (by simp[opsOf])] at h;split at h<;>try exact h.elim
  rename_i d g q
  try simp only[d,g,q]
  split at h<;>try exact h.elim
  rename_i d g
  try simp only[d,g]
  split at h<;>try exact h.elim
  rename_i f
  try rw[if_pos f]
  exact i _ _ h
 |entryStore T m F x=>
  simp only[cm] at h⊢;rw[e,l m (by simp[opsOf]),l F (by simp[opsOf]),l x (by simp[opsOf])] at h;split at h<;>try exact h.elim
  rename_i d g q B
  try simp only[d,g,q,B]
  split at h<;>try exact h.elim
  rename_i d
  try simp only[d]
  split at h<;>try exact h.elim
  rename_i f
  try rw[if_pos f]
  exact i _ _ h
 | range T x=>
  simp only[cm] at h⊢;rw[e,l x (by simp[opsOf])] at h;split at h<;>try exact h.elim
  ·rename_i d g
   try simp only[d,g]
   split at h<;>try exact h.elim
   rename_i d
   try simp only[d]
   exact i _ _ h
  ·rename_i d g
   try simp only[d,g]
   exact i _ _ h
  ·rename_i d g
   try simp only[d,g]
   exact i _ _ h
  ·rename_i d g
   try simp only[d,g]
   exact i _ _ h
 | next A D=>
  cases D with
  | true=>
   simp only[cm] at h⊢;rw[e,l A (by simp[opsOf])] at h;split at h<;>try exact h.elim
   rename_i d
   try simp only[d]
   split at h<;>try exact h.elim
   rename_i d
   try simp only[d]
   have j: ∀a,v (put s1 t a)->w (put s2 u a):=fun a s=>by
    have:=i s1.st a s
    rw[show({s2 with st:=s1.st}:S)=s2 by rw[e]] at this;exact this
   obtain⟨I,H⟩:=Ir h;cases K:Nat.blt _ _ with
   |true=>rw[K] at I;exact i _ _ (I rfl)
   |false=>rw[K] at H;exact j _ (H rfl)
  | false=>
   simp only[cm] at h⊢;rw[e,l A (by simp[opsOf])] at h;have j: ∀a,v (put s1 t a)->w (put s2 u a):=fun a s=>by
    have:=i s1.st a s
    rw[show({s2 with st:=s1.st}:S)=s2 by rw[e]] at this;exact this
   split at h<;>try exact h.elim
   rename_i d
   try simp only[d]
   split at h<;>try exact h.elim
   ·rename_i d
    try simp only[d]
    split at h
    case h_2=>
     rename_i d;split at h<;>try exact h.elim
     exact j _ h
    rename_i d
    try simp only[d]
    exact cy (xE (fun k a=>i _ _) (j _)) h
   ·rename_i d
    try simp only[d]
    exact xE (fun k a=>i _ _) (j _) h
 | entry A=>
  have j: ∀a,v (put s1 t a)->w (put s2 u a):=fun a s=>by
   have:=i s1.st a s
   rw[show({s2 with st:=s1.st}:S)=s2 by rw[e]] at this;exact this
  simp only[cm] at h⊢;rw[e,l A (by simp[opsOf])] at h;split at h<;>try exact h.elim
  rename_i d
  try simp only[d]
  split at h
  case h_3=>exact h.elim
  case h_2=>
   rename_i g
   try simp only[g]
   split at h<;>try exact h.elim
   rename_i d
   try simp only[d]
   exact j _ h
  rename_i d
  try simp only[d]
  split at h<;>try exact h.elim
  rename_i d
  try simp only[d]
  split at h<;>try exact h.elim
  rename_i d
  try simp only[d]
  exact cy (j _) h
 | call c=>
  obtain⟨n,J,Q⟩:=c;cases n with
  | builtin b=>
   cases b<;>try exact h.elim
   case clear=>
    simp only[cm] at h⊢;rw[gO (fun x z=>l x (by simpa only[opsOf] using z)),e] at h;split at h<;>try exact h.elim
    rename_i d g
    try simp only[d,g]
    split at h<;>try exact h.elim
    rename_i d g
    try simp only[d,g]
    split at h<;>try exact h.elim
    rename_i d
    try simp only[d]
    split at h<;>try exact h.elim
    rename_i f
    try rw[if_pos f]
    exact i _ _ h
   simp only[cm] at h⊢;rw[gO (fun x z=>l x (by simpa only[opsOf] using z))] at h;split at h<;>try exact h.elim
   rename_i d g
   try simp only[d,g]
   split at h<;>try exact h.elim
   rename_i f
   try rw[if_pos f]
   exact Ak e (fun st a=>i st a) h
  |_=>exact h.elim
 | binOp U T x y V=>
  have j: ∀a,v (put s1 t a)->w (put s2 u a):=fun a s=>by
   have:=i s1.st a s
   rw[show({s2 with st:=s1.st}:S)=s2 by rw[e]] at this;exact this
  cases U with
  |eql=>
   simp only[cm] at h⊢;rw[e,l x (by simp[opsOf])] at h;exact re (fun _=>j _) h
  |neq=>
   simp only[cm] at h⊢;rw[e,l x (by simp[opsOf])] at h;exact re (fun _=>j _) h
  |_=>exact h.elim
 |_=>exact h.elim
end Go.Dn
