import Derived.Test.YtioeffnadipbaaaGreatDoorDnZ
namespace Go.Dn
open Go
structure uw(o:Op)(s1 s2:S):Prop where
 ev: ∀x,x∈opsOf o->ev s1 x=ev s2 x
theorem gD{s1 s2}: ∀{l},(∀x,x∈l->ev s1 x=ev s2 x)->oi s1 l=oi s2 l
 |[],_=>rfl
 |x::l,h=>by
  simp only[oi];rw[h x (by simp),gD fun y a=>h y (by grind)]
theorem iY{s1 s2}: ∀{l},(∀x,x∈l.map (·.2)->ev s1 x=ev s2 x)->ff s1 l=ff s2 l
 |[],_=>rfl
 |(i,x)::l,h=>by
  simp only[ff];rw[h x (by simp),iY fun y a=>h y (by grind)]
theorem tU{s1 s2 o d}(h: ∀x,x∈qC o->ev s1 x=ev s2 x):fM s1 o d=fM s2 o d:=by
 cases o<;>grind [fM,qC]
theorem Kx{s1 s2 o}(h: ∀x,x∈qC o->ev s1 x=ev s2 x):xi s1 o=xi s2 o:=by
 cases o<;>grind [xi,qC]
theorem zy{E s1 s2 o}(h:uw o s1 s2)(d:s1.st=s2.st):bJ E s1 o=bJ E s2 o:=by
 have a:=h.ev;cases o with
 |move x=>simp only[bJ];rw[a x (by simp[opsOf])]
 |assign x=>simp only[bJ];rw[a x (by simp[opsOf])]
 |load T x=>simp only[bJ];rw[a x (by simp[opsOf]),d]
 |nilCheck x=>simp only[bJ];rw[a x (by simp[opsOf]),d]
 |binOp w T x y B=>simp only[bJ];rw[a x (by simp[opsOf]),a y (by simp[opsOf])]
 |unOp w T x=>simp only[bJ];rw[a x (by simp[opsOf])]
 |makeInterface T x=>simp only[bJ];rw[a x (by simp[opsOf])]
 |convert S T x=>simp only[bJ];rw[a x (by simp[opsOf]),d]
 | slice T x lo z m=>
  cases m with
  |some m=>
   simp only[bJ,nw]
   grind [opsOf,Kx]
  |none=>
   simp only[bJ,qL];rw[a x (by simp[opsOf]),d];simp only[tU (s1:=s1) (s2:=s2) (o:=lo) (fun y s=>a y (by simp[opsOf,s])),tU (s1:=s1) (s2:=s2) (o:=z) (fun y s=>a y (by simp[opsOf,s]))]
 |fieldAddr T x f=>simp only[bJ];rw[a x (by simp[opsOf]),d]
 |field T x f=>simp only[bJ];rw[a x (by simp[opsOf])]
 |indexAddr T x i=>simp only[bJ,gF];rw[a x (by simp[opsOf]),a i (by simp[opsOf]),d]
 |index T x i=>simp only[bJ];rw[a x (by simp[opsOf]),a i (by simp[opsOf])]
 |lookup T m k A=>simp only[bJ,ng];rw[a m (by simp[opsOf]),a k (by simp[opsOf]),d]
 |extract x i=>simp only[bJ];rw[a x (by simp[opsOf])]
 |makeFunc u q t=>
  cases u with
  |func f=>simp only[bJ];rw[gD (fun x n=>a x (by simpa[opsOf] using n))]
  |_=>rfl
 |build T p=>simp only[bJ];rw[iY (fun x n=>a x (by simpa only[opsOf] using n))]
 | call c=>
  obtain⟨e,j,v⟩:=c;cases e with
  |builtin b=>
   have:=gD (s1:=s1) (s2:=s2) (l:=j.toList) (fun x n=>a x (by simpa only[opsOf] using n))
   cases b<;>first|rfl|(simp only[bJ];rw[this];done)|(simp only[bJ];rw[this,d])
  |value g=>
   have:=gD (s1:=s1) (s2:=s2) (l:=j.toList) (fun x n=>a x (by simp only[opsOf,at4];exact .inr n))
   cases g<;>first|rfl|(simp only[bJ];rw[this,d])
  |invoke r m=>rfl
 |_=>rfl
def Kept st st':=∀i,ay st i= .dead\/ay st' i=ay st i
theorem Kept.refl st:Kept st st:=fun _=> .inr rfl
theorem Kept.app st l:Kept st (st++l):=fun i=>by
 grind [dQ,eR]
theorem Kept.gX{st st'}(h:Kept st st'){i x}(he:gX (ay st i)=some x):gX (ay st' i)=some x:=by
 rcases h i with e|e
 ·rw[e] at he;cases he
 grind
theorem Kept.get{st st'}(h:Kept st st'){i o}(he:ay st i=o)(hd:o≠ .dead):ay st' i=o:=by
 rcases h i with e|e
 ·grind
 grind
theorem Kept.live{st st'}(h:Kept st st'){i}(he:iL st i=true):iL st' i=true:=by
 unfold iL at he⊢;rcases h i with e|e
 ·grind
 grind
mutual
theorem k9{st st':List Obj}(h:Kept st st'): ∀(a b:AV),cg st a=some b->cg st' a=some b
 | .lit v,b,e=>by simpa only[cg] using e
 | .ah T l,b,e=>by simpa only[cg] using e
 | .ak i lo n,b,e=>by
  simp only[cg] at e⊢;split at e
  ·rename_i T xs hx
   rw[h.gX hx];exact e
  ·cases e
 | .agg l,b,e=>by
  simp only[cg] at e⊢;cases hl:lL st l with
  |none=>rw[hl] at e;cases e
  |some m=>rw[hl] at e;rw[xB h l m hl];exact e
 | .jj T a,b,e=>by simpa only[cg] using e
 | .jt T a,b,e=>by
  simp only[cg] at e⊢;cases ha:cg st a with
  |none=>rw[ha] at e;cases e
  |some m=>rw[ha] at e;rw[k9 h a m ha];exact e
 | .bm f caps,b,e=>by
  cases caps with
  |nil=>simpa only[cg] using e
  |cons x l=>simp[cg] at e
 | .ptr _ _ _ _,b,e=>by simp[cg] at e
 | .eO _ _ _ _,b,e=>by simpa only[cg] using e
 | .mp i,b,e=>by
  simp only[cg] at e⊢;rcases h i with e2|e2
  ·rw[e2] at e;cases e
  ·rw[e2];exact e
 | .aH _,b,e=>by simp[cg] at e
 | .cB,b,e=>by simp[cg] at e
 | .cf _,b,e=>by simp[cg] at e
 | .lj _ _,b,e=>by simp[cg] at e
theorem xB{st st':List Obj}(h:Kept st st'): ∀(l m:List AV),lL st l=some m->lL st' l=some m
 |[],m,e=>by simpa only[lL] using e
 | a::l,m,e=>by
  simp only[lL] at e⊢;cases ha:cg st a with
  |none=>rw[ha] at e;cases e
  |some b=>
   cases hl:lL st l with
   |none=>rw[ha,hl] at e;cases e
   |some k=>rw[ha,hl] at e;rw[k9 h a b ha,xB h l k hl];exact e
end
theorem Gg{st st'}(h:Kept st st'){a b}(e:rQ st a=some b):rQ st' a=some b:=by
 unfold rQ at e⊢;cases a with
 | ak i lo m=>
  cases lo with
  |zero=>grind [k9]
  |succ k=>
   rcases h i with e2|e2
   ·grind [cg,gX]
   ·grind [k9]
 |_=>exact k9 h _ _ e
theorem qa{st st'}(h:Kept st st'): ∀l m,fz st l=some m->fz st' l=some m
 |[],m,e=>by grind [fz]
 | a::l,m,e=>by
  simp[fz] at e⊢;cases ha:rQ st a with
  |none=>grind
  |some b=>
   cases hl:fz st l with
   |none=>grind
   |some k=>rw[ha,hl] at e;rw[Gg h ha,qa h l k hl];omega
theorem FK{P st st'}(h:Kept st st'){T a x}(e:nG P st T a=some x):nG P st' T a=some x:=by
 cases a<;>try exact e
 rename_i i k p off;rcases h i with e2|e2
 ·simp[nG,e2] at e;cases e
 grind [nG]
theorem Kc{P st st'}(h:Kept st st'){T a x}(e:AK P st T a=some x):AK P st' T a=some x:=by
 unfold AK at e⊢;split at e<;>try exact e
 ·rename_i i _
  rcases h i with e2|e2
  ·grind
  grind
 ·rename_i i _ _ _
  rcases h i with e2|e2
  ·rw[e2] at e;cases e
  grind
theorem v9{P st st'}(h:Kept st st'){T a f x}(e:gE P st T a f=some x):gE P st' T a f=some x:=by
 unfold gE at e⊢;split at e
 ·cases e
 ·split at e
  ·cases e
  ·rename_i h1
   rw[if_neg h1];split at e
   ·split at e
    ·rename_i h2
     rw[if_pos (h.live h2)];exact e
    grind
   ·exact e
   ·cases e
theorem DY{P s s'}(h:Kept s.st s'.st){T a lo hi}(h1: ∀d,fM s lo d=fM s' lo d)(h2: ∀d,fM s hi d=fM s' hi d){x}(e:qL P s T a lo hi=some x):qL P s' T a lo hi=some x:=by
 unfold qL at e⊢;simp only[←h1,←h2];split at e<;>try exact e
 cases hx:gX (ay s.st _) with
 |none=>rw[hx] at e;grind
 |some y=>rw[hx] at e;rw[h.gX hx];exact e
theorem wE{P s s'}(h:Kept s.st s'.st){T a i x}(e:gF P s T a i=some x):gF P s' T a i=some x:=by
 unfold gF at e⊢;split at e<;>try exact e
 ·split at e<;>try exact e
  split at e
  ·rename_i hx
   rw[h.gX hx];exact e
  ·split at e
   ·rename_i hst
    have:=h.get hst (by simp)
    grind
   ·cases e
 ·split at e<;>try exact e
  split at e
  ·rename_i hc
   rw[if_pos ⟨hc.1,hc.2.1,h.live hc.2.2⟩];exact e
  ·cases e
theorem DX{P s s'}(h:Kept s.st s'.st){T a lo hi m}(h1: ∀o,xi s o=xi s' o){x}(e:nw P s T a lo hi m=some x):nw P s' T a lo hi m=some x:=by
 unfold nw at e⊢;simp only[←h1];split at e<;>try exact e
 cases hx:gX (ay s.st _) with
 |none=>rw[hx] at e;grind
 |some y=>rw[hx] at e;rw[h.gX hx];exact e
theorem Fg{P st st'}(h:Kept st st'){S T a x}(e:Cv P st S T a=some x):Cv P st' S T a=some x:=by
 unfold Cv at e⊢;split at e
 ·split at e<;>try cases e
  split at e<;>try cases e
  rename_i hc;rw[if_pos hc];split at e<;>try exact e
  split at e
  ·rename_i hel
   simp only[h.gX hel];exact e
  grind
 ·exact e
theorem CW{P s s'}(h:Kept s.st s'.st){T m k ok x}(e:ng P s T m k ok=some x):ng P s' T m k ok=some x:=by
 unfold ng at e⊢;split at e<;>try exact e
 split at e<;>try exact e
 rename Nat=>i
 rcases h i with e2|e2
 ·grind
 grind
theorem KK{E s1 s2 o}(h:uw o s1 s2)(n:Kept s1.st s2.st){x}(e:bJ E s1 o=some x):bJ E s2 o=some x:=by
 have H:=h.ev;have a:bJ E {s2 with st:=s1.st} o=some x:=by
  rw[←e];exact(zy (s1:=s1) (s2:={s2 with st:=s1.st}) ⟨fun y A=>by rw[H y A];cases y<;>rfl⟩ rfl).symm
 cases o with
 |load T y=>
  simp only[bJ] at a⊢;have j:ev {s2 with st:=s1.st} y=ev s2 y:=by cases y<;>rfl
  rw[j] at a;split at a
  ·exact a
  split at a
  ·exact a
  ·exact FK n a
 | nilCheck y=>
  simp only[bJ] at a⊢;have j:ev {s2 with st:=s1.st} y=ev s2 y:=by cases y<;>rfl
  rw[j] at a;split at a<;>try exact a
  split at a
  ·rename_i C
   rw[if_pos (n.live C)];exact a
  ·cases a
 | slice T y lo B m=>
  cases m with
  | some m=>
   simp only[bJ] at a⊢;have j:ev {s2 with st:=s1.st} y=ev s2 y:=by cases y<;>rfl
   rw[j] at a;have q: ∀(o:Option Operand),xi {s2 with st:=s1.st} o=xi s2 o:=fun o=>by
    cases o with
    |none=>rfl
    |some y=>cases y<;>rfl
   exact DX (s:={s2 with st:=s1.st}) n q a
  | none=>
   simp only[bJ] at a⊢;have j:ev {s2 with st:=s1.st} y=ev s2 y:=by cases y<;>rfl
   rw[j] at a;have q: ∀(o:Option Operand) d,fM {s2 with st:=s1.st} o d=fM s2 o d:=fun o d=>by
    cases o with
    |none=>rfl
    |some y=>cases y<;>rfl
   exact DY (s:={s2 with st:=s1.st}) n (q lo) (q B) a
 |fieldAddr T y f=>
  simp only[bJ] at a⊢;have j:ev {s2 with st:=s1.st} y=ev s2 y:=by cases y<;>rfl
  rw[j] at a;exact v9 n a
 |convert S T y=>
  simp only[bJ] at a⊢;have j:ev {s2 with st:=s1.st} y=ev s2 y:=by cases y<;>rfl
  rw[j] at a;exact Fg n a
 |indexAddr T y i=>
  simp only[bJ] at a⊢;have j: ∀y,ev {s2 with st:=s1.st} y=ev s2 y:=fun y=>by cases y<;>rfl
  rw[j,j] at a;exact wE (s:={s2 with st:=s1.st}) n a
 |lookup T m k I=>
  simp only[bJ] at a⊢;have j: ∀y,ev {s2 with st:=s1.st} y=ev s2 y:=fun y=>by cases y<;>rfl
  rw[j,j] at a;exact CW (s:={s2 with st:=s1.st}) n a
 | call c=>
  obtain⟨p,w,F⟩:=c;have j: ∀l,oi {s2 with st:=s1.st} l=oi s2 l:=fun l=>gD fun y _=>by cases y<;>rfl
  cases p with
  | builtin b=>
   cases b<;>try (simp only[bJ,j] at a⊢;exact a)
   simp only[bJ,j] at a⊢;split at a<;>try exact a
   split at a
   ·rename_i t
    rw[Kc n t];exact a
   ·cases a
  | value g=>
   cases g<;>try (simp only[bJ] at a⊢;exact a)
   simp only[bJ,j] at a⊢;split at a
   ·rename_i t
    rw[qa n _ _ t];exact a
   ·cases a
  |invoke r m=>exact a
 |makeFunc D v z=>
  have j: ∀l,oi {s2 with st:=s1.st} l=oi s2 l:=fun l=>gD fun y _=>by cases y<;>rfl
  cases D<;>try (simp only[bJ] at a⊢;exact a)
  simp only[bJ,j] at a⊢;exact a
 |build T u=>
  have j: ∀l,ff {s2 with st:=s1.st} l=ff s2 l:=fun l=>iY fun y _=>by cases y<;>rfl
  simp only[bJ,j] at a⊢;exact a
 |_=>
  have j: ∀y,ev {s2 with st:=s1.st} y=ev s2 y:=fun y=>by cases y<;>rfl
  simp only[bJ,j] at a⊢;exact a
theorem DD st st' s s' v:rQ st (ev s (.const v))=rQ st' (ev s' (.const v)):=by
 simp[ev];split<;>rfl
theorem oO st st' s s': ∀l,Mi l=true->fz st (oi s l)=fz st' (oi s' l)
 |[],_=>rfl
 | .const v::l,h=>by
  simp[oi,fz];rw[DD _ _ s _ v,oO _ _ s _ l h]
 | .tmp _::_,h=>nomatch h
 | .global _::_,h=>nomatch h
 | .func _::_,h=>nomatch h
theorem Gj{E s1 s2 o}(h:uw o s1 s2)(d:fc E.quiet o=0):bJ E s1 o=bJ E s2 o:=by
 have j:=h.ev;cases o with
 |move x=>simp only[bJ];rw[j x (by simp[opsOf])]
 |assign x=>simp only[bJ];rw[j x (by simp[opsOf])]
 |binOp v T x y B=>simp_all[bJ,opsOf]
 |unOp v T x=>simp only[bJ];rw[j x (by simp[opsOf])]
 |makeInterface T x=>simp only[bJ];rw[j x (by simp[opsOf])]
 |convert S T x=>simp[fc] at d
 |extract x i=>simp only[bJ];rw[j x (by simp[opsOf])]
 |makeFunc z n t=>
  cases z with
  |func f=>simp only[bJ];rw[gD (fun x p=>j x (by simpa[opsOf] using p))]
  |_=>rfl
 |pick c a b=>rfl
 |load T x=>simp[fc] at d
 |nilCheck x=>simp[fc] at d
 |slice T x lo C m=>simp[fc] at d
 |fieldAddr T x f=>simp[fc] at d
 |field T x f=>simp only[bJ];rw[j x (by simp[opsOf])]
 |indexAddr T x i=>simp[fc] at d
 |index T x i=>simp_all[bJ,opsOf]
 |lookup T m k A=>simp[fc] at d
 |build T q=>simp only[bJ];rw[iY (fun x p=>j x (by simpa only[opsOf] using p))]
 | call c=>
  obtain⟨e,l,w⟩:=c;cases e with
  |builtin b=>cases b<;>simp[fc] at d
  | value g=>
   cases g with
   | func f=>
    simp only[fc] at d;cases u:E.quiet f with
    |false=>simp[u] at d
    |true=>
     rw[u,as1] at d;cases s:Mi l.toList with
     |false=>simp[s] at d
     |true=>simp only[bJ];rw[oO s1.st s2.st s1 s2 _ s]
   |_=>simp[fc] at d
  |invoke r m=>simp[fc] at d
 |_=>rfl
theorem Cs{s1 s2 o}(h:uw o s1 s2):gB s1 o=gB s2 o:=by
 have e:=h.ev;cases o with
 |call c=>
  obtain⟨a,b,d⟩:=c;cases a<;>grind [gB,opsOf,gD]
 |_=>rfl
theorem Af{P s1 s2}(d:s1.st=s2.st){T x y i g}(f: ∀st a,i st a->g st a)(h:pk P s1 T x y i):pk P s2 T x y g:=by
 unfold pk at h⊢;rw[d] at h;split at h<;>try exact h.elim
 rename_i b
 try simp only[b]
 split at h<;>try exact h.elim
 rename_i b e
 try simp only[b,e]
 split at h<;>try exact h.elim
 rename_i b
 try simp only[b]
 split at h<;>try exact h.elim
 ·exact cx (f _ _) h
 ·split at h<;>try exact h.elim
  ·rename_i b
   try simp only[b]
   split at h<;>try exact h.elim
   rename_i c
   try rw[if_pos c]
   exact cx (f _ _) h
  ·rename_i b
   try simp only[b]
   split at h<;>try exact h.elim
   rename_i e
   try simp only[e]
   split at h<;>try exact h.elim
   rename_i c
   try rw[if_pos c]
   exact cx (f _ _) h
theorem Ec{P s1 s2}(c:s1.st=s2.st){T x y b a}(d: ∀st,b st->a st)(h:qQ P s1 T x y b):qQ P s2 T x y a:=by
 unfold qQ at h⊢;split at h<;>try exact h.elim
 split at h<;>try exact h.elim
 ·grind
 ·grind
 ·grind [cx]
theorem rK{P st T y a d c}(e: ∀b,d b->c b)(h:nj P st T y a d):nj P st T y a c:=by
 unfold nj at h⊢
 grind
theorem w8{P Kt Vt es ks p p' q q'}(hp: ∀k a,p k a->p' k a)(hq:q->q')(h:C9 P Kt Vt es ks p q):C9 P Kt Vt es ks p' q':=by
 refine⟨?_,fun hs=>hq (h.2 hs)⟩;have h1:=h.1
 grind
theorem yf{P s1 s2 o}(L:uw o s1 s2)(e:s1.st=s2.st){t u v w}(i: ∀st a,v (put {s1 with st:=st} t a)->w (put {s2 with st:=st} u a))
  (h:cm P s1 t o v):cm P s2 u o w:=by
 have l:=L.ev;cases o with
 |alloc T=>
  simp only[cm] at h⊢;rw[e] at h;split at h<;>try exact h.elim
  rename_i d
  try simp only[d]
  exact i _ _ h
 | box T x=>
  simp only[cm] at h⊢;rw[e,l x (by simp[opsOf])] at h;split at h<;>try exact h.elim
  rename_i f
  try rw[if_pos f]
  split at h
  ·rename_i C
   first|simp only[C]|skip
   exact cx (i _ _) h
  ·rename_i C
   first|simp only[C]|skip
   exact i _ _ h
 |store T p x=>
  simp only[cm] at h⊢;rw[l x (by simp[opsOf]),l p (by simp[opsOf])] at h;exact Ec e (fun st=>i st _) h
 |buildSlice T N E=>
  simp only[cm] at h⊢;rw[e,iY (fun x z=>l x (by simpa only[opsOf] using z))] at h;split at h<;>try exact h.elim
  rename_i d
  try simp only[d]
  split at h<;>try exact h.elim
  rename_i d
  try simp only[d]
  split at h<;>try exact h.elim
  rename_i d
  try simp only[d]
  split at h<;>try exact h.elim
  rename_i f
  try rw[if_pos f]
  exact i _ _ h
 |makeSlice T O R=>
  simp only[cm] at h⊢;rw[e,l O (by simp[opsOf]),l R (by simp[opsOf])] at h;split at h<;>try exact h.elim
  rename_i d g q
  try simp only[d,g,q]
  split at h<;>try exact h.elim
  rename_i d
  try simp only[d]
  exact cx (i _ _) h
 | makeMap T r=>
  cases r with
  |some r=>exact h.elim
  |none=>
   simp only[cm] at h⊢;rw[e] at h;split at h<;>try exact h.elim
   rename_i d
   try simp only[d]
   exact i _ _ h
 |mapUpdate T m k x=>
  simp only[cm] at h⊢;rw[e,l m (by simp[opsOf]),l k (by simp[opsOf]),l x (by simp[opsOf])] at h;split at h<;>try exact h.elim
  rename_i d g q B
  try simp only[d,g,q,B]
  split at h<;>try exact h.elim
  rename_i d
  try simp only[d]
  split at h<;>try exact h.elim
  rename_i f
  try rw[if_pos f]
  exact i _ _ h
 |mapEntry T m k=>
  simp only[cm] at h⊢;rw[e,l m (by simp[opsOf]),l k (by simp[opsOf])] at h;split at h<;>try exact h.elim
  rename_i d g q
  try simp only[d,g,q]
  split at h<;>try exact h.elim
  rename_i d g
  try simp only[d,g]
  split at h<;>try exact h.elim
  rename_i f
  try rw[if_pos f]
  exact i _ _ h
 |entryStore T m F x=>
  simp only[cm] at h⊢;rw[e,l m (by simp[opsOf]),l F (by simp[opsOf]),l x (by simp[opsOf])] at h;split at h<;>try exact h.elim
  rename_i d g q B
  try simp only[d,g,q,B]
  split at h<;>try exact h.elim
  rename_i d
  try simp only[d]
  split at h<;>try exact h.elim
  rename_i f
  try rw[if_pos f]
  exact i _ _ h
 | range T x=>
  simp only[cm] at h⊢;rw[e,l x (by simp[opsOf])] at h;split at h<;>try exact h.elim
  ·rename_i d g
   try simp only[d,g]
   split at h<;>try exact h.elim
   rename_i d
   try simp only[d]
   exact i _ _ h
  ·rename_i d g
   try simp only[d,g]
   exact i _ _ h
  ·rename_i d g
   try simp only[d,g]
   exact i _ _ h
  ·rename_i d g
   try simp only[d,g]
   exact i _ _ h
 | next A D=>
  cases D with
  | true=>
   simp only[cm] at h⊢;rw[e,l A (by simp[opsOf])] at h;split at h<;>try exact h.elim
   rename_i d
   try simp only[d]
   split at h<;>try exact h.elim
   rename_i d
   try simp only[d]
   have j: ∀a,v (put s1 t a)->w (put s2 u a):=fun a s=>by
    have:=i s1.st a s
    rw[show({s2 with st:=s1.st}:S)=s2 by rw[e]] at this;exact this
   obtain⟨I,H⟩:=Hs h;cases K:Nat.blt _ _ with
   |true=>rw[K] at I;exact i _ _ (I rfl)
   |false=>rw[K] at H;exact j _ (H rfl)
  | false=>
   simp only[cm] at h⊢;rw[e,l A (by simp[opsOf])] at h;have j: ∀a,v (put s1 t a)->w (put s2 u a):=fun a s=>by
    have:=i s1.st a s
    rw[show({s2 with st:=s1.st}:S)=s2 by rw[e]] at this;exact this
   split at h<;>try exact h.elim
   rename_i d
   try simp only[d]
   split at h<;>try exact h.elim
   ·rename_i d
    try simp only[d]
    split at h
    case h_2=>
     rename_i d;split at h<;>try exact h.elim
     exact j _ h
    rename_i d
    try simp only[d]
    exact cx (w8 (fun k a=>i _ _) (j _)) h
   ·rename_i d
    try simp only[d]
    exact w8 (fun k a=>i _ _) (j _) h
 | entry A=>
  have j: ∀a,v (put s1 t a)->w (put s2 u a):=fun a s=>by
   have:=i s1.st a s
   rw[show({s2 with st:=s1.st}:S)=s2 by rw[e]] at this;exact this
  simp only[cm] at h⊢;rw[e,l A (by simp[opsOf])] at h;split at h<;>try exact h.elim
  rename_i d
  try simp only[d]
  split at h
  case h_3=>exact h.elim
  case h_2=>
   rename_i g
   try simp only[g]
   split at h<;>try exact h.elim
   rename_i d
   try simp only[d]
   exact j _ h
  rename_i d
  try simp only[d]
  split at h<;>try exact h.elim
  rename_i d
  try simp only[d]
  split at h<;>try exact h.elim
  rename_i d
  try simp only[d]
  exact cx (j _) h
 | call c=>
  obtain⟨n,J,Q⟩:=c;cases n with
  | builtin b=>
   cases b<;>try exact h.elim
   case clear=>
    simp only[cm] at h⊢;rw[gD (fun x z=>l x (by simpa only[opsOf] using z)),e] at h;split at h<;>try exact h.elim
    rename_i d g
    try simp only[d,g]
    split at h<;>try exact h.elim
    rename_i d g
    try simp only[d,g]
    split at h<;>try exact h.elim
    rename_i d
    try simp only[d]
    split at h<;>try exact h.elim
    rename_i f
    try rw[if_pos f]
    exact i _ _ h
   simp only[cm] at h⊢;rw[gD (fun x z=>l x (by simpa only[opsOf] using z))] at h;split at h<;>try exact h.elim
   rename_i d g
   try simp only[d,g]
   split at h<;>try exact h.elim
   rename_i f
   try rw[if_pos f]
   exact Af e (fun st a=>i st a) h
  |_=>exact h.elim
 | binOp U T x y V=>
  have j: ∀a,v (put s1 t a)->w (put s2 u a):=fun a s=>by
   have:=i s1.st a s
   rw[show({s2 with st:=s1.st}:S)=s2 by rw[e]] at this;exact this
  cases U with
  |eql=>
   simp only[cm] at h⊢;rw[e,l x (by simp[opsOf])] at h;exact rK (fun _=>j _) h
  |neq=>
   simp only[cm] at h⊢;rw[e,l x (by simp[opsOf])] at h;exact rK (fun _=>j _) h
  |_=>exact h.elim
 |_=>exact h.elim
end Go.Dn
