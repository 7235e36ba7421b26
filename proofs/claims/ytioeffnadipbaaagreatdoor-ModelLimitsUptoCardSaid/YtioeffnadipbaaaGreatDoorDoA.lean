import Derived.Test.YtioeffnadipbaaaGreatDoorDnZ
namespace Go.Dn
open Go
structure uP(o:Op)(s1 s2:S):Prop where
 ev: ∀x,x∈opsOf o->ev s1 x=ev s2 x
theorem gS{s1 s2}: ∀{l},(∀x,x∈l->ev s1 x=ev s2 x)->pe s1 l=pe s2 l
 |[],_=>rfl
 |x::l,h=>by
  simp only[pe];rw[h x (by simp),gS fun y a=>h y (by grind)]
theorem jo{s1 s2}: ∀{l},(∀x,x∈l.map (·.2)->ev s1 x=ev s2 x)->ff s1 l=ff s2 l
 |[],_=>rfl
 |(i,x)::l,h=>by
  simp only[ff];rw[h x (by simp),jo fun y a=>h y (by grind)]
theorem uI{s1 s2 o d}(h: ∀x,x∈rh o->ev s1 x=ev s2 x):fS s1 o d=fS s2 o d:=by
 cases o<;>grind [fS,rh]
theorem J5{s1 s2 o}(h: ∀x,x∈rh o->ev s1 x=ev s2 x):xB s1 o=xB s2 o:=by
 cases o<;>grind [xB,rh]
theorem zN{E s1 s2 o}(h:uP o s1 s2)(d:s1.st=s2.st):bI E s1 o=bI E s2 o:=by
 have a:=h.ev;cases o with
 |move x=>simp only[bI];rw[a x (by simp[opsOf])]
 |assign x=>simp only[bI];rw[a x (by simp[opsOf])]
 |load T x=>simp only[bI];rw[a x (by simp[opsOf]),d]
 |nilCheck x=>simp only[bI];rw[a x (by simp[opsOf]),d]
 |binOp w T x y B=>simp only[bI];rw[a x (by simp[opsOf]),a y (by simp[opsOf])]
 |unOp w T x=>simp only[bI];rw[a x (by simp[opsOf])]
 |makeInterface T x=>simp only[bI];rw[a x (by simp[opsOf])]
 |convert S T x=>simp only[bI];rw[a x (by simp[opsOf]),d]
 | slice T x lo z m=>
  cases m with
  |some m=>
   simp only[bI,nG]
   grind [opsOf,J5]
  |none=>
   simp only[bI,qZ];rw[a x (by simp[opsOf]),d];simp only[uI (s1:=s1) (s2:=s2) (o:=lo) (fun y s=>a y (by simp[opsOf,s])),uI (s1:=s1) (s2:=s2) (o:=z) (fun y s=>a y (by simp[opsOf,s]))]
 |fieldAddr T x f=>simp only[bI];rw[a x (by simp[opsOf]),d]
 |field T x f=>simp only[bI];rw[a x (by simp[opsOf])]
 |indexAddr T x i=>simp only[bI,gN];rw[a x (by simp[opsOf]),a i (by simp[opsOf]),d]
 |index T x i=>simp only[bI];rw[a x (by simp[opsOf]),a i (by simp[opsOf])]
 |lookup T m k A=>simp only[bI,nJ];rw[a m (by simp[opsOf]),a k (by simp[opsOf]),d]
 |extract x i=>simp only[bI];rw[a x (by simp[opsOf])]
 |makeFunc u q t=>
  cases u with
  |func f=>simp only[bI];rw[gS (fun x n=>a x (by simpa[opsOf] using n))]
  |_=>rfl
 |build T p=>simp only[bI];rw[jo (fun x n=>a x (by simpa only[opsOf] using n))]
 | call c=>
  obtain⟨e,j,v⟩:=c;cases e with
  |builtin b=>
   have:=gS (s1:=s1) (s2:=s2) (l:=j.toList) (fun x n=>a x (by simpa only[opsOf] using n))
   cases b<;>first|rfl|(simp only[bI];rw[this];done)|(simp only[bI];rw[this,d])
  |value g=>
   have:=gS (s1:=s1) (s2:=s2) (l:=j.toList) (fun x n=>a x (by simp only[opsOf,ap0];exact .inr n))
   cases g<;>first|rfl|(simp only[bI];rw[this,d])
  |invoke r m=>rfl
 |_=>rfl
def Kept st st':=∀i,ay st i= .dead\/ay st' i=ay st i
theorem Kept.refl st:Kept st st:=fun _=> .inr rfl
theorem Kept.app st l:Kept st (st++l):=fun i=>by
 grind [dM,eS]
theorem Kept.ij{st st'}(h:Kept st st'){i x}(he:ij (ay st i)=some x):ij (ay st' i)=some x:=by
 rcases h i with e|e
 ·rw[e] at he;cases he
 grind
theorem Kept.get{st st'}(h:Kept st st'){i o}(he:ay st i=o)(hd:o≠ .dead):ay st' i=o:=by
 rcases h i with e|e
 ·grind
 grind
theorem Kept.live{st st'}(h:Kept st st'){i}(he:iQ st i=true):iQ st' i=true:=by
 unfold iQ at he⊢;rcases h i with e|e
 ·grind
 grind
mutual
theorem lj{st st':List Obj}(h:Kept st st'): ∀(a b:AV),cd st a=some b->cd st' a=some b
 | .lit v,b,e=>by simpa only[cd] using e
 | .ah T l,b,e=>by simpa only[cd] using e
 | .ak i lo n,b,e=>by
  simp only[cd] at e⊢;split at e
  ·rename_i T xs hx
   rw[h.ij hx];exact e
  ·cases e
 | .agg l,b,e=>by
  simp only[cd] at e⊢;cases hl:lE st l with
  |none=>rw[hl] at e;cases e
  |some m=>rw[hl] at e;rw[x3 h l m hl];exact e
 | .js T a,b,e=>by simpa only[cd] using e
 | .jz T a,b,e=>by
  simp only[cd] at e⊢;cases ha:cd st a with
  |none=>rw[ha] at e;cases e
  |some m=>rw[ha] at e;rw[lj h a m ha];exact e
 | .bm f caps,b,e=>by
  cases caps with
  |nil=>simpa only[cd] using e
  |cons x l=>simp[cd] at e
 | .ptr _ _ _ _,b,e=>by simp[cd] at e
 | .eP _ _ _ _,b,e=>by simpa only[cd] using e
 | .mp i,b,e=>by
  simp only[cd] at e⊢;rcases h i with e2|e2
  ·rw[e2] at e;cases e
  ·rw[e2];exact e
 | .aJ _,b,e=>by simp[cd] at e
 | .cB,b,e=>by simp[cd] at e
 | .cf _,b,e=>by simp[cd] at e
 | .lx _ _,b,e=>by simp[cd] at e
theorem x3{st st':List Obj}(h:Kept st st'): ∀(l m:List AV),lE st l=some m->lE st' l=some m
 |[],m,e=>by simpa only[lE] using e
 | a::l,m,e=>by
  simp only[lE] at e⊢;cases ha:cd st a with
  |none=>rw[ha] at e;cases e
  |some b=>
   cases hl:lE st l with
   |none=>rw[ha,hl] at e;cases e
   |some k=>rw[ha,hl] at e;rw[lj h a b ha,x3 h l k hl];exact e
end
theorem FQ{st st'}(h:Kept st st'){a b}(e:rQ st a=some b):rQ st' a=some b:=by
 unfold rQ at e⊢;cases a with
 | ak i lo m=>
  cases lo with
  |zero=>grind [lj]
  |succ k=>
   rcases h i with e2|e2
   ·grind [cd,ij]
   ·grind [lj]
 |_=>exact lj h _ _ e
theorem qq{st st'}(h:Kept st st'): ∀l m,fC st l=some m->fC st' l=some m
 |[],m,e=>by grind [fC]
 | a::l,m,e=>by
  simp[fC] at e⊢;cases ha:rQ st a with
  |none=>grind
  |some b=>
   cases hl:fC st l with
   |none=>grind
   |some k=>rw[ha,hl] at e;rw[FQ h ha,qq h l k hl];omega
theorem EY{P st st'}(h:Kept st st'){T a x}(e:nS P st T a=some x):nS P st' T a=some x:=by
 cases a<;>try exact e
 rename_i i k p off;rcases h i with e2|e2
 ·simp[nS,e2] at e;cases e
 grind [nS]
theorem Jx{P st st'}(h:Kept st st'){T a x}(e:Bc P st T a=some x):Bc P st' T a=some x:=by
 unfold Bc at e⊢;split at e<;>try exact e
 ·rename_i i _
  rcases h i with e2|e2
  ·grind
  grind
 ·rename_i i _ _ _
  rcases h i with e2|e2
  ·rw[e2] at e;cases e
  grind
theorem w6{P st st'}(h:Kept st st'){T a f x}(e:gL P st T a f=some x):gL P st' T a f=some x:=by
 unfold gL at e⊢;split at e
 ·cases e
 ·split at e
  ·cases e
  ·rename_i h1
   rw[if_neg h1];split at e
   ·split at e
    ·rename_i h2
     rw[if_pos (h.live h2)];exact e
    grind
   ·exact e
   ·cases e
theorem D2{P s s'}(h:Kept s.st s'.st){T a lo hi}(h1: ∀d,fS s lo d=fS s' lo d)(h2: ∀d,fS s hi d=fS s' hi d){x}(e:qZ P s T a lo hi=some x):qZ P s' T a lo hi=some x:=by
 unfold qZ at e⊢;simp only[←h1,←h2];split at e<;>try exact e
 cases hx:ij (ay s.st _) with
 |none=>rw[hx] at e;grind
 |some y=>rw[hx] at e;rw[h.ij hx];exact e
theorem yn{P s s'}(h:Kept s.st s'.st){T a i x}(e:gN P s T a i=some x):gN P s' T a i=some x:=by
 unfold gN at e⊢;split at e<;>try exact e
 ·split at e<;>try exact e
  split at e
  ·rename_i hx
   rw[h.ij hx];exact e
  ·split at e
   ·rename_i hst
    have:=h.get hst (by simp)
    grind
   ·cases e
 ·split at e<;>try exact e
  split at e
  ·rename_i hc
   rw[if_pos ⟨hc.1,hc.2.1,h.live hc.2.2⟩];exact e
  ·cases e
theorem Cr{P s s'}(h:Kept s.st s'.st){T a lo hi m}(h1: ∀o,xB s o=xB s' o){x}(e:nG P s T a lo hi m=some x):nG P s' T a lo hi m=some x:=by
 unfold nG at e⊢;simp only[←h1];split at e<;>try exact e
 cases hx:ij (ay s.st _) with
 |none=>rw[hx] at e;grind
 |some y=>rw[hx] at e;rw[h.ij hx];exact e
theorem Fi{P st st'}(h:Kept st st'){S T a x}(e:Da P st S T a=some x):Da P st' S T a=some x:=by
 unfold Da at e⊢;split at e
 ·split at e<;>try cases e
  split at e<;>try cases e
  rename_i hc;rw[if_pos hc];split at e<;>try exact e
  split at e
  ·rename_i hel
   simp only[h.ij hel];exact e
  grind
 ·exact e
theorem Dz{P s s'}(h:Kept s.st s'.st){T m k ok x}(e:nJ P s T m k ok=some x):nJ P s' T m k ok=some x:=by
 unfold nJ at e⊢;split at e<;>try exact e
 split at e<;>try exact e
 rename Nat=>i
 rcases h i with e2|e2
 ·grind
 grind
theorem J6{E s1 s2 o}(h:uP o s1 s2)(n:Kept s1.st s2.st){x}(e:bI E s1 o=some x):bI E s2 o=some x:=by
 have H:=h.ev;have a:bI E {s2 with st:=s1.st} o=some x:=by
  rw[←e];exact(zN (s1:=s1) (s2:={s2 with st:=s1.st}) ⟨fun y A=>by rw[H y A];cases y<;>rfl⟩ rfl).symm
 cases o with
 |load T y=>
  simp only[bI] at a⊢;have j:ev {s2 with st:=s1.st} y=ev s2 y:=by cases y<;>rfl
  rw[j] at a;split at a
  ·exact a
  split at a
  ·exact a
  ·exact EY n a
 | nilCheck y=>
  simp only[bI] at a⊢;have j:ev {s2 with st:=s1.st} y=ev s2 y:=by cases y<;>rfl
  rw[j] at a;split at a<;>try exact a
  split at a
  ·rename_i C
   rw[if_pos (n.live C)];exact a
  ·cases a
 | slice T y lo B m=>
  cases m with
  | some m=>
   simp only[bI] at a⊢;have j:ev {s2 with st:=s1.st} y=ev s2 y:=by cases y<;>rfl
   rw[j] at a;have q: ∀(o:Option Operand),xB {s2 with st:=s1.st} o=xB s2 o:=fun o=>by
    cases o with
    |none=>rfl
    |some y=>cases y<;>rfl
   exact Cr (s:={s2 with st:=s1.st}) n q a
  | none=>
   simp only[bI] at a⊢;have j:ev {s2 with st:=s1.st} y=ev s2 y:=by cases y<;>rfl
   rw[j] at a;have q: ∀(o:Option Operand) d,fS {s2 with st:=s1.st} o d=fS s2 o d:=fun o d=>by
    cases o with
    |none=>rfl
    |some y=>cases y<;>rfl
   exact D2 (s:={s2 with st:=s1.st}) n (q lo) (q B) a
 |fieldAddr T y f=>
  simp only[bI] at a⊢;have j:ev {s2 with st:=s1.st} y=ev s2 y:=by cases y<;>rfl
  rw[j] at a;exact w6 n a
 |convert S T y=>
  simp only[bI] at a⊢;have j:ev {s2 with st:=s1.st} y=ev s2 y:=by cases y<;>rfl
  rw[j] at a;exact Fi n a
 |indexAddr T y i=>
  simp only[bI] at a⊢;have j: ∀y,ev {s2 with st:=s1.st} y=ev s2 y:=fun y=>by cases y<;>rfl
  rw[j,j] at a;exact yn (s:={s2 with st:=s1.st}) n a
 |lookup T m k I=>
  simp only[bI] at a⊢;have j: ∀y,ev {s2 with st:=s1.st} y=ev s2 y:=fun y=>by cases y<;>rfl
  rw[j,j] at a;exact Dz (s:={s2 with st:=s1.st}) n a
 | call c=>
  obtain⟨p,w,F⟩:=c;have j: ∀l,pe {s2 with st:=s1.st} l=pe s2 l:=fun l=>gS fun y _=>by cases y<;>rfl
  cases p with
  | builtin b=>
   cases b<;>try (simp only[bI,j] at a⊢;exact a)
   simp only[bI,j] at a⊢;split at a<;>try exact a
   split at a
   ·rename_i t
    rw[Jx n t];exact a
   ·cases a
  | value g=>
   cases g<;>try (simp only[bI] at a⊢;exact a)
   simp only[bI,j] at a⊢;split at a
   ·rename_i t
    rw[qq n _ _ t];exact a
   ·cases a
  |invoke r m=>exact a
 |makeFunc D v z=>
  have j: ∀l,pe {s2 with st:=s1.st} l=pe s2 l:=fun l=>gS fun y _=>by cases y<;>rfl
  cases D<;>try (simp only[bI] at a⊢;exact a)
  simp only[bI,j] at a⊢;exact a
 |build T u=>
  have j: ∀l,ff {s2 with st:=s1.st} l=ff s2 l:=fun l=>jo fun y _=>by cases y<;>rfl
  simp only[bI,j] at a⊢;exact a
 |_=>
  have j: ∀y,ev {s2 with st:=s1.st} y=ev s2 y:=fun y=>by cases y<;>rfl
  simp only[bI,j] at a⊢;exact a
theorem Cm st st' s s' v:rQ st (ev s (.const v))=rQ st' (ev s' (.const v)):=by
 simp[ev];split<;>rfl
theorem o3 st st' s s': ∀l,L1 l=true->fC st (pe s l)=fC st' (pe s' l)
 |[],_=>rfl
 | .const v::l,h=>by
  simp[pe,fC];rw[Cm _ _ s _ v,o3 _ _ s _ l h]
 | .tmp _::_,h=>nomatch h
 | .global _::_,h=>nomatch h
 | .func _::_,h=>nomatch h
theorem Gl{E s1 s2 o}(h:uP o s1 s2)(d:fg E.quiet o=0):bI E s1 o=bI E s2 o:=by
 have j:=h.ev;cases o with
 |move x=>simp only[bI];rw[j x (by simp[opsOf])]
 |assign x=>simp only[bI];rw[j x (by simp[opsOf])]
 |binOp v T x y B=>simp_all[bI,opsOf]
 |unOp v T x=>simp only[bI];rw[j x (by simp[opsOf])]
 |makeInterface T x=>simp only[bI];rw[j x (by simp[opsOf])]
 |convert S T x=>simp[fg] at d
 |extract x i=>simp only[bI];rw[j x (by simp[opsOf])]
 |makeFunc z n t=>
  cases z with
  |func f=>simp only[bI];rw[gS (fun x p=>j x (by simpa[opsOf] using p))]
  |_=>rfl
 |pick c a b=>rfl
 |load T x=>simp[fg] at d
 |nilCheck x=>simp[fg] at d
 |slice T x lo C m=>simp[fg] at d
 |fieldAddr T x f=>simp[fg] at d
 |field T x f=>simp only[bI];rw[j x (by simp[opsOf])]
 |indexAddr T x i=>simp[fg] at d
 |index T x i=>simp_all[bI,opsOf]
 |lookup T m k A=>simp[fg] at d
 |build T q=>simp only[bI];rw[jo (fun x p=>j x (by simpa only[opsOf] using p))]
 | call c=>
  obtain⟨e,l,w⟩:=c;cases e with
  |builtin b=>cases b<;>simp[fg] at d
  | value g=>
   cases g with
   | func f=>
    simp only[fg] at d;cases u:E.quiet f with
    |false=>simp[u] at d
    |true=>
     rw[u,an9] at d;cases s:L1 l.toList with
     |false=>simp[s] at d
     |true=>simp only[bI];rw[o3 s1.st s2.st s1 s2 _ s]
   |_=>simp[fg] at d
  |invoke r m=>simp[fg] at d
 |_=>rfl
theorem CS{s1 s2 o}(h:uP o s1 s2):gJ s1 o=gJ s2 o:=by
 have e:=h.ev;cases o with
 |call c=>
  obtain⟨a,b,d⟩:=c;cases a<;>grind [gJ,opsOf,gS]
 |_=>rfl
theorem Ba{P s1 s2}(d:s1.st=s2.st){T x y i g}(f: ∀st a,i st a->g st a)(h:pX P s1 T x y i):pX P s2 T x y g:=by
 unfold pX at h⊢;rw[d] at h;split at h<;>try exact h.elim
 rename_i b
 try simp only[b]
 split at h<;>try exact h.elim
 rename_i b e
 try simp only[b,e]
 split at h<;>try exact h.elim
 rename_i b
 try simp only[b]
 split at h<;>try exact h.elim
 ·exact cx (f _ _) h
 ·split at h<;>try exact h.elim
  ·rename_i b
   try simp only[b]
   split at h<;>try exact h.elim
   rename_i c
   try rw[if_pos c]
   exact cx (f _ _) h
  ·rename_i b
   try simp only[b]
   split at h<;>try exact h.elim
   rename_i e
   try simp only[e]
   split at h<;>try exact h.elim
   rename_i c
   try rw[if_pos c]
   exact cx (f _ _) h
theorem C9{P s1 s2}(c:s1.st=s2.st){T x y b a}(d: ∀st,b st->a st)(h:qE P s1 T x y b):qE P s2 T x y a:=by
 unfold qE at h⊢;split at h<;>try exact h.elim
 split at h<;>try exact h.elim
 ·grind
 ·grind
 ·grind [cx]
theorem sf{P st T y a d c}(e: ∀b,d b->c b)(h:ny P st T y a d):ny P st T y a c:=by
 unfold ny at h⊢
 grind
theorem xb{P Kt Vt es ks p p' q q'}(hp: ∀k a,p k a->p' k a)(hq:q->q')(h:Ds P Kt Vt es ks p q):Ds P Kt Vt es ks p' q':=by
 refine⟨?_,fun hs=>hq (h.2 hs)⟩;have h1:=h.1
 grind
theorem yj{P s1 s2 o}(L:uP o s1 s2)(e:s1.st=s2.st){t u v w}(i: ∀st a,v (put {s1 with st:=st} t a)->w (put {s2 with st:=st} u a))
  (h:cn P s1 t o v):cn P s2 u o w:=by
 have l:=L.ev;cases o with
 |alloc T=>
  simp only[cn] at h⊢;rw[e] at h;split at h<;>try exact h.elim
  rename_i d
  try simp only[d]
  exact i _ _ h
 | box T x=>
  simp only[cn] at h⊢;rw[e,l x (by simp[opsOf])] at h;split at h<;>try exact h.elim
  rename_i f
  try rw[if_pos f]
  split at h
  ·rename_i C
   first|simp only[C]|skip
   exact cx (i _ _) h
  ·rename_i C
   first|simp only[C]|skip
   exact i _ _ h
 |store T p x=>
  simp only[cn] at h⊢;rw[l x (by simp[opsOf]),l p (by simp[opsOf])] at h;exact C9 e (fun st=>i st _) h
 |buildSlice T N E=>
  simp only[cn] at h⊢;rw[e,jo (fun x z=>l x (by simpa only[opsOf] using z))] at h;split at h<;>try exact h.elim
  rename_i d
  try simp only[d]
  split at h<;>try exact h.elim
  rename_i d
  try simp only[d]
  split at h<;>try exact h.elim
  rename_i d
  try simp only[d]
  split at h<;>try exact h.elim
  rename_i f
  try rw[if_pos f]
  exact i _ _ h
 |makeSlice T O R=>
  simp only[cn] at h⊢;rw[e,l O (by simp[opsOf]),l R (by simp[opsOf])] at h;split at h<;>try exact h.elim
  rename_i d g q
  try simp only[d,g,q]
  split at h<;>try exact h.elim
  rename_i d
  try simp only[d]
  exact cx (i _ _) h
 | makeMap T r=>
  cases r with
  |some r=>exact h.elim
  |none=>
   simp only[cn] at h⊢;rw[e] at h;split at h<;>try exact h.elim
   rename_i d
   try simp only[d]
   exact i _ _ h
 |mapUpdate T m k x=>
  simp only[cn] at h⊢;rw[e,l m (by simp[opsOf]),l k (by simp[opsOf]),l x (by simp[opsOf])] at h;split at h<;>try exact h.elim
  rename_i d g q B
  try simp only[d,g,q,B]
  split at h<;>try exact h.elim
  rename_i d
  try simp only[d]
  split at h<;>try exact h.elim
  rename_i f
  try rw[if_pos f]
  exact i _ _ h
 |mapEntry T m k=>
  simp only[cn] at h⊢;rw[e,l m (by simp[opsOf]),l k (by simp[opsOf])] at h;split at h<;>try exact h.elim
  rename_i d g q
  try simp only[d,g,q]
  split at h<;>try exact h.elim
  rename_i d g
  try simp only[d,g]
  split at h<;>try exact h.elim
  rename_i f
  try rw[if_pos f]
  exact i _ _ h
 |entryStore T m F x=>
  simp only[cn] at h⊢;rw[e,l m (by simp[opsOf]),l F (by simp[opsOf]),l x (by simp[opsOf])] at h;split at h<;>try exact h.elim
  rename_i d g q B
  try simp only[d,g,q,B]
  split at h<;>try exact h.elim
  rename_i d
  try simp only[d]
  split at h<;>try exact h.elim
  rename_i f
  try rw[if_pos f]
  exact i _ _ h
 | range T x=>
  simp only[cn] at h⊢;rw[e,l x (by simp[opsOf])] at h;split at h<;>try exact h.elim
  ·rename_i d g
   try simp only[d,g]
   split at h<;>try exact h.elim
   rename_i d
   try simp only[d]
   exact i _ _ h
  ·rename_i d g
   try simp only[d,g]
   exact i _ _ h
  ·rename_i d g
   try simp only[d,g]
   exact i _ _ h
  ·rename_i d g
   try simp only[d,g]
   exact i _ _ h
 | next A D=>
  cases D with
  | true=>
   simp only[cn] at h⊢;rw[e,l A (by simp[opsOf])] at h;split at h<;>try exact h.elim
   rename_i d
   try simp only[d]
   split at h<;>try exact h.elim
   rename_i d
   try simp only[d]
   have j: ∀a,v (put s1 t a)->w (put s2 u a):=fun a s=>by
    have:=i s1.st a s
    rw[show({s2 with st:=s1.st}:S)=s2 by rw[e]] at this;exact this
   obtain⟨I,H⟩:=HN h;cases K:Nat.blt _ _ with
   |true=>rw[K] at I;exact i _ _ (I rfl)
   |false=>rw[K] at H;exact j _ (H rfl)
  | false=>
   simp only[cn] at h⊢;rw[e,l A (by simp[opsOf])] at h;have j: ∀a,v (put s1 t a)->w (put s2 u a):=fun a s=>by
    have:=i s1.st a s
    rw[show({s2 with st:=s1.st}:S)=s2 by rw[e]] at this;exact this
   split at h<;>try exact h.elim
   rename_i d
   try simp only[d]
   split at h<;>try exact h.elim
   ·rename_i d
    try simp only[d]
    split at h
    case h_2=>
     rename_i d;split at h<;>try exact h.elim
     exact j _ h
    rename_i d
    try simp only[d]
    exact cx (xb (fun k a=>i _ _) (j _)) h
   ·rename_i d
    try simp only[d]
    exact xb (fun k a=>i _ _) (j _) h
 | entry A=>
  have j: ∀a,v (put s1 t a)->w (put s2 u a):=fun a s=>by
   have:=i s1.st a s
   rw[show({s2 with st:=s1.st}:S)=s2 by rw[e]] at this;exact this
  simp only[cn] at h⊢;rw[e,l A (by simp[opsOf])] at h;split at h<;>try exact h.elim
  rename_i d
  try simp only[d]
  split at h
  case h_3=>exact h.elim
  case h_2=>
   rename_i g
   try simp only[g]
   split at h<;>try exact h.elim
   rename_i d
   try simp only[d]
   exact j _ h
  rename_i d
  try simp only[d]
  split at h<;>try exact h.elim
  rename_i d
  try simp only[d]
  split at h<;>try exact h.elim
  rename_i d
  try simp only[d]
  exact cx (j _) h
 | call c=>
  obtain⟨n,J,Q⟩:=c;cases n with
  | builtin b=>
   cases b<;>try exact h.elim
   case clear=>
    simp only[cn] at h⊢;rw[gS (fun x z=>l x (by simpa only[opsOf] using z)),e] at h;split at h<;>try exact h.elim
    rename_i d g
    try simp only[d,g]
    split at h<;>try exact h.elim
    rename_i d g
    try simp only[d,g]
    split at h<;>try exact h.elim
    rename_i d
    try simp only[d]
    split at h<;>try exact h.elim
    rename_i f
    try rw[if_pos f]
    exact i _ _ h
   simp only[cn] at h⊢;rw[gS (fun x z=>l x (by simpa only[opsOf] using z))] at h;split at h<;>try exact h.elim
   rename_i d g
   try simp only[d,g]
   split at h<;>try exact h.elim
   rename_i f
   try rw[if_pos f]
   exact Ba e (fun st a=>i st a) h
  |_=>exact h.elim
 | binOp U T x y V=>
  have j: ∀a,v (put s1 t a)->w (put s2 u a):=fun a s=>by
   have:=i s1.st a s
   rw[show({s2 with st:=s1.st}:S)=s2 by rw[e]] at this;exact this
  cases U with
  |eql=>
   simp only[cn] at h⊢;rw[e,l x (by simp[opsOf])] at h;exact sf (fun _=>j _) h
  |neq=>
   simp only[cn] at h⊢;rw[e,l x (by simp[opsOf])] at h;exact sf (fun _=>j _) h
  |_=>exact h.elim
 |_=>exact h.elim
end Go.Dn
