import Derived.Test.YtioeffnadipbaaaGreatDoorDnZ
namespace Go.Dn
open Go
structure s9(o:Op)(s1 s2:S):Prop where
 ev: ∀x,x∈opsOf o->ev s1 x=ev s2 x
theorem gj{s1 s2:S}: ∀{l:List Operand},(∀x,x∈l->ev s1 x=ev s2 x)->mQ s1 l=mQ s2 l
 |[],_=>rfl
 |x::l,h=>by
  simp only[mQ]
  rw[h x (by simp),gj (fun y hy=>h y (by simp[hy]))]
theorem iK{s1 s2:S}: ∀{l:List (Nat×Operand)},(∀x,x∈l.map (·.2)->ev s1 x=ev s2 x)->fh s1 l=fh s2 l
 |[],_=>rfl
 |(i,x)::l,h=>by
  simp only[fh]
  rw[h x (by simp),iK (fun y hy=>h y (by simp at hy⊢;exact .inr hy))]
theorem sm{s1 s2:S}{o:Option Operand}{d:Nat}(h: ∀x,x∈pE o->ev s1 x=ev s2 x):fG s1 o d=fG s2 o d:=by
 cases o with
 |none=>rfl
 |some x=>simp only[fG];rw[h x (by simp[pE])]
theorem Hi{s1 s2:S}{o:Option Operand}(h: ∀x,x∈pE o->ev s1 x=ev s2 x):uq s1 o=uq s2 o:=by
 cases o with
 |none=>rfl
 |some x=>simp only[uq];rw[h x (by simp[pE])]
theorem xK{E:Env}{s1 s2:S}{o:Op}(h:s9 o s1 s2)(hst:s1.st=s2.st):bF E s1 o=bF E s2 o:=by
 have he:=h.ev
 cases o with
 |move x=>simp only[bF];rw[he x (by simp[opsOf])]
 |assign x=>simp only[bF];rw[he x (by simp[opsOf])]
 |load T x=>simp only[bF];rw[he x (by simp[opsOf]),hst]
 |nilCheck x=>simp only[bF];rw[he x (by simp[opsOf]),hst]
 |binOp op T x y T'=>simp only[bF];rw[he x (by simp[opsOf]),he y (by simp[opsOf])]
 |unOp op T x=>simp only[bF];rw[he x (by simp[opsOf])]
 |makeInterface T x=>simp only[bF];rw[he x (by simp[opsOf])]
 |convert S T x=>simp only[bF];rw[he x (by simp[opsOf]),hst]
 | slice T x lo hi m=>
  cases m with
  |some m=>
   simp only[bF,lZ]
   grind [opsOf,Hi]
  |none=>
   simp only[bF,pK]
   rw[he x (by simp[opsOf]),hst]
   simp only[sm (s1:=s1) (s2:=s2) (o:=lo) (fun y hy=>he y (by simp[opsOf,hy])),sm (s1:=s1) (s2:=s2) (o:=hi) (fun y hy=>he y (by simp[opsOf,hy]))]
 |fieldAddr T x f=>simp only[bF];rw[he x (by simp[opsOf]),hst]
 |field T x f=>simp only[bF];rw[he x (by simp[opsOf])]
 |indexAddr T x i=>simp only[bF,gf];rw[he x (by simp[opsOf]),he i (by simp[opsOf]),hst]
 |index T x i=>simp only[bF];rw[he x (by simp[opsOf]),he i (by simp[opsOf])]
 |lookup T m k ok=>simp only[bF,mi];rw[he m (by simp[opsOf]),he k (by simp[opsOf]),hst]
 |extract x i=>simp only[bF];rw[he x (by simp[opsOf])]
 |makeFunc fn first caps=>
  cases fn with
  |func f=>simp only[bF];rw[gj (fun x hx=>he x (by simpa[opsOf] using hx))]
  |_=>rfl
 |build T parts=>simp only[bF];rw[iK (fun x hx=>he x (by simpa only[opsOf] using hx))]
 | call c=>
  obtain⟨callee,args,ats⟩:=c
  cases callee with
  |builtin b=>
   have:=gj (s1:=s1) (s2:=s2) (l:=args.toList) (fun x hx=>he x (by simpa only[opsOf] using hx))
   cases b<;>first|rfl|(simp only[bF];rw[this];done)|(simp only[bF];rw[this,hst])
  |value g=>
   have:=gj (s1:=s1) (s2:=s2) (l:=args.toList) (fun x hx=>he x (by simp only[opsOf,ac1];exact .inr hx))
   cases g<;>first|rfl|(simp only[bF];rw[this,hst])
  |invoke r m=>rfl
 |_=>rfl
def Kept(st st':List Obj):Prop:=∀i,an st i= .dead\/an st' i=an st i
theorem Kept.refl(st:List Obj):Kept st st:=fun _=> .inr rfl
theorem Kept.app(st l:List Obj):Kept st (st++l):=fun i=>by
 rcases Nat.lt_or_ge i st.length with h|h
 ·exact .inr (dL _ _ _ h)
 ·exact .inl (eh _ _ h)
theorem Kept.gC{st st':List Obj}(h:Kept st st'){i:Nat}{x:TypeId×List AV}(he:gC (an st i)=some x):gC (an st' i)=some x:=by
 rcases h i with e|e
 ·rw[e] at he;cases he
 ·rw[e];exact he
theorem Kept.get{st st':List Obj}(h:Kept st st'){i:Nat}{o:Obj}(he:an st i=o)(hd:o≠ .dead):an st' i=o:=by
 rcases h i with e|e
 ·exact absurd (he.symm.trans e) hd
 ·exact e.trans he
theorem Kept.live{st st':List Obj}(h:Kept st st'){i:Nat}(he:kq st i=true):kq st' i=true:=by
 unfold kq at he⊢
 rcases h i with e|e
 ·rw[e] at he;cases he
 ·rw[e];exact he
mutual
theorem ky{st st':List Obj}(h:Kept st st'): ∀(a b:AV),bW st a=some b->bW st' a=some b
 | .lit v,b,e=>by simpa only[bW] using e
 | .ad T l,b,e=>by simpa only[bW] using e
 | .aB i lo n,b,e=>by
  simp only[bW] at e⊢
  split at e
  ·rename_i T xs hx
   rw[h.gC hx];exact e
  ·cases e
 | .agg l,b,e=>by
  simp only[bW] at e⊢
  cases hl:la st l with
  |none=>rw[hl] at e;cases e
  |some m=>rw[hl] at e;rw[wg h l m hl];exact e
 | .iY T a,b,e=>by simpa only[bW] using e
 | .iN T a,b,e=>by
  simp only[bW] at e⊢
  cases ha:bW st a with
  |none=>rw[ha] at e;cases e
  |some m=>rw[ha] at e;rw[ky h a m ha];exact e
 | .bq f caps,b,e=>by
  cases caps with
  |nil=>simpa only[bW] using e
  |cons x l=>simp[bW] at e
 | .ptr _ _ _ _,b,e=>by simp[bW] at e
 | .fJ _ _ _ _,b,e=>by simpa only[bW] using e
 | .mp i,b,e=>by
  simp only[bW] at e⊢
  rcases h i with e2|e2
  ·rw[e2] at e;cases e
  ·rw[e2];exact e
 | .aX _,b,e=>by simp[bW] at e
 | .cK,b,e=>by simp[bW] at e
 | .de _,b,e=>by simp[bW] at e
 | .jV _ _,b,e=>by simp[bW] at e
theorem wg{st st':List Obj}(h:Kept st st'): ∀(l m:List AV),la st l=some m->la st' l=some m
 |[],m,e=>by simpa only[la] using e
 | a::l,m,e=>by
  simp only[la] at e⊢
  cases ha:bW st a with
  |none=>rw[ha] at e;cases e
  |some b=>
   cases hl:la st l with
   |none=>rw[ha,hl] at e;cases e
   |some k=>rw[ha,hl] at e;rw[ky h a b ha,wg h l k hl];exact e
end
theorem Dm{st st':List Obj}(h:Kept st st'){a b:AV}(e:qs st a=some b):qs st' a=some b:=by
 unfold qs at e⊢
 cases a with
 | aB i lo m=>
  cases lo with
  |zero=>exact ky h _ _ e
  |succ k=>
   rcases h i with e2|e2
   ·simp[e2,bW,gC] at e
   ·grind [ky]
 |_=>exact ky h _ _ e
theorem oW{st st':List Obj}(h:Kept st st'): ∀(l m:List AV),fj st l=some m->fj st' l=some m
 |[],m,e=>by simpa only[fj] using e
 | a::l,m,e=>by
  simp only[fj] at e⊢
  cases ha:qs st a with
  |none=>rw[ha] at e;cases e
  |some b=>
   cases hl:fj st l with
   |none=>rw[ha,hl] at e;cases e
   |some k=>rw[ha,hl] at e;rw[Dm h ha,oW h l k hl];exact e
theorem Cg{P:Program}{st st':List Obj}(h:Kept st st'){T:TypeId}{a:AV}{x:Bool×AV}(e:mG P st T a=some x):mG P st' T a=some x:=by
 cases a<;>try exact e
 rename_i i k p off
 rcases h i with e2|e2
 ·simp only[mG,e2] at e;cases e
 ·simp only[mG,e2] at e⊢;exact e
theorem Gl{P:Program}{st st':List Obj}(h:Kept st st'){T:TypeId}{a x:AV}(e:zP P st T a=some x):zP P st' T a=some x:=by
 unfold zP at e⊢
 split at e<;>try exact e
 ·rename_i i _
  rcases h i with e2|e2
  ·rw[e2] at e;cases e
  ·rw[e2];exact e
 ·rename_i i _ _ _
  rcases h i with e2|e2
  ·rw[e2] at e;cases e
  ·rw[e2];exact e
theorem ud{P:Program}{st st':List Obj}(h:Kept st st'){T:TypeId}{a:AV}{f:Nat}{x:Bool×AV}(e:gr P st T a f=some x):gr P st' T a f=some x:=by
 unfold gr at e⊢
 split at e
 ·cases e
 ·split at e
  ·cases e
  ·rename_i h1
   rw[if_neg h1]
   split at e
   ·split at e
    ·rename_i h2
     rw[if_pos (h.live h2)];exact e
    ·cases e
   ·exact e
   ·cases e
theorem Bf{P:Program}{s s':S}(h:Kept s.st s'.st){T:TypeId}{a:AV}{lo hi:Option Operand}(h1: ∀d,fG s lo d=fG s' lo d)(h2: ∀d,fG s hi d=fG s' hi d){x:Bool×AV}(e:pK P s T a lo hi=some x):pK P s' T a lo hi=some x:=by
 unfold pK at e⊢
 simp only[←h1,←h2]
 split at e<;>try exact e
 cases hx:gC (an s.st _) with
 |none=>rw[hx] at e;split at e<;>first|cases e|simp_all
 |some y=>rw[hx] at e;rw[h.gC hx];exact e
theorem vE{P:Program}{s s':S}(h:Kept s.st s'.st){T:TypeId}{a i:AV}{x:Bool×AV}(e:gf P s T a i=some x):gf P s' T a i=some x:=by
 unfold gf at e⊢
 split at e<;>try exact e
 split at e<;>try exact e
 split at e
 ·rename_i hx
  rw[h.gC hx];exact e
 ·split at e
  ·rename_i hst
   have:=h.get hst (by simp)
   rw[this];exact e
  ·cases e
theorem AE{P:Program}{s s':S}(h:Kept s.st s'.st){T:TypeId}{a:AV}{lo hi:Option Operand}{m:Operand}(h1: ∀o,uq s o=uq s' o){x:Bool×AV}(e:lZ P s T a lo hi m=some x):lZ P s' T a lo hi m=some x:=by
 unfold lZ at e⊢
 simp only[←h1]
 split at e<;>try exact e
 cases hx:gC (an s.st _) with
 |none=>rw[hx] at e;split at e<;>first|cases e|simp_all
 |some y=>rw[hx] at e;rw[h.gC hx];exact e
theorem DK{P:Program}{st st':List Obj}(h:Kept st st'){S T:TypeId}{a:AV}{x:Bool×AV}(e:Bm P st S T a=some x):Bm P st' S T a=some x:=by
 unfold Bm at e⊢
 split at e
 ·rename_i E hS hT
  split at e<;>try cases e
  rename_i hE
  split at e<;>try cases e
  rename_i hc
  rw[if_pos hc]
  split at e<;>try exact e
  split at e
  ·rename_i hel
   simp only[h.gC hel];exact e
  ·cases e
 ·exact e
theorem B7{P:Program}{s s':S}(h:Kept s.st s'.st){T:TypeId}{m k:AV}{ok:Bool}{x:Bool×AV}(e:mi P s T m k ok=some x):mi P s' T m k ok=some x:=by
 unfold mi at e⊢
 split at e<;>try exact e
 split at e<;>try exact e
 rename Nat=>i
 rcases h i with e2|e2
 ·rw[e2] at e;cases e
 ·rw[e2];exact e
theorem G3{E:Env}{s1 s2:S}{o:Op}(h:s9 o s1 s2)(hk:Kept s1.st s2.st){x:Bool×AV}(e:bF E s1 o=some x):bF E s2 o=some x:=by
 have he:=h.ev
 have e0:bF E {s2 with st:=s1.st} o=some x:=by
  rw[←e]
  exact(xK (s1:=s1) (s2:={s2 with st:=s1.st}) ⟨fun y hy=>by rw[he y hy];cases y<;>rfl⟩ rfl).symm
 cases o with
 |load T y=>
  simp only[bF] at e0⊢
  have e1:ev {s2 with st:=s1.st} y=ev s2 y:=by cases y<;>rfl
  rw[e1] at e0
  split at e0
  ·exact e0
  split at e0
  ·exact e0
  ·exact Cg hk e0
 | nilCheck y=>
  simp only[bF] at e0⊢
  have e1:ev {s2 with st:=s1.st} y=ev s2 y:=by cases y<;>rfl
  rw[e1] at e0
  split at e0<;>try exact e0
  split at e0
  ·rename_i h2
   rw[if_pos (hk.live h2)];exact e0
  ·cases e0
 | slice T y lo hi m=>
  cases m with
  | some m=>
   simp only[bF] at e0⊢
   have e1:ev {s2 with st:=s1.st} y=ev s2 y:=by cases y<;>rfl
   rw[e1] at e0
   have hb: ∀(o:Option Operand),uq {s2 with st:=s1.st} o=uq s2 o:=fun o=>by
    cases o with
    |none=>rfl
    |some y=>cases y<;>rfl
   exact AE (s:={s2 with st:=s1.st}) hk hb e0
  | none=>
   simp only[bF] at e0⊢
   have e1:ev {s2 with st:=s1.st} y=ev s2 y:=by cases y<;>rfl
   rw[e1] at e0
   have hb: ∀(o:Option Operand) d,fG {s2 with st:=s1.st} o d=fG s2 o d:=fun o d=>by
    cases o with
    |none=>rfl
    |some y=>cases y<;>rfl
   exact Bf (s:={s2 with st:=s1.st}) hk (hb lo) (hb hi) e0
 |fieldAddr T y f=>
  simp only[bF] at e0⊢
  have e1:ev {s2 with st:=s1.st} y=ev s2 y:=by cases y<;>rfl
  rw[e1] at e0
  exact ud hk e0
 |convert S T y=>
  simp only[bF] at e0⊢
  have e1:ev {s2 with st:=s1.st} y=ev s2 y:=by cases y<;>rfl
  rw[e1] at e0
  exact DK hk e0
 |indexAddr T y i=>
  simp only[bF] at e0⊢
  have e1: ∀y,ev {s2 with st:=s1.st} y=ev s2 y:=fun y=>by cases y<;>rfl
  rw[e1,e1] at e0
  exact vE (s:={s2 with st:=s1.st}) hk e0
 |lookup T m k ok=>
  simp only[bF] at e0⊢
  have e1: ∀y,ev {s2 with st:=s1.st} y=ev s2 y:=fun y=>by cases y<;>rfl
  rw[e1,e1] at e0
  exact B7 (s:={s2 with st:=s1.st}) hk e0
 | call c=>
  obtain⟨callee,args,ats⟩:=c
  have e1: ∀l,mQ {s2 with st:=s1.st} l=mQ s2 l:=fun l=>gj fun y _=>by cases y<;>rfl
  cases callee with
  | builtin b=>
   cases b<;>try (simp only[bF,e1] at e0⊢;exact e0)
   simp only[bF,e1] at e0⊢
   split at e0<;>try exact e0
   split at e0
   ·rename_i hx
    rw[Gl hk hx];exact e0
   ·cases e0
  | value g=>
   cases g<;>try (simp only[bF] at e0⊢;exact e0)
   simp only[bF,e1] at e0⊢
   split at e0
   ·rename_i hx
    rw[oW hk _ _ hx];exact e0
   ·cases e0
  |invoke r m=>exact e0
 |makeFunc fn first caps=>
  have e1: ∀l,mQ {s2 with st:=s1.st} l=mQ s2 l:=fun l=>gj fun y _=>by cases y<;>rfl
  cases fn<;>try (simp only[bF] at e0⊢;exact e0)
  simp only[bF,e1] at e0⊢;exact e0
 |build T parts=>
  have e1: ∀l,fh {s2 with st:=s1.st} l=fh s2 l:=fun l=>iK fun y _=>by cases y<;>rfl
  simp only[bF,e1] at e0⊢;exact e0
 |_=>
  have e1: ∀y,ev {s2 with st:=s1.st} y=ev s2 y:=fun y=>by cases y<;>rfl
  simp only[bF,e1] at e0⊢;exact e0
theorem BF(st st':List Obj)(s s':S)(v:Value):qs st (ev s (.const v))=qs st' (ev s' (.const v)):=by
 simp only[ev]
 split<;>rfl
theorem nW(st st':List Obj)(s s':S): ∀l:List Operand,He l=true->fj st (mQ s l)=fj st' (mQ s' l)
 |[],_=>rfl
 | .const v::l,h=>by
  simp only[mQ,fj]
  rw[BF st st' s s' v,nW st st' s s' l h]
 | .tmp _::_,h=>nomatch h
 | .global _::_,h=>nomatch h
 | .func _::_,h=>nomatch h
theorem CP{E:Env}{s1 s2:S}{o:Op}(h:s9 o s1 s2)(hc:eb E.quiet o=0):bF E s1 o=bF E s2 o:=by
 have he:=h.ev
 cases o with
 |move x=>simp only[bF];rw[he x (by simp[opsOf])]
 |assign x=>simp only[bF];rw[he x (by simp[opsOf])]
 |binOp op T x y T'=>simp_all[bF,opsOf]
 |unOp op T x=>simp only[bF];rw[he x (by simp[opsOf])]
 |makeInterface T x=>simp only[bF];rw[he x (by simp[opsOf])]
 |convert S T x=>simp[eb] at hc
 |extract x i=>simp only[bF];rw[he x (by simp[opsOf])]
 |makeFunc fn first caps=>
  cases fn with
  |func f=>simp only[bF];rw[gj (fun x hx=>he x (by simpa[opsOf] using hx))]
  |_=>rfl
 |pick c a b=>rfl
 |load T x=>simp[eb] at hc
 |nilCheck x=>simp[eb] at hc
 |slice T x lo hi m=>simp[eb] at hc
 |fieldAddr T x f=>simp[eb] at hc
 |field T x f=>simp only[bF];rw[he x (by simp[opsOf])]
 |indexAddr T x i=>simp[eb] at hc
 |index T x i=>simp_all[bF,opsOf]
 |lookup T m k ok=>simp[eb] at hc
 |build T parts=>simp only[bF];rw[iK (fun x hx=>he x (by simpa only[opsOf] using hx))]
 | call c=>
  obtain⟨callee,args,ats⟩:=c
  cases callee with
  |builtin b=>cases b<;>simp[eb] at hc
  | value g=>
   cases g with
   | func f=>
    simp only[eb] at hc
    cases hq:E.quiet f with
    |false=>simp[hq] at hc
    |true=>
     rw[hq,aa7] at hc
     cases ha:He args.toList with
     |false=>simp[ha] at hc
     |true=>simp only[bF];rw[nW s1.st s2.st s1 s2 _ ha]
   |_=>simp[eb] at hc
  |invoke r m=>simp[eb] at hc
 |_=>rfl
theorem Bz{s1 s2:S}{o:Op}(h:s9 o s1 s2):gi s1 o=gi s2 o:=by
 have he:=h.ev
 cases o with
 |call c=>
  obtain⟨callee,args,ats⟩:=c
  cases callee with
  |value g=>grind [gi,opsOf,gj]
  |_=>rfl
 |_=>rfl
theorem zf{P:Program}{s1 s2:S}(hst:s1.st=s2.st){T:TypeId}{x y:AV}{K1 K2:List Obj->AV->Prop}(hK: ∀st a,K1 st a->K2 st a)(h:oE P s1 T x y K1):oE P s2 T x y K2:=by
 unfold oE at h⊢
 rw[hst] at h
 split at h<;>try exact h.elim
 rename_i q0
 try simp only[q0]
 split at h<;>try exact h.elim
 rename_i q0 q1
 try simp only[q0,q1]
 split at h<;>try exact h.elim
 rename_i q0
 try simp only[q0]
 split at h<;>try exact h.elim
 ·exact cq (hK _ _) h
 ·split at h<;>try exact h.elim
  ·rename_i q0
   try simp only[q0]
   split at h<;>try exact h.elim
   rename_i hif
   try rw[if_pos hif]
   exact cq (hK _ _) h
  ·rename_i q0
   try simp only[q0]
   split at h<;>try exact h.elim
   rename_i q1
   try simp only[q1]
   split at h<;>try exact h.elim
   rename_i hif
   try rw[if_pos hif]
   exact cq (hK _ _) h
theorem B3{P:Program}{s1 s2:S}(hst:s1.st=s2.st){T:TypeId}{x y:AV}{K1 K2:List Obj->Prop}(hK: ∀st,K1 st->K2 st)(h:pD P s1 T x y K1):pD P s2 T x y K2:=by
 unfold pD at h⊢
 rw[hst] at h
 split at h<;>try exact h.elim
 split at h<;>try exact h.elim
 ·grind
 ·grind
 ·grind [cq]
theorem ql{P:Program}{st:List Obj}{T:TypeId}{y:Operand}{a:AV}{K1 K2:Bool->Prop}(hK: ∀b,K1 b->K2 b)(h:mh P st T y a K1):mh P st T y a K2:=by
 unfold mh at h⊢
 grind
theorem uu{P:Program}{Kt Vt:TypeId}{es:List (Value×AV)}{ks:List Value}{p p':Value->AV->Prop}{q q':Prop}(hp: ∀k a,p k a->p' k a)(hq:q->q')(h:A4 P Kt Vt es ks p q):A4 P Kt Vt es ks p' q':=by
 refine⟨?_,fun hs=>hq (h.2 hs)⟩
 have h1:=h.1
 grind
theorem uk{P:Pg}{s1 s2:S}{o:Op}(hs:s9 o s1 s2)(hst:s1.st=s2.st){d1 d2:Option Tmp}{K1 K2:S->Prop}(hK: ∀st a,K1 (put {s1 with st:=st} d1 a)->K2 (put {s2 with st:=st} d2 a))
  (h:b8 P s1 d1 o K1):b8 P s2 d2 o K2:=by
 have he:=hs.ev
 cases o with
 |alloc T=>
  simp only[b8] at h⊢
  rw[hst] at h
  split at h<;>try exact h.elim
  rename_i q0
  try simp only[q0]
  exact hK _ _ h
 | box T x=>
  simp only[b8] at h⊢
  rw[hst,he x (by simp[opsOf])] at h
  split at h<;>try exact h.elim
  rename_i hif
  try rw[if_pos hif]
  split at h
  ·rename_i hi
   first|simp only[hi]|skip
   exact cq (hK _ _) h
  ·rename_i hi
   first|simp only[hi]|skip
   exact hK _ _ h
 |store T p x=>
  simp only[b8] at h⊢
  rw[he x (by simp[opsOf]),he p (by simp[opsOf])] at h
  exact B3 hst (fun st=>hK st _) h
 |buildSlice T len parts=>
  simp only[b8] at h⊢
  rw[hst,iK (fun x hx=>he x (by simpa only[opsOf] using hx))] at h
  split at h<;>try exact h.elim
  rename_i q0
  try simp only[q0]
  split at h<;>try exact h.elim
  rename_i q0
  try simp only[q0]
  split at h<;>try exact h.elim
  rename_i q0
  try simp only[q0]
  split at h<;>try exact h.elim
  rename_i hif
  try rw[if_pos hif]
  exact hK _ _ h
 |makeSlice T ln cp=>
  simp only[b8] at h⊢
  rw[hst,he ln (by simp[opsOf]),he cp (by simp[opsOf])] at h
  split at h<;>try exact h.elim
  rename_i q0 q1 q2
  try simp only[q0,q1,q2]
  split at h<;>try exact h.elim
  rename_i q0
  try simp only[q0]
  exact cq (hK _ _) h
 | makeMap T r=>
  cases r with
  |some r=>exact h.elim
  |none=>
   simp only[b8] at h⊢
   rw[hst] at h
   split at h<;>try exact h.elim
   rename_i q0
   try simp only[q0]
   exact hK _ _ h
 |mapUpdate T m k x=>
  simp only[b8] at h⊢
  rw[hst,he m (by simp[opsOf]),he k (by simp[opsOf]),he x (by simp[opsOf])] at h
  split at h<;>try exact h.elim
  rename_i q0 q1 q2 q3
  try simp only[q0,q1,q2,q3]
  split at h<;>try exact h.elim
  rename_i q0
  try simp only[q0]
  split at h<;>try exact h.elim
  rename_i hif
  try rw[if_pos hif]
  exact hK _ _ h
 |mapEntry T m k=>
  simp only[b8] at h⊢
  rw[hst,he m (by simp[opsOf]),he k (by simp[opsOf])] at h
  split at h<;>try exact h.elim
  rename_i q0 q1 q2
  try simp only[q0,q1,q2]
  split at h<;>try exact h.elim
  rename_i q0 q1
  try simp only[q0,q1]
  split at h<;>try exact h.elim
  rename_i hif
  try rw[if_pos hif]
  exact hK _ _ h
 |entryStore T m jV x=>
  simp only[b8] at h⊢
  rw[hst,he m (by simp[opsOf]),he jV (by simp[opsOf]),he x (by simp[opsOf])] at h
  split at h<;>try exact h.elim
  rename_i q0 q1 q2 q3
  try simp only[q0,q1,q2,q3]
  split at h<;>try exact h.elim
  rename_i q0
  try simp only[q0]
  split at h<;>try exact h.elim
  rename_i hif
  try rw[if_pos hif]
  exact hK _ _ h
 | range T x=>
  simp only[b8] at h⊢
  rw[hst,he x (by simp[opsOf])] at h
  split at h<;>try exact h.elim
  ·rename_i q0 q1
   try simp only[q0,q1]
   split at h<;>try exact h.elim
   rename_i q0
   try simp only[q0]
   exact hK _ _ h
  ·rename_i q0 q1
   try simp only[q0,q1]
   exact hK _ _ h
  ·rename_i q0 q1
   try simp only[q0,q1]
   exact hK _ _ h
  ·rename_i q0 q1
   try simp only[q0,q1]
   exact hK _ _ h
 | next it str=>
  cases str with
  | true=>
   simp only[b8] at h⊢
   rw[hst,he it (by simp[opsOf])] at h
   split at h<;>try exact h.elim
   rename_i q0
   try simp only[q0]
   split at h<;>try exact h.elim
   rename_i q0
   try simp only[q0]
   have hK': ∀a,K1 (put s1 d1 a)->K2 (put s2 d2 a):=fun a hh=>by
    have:=hK s1.st a hh
    rw[show({s2 with st:=s1.st}:S)=s2 by rw[hst]] at this
    exact this
   obtain⟨h1,h2⟩:=FE h
   cases hb:Nat.blt _ _ with
   |true=>rw[hb] at h1;exact hK _ _ (h1 rfl)
   |false=>rw[hb] at h2;exact hK' _ (h2 rfl)
  | false=>
   simp only[b8] at h⊢
   rw[hst,he it (by simp[opsOf])] at h
   have hK': ∀a,K1 (put s1 d1 a)->K2 (put s2 d2 a):=fun a hh=>by
    have:=hK s1.st a hh
    rw[show({s2 with st:=s1.st}:S)=s2 by rw[hst]] at this
    exact this
   split at h<;>try exact h.elim
   rename_i q0
   try simp only[q0]
   split at h<;>try exact h.elim
   ·rename_i q0
    try simp only[q0]
    split at h
    case h_2=>
     rename_i q0
     split at h<;>try exact h.elim
     exact hK' _ h
    rename_i q0
    try simp only[q0]
    exact cq (uu (fun k a=>hK _ _) (hK' _)) h
   ·rename_i q0
    try simp only[q0]
    exact uu (fun k a=>hK _ _) (hK' _) h
 | entry it=>
  have hK': ∀a,K1 (put s1 d1 a)->K2 (put s2 d2 a):=fun a hh=>by
   have:=hK s1.st a hh
   rw[show({s2 with st:=s1.st}:S)=s2 by rw[hst]] at this
   exact this
  simp only[b8] at h⊢
  rw[hst,he it (by simp[opsOf])] at h
  split at h<;>try exact h.elim
  rename_i q0
  try simp only[q0]
  split at h
  case h_3=>exact h.elim
  case h_2=>
   rename_i q1
   try simp only[q1]
   split at h<;>try exact h.elim
   rename_i q0
   try simp only[q0]
   exact hK' _ h
  rename_i q0
  try simp only[q0]
  split at h<;>try exact h.elim
  rename_i q0
  try simp only[q0]
  split at h<;>try exact h.elim
  rename_i q0
  try simp only[q0]
  exact cq (hK' _) h
 | call c=>
  obtain⟨callee,args,ats⟩:=c
  cases callee with
  | builtin b=>
   cases b<;>try exact h.elim
   case clear=>
    simp only[b8] at h⊢
    rw[gj (fun x hx=>he x (by simpa only[opsOf] using hx)),hst] at h
    split at h<;>try exact h.elim
    rename_i q0 q1
    try simp only[q0,q1]
    split at h<;>try exact h.elim
    rename_i q0 q1
    try simp only[q0,q1]
    split at h<;>try exact h.elim
    rename_i q0
    try simp only[q0]
    split at h<;>try exact h.elim
    rename_i hif
    try rw[if_pos hif]
    exact hK _ _ h
   simp only[b8] at h⊢
   rw[gj (fun x hx=>he x (by simpa only[opsOf] using hx))] at h
   split at h<;>try exact h.elim
   rename_i q0 q1
   try simp only[q0,q1]
   split at h<;>try exact h.elim
   rename_i hif
   try rw[if_pos hif]
   exact zf hst (fun st a=>hK st a) h
  |_=>exact h.elim
 | binOp op T x y T'=>
  have hK': ∀a,K1 (put s1 d1 a)->K2 (put s2 d2 a):=fun a hh=>by
   have:=hK s1.st a hh
   rw[show({s2 with st:=s1.st}:S)=s2 by rw[hst]] at this
   exact this
  cases op with
  |eql=>
   simp only[b8] at h⊢
   rw[hst,he x (by simp[opsOf])] at h
   exact ql (fun _=>hK' _) h
  |neq=>
   simp only[b8] at h⊢
   rw[hst,he x (by simp[opsOf])] at h
   exact ql (fun _=>hK' _) h
  |_=>exact h.elim
 |_=>exact h.elim
end Go.Dn
