import Derived.Test.YtioeffnadipbaaaGreatDoorDoA
namespace Go.Dn
open Go
def eo(a:Rec):=∀f d base c s K b,(∀e s,K e s->b e s)->a f d base c s K->a f d base c s b
structure aj(E:Env):Prop where
 call: ∀f args st (K K':AV->List Obj->Prop),(∀a st,K a st->K' a st)->E.call f args st K->E.call f args st K'
 loop: ∀f k c rd base s (K K':Exit->S->Prop),(∀e s,K e s->K' e s)->E.loop f k c rd base s K->E.loop f k c rd base s K'
 lF: ∀f k g args st (K K':List Obj->Prop),(∀st,K st->K' st)->E.lF f k g args st K->E.lF f k g args st K'
theorem uv{E c}(e:eo c){f b st K d}(g: ∀a st,K a st->d a st)(h:nI E c f b st K):nI E c f b st d:=by
 unfold nI at h⊢;split at h<;>try omega
 split at h<;>try grind
 refine e _ _ _ _ _ _ _ ?_ h
 grind
theorem xF{E}(e:aj E){f b st K d}(g: ∀a st,K a st->d a st)(h:qL E f b st K):qL E f b st d:=
 cx (fun c=>by
  simp[kz,nF,lu] at c⊢;exact e.call _ _ _ _ _ (by grind) c) h
theorem G7{d}(i:eo d){l b st K g}(n: ∀a st,K a st->g a st)(h:gu d l b st K):gu d l b st g:=by
 unfold gu at h⊢;split at h<;>try exact h.elim
 rename_i r j
 try simp only[j]
 split at h<;>try exact h.elim
 rename_i m
 try rw[if_pos m]
 refine i _ _ _ _ _ _ _ ?_ h;intro e s c;cases e with
 |normal=>
  simp only[] at c⊢;split at c<;>try exact c.elim
  split at c<;>try exact c.elim
  rename_i f
  try rw[if_pos f]
  refine i _ _ _ _ _ _ _ ?_ c;intro k s2 o;cases k<;>grind
 |_=>exact c.elim
theorem nz{E}(j:aj E){c}(e:eo c){g b st K d}(f: ∀a st,K a st->d a st)(h:oO E c g b st K):oO E c g b st d:=by
 unfold oO at h⊢;split at h<;>try exact h.elim
 ·grind [uv,xF]
 ·split at h
  ·rename_i t i
   unfold AK at h⊢
   grind [cx]
  ·exact G7 e f h
theorem OP{E}(C:aj E){f}(B:eo f){s1 s2 o}(i:uP o s1 s2)(d:s1.st=s2.st){p q r s}
  (m: ∀st a,(fg E.quiet o<2->st=s2.st)->r (put {s1 with st:=st} p a)->s (put {s2 with st:=st} q a)) (h:u7 E f s1 p o r):u7 E f s2 q o s:=by
 have n:({s1 with st:=s2.st}:S)=s1:=by rw[←d]
 unfold u7 at h⊢;split at h
 ·rename_i y
  have e: ∀st a,r (put {s1 with st:=st} p a)->s (put {s2 with st:=st} q a):=fun st a=>m st a (by rw[y];omega)
  rw[CS i,d] at h;split at h
  ·rename_i g j z
   refine nz C B (fun a st h=>?_) h;cases A:(yf E.calm o&& !JF E g j s2.st) with
   |true=>rw[A] at h;exact⟨h.1,e st a h.2⟩
   |false=>rw[A] at h;exact e st a h
  ·exact yj i d e h
 ·rename_i x y
  rw[zN i d] at h;split at h
  ·rename_i c a B
   have:=m s2.st a (fun _=>rfl)
   rw[n] at this;exact cx this h
  ·split at h<;>try exact h.elim
   rename_i c a b _;have l:=i.ev c (by simp[opsOf]);have u:=i.ev a (by simp[opsOf]);have v:=i.ev b (by simp[opsOf]);rw[l] at h;split at h<;>try exact h.elim
   rename_i t w;have k:ev s1 c= .lit (.bool t):=l.trans w;cases t with
   |true=>
    simp only[aq] at h⊢;rw[fc k,u] at h;rw[fc w];have:=m s2.st (ev s2 a) (fun _=>rfl)
    rw[n] at this;exact this h
   |false=>
    simp only[aq] at h⊢;rw[fc k,v] at h;rw[fc w];have:=m s2.st (ev s2 b) (fun _=>rfl)
    rw[n] at this;exact this h
def Looks ops o(s1 s2:S):=∀t,AG ops o t=true->nth s1.bB t=nth s2.bB t
theorem te{t:Nat}: ∀{l},Operand.tmp t∈l->zS t l=true
 |[],h=>by grind
 | x::l,h=>by
  simp   at h;rcases h with rfl|h
  ·simp[zS]
  ·cases x<;>simp[zS]
   ·rw[te h];simp
   all_goals exact te h
theorem Looks.same{ops o s1 s2}(h:Looks ops o s1 s2):uP o.op s1 s2:=⟨fun x a=>by
 cases x with
 |tmp t=>exact h t (by grind [AG,te])
 |_=>rfl⟩
theorem Looks.guard{ops o s1 s2}(h:Looks ops o s1 s2){j b t}(c:o.guard=some (j,b))(a:nZ ops j=some t):nth s1.bB t=nth s2.bB t:=
 h t (by simp_all[AG])
theorem iN{ops e f o s1 s2 c a}(k:Looks ops o s1 s2)(l:e s1 c->f s2 a)(m:c (put s1 o.dst (.aJ []))->a (put s2 o.dst (.aJ [])))(h:jk ops e o s1 c):jk ops f o s2 a:=by
 unfold jk at h⊢;cases i:o.guard with
 |none=>grind
 | some g=>
  obtain⟨j,b⟩:=g;rw[i] at h;simp[] at h⊢;cases d:nZ _ j with
  |none=>grind
  |some t=>
   rw[d] at h;simp[] at h⊢;rw[k.guard i d] at h
   grind
theorem nD{E}(g:aj E){b}(i:eo b){ops s1 s2 o}(d:Looks ops o s1 s2)(c:s1.st=s2.st){f e}
  (j: ∀st a,(fg E.quiet o.op<2->st=s2.st)->f (put {s1 with st:=st} o.dst a)->e (put {s2 with st:=st} o.dst a)) (h:dC E b ops o s1 f):dC E b ops o s2 e:=by
 rw[dZ] at h⊢;refine iN d (OP g i d.same c j) ?_ h;have k:{s1 with st:=s2.st}=s1:=by rw[←c]
 simp_all
theorem dk{E}(e:aj E){a}(d:eo a){ops s o b c}(f: ∀s,b s->c s)(h:dC E a ops o s b):dC E a ops o s c:=
 nD e d (fun _ _=>rfl) rfl (by grind) h
theorem pR{E rec ops o s K}(hc:fg E.quiet o.op<2)(h:dC E rec ops o s K): ∃a,K (put s o.dst a)/\∀s' K',Looks ops o s s'->(fg E.quiet o.op=1->Kept s.st s'.st)->K' (put s' o.dst a)->dC E rec ops o s' K':=by
 rw[dZ] at h;have hop: ∀{s:S},u7 E rec s o.dst o.op K->∃a,K (put s o.dst a)/\∀(s':S) (K':S->Prop),uP o.op s s'->(fg E.quiet o.op=1->Kept s.st s'.st)->K' (put s' o.dst a)->u7 E rec s' o.dst o.op K':=by
  intro s h;unfold u7 at h;split at h
  ·omega
  ·have hcong: ∀s' x,uP o.op s s'->(fg E.quiet o.op=1->Kept s.st s'.st)->bI E s o.op=some x->bI E s' o.op=some x:=fun s' x hs hst hx=>by
    rcases Nat.eq_zero_or_pos (fg E.quiet o.op) with e|e
    ·rw[←Gl hs e];exact hx
    ·exact J6 hs (hst (by omega)) hx
   split at h
   ·rename_i c a hr
    obtain⟨hc1,hc2⟩:=ai.1 h;refine⟨a,hc2,fun s' K' hs hst hk=>?_⟩;unfold u7;split
    ·omega
    ·rw[hcong s' _ hs hst hr];exact ai.2 ⟨hc1,hk⟩
   ·rename_i hr
    generalize hoo:o.op=oo at h
    split at h<;>try exact h.elim
    rename_i c x y;split at h<;>try exact h.elim
    rename_i t ht;rw[hoo] at hcong hr;have hx: ∀s',uP (.pick c x y) s s'->ev s c=ev s' c/\ev s x=ev s' x/\ev s y=ev s' y:=fun s' hs=>
     ⟨hs.ev c (by simp[opsOf]),hs.ev x (by simp[opsOf]),hs.ev y (by simp[opsOf])⟩
    cases t with
    |true=>
     simp only[aq] at h;rw[fc ht] at h;refine⟨ev s x,h,fun s' K' hs hst hk=>?_⟩;obtain⟨e1,e2,_⟩:=hx s' hs;have hr':bI E s' (.pick c x y)=none:=rfl;simp only[u7,fg,hr'];rw[←e1,ht];simp only[aq];rw[e1] at ht;rw[fc ht,←e2];exact hk
    |false=>
     simp only[aq] at h;rw[fc ht] at h;refine⟨ev s y,h,fun s' K' hs hst hk=>?_⟩;obtain⟨e1,_,e2⟩:=hx s' hs;have hr':bI E s' (.pick c x y)=none:=rfl;simp only[u7,fg,hr'];rw[←e1,ht];simp only[aq];rw[e1] at ht;rw[fc ht,←e2];exact hk
 unfold jk at h;cases hg:o.guard with
 |none=>
  rw[hg] at h;obtain⟨a,h1,h2⟩:=hop h;refine⟨a,h1,fun s' K' hl hst hk=>?_⟩;rw[dZ];unfold jk;rw[hg];exact h2 s' K' hl.same hst hk
 | some g=>
  obtain⟨j,b⟩:=g;rw[hg] at h;simp only[] at h;cases ht:nZ ops j with
  |none=>rw[ht] at h;exact h.elim
  | some t=>
   rw[ht] at h;simp only[] at h;split at h<;>try exact h.elim
   rotate_left
   ·rename_i hb
    refine⟨.aJ [],h,fun s' K' hl hst hk=>?_⟩;rw[dZ];unfold jk;rw[hg];simp only[ht];rw[←hl.guard hg ht,hb];exact hk
   rename_i bb hb;split at h
   ·rename_i h0
    obtain⟨a,h1,h2⟩:=hop h;refine⟨a,h1,fun s' K' hl hst hk=>?_⟩;rw[dZ];unfold jk;rw[hg];simp only[ht];rw[←hl.guard hg ht,hb];simp only[];rw[if_pos h0];exact h2 s' K' hl.same hst hk
   ·rename_i h0
    refine⟨.aJ [],h,fun s' K' hl hst hk=>?_⟩;rw[dZ];unfold jk;rw[hg];simp only[ht];rw[←hl.guard hg ht,hb];simp only[];rw[if_neg h0];exact hk
end Go.Dn
