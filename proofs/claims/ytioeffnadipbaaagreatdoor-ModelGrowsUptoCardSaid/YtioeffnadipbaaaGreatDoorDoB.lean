import Derived.Test.YtioeffnadipbaaaGreatDoorDoA
namespace Go.Dn
open Go
def eu(a:Rec):=∀f d base c s K b,(∀e s,K e s->b e s)->a f d base c s K->a f d base c s b
structure aj(E:Env):Prop where
 call: ∀f args st (K K':AV->List Obj->Prop),(∀a st,K a st->K' a st)->E.call f args st K->E.call f args st K'
 loop: ∀f k c rd base s (K K':Exit->S->Prop),(∀e s,K e s->K' e s)->E.loop f k c rd base s K->E.loop f k c rd base s K'
 lp: ∀f k g args st (K K':List Obj->Prop),(∀st,K st->K' st)->E.lp f k g args st K->E.lp f k g args st K'
theorem ud{E c}(e:eu c){f b st K d}(g: ∀a st,K a st->d a st)(h:m9 E c f b st K):m9 E c f b st d:=by
 unfold m9 at h⊢;split at h<;>try omega
 split at h<;>try grind
 refine e _ _ _ _ _ _ _ ?_ h
 grind
theorem x7{E}(e:aj E){f b st K d}(g: ∀a st,K a st->d a st)(h:qR E f b st K):qR E f b st d:=
 cx (fun c=>by
  simp[kn,mZ,kO] at c⊢;exact e.call _ _ _ _ _ (by grind) c) h
theorem Gn{d}(i:eu d){l b st K g}(n: ∀a st,K a st->g a st)(h:fQ d l b st K):fQ d l b st g:=by
 unfold fQ at h⊢;split at h<;>try exact h.elim
 rename_i r j
 try simp only[j]
 split at h<;>try exact h.elim
 rename_i m
 try rw[if_pos m]
 refine i _ _ _ _ _ _ _ ?_ h;intro e s c;cases e with
 |normal=>
  simp only[] at c⊢;split at c<;>try exact c.elim
  split at c<;>try exact c.elim
  rename_i f
  try rw[if_pos f]
  refine i _ _ _ _ _ _ _ ?_ c;intro k s2 o;cases k<;>grind
 |_=>exact c.elim
theorem mV{E}(j:aj E){c}(e:eu c){g b st K d}(f: ∀a st,K a st->d a st)(h:n8 E c g b st K):n8 E c g b st d:=by
 unfold n8 at h⊢;split at h<;>try exact h.elim
 ·grind [ud,x7]
 ·split at h
  ·rename_i t i
   unfold B8 at h⊢
   grind [cx]
  ·exact Gn e f h
theorem NM{E}(C:aj E){f}(B:eu f){s1 s2 o}(i:uw o s1 s2)(d:s1.st=s2.st){p q r s}
  (m: ∀st a,(fc E.quiet o<2->st=s2.st)->r (put {s1 with st:=st} p a)->s (put {s2 with st:=st} q a)) (h:uK E f s1 p o r):uK E f s2 q o s:=by
 have n:({s1 with st:=s2.st}:S)=s1:=by rw[←d]
 unfold uK at h⊢;split at h
 ·rename_i y
  have e: ∀st a,r (put {s1 with st:=st} p a)->s (put {s2 with st:=st} q a):=fun st a=>m st a (by rw[y];omega)
  rw[Cs i,d] at h;split at h
  ·rename_i g j z
   refine mV C B (fun a st h=>?_) h;cases A:(vQ E.calm o&& !Kf E g j s2.st) with
   |true=>rw[A] at h;exact⟨h.1,e st a h.2⟩
   |false=>rw[A] at h;exact e st a h
  ·exact yf i d e h
 ·rename_i x y
  rw[zy i d] at h;split at h
  ·rename_i c a B
   have:=m s2.st a (fun _=>rfl)
   rw[n] at this;exact cx this h
  ·split at h<;>try exact h.elim
   rename_i c a b _;have l:=i.ev c (by simp[opsOf]);have u:=i.ev a (by simp[opsOf]);have v:=i.ev b (by simp[opsOf]);rw[l] at h;split at h<;>try exact h.elim
   rename_i t w;have k:ev s1 c= .lit (.bool t):=l.trans w;cases t with
   |true=>
    simp only[aq] at h⊢;rw[fa k,u] at h;rw[fa w];have:=m s2.st (ev s2 a) (fun _=>rfl)
    rw[n] at this;exact this h
   |false=>
    simp only[aq] at h⊢;rw[fa k,v] at h;rw[fa w];have:=m s2.st (ev s2 b) (fun _=>rfl)
    rw[n] at this;exact this h
def Looks ops o(s1 s2:S):=∀t,AO ops o t=true->nth s1.bC t=nth s2.bC t
theorem tH{t:Nat}: ∀{l},Operand.tmp t∈l->zQ t l=true
 |[],h=>by grind
 | x::l,h=>by
  simp   at h;rcases h with rfl|h
  ·simp[zQ]
  ·cases x<;>simp[zQ]
   ·rw[tH h];simp
   all_goals exact tH h
theorem Looks.same{ops o s1 s2}(h:Looks ops o s1 s2):uw o.op s1 s2:=⟨fun x a=>by
 cases x with
 |tmp t=>exact h t (by grind [AO,tH])
 |_=>rfl⟩
theorem Looks.guard{ops o s1 s2}(h:Looks ops o s1 s2){j b t}(c:o.guard=some (j,b))(a:nD ops j=some t):nth s1.bC t=nth s2.bC t:=
 h t (by simp_all[AO])
theorem iK{ops e f o s1 s2 c a}(k:Looks ops o s1 s2)(l:e s1 c->f s2 a)(m:c (put s1 o.dst (.aH []))->a (put s2 o.dst (.aH [])))(h:jb ops e o s1 c):jb ops f o s2 a:=by
 unfold jb at h⊢;cases i:o.guard with
 |none=>grind
 | some g=>
  obtain⟨j,b⟩:=g;rw[i] at h;simp[] at h⊢;cases d:nD _ j with
  |none=>grind
  |some t=>
   rw[d] at h;simp[] at h⊢;rw[k.guard i d] at h
   grind
theorem ny{E}(g:aj E){b}(i:eu b){ops s1 s2 o}(d:Looks ops o s1 s2)(c:s1.st=s2.st){f e}
  (j: ∀st a,(fc E.quiet o.op<2->st=s2.st)->f (put {s1 with st:=st} o.dst a)->e (put {s2 with st:=st} o.dst a)) (h:dF E b ops o s1 f):dF E b ops o s2 e:=by
 rw[ec] at h⊢;refine iK d (NM g i d.same c j) ?_ h;have k:{s1 with st:=s2.st}=s1:=by rw[←c]
 simp_all
theorem dm{E}(e:aj E){a}(d:eu a){ops s o b c}(f: ∀s,b s->c s)(h:dF E a ops o s b):dF E a ops o s c:=
 ny e d (fun _ _=>rfl) rfl (by grind) h
theorem pL{E rec ops o s K}(hc:fc E.quiet o.op<2)(h:dF E rec ops o s K): ∃a,K (put s o.dst a)/\∀s' K',Looks ops o s s'->(fc E.quiet o.op=1->Kept s.st s'.st)->K' (put s' o.dst a)->dF E rec ops o s' K':=by
 rw[ec] at h;have hop: ∀{s:S},uK E rec s o.dst o.op K->∃a,K (put s o.dst a)/\∀(s':S) (K':S->Prop),uw o.op s s'->(fc E.quiet o.op=1->Kept s.st s'.st)->K' (put s' o.dst a)->uK E rec s' o.dst o.op K':=by
  intro s h;unfold uK at h;split at h
  ·omega
  ·have hcong: ∀s' x,uw o.op s s'->(fc E.quiet o.op=1->Kept s.st s'.st)->bJ E s o.op=some x->bJ E s' o.op=some x:=fun s' x hs hst hx=>by
    rcases Nat.eq_zero_or_pos (fc E.quiet o.op) with e|e
    ·rw[←Gj hs e];exact hx
    ·exact KK hs (hst (by omega)) hx
   split at h
   ·rename_i c a hr
    obtain⟨hc1,hc2⟩:=ai.1 h;refine⟨a,hc2,fun s' K' hs hst hk=>?_⟩;unfold uK;split
    ·omega
    ·rw[hcong s' _ hs hst hr];exact ai.2 ⟨hc1,hk⟩
   ·rename_i hr
    generalize hoo:o.op=oo at h
    split at h<;>try exact h.elim
    rename_i c x y;split at h<;>try exact h.elim
    rename_i t ht;rw[hoo] at hcong hr;have hx: ∀s',uw (.pick c x y) s s'->ev s c=ev s' c/\ev s x=ev s' x/\ev s y=ev s' y:=fun s' hs=>
     ⟨hs.ev c (by simp[opsOf]),hs.ev x (by simp[opsOf]),hs.ev y (by simp[opsOf])⟩
    cases t with
    |true=>
     simp only[aq] at h;rw[fa ht] at h;refine⟨ev s x,h,fun s' K' hs hst hk=>?_⟩;obtain⟨e1,e2,_⟩:=hx s' hs;have hr':bJ E s' (.pick c x y)=none:=rfl;simp only[uK,fc,hr'];rw[←e1,ht];simp only[aq];rw[e1] at ht;rw[fa ht,←e2];exact hk
    |false=>
     simp only[aq] at h;rw[fa ht] at h;refine⟨ev s y,h,fun s' K' hs hst hk=>?_⟩;obtain⟨e1,_,e2⟩:=hx s' hs;have hr':bJ E s' (.pick c x y)=none:=rfl;simp only[uK,fc,hr'];rw[←e1,ht];simp only[aq];rw[e1] at ht;rw[fa ht,←e2];exact hk
 unfold jb at h;cases hg:o.guard with
 |none=>
  rw[hg] at h;obtain⟨a,h1,h2⟩:=hop h;refine⟨a,h1,fun s' K' hl hst hk=>?_⟩;rw[ec];unfold jb;rw[hg];exact h2 s' K' hl.same hst hk
 | some g=>
  obtain⟨j,b⟩:=g;rw[hg] at h;simp only[] at h;cases ht:nD ops j with
  |none=>rw[ht] at h;exact h.elim
  | some t=>
   rw[ht] at h;simp only[] at h;split at h<;>try exact h.elim
   rotate_left
   ·rename_i hb
    refine⟨.aH [],h,fun s' K' hl hst hk=>?_⟩;rw[ec];unfold jb;rw[hg];simp only[ht];rw[←hl.guard hg ht,hb];exact hk
   rename_i bb hb;split at h
   ·rename_i h0
    obtain⟨a,h1,h2⟩:=hop h;refine⟨a,h1,fun s' K' hl hst hk=>?_⟩;rw[ec];unfold jb;rw[hg];simp only[ht];rw[←hl.guard hg ht,hb];simp only[];rw[if_pos h0];exact h2 s' K' hl.same hst hk
   ·rename_i h0
    refine⟨.aH [],h,fun s' K' hl hst hk=>?_⟩;rw[ec];unfold jb;rw[hg];simp only[ht];rw[←hl.guard hg ht,hb];simp only[];rw[if_neg h0];exact hk
end Go.Dn
