import Derived.Test.YtioeffnadipbaaaGreatDoorDoA
namespace Go.Dn
open Go
def eD(a:Rec):=∀f d base c s K b,(∀e s,K e s->b e s)->a f d base c s K->a f d base c s b
structure aj(E:Env):Prop where
 call: ∀f args st (K K':AV->List Obj->Prop),(∀a st,K a st->K' a st)->E.call f args st K->E.call f args st K'
 loop: ∀f k c rd base s (K K':Exit->S->Prop),(∀e s,K e s->K' e s)->E.loop f k c rd base s K->E.loop f k c rd base s K'
 lB: ∀f k g args st (K K':List Obj->Prop),(∀st,K st->K' st)->E.lB f k g args st K->E.lB f k g args st K'
theorem uF{E c}(e:eD c){f b st K d}(g: ∀a st,K a st->d a st)(h:ny E c f b st K):ny E c f b st d:=by
 unfold ny at h⊢;split at h<;>try omega
 split at h<;>try grind
 refine e _ _ _ _ _ _ _ ?_ h
 grind
theorem yd{E}(e:aj E){f b st K d}(g: ∀a st,K a st->d a st)(h:rD E f b st K):rD E f b st d:=
 cj (fun c=>by
  simp[jO,nw,kW] at c⊢;exact e.call _ _ _ _ _ (by grind) c) h
theorem FP{d}(i:eD d){l b st K g}(n: ∀a st,K a st->g a st)(h:jo d l b st K):jo d l b st g:=by
 unfold jo at h⊢;split at h<;>try exact h.elim
 rename_i r j
 try simp only[j]
 split at h<;>try exact h.elim
 rename_i m
 try rw[if_pos m]
 refine i _ _ _ _ _ _ _ ?_ h;intro e s c;cases e with
 |normal=>
  simp only[] at c⊢;split at c<;>try exact c.elim
  split at c<;>try exact c.elim
  rename_i f
  try rw[if_pos f]
  refine i _ _ _ _ _ _ _ ?_ c;intro k s2 o;cases k<;>grind
 |_=>exact c.elim
theorem np{E}(j:aj E){c}(e:eD c){g b st K d}(f: ∀a st,K a st->d a st)(h:oC E c g b st K):oC E c g b st d:=by
 unfold oC at h⊢;split at h<;>try exact h.elim
 ·grind [uF,yd]
 ·split at h
  ·rename_i t i
   unfold B6 at h⊢
   grind [cj]
  ·exact FP e f h
theorem MD{E}(C:aj E){f}(B:eD f){s1 s2 o}(i:uY o s1 s2)(d:s1.st=s2.st){p q r s}
  (m: ∀st a,(fg E.quiet o<2->st=s2.st)->r (put {s1 with st:=st} p a)->s (put {s2 with st:=st} q a)) (h:vb E f s1 p o r):vb E f s2 q o s:=by
 have n:({s1 with st:=s2.st}:S)=s1:=by rw[←d]
 unfold vb at h⊢;split at h
 ·rename_i y
  have e: ∀st a,r (put {s1 with st:=st} p a)->s (put {s2 with st:=st} q a):=fun st a=>m st a (by rw[y];omega)
  rw[Cn i,d] at h;split at h
  ·rename_i g j z
   refine np C B (fun a st h=>?_) h;cases A:(v8 E.calm o&& !Js E g j s2.st) with
   |true=>rw[A] at h;exact⟨h.1,e st a h.2⟩
   |false=>rw[A] at h;exact e st a h
  ·exact yi i d e h
 ·rename_i x y
  rw[zC i d] at h;split at h
  ·rename_i c a B
   have:=m s2.st a (fun _=>rfl)
   rw[n] at this;exact cj this h
  ·split at h<;>try exact h.elim
   rename_i c a b _;have l:=i.ev c (by simp[opsOf]);have u:=i.ev a (by simp[opsOf]);have v:=i.ev b (by simp[opsOf]);rw[l] at h;split at h<;>try exact h.elim
   rename_i t w;have k:ev s1 c= .lit (.bool t):=l.trans w;cases t with
   |true=>
    simp only[an] at h⊢;rw[fe k,u] at h;rw[fe w];have:=m s2.st (ev s2 a) (fun _=>rfl)
    rw[n] at this;exact this h
   |false=>
    simp only[an] at h⊢;rw[fe k,v] at h;rw[fe w];have:=m s2.st (ev s2 b) (fun _=>rfl)
    rw[n] at this;exact this h
def Looks ops o(s1 s2:S):=∀t,AU ops o t=true->nth s1.bz t=nth s2.bz t
theorem uh{t:Nat}: ∀{l},Operand.tmp t∈l->zS t l=true
 |[],h=>by grind
 | x::l,h=>by
  simp   at h;rcases h with rfl|h
  ·simp[zS]
  ·cases x<;>simp[zS]
   ·rw[uh h];simp
   all_goals exact uh h
theorem Looks.same{ops o s1 s2}(h:Looks ops o s1 s2):uY o.op s1 s2:=⟨fun x a=>by
 cases x with
 |tmp t=>exact h t (by grind [AU,uh])
 |_=>rfl⟩
theorem Looks.guard{ops o s1 s2}(h:Looks ops o s1 s2){j b t}(c:o.guard=some (j,b))(a:nY ops j=some t):nth s1.bz t=nth s2.bz t:=
 h t (by simp_all[AU])
theorem iQ{ops e f o s1 s2 c a}(k:Looks ops o s1 s2)(l:e s1 c->f s2 a)(m:c (put s1 o.dst (.aK []))->a (put s2 o.dst (.aK [])))(h:je ops e o s1 c):je ops f o s2 a:=by
 unfold je at h⊢;cases i:o.guard with
 |none=>grind
 | some g=>
  obtain⟨j,b⟩:=g;rw[i] at h;simp[] at h⊢;cases d:nY _ j with
  |none=>grind
  |some t=>
   rw[d] at h;simp[] at h⊢;rw[k.guard i d] at h
   grind
theorem nR{E}(g:aj E){b}(i:eD b){ops s1 s2 o}(d:Looks ops o s1 s2)(c:s1.st=s2.st){f e}
  (j: ∀st a,(fg E.quiet o.op<2->st=s2.st)->f (put {s1 with st:=st} o.dst a)->e (put {s2 with st:=st} o.dst a)) (h:dI E b ops o s1 f):dI E b ops o s2 e:=by
 rw[ef] at h⊢;refine iQ d (MD g i d.same c j) ?_ h;have k:{s1 with st:=s2.st}=s1:=by rw[←c]
 simp_all
theorem dv{E}(e:aj E){a}(d:eD a){ops s o b c}(f: ∀s,b s->c s)(h:dI E a ops o s b):dI E a ops o s c:=
 nR e d (fun _ _=>rfl) rfl (by grind) h
theorem qd{E rec ops o s K}(hc:fg E.quiet o.op<2)(h:dI E rec ops o s K): ∃a,K (put s o.dst a)/\∀s' K',Looks ops o s s'->(fg E.quiet o.op=1->Kept s.st s'.st)->K' (put s' o.dst a)->dI E rec ops o s' K':=by
 rw[ef] at h;have hop: ∀{s:S},vb E rec s o.dst o.op K->∃a,K (put s o.dst a)/\∀(s':S) (K':S->Prop),uY o.op s s'->(fg E.quiet o.op=1->Kept s.st s'.st)->K' (put s' o.dst a)->vb E rec s' o.dst o.op K':=by
  intro s h;unfold vb at h;split at h
  ·omega
  ·have hcong: ∀s' x,uY o.op s s'->(fg E.quiet o.op=1->Kept s.st s'.st)->bH E s o.op=some x->bH E s' o.op=some x:=fun s' x hs hst hx=>by
    rcases Nat.eq_zero_or_pos (fg E.quiet o.op) with e|e
    ·rw[←FM hs e];exact hx
    ·exact JX hs (hst (by omega)) hx
   split at h
   ·rename_i c a hr
    obtain⟨hc1,hc2⟩:=ai.1 h;refine⟨a,hc2,fun s' K' hs hst hk=>?_⟩;unfold vb;split
    ·omega
    ·rw[hcong s' _ hs hst hr];exact ai.2 ⟨hc1,hk⟩
   ·rename_i hr
    generalize hoo:o.op=oo at h
    split at h<;>try exact h.elim
    rename_i c x y;split at h<;>try exact h.elim
    rename_i t ht;rw[hoo] at hcong hr;have hx: ∀s',uY (.pick c x y) s s'->ev s c=ev s' c/\ev s x=ev s' x/\ev s y=ev s' y:=fun s' hs=>
     ⟨hs.ev c (by simp[opsOf]),hs.ev x (by simp[opsOf]),hs.ev y (by simp[opsOf])⟩
    cases t with
    |true=>
     simp only[an] at h;rw[fe ht] at h;refine⟨ev s x,h,fun s' K' hs hst hk=>?_⟩;obtain⟨e1,e2,_⟩:=hx s' hs;have hr':bH E s' (.pick c x y)=none:=rfl;simp only[vb,fg,hr'];rw[←e1,ht];simp only[an];rw[e1] at ht;rw[fe ht,←e2];exact hk
    |false=>
     simp only[an] at h;rw[fe ht] at h;refine⟨ev s y,h,fun s' K' hs hst hk=>?_⟩;obtain⟨e1,_,e2⟩:=hx s' hs;have hr':bH E s' (.pick c x y)=none:=rfl;simp only[vb,fg,hr'];rw[←e1,ht];simp only[an];rw[e1] at ht;rw[fe ht,←e2];exact hk
 unfold je at h;cases hg:o.guard with
 |none=>
  rw[hg] at h;obtain⟨a,h1,h2⟩:=hop h;refine⟨a,h1,fun s' K' hl hst hk=>?_⟩;rw[ef];unfold je;rw[hg];exact h2 s' K' hl.same hst hk
 | some g=>
  obtain⟨j,b⟩:=g;rw[hg] at h;simp only[] at h;cases ht:nY ops j with
  |none=>rw[ht] at h;exact h.elim
  | some t=>
   rw[ht] at h;simp only[] at h;split at h<;>try exact h.elim
   rotate_left
   ·rename_i hb
    refine⟨.aK [],h,fun s' K' hl hst hk=>?_⟩;rw[ef];unfold je;rw[hg];simp only[ht];rw[←hl.guard hg ht,hb];exact hk
   rename_i bb hb;split at h
   ·rename_i h0
    obtain⟨a,h1,h2⟩:=hop h;refine⟨a,h1,fun s' K' hl hst hk=>?_⟩;rw[ef];unfold je;rw[hg];simp only[ht];rw[←hl.guard hg ht,hb];simp only[];rw[if_pos h0];exact h2 s' K' hl.same hst hk
   ·rename_i h0
    refine⟨.aK [],h,fun s' K' hl hst hk=>?_⟩;rw[ef];unfold je;rw[hg];simp only[ht];rw[←hl.guard hg ht,hb];simp only[];rw[if_neg h0];exact hk
end Go.Dn
