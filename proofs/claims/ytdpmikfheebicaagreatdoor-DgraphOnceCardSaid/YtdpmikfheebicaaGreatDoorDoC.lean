import Derived.Test.YtdpmikfheebicaaGreatDoorDoB
namespace Go.Dn
open Go
theorem wh: ∀(l:List AV) (i j:Nat) (x y:AV),i≠j->bQ (bQ l i x) j y=bQ (bQ l j y) i x
 |[],_,_,_,_,_=>rfl
 |a::l,0,0,_,_,h=>absurd rfl h
 |a::l,0,j+1,_,_,_=>rfl
 |a::l,i+1,0,_,_,_=>rfl
 |a::l,i+1,j+1,x,y,h=>by simp only[bQ];rw[wh l i j x y (by omega)]
theorem zC{s:S}{d d':Option Tmp}{a b:AV}(st:List Obj)(h:tw d d'=true):put ({put s d a with st:=st}) d' b=put (put {s with st:=st} d' b) d a:=by
 cases d with
 |none=>rfl
 | some t=>
  cases d' with
  |none=>rfl
  |some u=>
   have:t≠u:=by intro e;subst e;simp[tw] at h
   simp only[put]
   rw[wh _ _ _ _ _ this]
theorem n8{ops:List Oper}{o:Oper}{s:S}{d:Option Tmp}{a:AV}(h:yA ops o d=false):Looks ops o s (put s d a):=by
 intro t ht
 cases d with
 |none=>rfl
 |some u=>
  have:u≠t:=by intro e;subst e;simp only[yA] at h;rw[h] at ht;cases ht
  simp only[put]
  rw[ke _ _ _ _ this]
theorem Looks.symm{ops:List Oper}{o:Oper}{s1 s2:S}(h:Looks ops o s1 s2):Looks ops o s2 s1:=fun t ht=>(h t ht).symm
theorem Jd{quiet:FuncId->Bool}{o:Op}(h:Ax o=true):dZ quiet o=2/\∀s,gj s o=none:=by
 cases o with
 |alloc T=>exact⟨rfl,fun _=>rfl⟩
 |box T x=>exact⟨rfl,fun _=>rfl⟩
 |makeSlice T a b=>exact⟨rfl,fun _=>rfl⟩
 |makeMap T x=>cases x<;>first|exact⟨rfl,fun _=>rfl⟩|cases h
 |_=>cases h
theorem dk(s:S)(d:Option Tmp)(a:AV):(put s d a).st=s.st:=by cases d<;>rfl
theorem Cf{P:Pg}{s:S}{dst:Option Tmp}{o:Op}(hg:Ax o=true){K:S->Prop}(h:b7 P s dst o K):b7 P s dst o fun s'=>K s'/\Kept s.st s'.st:=by
 cases o with
 |alloc T=>
  simp only[b7] at h⊢
  split at h<;>try exact h.elim
  exact⟨h,by rw[dk];exact Kept.app _ _⟩
 |box T x=>
  simp only[b7] at h⊢
  split at h<;>try exact h.elim
  rename_i h1
  rw[if_pos h1]
  exact⟨h,by rw[dk];exact Kept.app _ _⟩
 |makeSlice T a b=>
  simp only[b7] at h⊢
  split at h<;>try exact h.elim
  split at h<;>try exact h.elim
  exact cV (fun h=>⟨h,by rw[dk];exact Kept.app _ _⟩) h
 | makeMap T x=>
  cases x with
  |some y=>cases hg
  |none=>
   simp only[b7] at h⊢
   split at h<;>try exact h.elim
   exact⟨h,by rw[dk];exact Kept.app _ _⟩
 |_=>cases hg
theorem FZ{E:Env}{rec:Rec}{ops:List Oper}{b:Oper}{s:S}{K:S->Prop}(hb:dZ E.quiet b.op<2\/Ax b.op=true)(h:dB E rec ops b s K):dB E rec ops b s fun s'=>K s'/\Kept s.st s'.st:=by
 rcases hb with hb|hb
 ·obtain⟨a,h1,h2⟩:=nZ hb h
  exact h2 s _ (fun _ _=>rfl) (fun _=> .refl _) ⟨h1,by rw[dk];exact .refl _⟩
 ·rw[dQ] at h⊢
  refine iX (fun _ _=>rfl) (fun h=>?_) (fun h=>⟨h,by rw[dk];exact .refl _⟩) h
  obtain⟨e1,e2⟩:=Jd (quiet:=E.quiet) hb
  unfold vv at h⊢
  rw[e1] at h⊢
  simp only[e2] at h⊢
  exact Cf hb h
theorem FB{E:Env}(hE:ai E){rec:Rec}(hr:eC rec){ops:List Oper}{i j:Oper}(hsw:vj E.quiet ops i j=true){s:S}{K:S->Prop}
  (h:dB E rec ops i s fun s1=>dB E rec ops j s1 K):dB E rec ops j s fun s2=>dB E rec ops i s2 K:=by
 simp only[vj,za,aa1,Bool.not_eq_true'] at hsw
 obtain⟨⟨⟨h1,h2⟩,h3⟩,h4⟩:=hsw
 have hc:dZ E.quiet i.op<2:=by
  split at h4
  ·omega
  ·omega
  ·cases h4
 have hj:dZ E.quiet i.op=1->dZ E.quiet j.op<2\/Ax j.op=true:=by
  intro e
  rw[e] at h4
  simpa using h4
 obtain⟨a,g1,g2⟩:=nZ hc h
 have hst:(put s i.dst a).st=s.st:=by cases i.dst<;>rfl
 have g3:dB E rec ops j (put s i.dst a) fun s'=>K s'/\(dZ E.quiet i.op=1->Kept s.st s'.st):=by
  rcases Nat.eq_zero_or_pos (dZ E.quiet i.op) with e|e
  ·exact dE hE hr (fun s' hk=>⟨hk,fun e2=>by omega⟩) g1
  ·refine dE hE hr (fun s' hk=>⟨hk.1,fun _=>?_⟩) (FZ (hj (by omega)) g1)
   rw[←hst];exact hk.2
 refine o5 hE hr (n8 h1).symm hst ?_ g3
 intro st b hs hk
 refine g2 _ _ ?_ ?_ ?_
 ·have:Looks ops i s {s with st:=st}:=fun _ _=>rfl
  intro t ht
  exact(this t ht).trans (n8 h2 t ht)
 ·intro e
  have:=hk.2 e
  rw[dk] at this⊢
  exact this
 ·rw[←zC st h3];exact hk.1
theorem nB: ∀(l:List Bool) (i:Nat),(fr l i).length=l.length
 |[],_=>rfl
 |_::_,0=>rfl
 |_::l,i+1=>by simp[fr,nB l i]
theorem fC: ∀(l:List Bool) (i:Nat),eR (fr l i) i=true
 |[],_=>rfl
 |_::_,0=>rfl
 |_::l,i+1=>by simp only[fr,eR];exact fC l i
theorem dH: ∀(l:List Bool) (i j:Nat),i≠j->eR (fr l i) j=eR l j
 |[],_,_,_=>rfl
 |_::_,0,j,h=>by cases j with|zero=>exact absurd rfl h|succ j=>rfl
 |_::l,i+1,j,h=>by
  cases j with
  |zero=>rfl
  |succ j=>simp only[fr,eR];exact dH l i j (by omega)
theorem ri: ∀(l:List Bool) (i j:Nat),fr (fr l i) j=fr (fr l j) i
 |[],_,_=>rfl
 |_::_,0,0=>rfl
 |_::_,0,j+1=>rfl
 |_::_,i+1,0=>rfl
 |_::l,i+1,j+1=>by simp only[fr];rw[ri l i j]
theorem nr(listed:List Bool): ∀l:List Edge,kB listed l=true↔ ∀e,e∈l->Region.binds .any e=true->e.on<listed.length/\eR listed e.on=true
 |[]=>by simp[kB]
 | e::l=>by
  simp only[kB,aa1,nr listed l,List.forall_mem_cons,ab5,Bool.not_eq_true',Nat.blt_eq]
  constructor
  ·rintro⟨h1,h2⟩
   refine⟨fun hb=>?_,h2⟩
   rcases h1 with h1|h1
   ·rw[h1] at hb;cases hb
   ·exact h1
  ·rintro⟨h1,h2⟩
   refine⟨?_,h2⟩
   cases hb:Region.binds .any e with
   |false=>exact .inl rfl
   |true=>exact .inr (h1 hb)
theorem um(listed:List Bool): ∀(l:List Oper) (k i:Nat) (o:Oper),(i,o)∈kb listed l k↔ ∃m,i=k+m/\l[m]? =some o/\eR listed i=false/\kB listed o.after.toList=true
 |[],k,i,o=>by simp[kb]
 | b ::l,k,i,o=>by
  have ih:=um listed l (k+1) i o
  have tail:(i,o)∈kb listed l (k+1)↔ ∃m,i=k+(m+1)/\(b::l)[m+1]? =some o/\eR listed i=false/\kB listed o.after.toList=true:=by
   rw[ih]
   constructor
   ·rintro⟨m,h1,h2,h3⟩;exact⟨m,by omega,by simpa using h2,h3⟩
   ·rintro⟨m,h1,h2,h3⟩;exact⟨m,by omega,by simpa using h2,h3⟩
  simp only[kb]
  cases hb:(!eR listed k&&kB listed b.after.toList) with
  | true=>
   simp only[aa7,ac1,tail,aa9]
   simp only[aa1,Bool.not_eq_true'] at hb
   constructor
   ·rintro(⟨rfl,rfl⟩|⟨m,h⟩)
    ·exact⟨0,by omega,rfl,hb.1,hb.2⟩
    ·exact⟨m+1,h⟩
   ·rintro⟨m,h1,h2,h3⟩
    cases m with
    |zero=>simp at h2;exact .inl ⟨by omega,h2.symm⟩
    |succ m=>exact .inr ⟨m,h1,h2,h3⟩
  | false=>
   simp only[aa5,tail]
   constructor
   ·rintro⟨m,h⟩;exact⟨m+1,h⟩
   ·rintro⟨m,h1,h2,h3,h4⟩
    cases m with
    |zero=>
     simp at h2;subst h2
     simp only[Nat.add_zero] at h1;subst h1
     rw[h3,h4] at hb;simp at hb
    |succ m=>exact⟨m,h1,h2,h3,h4⟩
def kK(ops:List Oper)(listed:List Bool)(i:Nat)(o:Oper):Prop:=ops[i]? =some o/\eR listed i=false/\∀e,e∈o.after.toList->Region.binds .any e=true->e.on<listed.length/\eR listed e.on=true
theorem gN{ops:List Oper}{listed:List Bool}{i:Nat}{o:Oper}:(i,o)∈kb listed ops 0↔kK ops listed i o:=by
 rw[um]
 constructor
 ·rintro⟨m,h1,h2,h3,h4⟩
  obtain rfl:i=m:=by omega
  exact⟨h2,h3,(nr _ _).1 h4⟩
 ·rintro⟨h1,h2,h3⟩
  exact⟨i,by omega,h1,h2,(nr _ _).2 h3⟩
theorem kK.set{ops:List Oper}{listed:List Bool}{i j:Nat}{o:Oper}(h:kK ops listed i o)(hij:j≠i):kK ops (fr listed j) i o:=by
 refine⟨h.1,by rw[dH _ _ _ hij];exact h.2.1,fun e he hb=>?_⟩
 obtain⟨h1,h2⟩:=h.2.2 e he hb
 refine⟨by rw[nB];exact h1,?_⟩
 by_cases e':j=e.on
 ·subst e';exact fC _ _
 ·rw[dH _ _ _ e'];exact h2
inductive Cb (ops:List Oper) (i:Nat):Nat->Prop
 |base (j:Nat) (b:Oper) (e:Edge) (h1:ops[j]? =some b) (h2:e∈b.after.toList) (h3:Region.binds .any e=true) (h4:e.on=i):Cb ops i j
 |step (j:Nat) (b:Oper) (e:Edge) (h1:ops[j]? =some b) (h2:e∈b.after.toList) (h3:Region.binds .any e=true) (h4:Cb ops i e.on):Cb ops i j
def DC(ops:List Oper)(listed:List Bool):Prop:=∀j b,ops[j]? =some b->j<listed.length->eR listed j=true->∀e,e∈b.after.toList->Region.binds .any e=true->e.on<listed.length/\eR listed e.on=true
theorem Cr{ops:List Oper}{listed:List Bool}(hd:DC ops listed){i j:Nat}(h:Cb ops i j):j<listed.length->eR listed j=true->eR listed i=true:=by
 induction h with
 |base j b e h1 h2 h3 h4=>intro hl hn;rw[←h4];exact(hd j b h1 hl hn e h2 h3).2
 |step j b e h1 h2 h3 _ ih=>intro hl hn;exact ih (hd j b h1 hl hn e h2 h3).1 (hd j b h1 hl hn e h2 h3).2
theorem kK.dep{ops:List Oper}{listed:List Bool}(hd:DC ops listed){i j:Nat}{b:Oper}(h:kK ops listed j b)(hp:Cb ops i j):eR listed i=true:=by
 cases hp with
 |base _ b' e h1 h2 h3 h4=>
  have:b'=b:=Option.some.inj (h1.symm.trans h.1)
  subst this
  rw[←h4];exact(h.2.2 e h2 h3).2
 |step _ b' e h1 h2 h3 h4=>
  have:b'=b:=Option.some.inj (h1.symm.trans h.1)
  subst this
  exact Cr hd h4 (h.2.2 e h2 h3).1 (h.2.2 e h2 h3).2
theorem DC.iv(ops:List Oper)(n:Nat):DC ops (iv n):=fun j b _ hl hn=>by
 have: ∀(n j:Nat),j<(Go.Dn.iv n).length->eR (Go.Dn.iv n) j=false:=by
  intro n
  induction n with
  |zero=>intro j h;simp[Go.Dn.iv] at h
  |succ n ih=>intro j h;cases j with|zero=>rfl|succ j=>simp only[Go.Dn.iv,eR];exact ih j (by simpa[Go.Dn.iv] using h)
 rw[this n j hl] at hn;cases hn
theorem DC.set{ops:List Oper}{listed:List Bool}(hd:DC ops listed){i:Nat}{o:Oper}(h:kK ops listed i o):DC ops (fr listed i):=by
 intro j b hb hl hn e he hbi
 rw[nB] at hl⊢
 have key:e.on<listed.length/\eR listed e.on=true:=by
  by_cases hij:i=j
  ·subst hij
   have:b=o:=Option.some.inj (hb.symm.trans h.1)
   subst this
   exact h.2.2 e he hbi
  ·rw[dH _ _ _ hij] at hn
   exact hd j b hb hl hn e he hbi
 refine⟨key.1,?_⟩
 by_cases e':i=e.on
 ·subst e';exact fC _ _
 ·rw[dH _ _ _ e'];exact key.2
theorem xg(acc:List Nat): ∀l:List Edge,v7 acc l=true->∃e,e∈l/\Region.binds .any e=true/\e.on∈acc
 |[],h=>by simp[v7] at h
 | e::l,h=>by
  simp only[v7,ab5,aa1] at h
  rcases h with⟨h1,h2⟩|h
  ·exact⟨e,by simp,h1,(lp _ _).1 h2⟩
  ·obtain⟨e',h1,h2⟩:=xg acc l h
   exact⟨e',by simp[h1],h2⟩
theorem pj{ops:List Oper}{i:Nat}: ∀(l:List Oper) (k:Nat) (acc:List Nat),(∀m b,l[m]? =some b->ops[k+m]? =some b)->(∀j,j∈acc->j=i\/Cb ops i j)->∀j,j∈fwd l k acc->j=i\/Cb ops i j
 |[],_,_,_,ha,j,hj=>ha j hj
 | o::l,k,acc,hl,ha,j,hj=>by
  simp only[fwd] at hj
  have hl': ∀m b,l[m]? =some b->ops[k+1+m]? =some b:=fun m b hm=>by
   have:=hl (m+1) b (by simpa using hm)
   rwa [show k+1+m=k+(m+1) by omega]
  cases hb:v7 acc o.after.toList with
  |false=>rw[hb] at hj;exact pj l (k+1) acc hl' ha j hj
  | true=>
   rw[hb] at hj
   refine pj l (k+1) (k::acc) hl' (fun j' hj'=>?_) j hj
   rcases List.mem_cons.1 hj' with rfl|hj'
   ·obtain⟨e,h1,h2,h3⟩:=xg _ _ hb
    rcases ha _ h3 with h4|h4
    ·exact .inr (.base _ o e (hl 0 o rfl) h1 h2 h4)
    ·exact .inr (.step _ o e (hl 0 o rfl) h1 h2 h4)
   ·exact ha j' hj'
def H9(quiet:FuncId->Bool)(ops:List Oper)(listed:List Bool)(i:Nat)(o:Oper):Prop:=
 ∀j b,ops[j]? =some b->i≠j->eR listed j=false-> ¬ Cb ops i j->vj quiet ops o b=true
theorem free_spec{quiet:FuncId->Bool}{ops:List Oper}{listed:List Bool}{i:Nat}{o:Oper}{fs:List Nat}(hfs: ∀j,j∈fs->j=i\/Cb ops i j): ∀(l:List Oper) (k:Nat),ea quiet ops listed i o fs l k=true->∀m b,l[m]? =some b->i≠k+m->eR listed (k+m)=false-> ¬ Cb ops i (k+m)->vj quiet ops o b=true
 |[],_,_,m,b,h,_,_,_=>by simp at h
 | x::l,k,h,m,b,hm,hi,hn,he=>by
  simp only[ea,aa1,ab5] at h
  cases m with
  | zero=>
   simp at hm;subst hm
   rcases h.1 with((h1|h1)|h1)|h1
   ·exact absurd (Nat.eq_of_beq_eq_true h1) (by simpa using hi)
   ·rw[show k+0=k from rfl] at hn;rw[hn] at h1;cases h1
   ·rcases hfs _ ((lp _ _).1 h1) with h2|h2
    ·exact absurd h2.symm (by simpa using hi)
    ·exact absurd h2 (by simpa using he)
   ·exact h1
  |succ m=>
   refine free_spec hfs l (k+1) h.2 m b (by simpa using hm) (by omega) ?_ ?_
   ·rw[show k+1+m=k+(m+1) by omega];exact hn
   ·rw[show k+1+m=k+(m+1) by omega];exact he
theorem H9.set{quiet:FuncId->Bool}{ops:List Oper}{listed:List Bool}{i j:Nat}{o:Oper}(h:H9 quiet ops listed i o):H9 quiet ops (fr listed j) i o:=by
 intro k b hb hk hn he
 refine h k b hb hk ?_ he
 by_cases e:j=k
 ·subst e;rw[fC] at hn;cases hn
 ·rwa [dH _ _ _ e] at hn
def mL(E:Env)(rec:Rec)(ops:List Oper):Nat->List Bool->S->(S->Prop)->Prop
 |0,listed,s,K=>(∀i o,¬ kK ops listed i o)/\K s
 |n+1,listed,s,K=>((∀i o,¬ kK ops listed i o)->K s)/\∀i o,kK ops listed i o->dB E rec ops o s fun s'=>mL E rec ops n (fr listed i) s' K
theorem uV{E:Env}(hE:ai E){rec:Rec}(hr:eC rec){ops:List Oper}{K:S->Prop}: ∀(n:Nat) (listed:List Bool) (s:S) (i:Nat) (o:Oper),DC ops listed->kK ops listed i o->H9 E.quiet ops listed i o->
  (dB E rec ops o s fun s'=>mL E rec ops n (fr listed i) s' K)->mL E rec ops (n+1) listed s K
 | n,listed,s,i,o,hdc,hi,hf,h=>by
  refine⟨fun hn=>absurd hi (hn i o),fun j b hj=>?_⟩
  by_cases hij:i=j
  ·subst hij
   have:o=b:=Option.some.inj (hi.1.symm.trans hj.1)
   subst this;exact h
  ·have hsw:vj E.quiet ops o b=true:=hf j b hj.1 hij hj.2.1 (fun hp=>by
    have:=hj.dep hdc hp
    rw[hi.2.1] at this;cases this)
   cases n with
   | zero=>
    have hc:dZ E.quiet o.op<2:=by
     simp only[vj,aa1] at hsw
     have h4:=hsw.2
     split at h4
     ·omega
     ·omega
     ·cases h4
    obtain⟨a,h1,_⟩:=nZ hc h
    exact absurd (hj.set hij) (h1.1 j b)
   | succ n=>
    have h':dB E rec ops o s fun s1=>dB E rec ops b s1 fun s2=>mL E rec ops n (fr (fr listed i) j) s2 K:=
     dE hE hr (fun s1 h1=>h1.2 j b (hj.set hij)) h
    refine dE hE hr (fun s2 h2=>?_) (FB hE hr hsw h')
    rw[ri] at h2
    exact uV hE hr n (fr listed j) s2 i o (hdc.set hj) (hi.set (Ne.symm hij)) hf.set h2
theorem wT{p:Nat->Oper->Prop}: ∀(l:List (Nat×Oper)),Gj p l->∀i o,(i,o)∈l->p i o
 |[],_,i,o,h=>by simp at h
 |[(j,b)],h,i,o,hi=>by
  simp only[List.mem_singleton,aa9] at hi
  obtain⟨rfl,rfl⟩:=hi;exact h
 |(j,b)::x::l,h,i,o,hi=>by
  simp only[Gj] at h
  rcases List.mem_cons.1 hi with hi|hi
  ·cases hi;exact h.1
  ·exact wT (x::l) h.2 i o hi
theorem oD{quiet:FuncId->Bool}{ops:List Oper}{listed:List Bool}: ∀(l:List (Nat×Oper)) {i:Nat} {o:Oper},mu quiet ops listed l=some (i,o)->(i,o)∈l/\ea quiet ops listed i o (fwd ops 0 [i]) ops 0=true
 |[],i,o,h=>by simp[mu] at h
 | (j,b)::l,i,o,h=>by
  simp only[mu] at h
  cases hb:ea quiet ops listed j b (fwd ops 0 [j]) ops 0 with
  |true=>rw[hb] at h;simp at h;obtain⟨rfl,rfl⟩:=h;exact⟨by simp,hb⟩
  |false=>
   rw[hb] at h
   obtain⟨h1,h2⟩:=oD l h
   exact⟨by simp[h1],h2⟩
def bZ(st st':List Obj):Prop:=(∀k,qT (ar st k)=true->ar st' k=ar st k)/\∀k T E ls pd,ar st k= .rows T E ls pd->∃ls' pd',ar st' k= .rows T E ls' pd'
theorem G8{st:List Obj}{k:Nat}(h:ar st k≠ .dead):k<st.length:=by
 rcases Nat.lt_or_ge k st.length with h1|h1
 ·exact h1
 ·exact absurd (eD _ _ h1) h
theorem bZ.refl(st:List Obj):bZ st st:=⟨fun _ _=>rfl,fun _ _ _ ls pd h=>⟨ls,pd,h⟩⟩
theorem bZ.trans{a b c:List Obj}(h1:bZ a b)(h2:bZ b c):bZ a c:=⟨fun k hk=>by
 rw[h2.1 k (by rw[h1.1 k hk];exact hk),h1.1 k hk],fun k T E ls pd h=>by
 obtain⟨_,_,h⟩:=h1.2 k T E ls pd h
 exact h2.2 k T E _ _ h⟩
theorem bZ.of{st st':List Obj}(h: ∀k,ar st k≠ .dead->qT (ar st k)=true\/xn (ar st k)=true->ar st' k=ar st k):bZ st st':=
 ⟨fun k hk=>h k (by intro e;rw[e] at hk;cases hk) (.inl hk),fun k T E ls pd hk=>⟨ls,pd,by rw[h k (by rw[hk];simp) (.inr (by rw[hk];rfl)),hk]⟩⟩
theorem bZ.app(st l:List Obj):bZ st (st++l):= .of fun _ hk _=>dv _ _ _ (G8 hk)
theorem bZ.set{st:List Obj}{i:Nat}{T:TypeId}{xs:List AV}{o:Obj}(h:ar st i= .row T xs):bZ st (da st i o):= .of fun k _ hk=>by
 refine bO _ _ _ _ (fun e=>?_)
 subst e
 rw[h] at hk
 rcases hk with hk|hk<;>cases hk
theorem bZ.rows{st:List Obj}{i:Nat}{T E:TypeId}{ls ls':List (List Value)}{pd pd':Option Nat}(h:ar st i= .rows T E ls pd):bZ st (da st i (.rows T E ls' pd')):=by
 refine⟨fun k hk=>bO _ _ _ _ (fun e=>?_),fun k T' E' l p hk=>?_⟩
 ·subst e;rw[h] at hk;cases hk
 ·by_cases e:i=k
  ·subst e
   rw[h] at hk;cases hk
   exact⟨_,_,bk _ _ _ (G8 (by rw[h];simp))⟩
  ·exact⟨l,p,by rw[bO _ _ _ _ e];exact hk⟩
theorem bZ.freeze: ∀(is:List Nat) (st:List Obj),bZ st (cQ st is)
 |[],st=> .refl st
 | i::is,st=>by
  refine bZ.trans (.of ?_) (bZ.freeze is _)
  intro k hd hk
  by_cases e:i=k
  ·subst e
   rw[bk _ _ _ (G8 hd)]
   cases ho:ar st i<;>rw[ho] at hk<;>first|rfl|(rcases hk with hk|hk<;>cases hk)
  ·exact bO _ _ _ _ e
theorem qn: ∀{st st':List Obj},qq st st'->∀k,ar st k≠ .dead->qT (ar st k)=true\/xn (ar st k)=true->ar st' k=ar st k
 |[],_,_,k,hd,_=>absurd rfl hd
 |a::l,[],h,_,_,_=>by cases a<;>exact h.elim
 |a::l,o::l',h,0,_,hk=>by
  cases a<;>first|exact h.1|(rcases hk with hk|hk<;>cases hk)
 |a::l,o::l',h,k+1,hd,hk=>qn (st:=l) (st':=l') (by cases a<;>first|exact h.2|exact h) k hd hk
theorem IF{quiet:FuncId->Bool}{o:Op}(h:E3 o=true):dZ quiet o=2/\∀s,gj s o=none:=by
 cases o with
 |call c=>
  obtain⟨callee,args,ats⟩:=c
  cases callee with
  |builtin b=>cases b<;>first|exact⟨rfl,fun _=>rfl⟩|cases h
  |value g=>cases h
  |invoke r m=>cases h
 |buildSlice T n ps=>exact⟨rfl,fun _=>rfl⟩
 |makeSlice T a b=>exact⟨rfl,fun _=>rfl⟩
 |alloc T=>exact⟨rfl,fun _=>rfl⟩
 |box T x=>exact⟨rfl,fun _=>rfl⟩
 |makeMap T x=>cases x<;>first|exact⟨rfl,fun _=>rfl⟩|cases h
 |_=>cases h
theorem zX{P:Pg}{s:S}{dst:Option Tmp}{o:Op}(hg:E3 o=true){K:S->Prop}(h:b7 P s dst o K):b7 P s dst o fun s'=>K s'/\bZ s.st s'.st:=by
 cases o with
 |alloc T=>
  simp only[b7] at h⊢
  split at h<;>try exact h.elim
  exact⟨h,by rw[dk];exact bZ.app _ _⟩
 |box T x=>
  simp only[b7] at h⊢
  split at h<;>try exact h.elim
  rename_i h1
  rw[if_pos h1]
  exact⟨h,by rw[dk];exact bZ.app _ _⟩
 | makeMap T x=>
  cases x with
  |some y=>cases hg
  |none=>
   simp only[b7] at h⊢
   split at h<;>try exact h.elim
   exact⟨h,by rw[dk];exact bZ.app _ _⟩
 |buildSlice T n ps=>
  simp only[b7] at h⊢
  split at h<;>try exact h.elim
  split at h<;>try exact h.elim
  split at h<;>try exact h.elim
  split at h<;>try exact h.elim
  rename_i h4
  rw[if_pos h4]
  exact⟨h,by rw[dk];exact(bZ.freeze _ _).trans (bZ.app _ _)⟩
 |makeSlice T a b=>
  simp only[b7] at h⊢
  split at h<;>try exact h.elim
  split at h<;>try exact h.elim
  exact cV (fun h=>⟨h,by rw[dk];exact bZ.app _ _⟩) h
 | call c=>
  obtain⟨callee,args,ats⟩:=c
  cases callee with
  | builtin b=>
   cases b<;>try (cases hg;done)
   simp only[b7] at h⊢
   split at h<;>try exact h.elim
   split at h<;>try exact h.elim
   rename_i h3
   rw[if_pos h3]
   unfold nK at h⊢
   split at h<;>try exact h.elim
   split at h<;>try exact h.elim
   split at h<;>try exact h.elim
   split at h<;>try exact h.elim
   ·exact cV (fun h=>⟨h,by rw[dk];exact bZ.app _ _⟩) h
   ·split at h<;>try exact h.elim
    ·split at h<;>try exact h.elim
     rename_i k1 k2
     rw[if_pos k2]
     exact cV (fun h=>⟨h,by rw[dk];exact(bZ.set k1).trans (bZ.app _ _)⟩) h
    ·rename_i k1
     split at h<;>try exact h.elim
     rename_i k2
     simp only[k2]
     split at h<;>try exact h.elim
     rename_i k3
     rw[if_pos k3]
     exact cV (fun h=>⟨h,by rw[dk];exact bZ.rows k1⟩) h
  |value g=>cases hg
  |invoke r m=>cases hg
 |_=>cases hg
theorem BI{E:Env}(hE:ai E){rec:Rec}(hr:eC rec){ops:List Oper}{b:Oper}{s:S}{K:S->Prop}(hb:(dZ E.quiet b.op<2\/E3 b.op=true)\/zR E.calm b.op=true)(h:dB E rec ops b s K):dB E rec ops b s fun s'=>K s'/\bZ s.st s'.st:=by
 have small:dZ E.quiet b.op<2->dB E rec ops b s fun s'=>K s'/\bZ s.st s'.st:=fun hb=>by
  obtain⟨a,h1,h2⟩:=nZ hb h
  exact h2 s _ (fun _ _=>rfl) (fun _=>Kept.refl _) ⟨h1,by rw[dk];exact .refl _⟩
 rcases hb with(hb|hb)|hb
 ·exact small hb
 ·rw[dQ] at h⊢
  refine iX (fun _ _=>rfl) (fun h=>?_) (fun h=>⟨h,by rw[dk];exact .refl _⟩) h
  obtain⟨e1,e2⟩:=IF (quiet:=E.quiet) hb
  unfold vv at h⊢
  rw[e1] at h⊢
  simp only[e2] at h⊢
  exact zX hb h
 ·by_cases hlt:dZ E.quiet b.op<2
  ·exact small hlt
  ·rw [dQ] at h⊢
   refine iX (fun _ _=>rfl) (fun h=>?_) (fun h=>⟨h,by rw[dk];exact .refl _⟩) h
   have e1:dZ E.quiet b.op=2/\∃g args,∀s,gj s b.op=some (ev s g,mq s args):=by
    cases ho:b.op with
    | call c=>
     obtain⟨callee,args,ats⟩:=c
     rw[ho] at hb hlt
     cases callee with
     | value g=>
      cases g with
      | func f=>
       simp only[dZ] at hlt⊢
       cases hq:E.quiet f with
       |true=>
        rw[hq,aa7] at hlt
        exfalso;apply hlt
        cases Fw args.toList<;>decide
       |false=>exact⟨rfl,_,_,fun _=>rfl⟩
      |_=>cases hb
     |_=>cases hb
    |_=>rw[ho] at hb;cases hb
   obtain⟨e1,g,args,e2⟩:=e1
   unfold vv at h⊢
   rw[e1] at h⊢
   simp only[e2] at h⊢
   refine o3 hE hr (fun a st h=>?_) h
   rw[hb] at h⊢
   exact⟨h.1,h.2,by rw[dk];exact .of (qn h.1)⟩
theorem Gy{P:Program}{st st':List Obj}{T:TypeId}{k:Nat}{i:Nat}{p:List Nat}{off:Nat}(h:ar st' i=ar st i):mV P st' T (.ptr i k p off)=mV P st T (.ptr i k p off):=by
 simp only[mV,h]
theorem GQ{P:Program}{st st':List Obj}{T:TypeId}(U:TypeId)(l:List AV):yc P st' T (.ae U l)=yc P st T (.ae U l):=by
 unfold yc
 cases P.underlying T with
 |none=>rfl
 |some d=>cases d<;>rfl
theorem oK{E:Env}{s s':S}{o:Oper}(h:mS s o=true)(hs:uG o.op s s')(hk:bZ s.st s'.st):o.guard=none/\(dZ E.quiet o.op=1/\∀c a b,o.op≠ .pick c a b)/\bC E s' o.op=bC E s o.op/\mS s' o=true:=by
 unfold mS at h⊢
 split at h<;>try (cases h;done)
 ·rename_i T x hg ho
  have he:ev s x=ev s' x:=hs.ev x (by rw[ho];simp[opsOf])
  refine⟨hg,⟨by rw[ho];rfl,fun c a b e=>by rw[ho] at e;cases e⟩,?_,?_⟩
  ·rw[ho];simp only[bC];rw[←he]
   split at h<;>try (cases h;done)
   ·rename_i hx;rw[hx,Gy (hk.1 _ h)]
   ·rename_i hx;rw[hx];rfl
   ·rename_i hx;rw[hx];rfl
  ·rw[←he]
   split at h<;>try (cases h;done)
   ·rw[hk.1 _ h];exact h
   ·rename_i hx;simp only[hx]
   ·rename_i hx;simp only[hx]
 ·rename_i args ats hg ho
  have he:mq s args.toList=mq s' args.toList:=fL (fun x hx=>hs.ev x (by rw[ho];simpa only[opsOf] using hx))
  refine⟨hg,⟨by rw[ho];rfl,fun c a b e=>by rw[ho] at e;cases e⟩,?_,?_⟩
  ·rw[ho];simp only[bC];rw[←he]
   split at h<;>try (cases h;done)
   rename_i hx;rw[hx]
   cases ats.toList with
   |nil=>rfl
   |cons T l=>simp only[GQ (st:=s.st) (st':=s'.st)]
  ·rw[←he];exact h
 ·rename_i x hg ho
  have he:ev s x=ev s' x:=hs.ev x (by rw[ho];simp[opsOf])
  refine⟨hg,⟨by rw[ho];rfl,fun c a b e=>by rw[ho] at e;cases e⟩,?_,?_⟩
  ·rw[ho];simp only[bC];rw[←he]
   split at h<;>try (cases h;done)
   rename_i hx;rw[hx];simp only[kP,hk.1 _ h];rfl
  ·rw[←he]
   split at h<;>try (cases h;done)
   rw[hk.1 _ h];exact h
 ·rename_i T x f hg ho
  have he:ev s x=ev s' x:=hs.ev x (by rw[ho];simp[opsOf])
  refine⟨hg,⟨by rw[ho];rfl,fun c a b e=>by rw[ho] at e;cases e⟩,?_,?_⟩
  ·rw[ho];simp only[bC];rw[←he]
   split at h<;>try (cases h;done)
   rename_i hx;rw[hx];simp only[gB,kP,hk.1 _ h];rfl
  ·rw[←he]
   split at h<;>try (cases h;done)
   rw[hk.1 _ h];exact h
 ·rename_i T x i hg ho
  have he:ev s x=ev s' x:=hs.ev x (by rw[ho];simp[opsOf])
  have hi:ev s i=ev s' i:=hs.ev i (by rw[ho];simp[opsOf])
  refine⟨hg,⟨by rw[ho];rfl,fun c a b e=>by rw[ho] at e;cases e⟩,?_,?_⟩
  ·rw[ho];simp only[bC];rw[←he,←hi]
   split at h<;>try (cases h;done)
   rename_i k n hx
   cases ho':ar s.st k<;>rw[ho'] at h<;>try (cases h;done)
   obtain⟨ls',pd',e⟩:=hk.2 k _ _ _ _ ho'
   rw[hx];simp only[fF,ho',e,gb]
  ·rw[←he]
   split at h<;>try (cases h;done)
   rename_i k n hx
   cases ho':ar s.st k<;>rw[ho'] at h<;>try (cases h;done)
   obtain⟨ls',pd',e⟩:=hk.2 k _ _ _ _ ho'
   rw[e];rfl
theorem tk{E:Env}{rec:Rec}{ops:List Oper}{o:Oper}{s:S}{K:S->Prop}(hs:mS s o=true)(h:dB E rec ops o s K): ∃a,K (put s o.dst a)/\∀(s':S) (K':S->Prop),Looks ops o s s'->bZ s.st s'.st->K' (put s' o.dst a)->dB E rec ops o s' K':=by
 obtain⟨hg,⟨hcl,hnp⟩,_,_⟩:=oK (E:=E) hs (Looks.same (ops:=ops) (s2:=s) (fun _ _=>rfl)) (.refl _)
 have h0:vv E rec s o.dst o.op K:=by
  unfold dB at h;rw[hg] at h;exact h
 have h1: ∃c a,bC E s o.op=some (c,a)/\c=true/\K (put s o.dst a):=by
  unfold vv at h0
  rw[hcl] at h0
  simp only[] at h0
  split at h0
  ·rename_i c a hr
   obtain⟨q1,q2⟩:=au.1 h0
   exact⟨c,a,hr,q1,q2⟩
  ·exact h0.elim
 obtain⟨c,a,hr,hc,hk⟩:=h1
 refine⟨a,hk,fun s' K' hl hb hk'=>?_⟩
 obtain⟨_,_,hr',_⟩:=oK (E:=E) hs hl.same hb
 rw[hr] at hr'
 unfold dB
 rw[hg]
 unfold vv
 rw[hcl]
 simp only[hr']
 exact au.2 ⟨hc,hk'⟩
def zH(quiet calm:FuncId->Bool)(ops:List Oper)(listed:List Bool)(i:Nat)(o:Oper):Prop:=
 ∀j b,ops[j]? =some b->i≠j->eR listed j=false-> ¬ Cb ops i j->uE quiet calm ops o b=true
theorem tE{quiet calm:FuncId->Bool}{ops:List Oper}{listed:List Bool}{i:Nat}{o:Oper}{fs:List Nat}(hfs: ∀j,j∈fs->j=i\/Cb ops i j): ∀(l:List Oper) (k:Nat),xf quiet calm ops listed i o fs l k=true->∀m b,l[m]? =some b->i≠k+m->eR listed (k+m)=false-> ¬ Cb ops i (k+m)->uE quiet calm ops o b=true
 |[],_,_,m,b,h,_,_,_=>by simp at h
 | x::l,k,h,m,b,hm,hi,hn,he=>by
  simp only[xf,aa1,ab5] at h
  cases m with
  | zero=>
   simp at hm;subst hm
   rcases h.1 with((h1|h1)|h1)|h1
   ·exact absurd (Nat.eq_of_beq_eq_true h1) (by simpa using hi)
   ·rw[show k+0=k from rfl] at hn;rw[hn] at h1;cases h1
   ·rcases hfs _ ((lp _ _).1 h1) with h2|h2
    ·exact absurd h2.symm (by simpa using hi)
    ·exact absurd h2 (by simpa using he)
   ·exact h1
  |succ m=>
   refine tE hfs l (k+1) h.2 m b (by simpa using hm) (by omega) ?_ ?_
   ·rw[show k+1+m=k+(m+1) by omega];exact hn
   ·rw[show k+1+m=k+(m+1) by omega];exact he
theorem zH.set{quiet calm:FuncId->Bool}{ops:List Oper}{listed:List Bool}{i j:Nat}{o:Oper}(h:zH quiet calm ops listed i o):zH quiet calm ops (fr listed j) i o:=by
 intro k b hb hk hn he
 refine h k b hb hk ?_ he
 by_cases e:j=k
 ·subst e;rw[fC] at hn;cases hn
 ·rwa [dH _ _ _ e] at hn
theorem rC{E:Env}(hE:ai E){rec:Rec}(hr:eC rec){ops:List Oper}{K:S->Prop}: ∀(n:Nat) (listed:List Bool) (s:S) (i:Nat) (o:Oper),DC ops listed->kK ops listed i o->zH E.quiet E.calm ops listed i o->mS s o=true->
  (dB E rec ops o s fun s'=>mL E rec ops n (fr listed i) s' K)->mL E rec ops (n+1) listed s K
 | n,listed,s,i,o,hdc,hi,hf,hst,h=>by
  refine⟨fun hn=>absurd hi (hn i o),fun j b hj=>?_⟩
  by_cases hij:i=j
  ·subst hij
   have:o=b:=Option.some.inj (hi.1.symm.trans hj.1)
   subst this;exact h
  ·have hsw:uE E.quiet E.calm ops o b=true:=hf j b hj.1 hij hj.2.1 (fun hp=>by
    have:=hj.dep hdc hp
    rw[hi.2.1] at this;cases this)
   simp only[uE,za,aa1,ab5,Bool.not_eq_true',Nat.blt_eq] at hsw
   obtain⟨⟨⟨q1,q2⟩,q3⟩,q4⟩:=hsw
   cases n with
   |zero=>
    obtain⟨a,h1,_⟩:=tk hst h
    exact absurd (hj.set hij) (h1.1 j b)
   | succ n=>
    have h':dB E rec ops o s fun s1=>dB E rec ops b s1 fun s2=>mL E rec ops n (fr (fr listed i) j) s2 K:=
     dE hE hr (fun s1 h1=>h1.2 j b (hj.set hij)) h
    obtain⟨a,g1,g2⟩:=tk hst h'
    have g3:=BI hE hr q4 g1
    refine o5 hE hr (n8 q1).symm (dk s o.dst a) ?_ g3
    intro st c _ hk
    obtain⟨k1,k2⟩:=hk
    rw[dk,dk] at k2
    have hbk:bZ s.st (put {s with st:=st} b.dst c).st:=by rw[dk];exact k2
    have hlk:Looks ops o s (put {s with st:=st} b.dst c):=by
     have:Looks ops o s {s with st:=st}:=fun _ _=>rfl
     intro t ht
     exact(this t ht).trans (n8 q2 t ht)
    have key:=g2 (put {s with st:=st} b.dst c) (fun s2=>mL E rec ops n (fr (fr listed j) i) s2 K) hlk hbk (by
     rw[←zC st q3,ri];exact k1)
    exact rC hE hr n (fr listed j) _ i o (hdc.set hj) (hi.set (Ne.symm hij)) hf.set (oK (E:=E) hst hlk.same hbk).2.2.2 key
theorem tD{quiet calm:FuncId->Bool}{ops:List Oper}{listed:List Bool}{s:S}: ∀(l:List (Nat×Oper)) {i:Nat} {o:Oper},AG quiet calm ops listed s l=some (i,o)->(i,o)∈l/\mS s o=true/\xf quiet calm ops listed i o (fwd ops 0 [i]) ops 0=true
 |[],i,o,h=>by simp[AG] at h
 | (j,b)::l,i,o,h=>by
  simp only[AG] at h
  cases hb:mS s b&&xf quiet calm ops listed j b (fwd ops 0 [j]) ops 0 with
  |true=>
   rw[hb] at h;simp at h;obtain⟨rfl,rfl⟩:=h
   rw[aa1] at hb
   exact⟨by simp,hb⟩
  |false=>
   rw[hb] at h
   obtain⟨h1,h2⟩:=tD l h
   exact⟨by simp[h1],h2⟩
theorem qo{E:Env}(hE:ai E){rec:Rec}(hr:eC rec){ops:List Oper}{K:S->Prop}: ∀(n:Nat) (listed:List Bool) (s:S),DC ops listed->pG E rec ops n listed s K->mL E rec ops n listed s K
 | 0,listed,s,_,h=>by
  unfold pG at h
  split at h
  ·rename_i h0
   exact⟨fun i o hi=>by rw[←gN,h0] at hi;simp at hi,h⟩
  ·exact h.elim
 | n +1,listed,s,hdc,h=>by
  unfold pG at h
  split at h
  ·rename_i h0
   exact⟨fun _=>h,fun i o hi=>by rw[←gN,h0] at hi;simp at hi⟩
  ·rename_i h0
   split at h
   ·rename_i i o hp
    obtain⟨h1,h2⟩:=oD _ hp
    have hfs: ∀j,j∈fwd ops 0 [i]->j=i\/Cb ops i j:=pj ops 0 [i] (fun m b hm=>by simpa using hm) (fun j hj=> .inl (by simpa using hj))
    have hfree:H9 E.quiet ops listed i o:=fun j b hb hij hn he=>free_spec hfs ops 0 h2 j b hb (by omega) (by simpa using hn) (by simpa using he)
    exact uV hE hr n listed s i o hdc (gN.1 h1) hfree (dE hE hr (fun s'=>qo hE hr n _ s' (hdc.set (gN.1 h1))) h)
   ·split at h
    ·rename_i i o hp
     obtain⟨h1,h2,h3⟩:=tD _ hp
     have hfs: ∀j,j∈fwd ops 0 [i]->j=i\/Cb ops i j:=pj ops 0 [i] (fun m b hm=>by simpa using hm) (fun j hj=> .inl (by simpa using hj))
     have hfree:zH E.quiet E.calm ops listed i o:=fun j b hb hij hn he=>tE hfs ops 0 h3 j b hb (by omega) (by simpa using hn) (by simpa using he)
     exact rC hE hr n listed s i o hdc (gN.1 h1) hfree h2 (dE hE hr (fun s'=>qo hE hr n _ s' (hdc.set (gN.1 h1))) h)
    have:=wT _ h
    refine⟨fun hn=>?_,fun i o hi=>dE hE hr (fun s'=>qo hE hr n _ s' (hdc.set hi)) (this i o (gN.2 hi))⟩
    exfalso
    cases hrl:kb listed ops 0 with
    |nil=>exact h0 hrl
    |cons x l=>
     obtain⟨i,o⟩:=x
     exact hn i o (gN.1 (by rw[hrl];simp))
theorem wy: ∀(l:List Bool) (i:Nat),eR l i=l.getD i true
 |[],_=>rfl
 |_::_,0=>rfl
 |_::l,i+1=>by simpa[eR] using wy l i
theorem AO: ∀(l:List Bool) (i:Nat),fr l i=l.set i true
 |[],_=>rfl
 |_::_,0=>rfl
 |_::l,i+1=>by simp[fr,AO l i]
theorem w9: ∀n,iv n=List.replicate n false
 |0=>rfl
 |n+1=>by simp[iv,w9 n,List.replicate_succ]
theorem mr{ops:Array Oper}{listed:Array Bool}{i:Nat}:i∈Region.ready .any ops listed↔ ∃o,kK ops.toList listed.toList i o:=by
 rw[mem_ready]
 have e1: ∀k,eR listed.toList k=listed.getD k true:=fun k=>by rw[wy];simp
 constructor
 ·rintro⟨h1,o,h2,h3⟩
  refine⟨o,by simpa using h2,by rw[e1];exact h1,fun e he hb=>?_⟩
  have:=h3 e (by simpa using he) hb
  rcases Nat.lt_or_ge e.on listed.size with h'|h'
  ·refine⟨by simpa using h',?_⟩
   rw[e1];simp[h'] at this⊢;exact this
  ·simp[Array.getElem?_eq_none h'] at this
 ·rintro⟨o,h1,h2,h3⟩
  refine⟨by rw[←e1];exact h2,o,by simpa using h1,fun e he hb=>?_⟩
  obtain⟨h4,h5⟩:=h3 e (by simpa using he) hb
  rw[e1] at h5
  have h4':e.on<listed.size:=by simpa using h4
  simp[h4'] at h5⊢;exact h5
theorem uv{E:Env}(hE:aC E){rec:Rec}(hrec:fh E.P rec){F:Fence}(hF:F=Fence.wide\/ ∃B,F=Fence.wide.inRound B){n:Nat}{ops:Array Oper}{K:S->Prop}{lo base:Nat}{Q:Exit->Act->World->Prop}:
  ∀(k:Nat) (listed:Array Bool) {C:Ctx},C.P=E.P->Inv C->∀{s:S} {a:Act},cW C s a->gn lo C a.defers->base<=s.st.length->mL E rec ops.toList k listed.toList s K->
   (∀a' w',cd lo base C K a' w'->Q .normal a' w')->wpAnyIn F n E.P .any ops Q k listed a C.w
 |0,listed,C,hC,hI,s,a,hs,hd,hb,h,hQ=>by
  refine⟨?_,hQ _ _ ⟨C,s,rfl,rfl,hI,hs,hd,hb,Ext.refl C (by rw[hs.st];exact hb),h.2⟩⟩
  rw[List.eq_nil_iff_forall_not_mem]
  intro i hi
  obtain⟨o,ho⟩:=mr.1 hi
  exact h.1 i o ho
 | k+1,listed,C,hC,hI,s,a,hs,hd,hb,h,hQ=>by
  refine⟨fun hn=>hQ _ _ ⟨C,s,rfl,rfl,hI,hs,hd,hb,Ext.refl C (by rw[hs.st];exact hb),h.1 fun i o ho=>?_⟩,fun i hi=>?_⟩
  ·have:=mr.2 ⟨o,ho⟩
   rw[hn] at this;simp at this
  ·obtain⟨o,ho⟩:=mr.1 hi
   have h1:=h.2 i o ho
   rw[dQ] at h1
   have hn: ∀a' w',cd lo base C (fun s'=>mL E rec ops.toList k (fr listed.toList i) s' K) a' w'->wpAnyIn F n E.P .any ops Q k (listed.setIfInBounds i true) a' w':=by
    rintro a' w' ⟨C',s',rfl,hP',hI',hs',hd',hb',he,hK⟩
    refine uv hE hrec hF k _ (hP'.trans hC) hI' hs' hd' hb' ?_ (fun a2 w2 h2=>hQ _ _ (h2.trans hP' he))
    have e:(listed.setIfInBounds i true).toList=fr listed.toList i:=by rw[AO];simp
    rw[e];exact hK
   exact r6 hI hs hd hb hF (i:=i) (o:=o) (by simpa using ho.1) (fun hp=>Ft hE hrec hC hI hs hd hb hF hp hn) hn h1
theorem B0{E:Env}(hE:aC E)(hM:ai E){rec:Rec}(hrec:fh E.P rec)(hr:eC rec):Hi E rec:=by
 intro id ops s K h C a F n lo base hC hI hs hd hb hF Q hQ
 refine wpIn_region_any hE.prog.mixed ?_
 have hg:gm C.w {C.w with drawn:=C.w.drawn+1}:=⟨Nat.le_refl _,rfl,rfl,rfl,fun _ _=>rfl⟩
 obtain⟨g1,g2⟩:=nC hI hg
 have hs':=hs.step hI g2
 have e:({s with st:=C.st}:S)=s:=by rw[hs.st]
 have hs'':cW {C with w:={C.w with drawn:=C.w.drawn+1}} s a:=by
  have e2:({s with st:=({C with w:={C.w with drawn:=C.w.drawn+1}}:Ctx).st}:S)=s:=e
  rw[e2] at hs';exact hs'
 have hfull:=qo hM hr _ _ _ (DC.iv _ _) h
 have:=uv (C:={C with w:={C.w with drawn:=C.w.drawn+1}}) hE hrec hF (n:=n) (K:=K) (lo:=lo) (base:=base) (Q:=Q) ops.size (Array.replicate ops.size false) hC g1 hs'' (hd.ext g2) hb
  (by simpa[w9] using hfull) (fun a' w' h'=>hQ _ _ (cd.trans (C:=C) (C':={C with w:={C.w with drawn:=C.w.drawn+1}}) rfl (g2.mono (by rw[hs.st];exact hb)) h'))
 exact this
theorem H2{E:Env}(hE:ai E){rec:Rec}(hr:eC rec){s:S}{d:Option Tmp}{o:Op}{K K':S->Prop}(hK: ∀s,K s->K' s)(h:K0 E rec s d o K):K0 E rec s d o K':=by
 unfold K0 at h⊢
 split at h
 ·exact cV (hK _) h
 ·split at h
  ·split at h<;>try exact h.elim
   rename_i t _
   cases t<;>exact hK _ h
  ·split at h
   ·exact o3 hE hr (fun _ _ hh=>hK _ hh) h
   ·exact uO ⟨fun _ _=>rfl⟩ rfl (fun _ _ hh=>hK _ hh) h
theorem rz{E:Env}(hE:ai E){rec:Rec}(hr:eC rec){ops:List Oper}: ∀(l:List Oper) {s:S} {K K':S->Prop},(∀s,K s->K' s)->pt E rec ops l s K->pt E rec ops l s K'
 |[],s,K,K',hK,h=>hK _ h
 |o::l,s,K,K',hK,h=>by
  rw[ux] at h⊢
  exact iX (fun _ _=>rfl) (H2 hE hr (fun s'=>rz hE hr l hK)) (rz hE hr l hK) h
theorem ly{E:Env}(hE:ai E){rec:Rec}(hr:eC rec){ops:List Oper}{K K':S->Prop}(hK: ∀s,K s->K' s): ∀(n:Nat) (listed:List Bool) (s:S),pG E rec ops n listed s K->pG E rec ops n listed s K'
 |0,listed,s,h=>by
  unfold pG at h⊢
  split at h
  ·exact hK _ h
  ·exact h.elim
 | n +1,listed,s,h=>by
  unfold pG at h⊢
  split at h
  ·exact hK _ h
  ·split at h
   ·exact dE hE hr (fun s'=>ly hE hr hK n _ s') h
   ·split at h
    ·exact dE hE hr (fun s'=>ly hE hr hK n _ s') h
    generalize kb listed ops 0=l at h⊢
    have: ∀l:List (Nat×Oper),(Gj (fun i o=>dB E rec ops o s fun s'=>pG E rec ops n (fr listed i) s' K) l)->Gj (fun i o=>dB E rec ops o s fun s'=>pG E rec ops n (fr listed i) s' K') l:=by
     intro l
     induction l with
     |nil=>exact id
     |cons x l ih=>
      obtain⟨i,o⟩:=x
      cases l with
      |nil=>exact fun h=>dE hE hr (fun s'=>ly hE hr hK n _ s') h
      |cons y l=>exact fun h=>⟨dE hE hr (fun s'=>ly hE hr hK n _ s') h.1,ih h.2⟩
    exact this _ h
theorem Gi{E:Env}(hE:ai E){rec:Rec}(hr:eC rec)(f:FuncId)(rd:Option Nat)(base:Nat): ∀(c:Code) (s:S) (K K':Exit->S->Prop),(∀e s,K e s->K' e s)->jx E rec f rd base c s K->jx E rec f rd base c s K':=by
 intro c
 induction c with
 |skip=>intro s K K' hK h;exact hK _ _ h
 |label l=>intro s K K' hK h;exact hK _ _ h
 |region id ops d=>
  intro s K K' hK h
  cases d with
  |false=>exact rz hE hr _ (hK _) h
  |true=>exact ly hE hr (hK _) _ _ _ h
 |seq x y ihx ihy=>
  intro s K K' hK h
  refine ihx s _ _ ?_ h
  intro e s' hh
  cases e with
  |normal=>exact ihy s' _ _ hK hh
  |_=>exact hK _ _ hh
 |cond c x y ihx ihy=>
  intro s K K' hK h
  unfold jx at h⊢
  split at h<;>try exact h.elim
  rename_i t _
  cases t with
  |true=>exact ihx _ _ _ hK h
  |false=>exact ihy _ _ _ hK h
 | block id c ih=>
  intro s K K' hK h
  refine ih s _ _ ?_ h
  intro e s' hh
  cases e with
  |exit i=>
   simp only[x3] at hh⊢
   cases hb:Nat.beq i id<;>rw[hb] at hh<;>exact hK _ _ hh
  |_=>exact hK _ _ hh
 |loop c ih=>
  intro s K K' hK h
  unfold jx at h⊢
  split at h<;>try exact h.elim
  exact cV (fun hh=>by rw[mc] at hh⊢;exact hE.loop _ _ _ _ _ _ _ _ hK hh) h
 | rangeFunc g ps asg body iha ihb=>
  intro s K K' hK h
  unfold jx at h⊢
  split at h<;>try exact h.elim
  have hrk: ∀st,oN s.st.length s K st->oN s.st.length s K' st:=by
   intro st hh
   unfold oN at hh⊢
   split at hh<;>try exact hh.elim
   rename_i r hl
   cases hs:r.state<;>cases hp:r.pending<;>rw[hs,hp] at hh<;>try exact hh.elim
   all_goals first|exact hK _ _ hh|(rename_i c;cases c<;>first|exact hh.elim|exact hK _ _ hh)
  refine cV (fun hh=>?_) h
  split at hh
  ·exact hE.jO _ _ _ _ _ _ _ hrk hh
  ·exact rW hr (fun _ st=>hrk st) hh
 |exit id=>intro s K K' hK h;exact hK _ _ h
 |goto l=>intro s K K' hK h;exact h.elim
 |scope c ih=>
  intro s K K' hK h
  refine ih s _ _ ?_ h
  intro e s' hh
  cases e with
  |goto l=>exact hh.elim
  |_=>exact hK _ _ hh
 |ret=>intro s K K' hK h;exact hK _ _ h
 |refuse r=>intro s K K' hK h;exact h.elim
theorem ss{E:Env}(hE:ai E): ∀n,eC (vc E n)
 |0=>fun _ _ _ _ _ _ _ _ h=>h.elim
 |n+1=>fun f rd base c s K K' hK h=>Gi hE (ss hE n) f rd base c s K K' hK h
theorem wV{E:Env}(hE:aC E)(hM:ai E): ∀n,fh E.P (vc E n)
 |0=>fun _ _ _ _ _ _ h=>h.elim
 |n+1=>fun f rd base c s K h=>BX hE (wV hE hM n) (B0 hE hM (wV hE hM n) (ss hM n)) f rd base c s K h
#print axioms wV
end Go.Dn
