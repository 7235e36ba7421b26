import Derived.Test.YthaiinlfnommnaaGreatDoorDoB
namespace Go.Dn
open Go
theorem xQ: ∀(l:List AV) (i j:Nat) (x y:AV),i≠j->cm (cm l i x) j y=cm (cm l j y) i x
 |[],_,_,_,_,_=>rfl
 |a::l,0,0,_,_,h=>absurd rfl h
 |a::l,0,j+1,_,_,_=>rfl
 |a::l,i+1,0,_,_,_=>rfl
 |a::l,i+1,j+1,x,y,h=>by simp only[cm];rw[xQ l i j x y (by omega)]
theorem xg{s:S}{d d':Option Tmp}{a b:AV}(st:List Obj)(h:vW d d'=true):put ({put s d a with st:=st}) d' b=put (put {s with st:=st} d' b) d a:=by
 cases d with
 |none=>rfl
 | some t=>
  cases d' with
  |none=>rfl
  |some u=>
   have:t≠u:=by intro e;subst e;simp[vW] at h
   simp only[put]
   rw[xQ _ _ _ _ _ this]
theorem kq{ops:List Oper}{o:Oper}{s:S}{d:Option Tmp}{a:AV}(h:Av ops o d=false):Looks ops o s (put s d a):=by
 intro t ht
 cases d with
 |none=>rfl
 |some u=>
  have:u≠t:=by intro e;subst e;simp only[Av] at h;rw[h] at ht;cases ht
  simp only[put]
  rw[iW _ _ _ _ this]
theorem Looks.symm{ops:List Oper}{o:Oper}{s1 s2:S}(h:Looks ops o s1 s2):Looks ops o s2 s1:=fun t ht=>(h t ht).symm
theorem M4{quiet:FuncId->Bool}{o:Op}(h:Cq o=true):eC quiet o=2/\∀s,gB s o=none:=by
 cases o with
 |alloc T=>exact⟨rfl,fun _=>rfl⟩
 |box T x=>exact⟨rfl,fun _=>rfl⟩
 |makeSlice T a b=>exact⟨rfl,fun _=>rfl⟩
 |makeMap T x=>cases x<;>first|exact⟨rfl,fun _=>rfl⟩|cases h
 |_=>cases h
theorem cD(s:S)(d:Option Tmp)(a:AV):(put s d a).st=s.st:=by cases d<;>rfl
theorem Fm{P:Pg}{s:S}{dst:Option Tmp}{o:Op}(hg:Cq o=true){K:S->Prop}(h:cu P s dst o K):cu P s dst o fun s'=>K s'/\Kept s.st s'.st:=by
 cases o with
 |alloc T=>
  simp only[cu] at h⊢
  split at h<;>try exact h.elim
  exact⟨h,by rw[cD];exact Kept.app _ _⟩
 |box T x=>
  simp only[cu] at h⊢
  split at h<;>try exact h.elim
  rename_i h1
  rw[if_pos h1]
  exact⟨h,by rw[cD];exact Kept.app _ _⟩
 |makeSlice T a b=>
  simp only[cu] at h⊢
  split at h<;>try exact h.elim
  split at h<;>try exact h.elim
  exact dk (fun h=>⟨h,by rw[cD];exact Kept.app _ _⟩) h
 | makeMap T x=>
  cases x with
  |some y=>cases hg
  |none=>
   simp only[cu] at h⊢
   split at h<;>try exact h.elim
   exact⟨h,by rw[cD];exact Kept.app _ _⟩
 |_=>cases hg
theorem II{E:Env}{rec:Rec}{ops:List Oper}{b:Oper}{s:S}{K:S->Prop}(hb:eC E.quiet b.op<2\/Cq b.op=true)(h:dr E rec ops b s K):dr E rec ops b s fun s'=>K s'/\Kept s.st s'.st:=by
 rcases hb with hb|hb
 ·obtain⟨a,h1,h2⟩:=oM hb h
  exact h2 s _ (fun _ _=>rfl) (fun _=> .refl _) ⟨h1,by rw[cD];exact .refl _⟩
 ·rw[dZ] at h⊢
  refine iM (fun _ _=>rfl) (fun h=>?_) (fun h=>⟨h,by rw[cD];exact .refl _⟩) h
  obtain⟨e1,e2⟩:=M4 (quiet:=E.quiet) hb
  unfold tF at h⊢
  rw[e1] at h⊢
  simp only[e2] at h⊢
  exact Fm hb h
theorem HN{E:Env}(hE:aj E){rec:Rec}(hr:eK rec){ops:List Oper}{i j:Oper}(hsw:wZ E.quiet ops i j=true){s:S}{K:S->Prop}
  (h:dr E rec ops i s fun s1=>dr E rec ops j s1 K):dr E rec ops j s fun s2=>dr E rec ops i s2 K:=by
 simp only[wZ,sh,aa3,Bool.not_eq_true'] at hsw
 obtain⟨⟨⟨h1,h2⟩,h3⟩,h4⟩:=hsw
 have hc:eC E.quiet i.op<2:=by
  split at h4
  ·omega
  ·omega
  ·cases h4
 have hj:eC E.quiet i.op=1->eC E.quiet j.op<2\/Cq j.op=true:=by
  intro e
  rw[e] at h4
  simpa using h4
 obtain⟨a,g1,g2⟩:=oM hc h
 have hst:(put s i.dst a).st=s.st:=by cases i.dst<;>rfl
 have g3:dr E rec ops j (put s i.dst a) fun s'=>K s'/\(eC E.quiet i.op=1->Kept s.st s'.st):=by
  rcases Nat.eq_zero_or_pos (eC E.quiet i.op) with e|e
  ·exact dp hE hr (fun s' hk=>⟨hk,fun e2=>by omega⟩) g1
  ·refine dp hE hr (fun s' hk=>⟨hk.1,fun _=>?_⟩) (II (hj (by omega)) g1)
   rw[←hst];exact hk.2
 refine mF hE hr (kq h1).symm hst ?_ g3
 intro st b hs hk
 refine g2 _ _ ?_ ?_ ?_
 ·have:Looks ops i s {s with st:=st}:=fun _ _=>rfl
  intro t ht
  exact(this t ht).trans (kq h2 t ht)
 ·intro e
  have:=hk.2 e
  rw[cD] at this⊢
  exact this
 ·rw[←xg st h3];exact hk.1
theorem nY: ∀(l:List Bool) (i:Nat),(fk l i).length=l.length
 |[],_=>rfl
 |_::_,0=>rfl
 |_::l,i+1=>by simp[fk,nY l i]
theorem fG: ∀(l:List Bool) (i:Nat),fr (fk l i) i=true
 |[],_=>rfl
 |_::_,0=>rfl
 |_::l,i+1=>by simp only[fk,fr];exact fG l i
theorem dQ: ∀(l:List Bool) (i j:Nat),i≠j->fr (fk l i) j=fr l j
 |[],_,_,_=>rfl
 |_::_,0,j,h=>by cases j with|zero=>exact absurd rfl h|succ j=>rfl
 |_::l,i+1,j,h=>by
  cases j with
  |zero=>rfl
  |succ j=>simp only[fk,fr];exact dQ l i j (by omega)
theorem oR: ∀(l:List Bool) (i j:Nat),fk (fk l i) j=fk (fk l j) i
 |[],_,_=>rfl
 |_::_,0,0=>rfl
 |_::_,0,j+1=>rfl
 |_::_,i+1,0=>rfl
 |_::l,i+1,j+1=>by simp only[fk];rw[oR l i j]
theorem oz(listed:List Bool): ∀l:List Edge,lB listed l=true↔ ∀e,e∈l->Region.binds .any e=true->e.on<listed.length/\fr listed e.on=true
 |[]=>by simp[lB]
 | e::l=>by
  simp only[lB,aa3,oz listed l,List.forall_mem_cons,ab7,Bool.not_eq_true',Nat.blt_eq]
  constructor
  ·rintro⟨h1,h2⟩
   refine⟨fun hb=>?_,h2⟩
   rcases h1 with h1|h1
   ·rw[h1] at hb;cases hb
   ·exact h1
  ·rintro⟨h1,h2⟩
   refine⟨?_,h2⟩
   cases hb:Region.binds .any e with
   |false=>exact .inl rfl
   |true=>exact .inr (h1 hb)
theorem uX(listed:List Bool): ∀(l:List Oper) (k i:Nat) (o:Oper),(i,o)∈jW listed l k↔ ∃m,i=k+m/\l[m]? =some o/\fr listed i=false/\lB listed o.after.toList=true
 |[],k,i,o=>by simp[jW]
 | b ::l,k,i,o=>by
  have ih:=uX listed l (k+1) i o
  have tail:(i,o)∈jW listed l (k+1)↔ ∃m,i=k+(m+1)/\(b::l)[m+1]? =some o/\fr listed i=false/\lB listed o.after.toList=true:=by
   rw[ih]
   constructor
   ·rintro⟨m,h1,h2,h3⟩;exact⟨m,by omega,by simpa using h2,h3⟩
   ·rintro⟨m,h1,h2,h3⟩;exact⟨m,by omega,by simpa using h2,h3⟩
  simp only[jW]
  cases hb:(!fr listed k&&lB listed b.after.toList) with
  | true=>
   simp only[aa9,ac4,tail,ab1]
   simp only[aa3,Bool.not_eq_true'] at hb
   constructor
   ·rintro(⟨rfl,rfl⟩|⟨m,h⟩)
    ·exact⟨0,by omega,rfl,hb.1,hb.2⟩
    ·exact⟨m+1,h⟩
   ·rintro⟨m,h1,h2,h3⟩
    cases m with
    |zero=>simp at h2;exact .inl ⟨by omega,h2.symm⟩
    |succ m=>exact .inr ⟨m,h1,h2,h3⟩
  | false=>
   simp only[aa7,tail]
   constructor
   ·rintro⟨m,h⟩;exact⟨m+1,h⟩
   ·rintro⟨m,h1,h2,h3,h4⟩
    cases m with
    |zero=>
     simp at h2;subst h2
     simp only[Nat.add_zero] at h1;subst h1
     rw[h3,h4] at hb;simp at hb
    |succ m=>exact⟨m,h1,h2,h3,h4⟩
def lu(ops:List Oper)(listed:List Bool)(i:Nat)(o:Oper):Prop:=ops[i]? =some o/\fr listed i=false/\∀e,e∈o.after.toList->Region.binds .any e=true->e.on<listed.length/\fr listed e.on=true
theorem gg{ops:List Oper}{listed:List Bool}{i:Nat}{o:Oper}:(i,o)∈jW listed ops 0↔lu ops listed i o:=by
 rw[uX]
 constructor
 ·rintro⟨m,h1,h2,h3,h4⟩
  obtain rfl:i=m:=by omega
  exact⟨h2,h3,(oz _ _).1 h4⟩
 ·rintro⟨h1,h2,h3⟩
  exact⟨i,by omega,h1,h2,(oz _ _).2 h3⟩
theorem lu.set{ops:List Oper}{listed:List Bool}{i j:Nat}{o:Oper}(h:lu ops listed i o)(hij:j≠i):lu ops (fk listed j) i o:=by
 refine⟨h.1,by rw[dQ _ _ _ hij];exact h.2.1,fun e he hb=>?_⟩
 obtain⟨h1,h2⟩:=h.2.2 e he hb
 refine⟨by rw[nY];exact h1,?_⟩
 by_cases e':j=e.on
 ·subst e';exact fG _ _
 ·rw[dQ _ _ _ e'];exact h2
inductive AW (ops:List Oper) (i:Nat):Nat->Prop
 |base (j:Nat) (b:Oper) (e:Edge) (h1:ops[j]? =some b) (h2:e∈b.after.toList) (h3:Region.binds .any e=true) (h4:e.on=i):AW ops i j
 |step (j:Nat) (b:Oper) (e:Edge) (h1:ops[j]? =some b) (h2:e∈b.after.toList) (h3:Region.binds .any e=true) (h4:AW ops i e.on):AW ops i j
def DC(ops:List Oper)(listed:List Bool):Prop:=∀j b,ops[j]? =some b->j<listed.length->fr listed j=true->∀e,e∈b.after.toList->Region.binds .any e=true->e.on<listed.length/\fr listed e.on=true
theorem DN{ops:List Oper}{listed:List Bool}(hd:DC ops listed){i j:Nat}(h:AW ops i j):j<listed.length->fr listed j=true->fr listed i=true:=by
 induction h with
 |base j b e h1 h2 h3 h4=>intro hl hn;rw[←h4];exact(hd j b h1 hl hn e h2 h3).2
 |step j b e h1 h2 h3 _ ih=>intro hl hn;exact ih (hd j b h1 hl hn e h2 h3).1 (hd j b h1 hl hn e h2 h3).2
theorem lu.dep{ops:List Oper}{listed:List Bool}(hd:DC ops listed){i j:Nat}{b:Oper}(h:lu ops listed j b)(hp:AW ops i j):fr listed i=true:=by
 cases hp with
 |base _ b' e h1 h2 h3 h4=>
  have:b'=b:=Option.some.inj (h1.symm.trans h.1)
  subst this
  rw[←h4];exact(h.2.2 e h2 h3).2
 |step _ b' e h1 h2 h3 h4=>
  have:b'=b:=Option.some.inj (h1.symm.trans h.1)
  subst this
  exact DN hd h4 (h.2.2 e h2 h3).1 (h.2.2 e h2 h3).2
theorem DC.jv(ops:List Oper)(n:Nat):DC ops (jv n):=fun j b _ hl hn=>by
 have: ∀(n j:Nat),j<(Go.Dn.jv n).length->fr (Go.Dn.jv n) j=false:=by
  intro n
  induction n with
  |zero=>intro j h;simp[Go.Dn.jv] at h
  |succ n ih=>intro j h;cases j with|zero=>rfl|succ j=>simp only[Go.Dn.jv,fr];exact ih j (by simpa[Go.Dn.jv] using h)
 rw[this n j hl] at hn;cases hn
theorem DC.set{ops:List Oper}{listed:List Bool}(hd:DC ops listed){i:Nat}{o:Oper}(h:lu ops listed i o):DC ops (fk listed i):=by
 intro j b hb hl hn e he hbi
 rw[nY] at hl⊢
 have key:e.on<listed.length/\fr listed e.on=true:=by
  by_cases hij:i=j
  ·subst hij
   have:b=o:=Option.some.inj (hb.symm.trans h.1)
   subst this
   exact h.2.2 e he hbi
  ·rw[dQ _ _ _ hij] at hn
   exact hd j b hb hl hn e he hbi
 refine⟨key.1,?_⟩
 by_cases e':i=e.on
 ·subst e';exact fG _ _
 ·rw[dQ _ _ _ e'];exact key.2
theorem xD(acc:List Nat): ∀l:List Edge,xE acc l=true->∃e,e∈l/\Region.binds .any e=true/\e.on∈acc
 |[],h=>by simp[xE] at h
 | e::l,h=>by
  simp only[xE,ab7,aa3] at h
  rcases h with⟨h1,h2⟩|h
  ·exact⟨e,by simp,h1,(kL _ _).1 h2⟩
  ·obtain⟨e',h1,h2⟩:=xD acc l h
   exact⟨e',by simp[h1],h2⟩
theorem oC{ops:List Oper}{i:Nat}: ∀(l:List Oper) (k:Nat) (acc:List Nat),(∀m b,l[m]? =some b->ops[k+m]? =some b)->(∀j,j∈acc->j=i\/AW ops i j)->∀j,j∈fwd l k acc->j=i\/AW ops i j
 |[],_,_,_,ha,j,hj=>ha j hj
 | o::l,k,acc,hl,ha,j,hj=>by
  simp only[fwd] at hj
  have hl': ∀m b,l[m]? =some b->ops[k+1+m]? =some b:=fun m b hm=>by
   have:=hl (m+1) b (by simpa using hm)
   rwa [show k+1+m=k+(m+1) by omega]
  cases hb:xE acc o.after.toList with
  |false=>rw[hb] at hj;exact oC l (k+1) acc hl' ha j hj
  | true=>
   rw[hb] at hj
   refine oC l (k+1) (k::acc) hl' (fun j' hj'=>?_) j hj
   rcases List.mem_cons.1 hj' with rfl|hj'
   ·obtain⟨e,h1,h2,h3⟩:=xD _ _ hb
    rcases ha _ h3 with h4|h4
    ·exact .inr (.base _ o e (hl 0 o rfl) h1 h2 h4)
    ·exact .inr (.step _ o e (hl 0 o rfl) h1 h2 h4)
   ·exact ha j' hj'
def K9(quiet:FuncId->Bool)(ops:List Oper)(listed:List Bool)(i:Nat)(o:Oper):Prop:=
 ∀j b,ops[j]? =some b->i≠j->fr listed j=false-> ¬ AW ops i j->wZ quiet ops o b=true
theorem free_spec{quiet:FuncId->Bool}{ops:List Oper}{listed:List Bool}{i:Nat}{o:Oper}{fs:List Nat}(hfs: ∀j,j∈fs->j=i\/AW ops i j): ∀(l:List Oper) (k:Nat),gk quiet ops listed i o fs l k=true->∀m b,l[m]? =some b->i≠k+m->fr listed (k+m)=false-> ¬ AW ops i (k+m)->wZ quiet ops o b=true
 |[],_,_,m,b,h,_,_,_=>by simp at h
 | x::l,k,h,m,b,hm,hi,hn,he=>by
  simp only[gk,aa3,ab7] at h
  cases m with
  | zero=>
   simp at hm;subst hm
   rcases h.1 with((h1|h1)|h1)|h1
   ·exact absurd (Nat.eq_of_beq_eq_true h1) (by simpa using hi)
   ·rw[show k+0=k from rfl] at hn;rw[hn] at h1;cases h1
   ·rcases hfs _ ((kL _ _).1 h1) with h2|h2
    ·exact absurd h2.symm (by simpa using hi)
    ·exact absurd h2 (by simpa using he)
   ·exact h1
  |succ m=>
   refine free_spec hfs l (k+1) h.2 m b (by simpa using hm) (by omega) ?_ ?_
   ·rw[show k+1+m=k+(m+1) by omega];exact hn
   ·rw[show k+1+m=k+(m+1) by omega];exact he
theorem K9.set{quiet:FuncId->Bool}{ops:List Oper}{listed:List Bool}{i j:Nat}{o:Oper}(h:K9 quiet ops listed i o):K9 quiet ops (fk listed j) i o:=by
 intro k b hb hk hn he
 refine h k b hb hk ?_ he
 by_cases e:j=k
 ·subst e;rw[fG] at hn;cases hn
 ·rwa [dQ _ _ _ e] at hn
def kJ(E:Env)(rec:Rec)(ops:List Oper):Nat->List Bool->S->(S->Prop)->Prop
 |0,listed,s,K=>(∀i o,¬ lu ops listed i o)/\K s
 |n+1,listed,s,K=>((∀i o,¬ lu ops listed i o)->K s)/\∀i o,lu ops listed i o->dr E rec ops o s fun s'=>kJ E rec ops n (fk listed i) s' K
theorem xb{E:Env}(hE:aj E){rec:Rec}(hr:eK rec){ops:List Oper}{K:S->Prop}: ∀(n:Nat) (listed:List Bool) (s:S) (i:Nat) (o:Oper),DC ops listed->lu ops listed i o->K9 E.quiet ops listed i o->
  (dr E rec ops o s fun s'=>kJ E rec ops n (fk listed i) s' K)->kJ E rec ops (n+1) listed s K
 | n,listed,s,i,o,hdc,hi,hf,h=>by
  refine⟨fun hn=>absurd hi (hn i o),fun j b hj=>?_⟩
  by_cases hij:i=j
  ·subst hij
   have:o=b:=Option.some.inj (hi.1.symm.trans hj.1)
   subst this;exact h
  ·have hsw:wZ E.quiet ops o b=true:=hf j b hj.1 hij hj.2.1 (fun hp=>by
    have:=hj.dep hdc hp
    rw[hi.2.1] at this;cases this)
   cases n with
   | zero=>
    have hc:eC E.quiet o.op<2:=by
     simp only[wZ,aa3] at hsw
     have h4:=hsw.2
     split at h4
     ·omega
     ·omega
     ·cases h4
    obtain⟨a,h1,_⟩:=oM hc h
    exact absurd (hj.set hij) (h1.1 j b)
   | succ n=>
    have h':dr E rec ops o s fun s1=>dr E rec ops b s1 fun s2=>kJ E rec ops n (fk (fk listed i) j) s2 K:=
     dp hE hr (fun s1 h1=>h1.2 j b (hj.set hij)) h
    refine dp hE hr (fun s2 h2=>?_) (HN hE hr hsw h')
    rw[oR] at h2
    exact xb hE hr n (fk listed j) s2 i o (hdc.set hj) (hi.set (Ne.symm hij)) hf.set h2
theorem yF{p:Nat->Oper->Prop}: ∀(l:List (Nat×Oper)),Jb p l->∀i o,(i,o)∈l->p i o
 |[],_,i,o,h=>by simp at h
 |[(j,b)],h,i,o,hi=>by
  simp only[List.mem_singleton,ab1] at hi
  obtain⟨rfl,rfl⟩:=hi;exact h
 |(j,b)::x::l,h,i,o,hi=>by
  simp only[Jb] at h
  rcases List.mem_cons.1 hi with hi|hi
  ·cases hi;exact h.1
  ·exact yF (x::l) h.2 i o hi
theorem pg{quiet:FuncId->Bool}{ops:List Oper}{listed:List Bool}: ∀(l:List (Nat×Oper)) {i:Nat} {o:Oper},ot quiet ops listed l=some (i,o)->(i,o)∈l/\gk quiet ops listed i o (fwd ops 0 [i]) ops 0=true
 |[],i,o,h=>by simp[ot] at h
 | (j,b)::l,i,o,h=>by
  simp only[ot] at h
  cases hb:gk quiet ops listed j b (fwd ops 0 [j]) ops 0 with
  |true=>rw[hb] at h;simp at h;obtain⟨rfl,rfl⟩:=h;exact⟨by simp,hb⟩
  |false=>
   rw[hb] at h
   obtain⟨h1,h2⟩:=pg l h
   exact⟨by simp[h1],h2⟩
def cg(st st':List Obj):Prop:=(∀k,jP (az st k)=true->az st' k=az st k)/\∀k T E ls pd,az st k= .rows T E ls pd->∃ls' pd',az st' k= .rows T E ls' pd'
theorem G5{st:List Obj}{k:Nat}(h:az st k≠ .dead):k<st.length:=by
 rcases Nat.lt_or_ge k st.length with h1|h1
 ·exact h1
 ·exact absurd (eD _ _ h1) h
theorem cg.refl(st:List Obj):cg st st:=⟨fun _ _=>rfl,fun _ _ _ ls pd h=>⟨ls,pd,h⟩⟩
theorem cg.trans{a b c:List Obj}(h1:cg a b)(h2:cg b c):cg a c:=⟨fun k hk=>by
 rw[h2.1 k (by rw[h1.1 k hk];exact hk),h1.1 k hk],fun k T E ls pd h=>by
 obtain⟨_,_,h⟩:=h1.2 k T E ls pd h
 exact h2.2 k T E _ _ h⟩
theorem cg.of{st st':List Obj}(h: ∀k,az st k≠ .dead->jP (az st k)=true\/z6 (az st k)=true->az st' k=az st k):cg st st':=
 ⟨fun k hk=>h k (by intro e;rw[e] at hk;cases hk) (.inl hk),fun k T E ls pd hk=>⟨ls,pd,by rw[h k (by rw[hk];simp) (.inr (by rw[hk];rfl)),hk]⟩⟩
theorem cg.app(st l:List Obj):cg st (st++l):= .of fun _ hk _=>dV _ _ _ (G5 hk)
theorem cg.set{st:List Obj}{i:Nat}{T:TypeId}{xs:List AV}{o:Obj}(h:az st i= .row T xs):cg st (dj st i o):= .of fun k _ hk=>by
 refine bF _ _ _ _ (fun e=>?_)
 subst e
 rw[h] at hk
 rcases hk with hk|hk<;>cases hk
theorem cg.rows{st:List Obj}{i:Nat}{T E:TypeId}{ls ls':List (List Value)}{pd pd':Option Nat}(h:az st i= .rows T E ls pd):cg st (dj st i (.rows T E ls' pd')):=by
 refine⟨fun k hk=>bF _ _ _ _ (fun e=>?_),fun k T' E' l p hk=>?_⟩
 ·subst e;rw[h] at hk;cases hk
 ·by_cases e:i=k
  ·subst e
   rw[h] at hk;cases hk
   exact⟨_,_,bu _ _ _ (G5 (by rw[h];simp))⟩
  ·exact⟨l,p,by rw[bF _ _ _ _ e];exact hk⟩
theorem cg.freeze: ∀(is:List Nat) (st:List Obj),cg st (cX st is)
 |[],st=> .refl st
 | i::is,st=>by
  refine cg.trans (.of ?_) (cg.freeze is _)
  intro k hd hk
  by_cases e:i=k
  ·subst e
   rw[bu _ _ _ (G5 hd)]
   cases ho:az st i<;>rw[ho] at hk<;>first|rfl|(rcases hk with hk|hk<;>cases hk)
  ·exact bF _ _ _ _ e
theorem qv: ∀{st st':List Obj},qz st st'->∀k,az st k≠ .dead->jP (az st k)=true\/z6 (az st k)=true->az st' k=az st k
 |[],_,_,k,hd,_=>absurd rfl hd
 |a::l,[],h,_,_,_=>by cases a<;>exact h.elim
 |a::l,o::l',h,0,_,hk=>by
  cases a<;>first|exact h.1|(rcases hk with hk|hk<;>cases hk)
 |a::l,o::l',h,k+1,hd,hk=>qv (st:=l) (st':=l') (by cases a<;>first|exact h.2|exact h) k hd hk
theorem Jz{quiet:FuncId->Bool}{o:Op}(h:xW o=true):eC quiet o=2/\∀s,gB s o=none:=by
 cases o with
 |call c=>
  obtain⟨callee,args,ats⟩:=c
  cases callee with
  |builtin b=>cases b<;>first|exact⟨rfl,fun _=>rfl⟩|cases h
  |value g=>cases h
  |invoke r m=>cases h
 |buildSlice T n ps=>exact⟨rfl,fun _=>rfl⟩
 |makeSlice T a b=>exact⟨rfl,fun _=>rfl⟩
 |alloc T=>exact⟨rfl,fun _=>rfl⟩
 |box T x=>exact⟨rfl,fun _=>rfl⟩
 |makeMap T x=>cases x<;>first|exact⟨rfl,fun _=>rfl⟩|cases h
 |_=>cases h
theorem CU{P:Pg}{s:S}{dst:Option Tmp}{o:Op}(hg:xW o=true){K:S->Prop}(h:cu P s dst o K):cu P s dst o fun s'=>K s'/\cg s.st s'.st:=by
 cases o with
 |alloc T=>
  simp only[cu] at h⊢
  split at h<;>try exact h.elim
  exact⟨h,by rw[cD];exact cg.app _ _⟩
 |box T x=>
  simp only[cu] at h⊢
  split at h<;>try exact h.elim
  rename_i h1
  rw[if_pos h1]
  exact⟨h,by rw[cD];exact cg.app _ _⟩
 | makeMap T x=>
  cases x with
  |some y=>cases hg
  |none=>
   simp only[cu] at h⊢
   split at h<;>try exact h.elim
   exact⟨h,by rw[cD];exact cg.app _ _⟩
 |buildSlice T n ps=>
  simp only[cu] at h⊢
  split at h<;>try exact h.elim
  split at h<;>try exact h.elim
  split at h<;>try exact h.elim
  split at h<;>try exact h.elim
  rename_i h4
  rw[if_pos h4]
  exact⟨h,by rw[cD];exact(cg.freeze _ _).trans (cg.app _ _)⟩
 |makeSlice T a b=>
  simp only[cu] at h⊢
  split at h<;>try exact h.elim
  split at h<;>try exact h.elim
  exact dk (fun h=>⟨h,by rw[cD];exact cg.app _ _⟩) h
 | call c=>
  obtain⟨callee,args,ats⟩:=c
  cases callee with
  | builtin b=>
   cases b<;>try (cases hg;done)
   simp only[cu] at h⊢
   split at h<;>try exact h.elim
   split at h<;>try exact h.elim
   rename_i h3
   rw[if_pos h3]
   unfold oI at h⊢
   split at h<;>try exact h.elim
   split at h<;>try exact h.elim
   split at h<;>try exact h.elim
   split at h<;>try exact h.elim
   ·exact dk (fun h=>⟨h,by rw[cD];exact cg.app _ _⟩) h
   ·split at h<;>try exact h.elim
    ·split at h<;>try exact h.elim
     rename_i k1 k2
     rw[if_pos k2]
     exact dk (fun h=>⟨h,by rw[cD];exact(cg.set k1).trans (cg.app _ _)⟩) h
    ·rename_i k1
     split at h<;>try exact h.elim
     rename_i k2
     simp only[k2]
     split at h<;>try exact h.elim
     rename_i k3
     rw[if_pos k3]
     exact dk (fun h=>⟨h,by rw[cD];exact cg.rows k1⟩) h
  |value g=>cases hg
  |invoke r m=>cases hg
 |_=>cases hg
theorem HL{E:Env}(hE:aj E){rec:Rec}{g:AV}{args:List AV}{st:List Obj}{K:AV->List Obj->Prop}(hl:HF E g args st=true)(h:oB E rec g args st K):oB E rec g args st fun a st'=>K a st'/\cg st st':=by
 unfold HF at hl
 split at hl
 ·rename_i f caps
  simp only[aa3,Bool.not_eq_true'] at hl
  obtain⟨⟨h1,h2⟩,h3⟩:=hl
  unfold oB at h⊢
  simp only[h1,h2,Bool.false_eq_true,if_false] at h⊢
  split at h3
  ·rename_i as hle
   rw[hle] at h⊢
   simp only[cX] at h⊢
   have hr:de (pB E.P (ld E.P f) as)=[]:=by
    unfold L0 at h3
    split at h3
    ·rename_i he;exact he
    ·cases h3
   unfold pR at h⊢
   refine dk (fun h=>?_) h
   rw[lL] at h⊢
   refine hE.call _ _ _ _ _ (fun r sub h=>?_) h
   rw[mI,kQ] at h⊢
   refine⟨h,?_⟩
   have hi:reach st (st.length*st.length+st.length+20) (de (pB E.P (ld E.P f) as)) []=[]:=by
    rw[hr,show st.length*st.length+st.length+20=(st.length*st.length+st.length+19)+1 from rfl,reach]
   rw[hi]
   simp only[fh,fh.go]
   exact cg.app _ _
  ·cases h3
 ·cases hl
theorem ux{E:Env}(hE:aj E){rec:Rec}(hr:eK rec){ops:List Oper}{b:Oper}{s:S}{K:S->Prop}(hb:(eC E.quiet b.op<2\/xW b.op=true)\/wz E.calm b.op=true)(h:dr E rec ops b s K):dr E rec ops b s fun s'=>K s'/\cg s.st s'.st:=by
 have small:eC E.quiet b.op<2->dr E rec ops b s fun s'=>K s'/\cg s.st s'.st:=fun hb=>by
  obtain⟨a,h1,h2⟩:=oM hb h
  exact h2 s _ (fun _ _=>rfl) (fun _=>Kept.refl _) ⟨h1,by rw[cD];exact .refl _⟩
 rcases hb with(hb|hb)|hb
 ·exact small hb
 ·rw[dZ] at h⊢
  refine iM (fun _ _=>rfl) (fun h=>?_) (fun h=>⟨h,by rw[cD];exact .refl _⟩) h
  obtain⟨e1,e2⟩:=Jz (quiet:=E.quiet) hb
  unfold tF at h⊢
  rw[e1] at h⊢
  simp only[e2] at h⊢
  exact CU hb h
 ·by_cases hlt:eC E.quiet b.op<2
  ·exact small hlt
  ·rw [dZ] at h⊢
   refine iM (fun _ _=>rfl) (fun h=>?_) (fun h=>⟨h,by rw[cD];exact .refl _⟩) h
   have e1:eC E.quiet b.op=2/\∃g args,∀s,gB s b.op=some (ev s g,nt s args):=by
    cases ho:b.op with
    | call c=>
     obtain⟨callee,args,ats⟩:=c
     rw[ho] at hb hlt
     cases callee with
     | value g=>
      cases g with
      | func f=>
       simp only[eC] at hlt⊢
       cases hq:E.quiet f with
       |true=>
        rw[hq,aa9] at hlt
        exfalso;apply hlt
        cases Is args.toList<;>decide
       |false=>exact⟨rfl,_,_,fun _=>rfl⟩
      |_=>cases hb
     |_=>cases hb
    |_=>rw[ho] at hb;cases hb
   obtain⟨e1,g,args,e2⟩:=e1
   unfold tF at h⊢
   rw[e1] at h⊢
   simp only[e2] at h⊢
   cases hL:HF E (ev s g) (nt s args) s.st with
   |false=>
    refine mZ hE hr (fun a st h=>?_) h
    rw[hb] at h⊢
    try rw[hL] at h
    exact⟨h.1,h.2,by rw[cD];exact .of (qv h.1)⟩
   |true=>
    refine mZ hE hr (fun a st h=>?_) (HL hE hL h)
    rw[hb] at h⊢
    try rw[hL] at h
    exact⟨h.1,by rw[cD];exact h.2⟩
theorem Jj{P:Program}{st st':List Obj}{T:TypeId}{k:Nat}{i:Nat}{p:List Nat}{off:Nat}(h:az st' i=az st i):np P st' T (.ptr i k p off)=np P st T (.ptr i k p off):=by
 simp only[np,h]
theorem JX{P:Program}{st st':List Obj}{T:TypeId}(U:TypeId)(l:List AV):zk P st' T (.ad U l)=zk P st T (.ad U l):=by
 unfold zk
 cases P.underlying T with
 |none=>rfl
 |some d=>cases d<;>rfl
theorem pK{E:Env}{s s':S}{o:Oper}(h:nJ s o=true)(hs:tx o.op s s')(hk:cg s.st s'.st):o.guard=none/\(eC E.quiet o.op=1/\∀c a b,o.op≠ .pick c a b)/\bO E s' o.op=bO E s o.op/\nJ s' o=true:=by
 unfold nJ at h⊢
 split at h<;>try (cases h;done)
 ·rename_i T x hg ho
  have he:ev s x=ev s' x:=hs.ev x (by rw[ho];simp[opsOf])
  refine⟨hg,⟨by rw[ho];rfl,fun c a b e=>by rw[ho] at e;cases e⟩,?_,?_⟩
  ·rw[ho];simp only[bO];rw[←he]
   split at h<;>try (cases h;done)
   ·rename_i hx;rw[hx,Jj (hk.1 _ h)]
   ·rename_i hx;rw[hx];rfl
   ·rename_i hx;rw[hx];rfl
  ·rw[←he]
   split at h<;>try (cases h;done)
   ·rw[hk.1 _ h];exact h
   ·rename_i hx;simp only[hx]
   ·rename_i hx;simp only[hx]
 ·rename_i args ats hg ho
  have he:nt s args.toList=nt s' args.toList:=gE (fun x hx=>hs.ev x (by rw[ho];simpa only[opsOf] using hx))
  refine⟨hg,⟨by rw[ho];rfl,fun c a b e=>by rw[ho] at e;cases e⟩,?_,?_⟩
  ·rw[ho];simp only[bO];rw[←he]
   split at h<;>try (cases h;done)
   rename_i hx;rw[hx]
   cases ats.toList with
   |nil=>rfl
   |cons T l=>simp only[JX (st:=s.st) (st':=s'.st)]
  ·rw[←he];exact h
 ·rename_i x hg ho
  have he:ev s x=ev s' x:=hs.ev x (by rw[ho];simp[opsOf])
  refine⟨hg,⟨by rw[ho];rfl,fun c a b e=>by rw[ho] at e;cases e⟩,?_,?_⟩
  ·rw[ho];simp only[bO];rw[←he]
   split at h<;>try (cases h;done)
   rename_i hx;rw[hx];simp only[kU,hk.1 _ h];rfl
  ·rw[←he]
   split at h<;>try (cases h;done)
   rw[hk.1 _ h];exact h
 ·rename_i T x f hg ho
  have he:ev s x=ev s' x:=hs.ev x (by rw[ho];simp[opsOf])
  refine⟨hg,⟨by rw[ho];rfl,fun c a b e=>by rw[ho] at e;cases e⟩,?_,?_⟩
  ·rw[ho];simp only[bO];rw[←he]
   split at h<;>try (cases h;done)
   rename_i hx;rw[hx];simp only[gz,kU,hk.1 _ h];rfl
  ·rw[←he]
   split at h<;>try (cases h;done)
   rw[hk.1 _ h];exact h
 ·rename_i T x i hg ho
  have he:ev s x=ev s' x:=hs.ev x (by rw[ho];simp[opsOf])
  have hi:ev s i=ev s' i:=hs.ev i (by rw[ho];simp[opsOf])
  refine⟨hg,⟨by rw[ho];rfl,fun c a b e=>by rw[ho] at e;cases e⟩,?_,?_⟩
  ·rw[ho];simp only[bO];rw[←he,←hi]
   split at h<;>try (cases h;done)
   rename_i k n hx
   cases ho':az s.st k<;>rw[ho'] at h<;>try (cases h;done)
   obtain⟨ls',pd',e⟩:=hk.2 k _ _ _ _ ho'
   rw[hx];simp only[gx,ho',e,ia]
  ·rw[←he]
   split at h<;>try (cases h;done)
   rename_i k n hx
   cases ho':az s.st k<;>rw[ho'] at h<;>try (cases h;done)
   obtain⟨ls',pd',e⟩:=hk.2 k _ _ _ _ ho'
   rw[e];rfl
theorem wV{E:Env}{rec:Rec}{ops:List Oper}{o:Oper}{s:S}{K:S->Prop}(hs:nJ s o=true)(h:dr E rec ops o s K): ∃a,K (put s o.dst a)/\∀(s':S) (K':S->Prop),Looks ops o s s'->cg s.st s'.st->K' (put s' o.dst a)->dr E rec ops o s' K':=by
 obtain⟨hg,⟨hcl,hnp⟩,_,_⟩:=pK (E:=E) hs (Looks.same (ops:=ops) (s2:=s) (fun _ _=>rfl)) (.refl _)
 have h0:tF E rec s o.dst o.op K:=by
  unfold dr at h;rw[hg] at h;exact h
 have h1: ∃c a,bO E s o.op=some (c,a)/\c=true/\K (put s o.dst a):=by
  unfold tF at h0
  rw[hcl] at h0
  simp only[] at h0
  split at h0
  ·rename_i c a hr
   obtain⟨q1,q2⟩:=an.1 h0
   exact⟨c,a,hr,q1,q2⟩
  ·exact h0.elim
 obtain⟨c,a,hr,hc,hk⟩:=h1
 refine⟨a,hk,fun s' K' hl hb hk'=>?_⟩
 obtain⟨_,_,hr',_⟩:=pK (E:=E) hs hl.same hb
 rw[hr] at hr'
 unfold dr
 rw[hg]
 unfold tF
 rw[hcl]
 simp only[hr']
 exact an.2 ⟨hc,hk'⟩
def Cf(quiet calm:FuncId->Bool)(ops:List Oper)(listed:List Bool)(i:Nat)(o:Oper):Prop:=
 ∀j b,ops[j]? =some b->i≠j->fr listed j=false-> ¬ AW ops i j->uV quiet calm ops o b=true
theorem u9{quiet calm:FuncId->Bool}{ops:List Oper}{listed:List Bool}{i:Nat}{o:Oper}{fs:List Nat}(hfs: ∀j,j∈fs->j=i\/AW ops i j): ∀(l:List Oper) (k:Nat),yf quiet calm ops listed i o fs l k=true->∀m b,l[m]? =some b->i≠k+m->fr listed (k+m)=false-> ¬ AW ops i (k+m)->uV quiet calm ops o b=true
 |[],_,_,m,b,h,_,_,_=>by simp at h
 | x::l,k,h,m,b,hm,hi,hn,he=>by
  simp only[yf,aa3,ab7] at h
  cases m with
  | zero=>
   simp at hm;subst hm
   rcases h.1 with((h1|h1)|h1)|h1
   ·exact absurd (Nat.eq_of_beq_eq_true h1) (by simpa using hi)
   ·rw[show k+0=k from rfl] at hn;rw[hn] at h1;cases h1
   ·rcases hfs _ ((kL _ _).1 h1) with h2|h2
    ·exact absurd h2.symm (by simpa using hi)
    ·exact absurd h2 (by simpa using he)
   ·exact h1
  |succ m=>
   refine u9 hfs l (k+1) h.2 m b (by simpa using hm) (by omega) ?_ ?_
   ·rw[show k+1+m=k+(m+1) by omega];exact hn
   ·rw[show k+1+m=k+(m+1) by omega];exact he
theorem Cf.set{quiet calm:FuncId->Bool}{ops:List Oper}{listed:List Bool}{i j:Nat}{o:Oper}(h:Cf quiet calm ops listed i o):Cf quiet calm ops (fk listed j) i o:=by
 intro k b hb hk hn he
 refine h k b hb hk ?_ he
 by_cases e:j=k
 ·subst e;rw[fG] at hn;cases hn
 ·rwa [dQ _ _ _ e] at hn
theorem sK{E:Env}(hE:aj E){rec:Rec}(hr:eK rec){ops:List Oper}{K:S->Prop}: ∀(n:Nat) (listed:List Bool) (s:S) (i:Nat) (o:Oper),DC ops listed->lu ops listed i o->Cf E.quiet E.calm ops listed i o->nJ s o=true->
  (dr E rec ops o s fun s'=>kJ E rec ops n (fk listed i) s' K)->kJ E rec ops (n+1) listed s K
 | n,listed,s,i,o,hdc,hi,hf,hst,h=>by
  refine⟨fun hn=>absurd hi (hn i o),fun j b hj=>?_⟩
  by_cases hij:i=j
  ·subst hij
   have:o=b:=Option.some.inj (hi.1.symm.trans hj.1)
   subst this;exact h
  ·have hsw:uV E.quiet E.calm ops o b=true:=hf j b hj.1 hij hj.2.1 (fun hp=>by
    have:=hj.dep hdc hp
    rw[hi.2.1] at this;cases this)
   simp only[uV,sh,aa3,ab7,Bool.not_eq_true',Nat.blt_eq] at hsw
   obtain⟨⟨⟨q1,q2⟩,q3⟩,q4⟩:=hsw
   cases n with
   |zero=>
    obtain⟨a,h1,_⟩:=wV hst h
    exact absurd (hj.set hij) (h1.1 j b)
   | succ n=>
    have h':dr E rec ops o s fun s1=>dr E rec ops b s1 fun s2=>kJ E rec ops n (fk (fk listed i) j) s2 K:=
     dp hE hr (fun s1 h1=>h1.2 j b (hj.set hij)) h
    obtain⟨a,g1,g2⟩:=wV hst h'
    have g3:=ux hE hr q4 g1
    refine mF hE hr (kq q1).symm (cD s o.dst a) ?_ g3
    intro st c _ hk
    obtain⟨k1,k2⟩:=hk
    rw[cD,cD] at k2
    have hbk:cg s.st (put {s with st:=st} b.dst c).st:=by rw[cD];exact k2
    have hlk:Looks ops o s (put {s with st:=st} b.dst c):=by
     have:Looks ops o s {s with st:=st}:=fun _ _=>rfl
     intro t ht
     exact(this t ht).trans (kq q2 t ht)
    have key:=g2 (put {s with st:=st} b.dst c) (fun s2=>kJ E rec ops n (fk (fk listed j) i) s2 K) hlk hbk (by
     rw[←xg st q3,oR];exact k1)
    exact sK hE hr n (fk listed j) _ i o (hdc.set hj) (hi.set (Ne.symm hij)) hf.set (pK (E:=E) hst hlk.same hbk).2.2.2 key
def nL(P:Program)(T:Option TypeId)(st st':List Obj):Prop:=∀k Tb a,az st k= .box Tb a->∃a',az st' k= .box Tb a'/\
 ∀T1,T=some T1->fF P T1=false->∀path,jz P Tb path=some T1->nb a' path=nb a path/\nr a' path=nr a path/\gW a' path=gW a path
theorem nL.refl(P:Program)(T:Option TypeId)(st:List Obj):nL P T st st:=fun _ _ a h=>⟨a,h,fun _ _ _ _ _=>⟨rfl,rfl,rfl⟩⟩
theorem nL.of{P:Program}{T:Option TypeId}{st st':List Obj}(h:cg st st'):nL P T st st':=fun k Tb a hk=>⟨a,by rw[h.1 k (by rw[hk];rfl),hk],fun _ _ _ _ _=>⟨rfl,rfl,rfl⟩⟩
theorem BW{P:Program}{T:TypeId}(h:fF P T=false):fieldsOf P T=[]:=by
 unfold fF at h
 unfold fieldsOf
 split at h<;>simp_all
theorem wc{P:Program}{T1 T2:TypeId}(h1:fF P T1=false)(h2:fF P T2=false)(hne:T1≠T2): ∀(q p:List Nat) (Tb:TypeId) (a x:AV),jz P Tb p=some T1->jz P Tb q=some T2->nr a q=true->wid x=wid (nb a q)->
  nb (fN a q x) p=nb a p/\nr (fN a q x) p=nr a p/\gW (fN a q x) p=gW a p
 |[],p,Tb,a,x,e1,e2,_,_=>by
  simp only[jz,aa5] at e2
  subst e2
  cases p with
  |nil=>simp only[jz,aa5] at e1;exact absurd e1.symm hne
  |cons i p=>simp only[jz,BW h2,mC] at e1;cases e1
 |j::q,[],Tb,a,x,e1,e2,_,_=>by
  simp only[jz,aa5] at e1
  subst e1
  simp only[jz,BW h1,mC] at e2;cases e2
 | j ::q,i::p,Tb,a,x,e1,e2,hi,hw=>by
  cases a with
  | agg l=>
   simp only[nr,aa3,aa2] at hi
   simp only[nb,ae] at hw
   have hwj:wid (fN (nth l j) q x)=wid (nth l j):=lX q _ _ hi.2 hw
   simp only[fN,nb,ae,nr,gW,fJ]
   by_cases e:j=i
   ·subst e
    simp only[jz] at e1 e2
    cases hf:mC (fieldsOf P Tb) j with
    |none=>rw[hf] at e1;cases e1
    |some fd=>
     rw[hf] at e1 e2
     have:=wc h1 h2 hne q p fd.type (nth l j) x e1 e2 hi.2 hw
     rw[lS _ _ _ hi.1,this.1,this.2.1,this.2.2,uS _ _ _ _ hwj]
     exact⟨rfl,rfl,rfl⟩
   ·rw[iW _ _ _ _ e,uS _ _ _ _ hwj]
    exact⟨rfl,rfl,rfl⟩
  |_=>simp[nr] at hi
theorem CH{P:Pg}{T:Option TypeId}{s:S}{dst:Option Tmp}{o:Op}(hb:Af P.toProgram T o=true){K:S->Prop}(h:cu P s dst o K):cu P s dst o fun s'=>K s'/\nL P.toProgram T s.st s'.st:=by
 cases o with
 | store U p x=>
  simp only[cu] at h⊢
  unfold qg at h⊢
  have rowT: ∀i (ob ob':Obj),az s.st i=ob->jP ob=false->nL P.toProgram T s.st (dj s.st i ob'):=fun i ob ob' h1 h2 k Tb a hk=>by
   refine⟨a,?_,fun _ _ _ _ _=>⟨rfl,rfl,rfl⟩⟩
   rw[bF _ _ _ _ (fun e=>by subst e;rw[h1] at hk;subst hk;cases h2)];exact hk
  have frzT: ∀is i (ob ob':Obj),az (cX s.st is) i=ob->jP ob=false->nL P.toProgram T s.st (dj (cX s.st is) i ob'):=fun is i ob ob' h1 h2 k Tb a hk=>by
   have hz:az (cX s.st is) k= .box Tb a:=by rw[(cg.freeze is s.st).1 k (by rw[hk];rfl),hk]
   refine⟨a,?_,fun _ _ _ _ _=>⟨rfl,rfl,rfl⟩⟩
   rw[bF _ _ _ _ (fun e=>by subst e;rw[h1] at hz;subst hz;cases h2)];exact hz
  split at h<;>try exact h.elim
  rename_i i k path off hev
  split at h<;>try exact h.elim
  ·rename_i Tb a hst
   split at h<;>try exact h.elim
   rename_i hc
   rw[if_pos hc]
   refine⟨h,?_⟩
   rw[cD]
   simp only[aa3,beq_iff_eq] at hc
   obtain⟨⟨⟨⟨⟨⟨c1,c2⟩,c3⟩,c4⟩,_⟩,_⟩,c7⟩:=hc
   intro k' Tb' a' hk'
   by_cases e:i=k'
   ·subst e
    rw[hst] at hk';cases hk'
    refine⟨_,bu _ _ _ (G5 (by rw[hst];simp)),fun T1 hT hA p hp=>?_⟩
    subst hT
    simp only[Af,aa3,Bool.not_eq_true'] at hb
    have hU:jz P.toProgram Tb path=some U:=by
     unfold uZ at c7
     split at c7
     ·rename_i V hV;rw[hV,Nat.eq_of_beq_eq_true c7]
     ·cases c7
    exact wc hA hb.2 (fun e=>by subst e;rw[Nat.beq_refl] at hb;cases hb.1) path p Tb a (ev s x) hp hU c1 (by rw[c3,c4])
   ·exact⟨a',by rw[bF _ _ _ _ e];exact hk',fun _ _ _ _ _=>⟨rfl,rfl,rfl⟩⟩
  ·split at h<;>try exact h.elim
   rename_i x' Tr xs hx' hst
   split at h<;>try exact h.elim
   rename_i hc
   simp only[hst]
   rw[if_pos hc]
   exact⟨h,by rw[cD];exact frzT _ _ _ _ hst rfl⟩
  ·rename_i Tr E ls kp hst
   split at h<;>try exact h.elim
   split at h<;>try exact h.elim
   rename_i hc
   rw[if_pos hc]
   exact dk (fun h=>⟨h,by rw[cD];exact rowT _ _ _ hst rfl⟩) h
 |_=>cases T<;>cases hb
theorem Cs{E:Env}(hE:aj E){rec:Rec}(hr:eK rec){ops:List Oper}{b:Oper}{s:S}{T:Option TypeId}{K:S->Prop}(hb:((eC E.quiet b.op<2\/xW b.op=true)\/wz E.calm b.op=true)\/Af E.P.toProgram T b.op=true)(h:dr E rec ops b s K):dr E rec ops b s fun s'=>K s'/\nL E.P.toProgram T s.st s'.st:=by
 rcases hb with hb|hb
 ·exact dp hE hr (fun _ h=>⟨h.1, .of h.2⟩) (ux hE hr hb h)
 ·rw[dZ] at h⊢
  refine iM (fun _ _=>rfl) (fun h=>?_) (fun h=>⟨h,by rw[cD];exact .refl _ _ _⟩) h
  have e1:eC E.quiet b.op=2/\∀s,gB s b.op=none:=by
   cases ho:b.op with
   |store U p x=>exact⟨rfl,fun _=>rfl⟩
   |_=>rw[ho] at hb;cases T<;>cases hb
  obtain⟨e1,e2⟩:=e1
  unfold tF at h⊢
  rw[e1] at h⊢
  simp only[e2] at h⊢
  exact CH hb h
theorem pN{E:Env}{s s':S}{o:Oper}{T:Option TypeId}(h:oF E.P.toProgram s o=some T)(hs:tx o.op s s')(hk:nL E.P.toProgram T s.st s'.st):o.guard=none/\(eC E.quiet o.op=1/\∀c a b,o.op≠ .pick c a b)/\bO E s' o.op=bO E s o.op/\oF E.P.toProgram s' o=some T:=by
 unfold oF at h⊢
 split at h<;>try (cases h;done)
 ·rename_i U x hg ho
  have he:ev s x=ev s' x:=hs.ev x (by rw[ho];simp[opsOf])
  rw[←he]
  split at h<;>try (cases h;done)
  rename_i k j path off hx
  split at h<;>try (cases h;done)
  rename_i Tb a hst
  cases hc:uZ E.P.toProgram Tb path U&& !fF E.P.toProgram U with
  |false=>rw[hc] at h;cases h
  | true=>
   rw[hc] at h
   simp only[aa9,aa5] at h
   subst h
   obtain⟨a',k1,k2⟩:=hk k Tb a hst
   have hc':=hc
   simp only[aa3,Bool.not_eq_true'] at hc'
   have hU:jz E.P.toProgram Tb path=some U:=by
    have c7:=hc'.1
    unfold uZ at c7
    split at c7
    ·rename_i V hV;rw[hV,Nat.eq_of_beq_eq_true c7]
    ·cases c7
   obtain⟨r1,r2,r3⟩:=k2 U rfl hc'.2 path hU
   refine⟨hg,⟨by rw[ho];rfl,fun c a b e=>by rw[ho] at e;cases e⟩,?_,?_⟩
   ·rw[ho];simp only[bO];rw[←he,hx]
    simp only[np,hst,k1,r1,r2,r3]
   ·simp only[hx,k1,hc,aa9]
 ·rename_i x hg ho
  have he:ev s x=ev s' x:=hs.ev x (by rw[ho];simp[opsOf])
  rw[←he]
  split at h<;>try (cases h;done)
  rename_i k j path off hx
  cases hc:jP (az s.st k) with
  |false=>rw[hc] at h;cases h
  |true=>
   rw[hc] at h
   cases h
   cases hst:az s.st k<;>rw[hst] at hc<;>try (cases hc;done)
   obtain⟨a',k1,_⟩:=hk k _ _ hst
   refine⟨hg,⟨by rw[ho];rfl,fun c a b e=>by rw[ho] at e;cases e⟩,?_,?_⟩
   ·rw[ho];simp only[bO];rw[←he,hx];simp only[kU,k1,hst]
   ·simp only[hx,k1];rfl
 ·rename_i U x f hg ho
  have he:ev s x=ev s' x:=hs.ev x (by rw[ho];simp[opsOf])
  rw[←he]
  split at h<;>try (cases h;done)
  rename_i k j path off hx
  cases hc:jP (az s.st k) with
  |false=>rw[hc] at h;cases h
  |true=>
   rw[hc] at h
   cases h
   cases hst:az s.st k<;>rw[hst] at hc<;>try (cases hc;done)
   obtain⟨a',k1,_⟩:=hk k _ _ hst
   refine⟨hg,⟨by rw[ho];rfl,fun c a b e=>by rw[ho] at e;cases e⟩,?_,?_⟩
   ·rw[ho];simp only[bO];rw[←he,hx];simp only[gz,kU,k1,hst]
   ·simp only[hx,k1];rfl
theorem uw{E:Env}{rec:Rec}{ops:List Oper}{o:Oper}{s:S}{T:Option TypeId}{K:S->Prop}(hs:oF E.P.toProgram s o=some T)(h:dr E rec ops o s K): ∃a,K (put s o.dst a)/\∀(s':S) (K':S->Prop),Looks ops o s s'->nL E.P.toProgram T s.st s'.st->K' (put s' o.dst a)->dr E rec ops o s' K':=by
 obtain⟨hg,⟨hcl,hnp⟩,_,_⟩:=pN (E:=E) hs (Looks.same (ops:=ops) (s2:=s) (fun _ _=>rfl)) (.refl _ _ _)
 have h0:tF E rec s o.dst o.op K:=by
  unfold dr at h;rw[hg] at h;exact h
 have h1: ∃c a,bO E s o.op=some (c,a)/\c=true/\K (put s o.dst a):=by
  unfold tF at h0
  rw[hcl] at h0
  simp only[] at h0
  split at h0
  ·rename_i c a hr
   obtain⟨q1,q2⟩:=an.1 h0
   exact⟨c,a,hr,q1,q2⟩
  ·exact h0.elim
 obtain⟨c,a,hr,hc,hk⟩:=h1
 refine⟨a,hk,fun s' K' hl hb hk'=>?_⟩
 obtain⟨_,_,hr',_⟩:=pN (E:=E) hs hl.same hb
 rw[hr] at hr'
 unfold dr
 rw[hg]
 unfold tF
 rw[hcl]
 simp only[hr']
 exact an.2 ⟨hc,hk'⟩
def CG(P:Program)(quiet calm:FuncId->Bool)(T:Option TypeId)(ops:List Oper)(listed:List Bool)(i:Nat)(o:Oper):Prop:=
 ∀j b,ops[j]? =some b->i≠j->fr listed j=false-> ¬ AW ops i j->uG P quiet calm T ops o b=true
theorem vK{P:Program}{quiet calm:FuncId->Bool}{T:Option TypeId}{ops:List Oper}{listed:List Bool}{i:Nat}{o:Oper}{fs:List Nat}(hfs: ∀j,j∈fs->j=i\/AW ops i j): ∀(l:List Oper) (k:Nat),we P quiet calm T ops listed i o fs l k=true->∀m b,l[m]? =some b->i≠k+m->fr listed (k+m)=false-> ¬ AW ops i (k+m)->uG P quiet calm T ops o b=true
 |[],_,_,m,b,h,_,_,_=>by simp at h
 | x::l,k,h,m,b,hm,hi,hn,he=>by
  simp only[we,aa3,ab7] at h
  cases m with
  | zero=>
   simp at hm;subst hm
   rcases h.1 with((h1|h1)|h1)|h1
   ·exact absurd (Nat.eq_of_beq_eq_true h1) (by simpa using hi)
   ·rw[show k+0=k from rfl] at hn;rw[hn] at h1;cases h1
   ·rcases hfs _ ((kL _ _).1 h1) with h2|h2
    ·exact absurd h2.symm (by simpa using hi)
    ·exact absurd h2 (by simpa using he)
   ·exact h1
  |succ m=>
   refine vK hfs l (k+1) h.2 m b (by simpa using hm) (by omega) ?_ ?_
   ·rw[show k+1+m=k+(m+1) by omega];exact hn
   ·rw[show k+1+m=k+(m+1) by omega];exact he
theorem CG.set{P:Program}{quiet calm:FuncId->Bool}{T:Option TypeId}{ops:List Oper}{listed:List Bool}{i j:Nat}{o:Oper}(h:CG P quiet calm T ops listed i o):CG P quiet calm T ops (fk listed j) i o:=by
 intro k b hb hk hn he
 refine h k b hb hk ?_ he
 by_cases e:j=k
 ·subst e;rw[fG] at hn;cases hn
 ·rwa [dQ _ _ _ e] at hn
theorem tf{E:Env}(hE:aj E){rec:Rec}(hr:eK rec){ops:List Oper}{T:Option TypeId}{K:S->Prop}: ∀(n:Nat) (listed:List Bool) (s:S) (i:Nat) (o:Oper),DC ops listed->lu ops listed i o->CG E.P.toProgram E.quiet E.calm T ops listed i o->oF E.P.toProgram s o=some T->
  (dr E rec ops o s fun s'=>kJ E rec ops n (fk listed i) s' K)->kJ E rec ops (n+1) listed s K
 | n,listed,s,i,o,hdc,hi,hf,hst,h=>by
  refine⟨fun hn=>absurd hi (hn i o),fun j b hj=>?_⟩
  by_cases hij:i=j
  ·subst hij
   have:o=b:=Option.some.inj (hi.1.symm.trans hj.1)
   subst this;exact h
  ·have hsw:uG E.P.toProgram E.quiet E.calm T ops o b=true:=hf j b hj.1 hij hj.2.1 (fun hp=>by
    have:=hj.dep hdc hp
    rw[hi.2.1] at this;cases this)
   simp only[uG,sh,aa3,ab7,Bool.not_eq_true',Nat.blt_eq] at hsw
   obtain⟨⟨⟨q1,q2⟩,q3⟩,q4⟩:=hsw
   cases n with
   |zero=>
    obtain⟨a,h1,_⟩:=uw hst h
    exact absurd (hj.set hij) (h1.1 j b)
   | succ n=>
    have h':dr E rec ops o s fun s1=>dr E rec ops b s1 fun s2=>kJ E rec ops n (fk (fk listed i) j) s2 K:=
     dp hE hr (fun s1 h1=>h1.2 j b (hj.set hij)) h
    obtain⟨a,g1,g2⟩:=uw hst h'
    have g3:=Cs (T:=T) hE hr q4 g1
    refine mF hE hr (kq q1).symm (cD s o.dst a) ?_ g3
    intro st c _ hk
    obtain⟨k1,k2⟩:=hk
    rw[cD,cD] at k2
    have hbk:nL E.P.toProgram T s.st (put {s with st:=st} b.dst c).st:=by rw[cD];exact k2
    have hlk:Looks ops o s (put {s with st:=st} b.dst c):=by
     have:Looks ops o s {s with st:=st}:=fun _ _=>rfl
     intro t ht
     exact(this t ht).trans (kq q2 t ht)
    have key:=g2 (put {s with st:=st} b.dst c) (fun s2=>kJ E rec ops n (fk (fk listed j) i) s2 K) hlk hbk (by
     rw[←xg st q3,oR];exact k1)
    exact tf hE hr n (fk listed j) _ i o (hdc.set hj) (hi.set (Ne.symm hij)) hf.set (pN (E:=E) hst hlk.same hbk).2.2.2 key
theorem wX{P:Program}{quiet calm:FuncId->Bool}{ops:List Oper}{listed:List Bool}{s:S}: ∀(l:List (Nat×Oper)) {i:Nat} {o:Oper},tk P quiet calm ops listed s l=some (i,o)->∃T,(i,o)∈l/\oF P s o=some T/\we P quiet calm T ops listed i o (fwd ops 0 [i]) ops 0=true
 |[],i,o,h=>by simp[tk] at h
 | (j,b)::l,i,o,h=>by
  simp only[tk] at h
  have rest:tk P quiet calm ops listed s l=some (i,o)->∃T,(i,o)∈(j,b)::l/\oF P s o=some T/\we P quiet calm T ops listed i o (fwd ops 0 [i]) ops 0=true:=fun h=>by
   obtain⟨T,h1,h2⟩:=wX l h
   exact⟨T,by simp[h1],h2⟩
  split at h
  ·rename_i T hT
   cases hb:we P quiet calm T ops listed j b (fwd ops 0 [j]) ops 0 with
   |true=>
    rw[hb] at h;simp at h;obtain⟨rfl,rfl⟩:=h
    exact⟨T,by simp,hT,hb⟩
   |false=>rw[hb] at h;exact rest h
  ·exact rest h
theorem vn{quiet calm:FuncId->Bool}{ops:List Oper}{listed:List Bool}{s:S}: ∀(l:List (Nat×Oper)) {i:Nat} {o:Oper},Dd quiet calm ops listed s l=some (i,o)->(i,o)∈l/\nJ s o=true/\yf quiet calm ops listed i o (fwd ops 0 [i]) ops 0=true
 |[],i,o,h=>by simp[Dd] at h
 | (j,b)::l,i,o,h=>by
  simp only[Dd] at h
  cases hb:nJ s b&&yf quiet calm ops listed j b (fwd ops 0 [j]) ops 0 with
  |true=>
   rw[hb] at h;simp at h;obtain⟨rfl,rfl⟩:=h
   rw[aa3] at hb
   exact⟨by simp,hb⟩
  |false=>
   rw[hb] at h
   obtain⟨h1,h2⟩:=vn l h
   exact⟨by simp[h1],h2⟩
theorem oD{E:Env}(hE:aj E){rec:Rec}(hr:eK rec){ops:List Oper}{K:S->Prop}: ∀(n:Nat) (listed:List Bool) (s:S),DC ops listed->pL E rec ops n listed s K->kJ E rec ops n listed s K
 | 0,listed,s,_,h=>by
  unfold pL at h
  split at h
  ·rename_i h0
   exact⟨fun i o hi=>by rw[←gg,h0] at hi;simp at hi,h⟩
  ·exact h.elim
 | n +1,listed,s,hdc,h=>by
  unfold pL at h
  split at h
  ·rename_i h0
   exact⟨fun _=>h,fun i o hi=>by rw[←gg,h0] at hi;simp at hi⟩
  ·rename_i h0
   split at h
   ·rename_i i o hp
    obtain⟨h1,h2⟩:=pg _ hp
    have hfs: ∀j,j∈fwd ops 0 [i]->j=i\/AW ops i j:=oC ops 0 [i] (fun m b hm=>by simpa using hm) (fun j hj=> .inl (by simpa using hj))
    have hfree:K9 E.quiet ops listed i o:=fun j b hb hij hn he=>free_spec hfs ops 0 h2 j b hb (by omega) (by simpa using hn) (by simpa using he)
    exact xb hE hr n listed s i o hdc (gg.1 h1) hfree (dp hE hr (fun s'=>oD hE hr n _ s' (hdc.set (gg.1 h1))) h)
   ·split at h
    ·rename_i i o hp
     obtain⟨h1,h2,h3⟩:=vn _ hp
     have hfs: ∀j,j∈fwd ops 0 [i]->j=i\/AW ops i j:=oC ops 0 [i] (fun m b hm=>by simpa using hm) (fun j hj=> .inl (by simpa using hj))
     have hfree:Cf E.quiet E.calm ops listed i o:=fun j b hb hij hn he=>u9 hfs ops 0 h3 j b hb (by omega) (by simpa using hn) (by simpa using he)
     exact sK hE hr n listed s i o hdc (gg.1 h1) hfree h2 (dp hE hr (fun s'=>oD hE hr n _ s' (hdc.set (gg.1 h1))) h)
    split at h
    ·rename_i i o hp
     have hp:tk E.P.toProgram E.quiet E.calm ops listed s (jW listed ops 0)=some (i,o):=by
      cases hc:E.calm 888888<;>rw[hc] at hp
      ·cases hp
      ·exact hp
     obtain⟨T,h1,h2,h3⟩:=wX _ hp
     have hfs: ∀j,j∈fwd ops 0 [i]->j=i\/AW ops i j:=oC ops 0 [i] (fun m b hm=>by simpa using hm) (fun j hj=> .inl (by simpa using hj))
     have hfree:CG E.P.toProgram E.quiet E.calm T ops listed i o:=fun j b hb hij hn he=>vK hfs ops 0 h3 j b hb (by omega) (by simpa using hn) (by simpa using he)
     exact tf hE hr n listed s i o hdc (gg.1 h1) hfree h2 (dp hE hr (fun s'=>oD hE hr n _ s' (hdc.set (gg.1 h1))) h)
    have:=yF _ h
    refine⟨fun hn=>?_,fun i o hi=>dp hE hr (fun s'=>oD hE hr n _ s' (hdc.set hi)) (this i o (gg.2 hi))⟩
    exfalso
    cases hrl:jW listed ops 0 with
    |nil=>exact h0 hrl
    |cons x l=>
     obtain⟨i,o⟩:=x
     exact hn i o (gg.1 (by rw[hrl];simp))
theorem yD: ∀(l:List Bool) (i:Nat),fr l i=l.getD i true
 |[],_=>rfl
 |_::_,0=>rfl
 |_::l,i+1=>by simpa[fr] using yD l i
theorem BB: ∀(l:List Bool) (i:Nat),fk l i=l.set i true
 |[],_=>rfl
 |_::_,0=>rfl
 |_::l,i+1=>by simp[fk,BB l i]
theorem ya: ∀n,jv n=List.replicate n false
 |0=>rfl
 |n+1=>by simp[jv,ya n,List.replicate_succ]
theorem nB{ops:Array Oper}{listed:Array Bool}{i:Nat}:i∈Region.ready .any ops listed↔ ∃o,lu ops.toList listed.toList i o:=by
 rw[mem_ready]
 have e1: ∀k,fr listed.toList k=listed.getD k true:=fun k=>by rw[yD];simp
 constructor
 ·rintro⟨h1,o,h2,h3⟩
  refine⟨o,by simpa using h2,by rw[e1];exact h1,fun e he hb=>?_⟩
  have:=h3 e (by simpa using he) hb
  rcases Nat.lt_or_ge e.on listed.size with h'|h'
  ·refine⟨by simpa using h',?_⟩
   rw[e1];simp[h'] at this⊢;exact this
  ·simp[Array.getElem?_eq_none h'] at this
 ·rintro⟨o,h1,h2,h3⟩
  refine⟨by rw[←e1];exact h2,o,by simpa using h1,fun e he hb=>?_⟩
  obtain⟨h4,h5⟩:=h3 e (by simpa using he) hb
  rw[e1] at h5
  have h4':e.on<listed.size:=by simpa using h4
  simp[h4'] at h5⊢;exact h5
theorem xa{E:Env}(hE:aD E){rec:Rec}(hrec:gf E.P rec){F:Fence}(hF:F=Fence.wide\/ ∃B,F=Fence.wide.inRound B){n:Nat}{ops:Array Oper}{K:S->Prop}{lo base:Nat}{Q:Exit->Act->World->Prop}:
  ∀(k:Nat) (listed:Array Bool) {C:Ctx},C.P=E.P->Inv C->∀{s:S} {a:Act},dv C s a->ig lo C a.defers->base<=s.st.length->kJ E rec ops.toList k listed.toList s K->
   (∀a' w',cM lo base C K a' w'->Q .normal a' w')->wpAnyIn F n E.P .any ops Q k listed a C.w
 |0,listed,C,hC,hI,s,a,hs,hd,hb,h,hQ=>by
  refine⟨?_,hQ _ _ ⟨C,s,rfl,rfl,hI,hs,hd,hb,Ext.refl C (by rw[hs.st];exact hb),h.2⟩⟩
  rw[List.eq_nil_iff_forall_not_mem]
  intro i hi
  obtain⟨o,ho⟩:=nB.1 hi
  exact h.1 i o ho
 | k+1,listed,C,hC,hI,s,a,hs,hd,hb,h,hQ=>by
  refine⟨fun hn=>hQ _ _ ⟨C,s,rfl,rfl,hI,hs,hd,hb,Ext.refl C (by rw[hs.st];exact hb),h.1 fun i o ho=>?_⟩,fun i hi=>?_⟩
  ·have:=nB.2 ⟨o,ho⟩
   rw[hn] at this;simp at this
  ·obtain⟨o,ho⟩:=nB.1 hi
   have h1:=h.2 i o ho
   rw[dZ] at h1
   have hn: ∀a' w',cM lo base C (fun s'=>kJ E rec ops.toList k (fk listed.toList i) s' K) a' w'->wpAnyIn F n E.P .any ops Q k (listed.setIfInBounds i true) a' w':=by
    rintro a' w' ⟨C',s',rfl,hP',hI',hs',hd',hb',he,hK⟩
    refine xa hE hrec hF k _ (hP'.trans hC) hI' hs' hd' hb' ?_ (fun a2 w2 h2=>hQ _ _ (h2.trans hP' he))
    have e:(listed.setIfInBounds i true).toList=fk listed.toList i:=by rw[BB];simp
    rw[e];exact hK
   exact te hI hs hd hb hF (i:=i) (o:=o) (by simpa using ho.1) (fun hp=>IN hE hrec hC hI hs hd hb hF hp hn) hn h1
theorem EC{E:Env}(hE:aD E)(hM:aj E){rec:Rec}(hrec:gf E.P rec)(hr:eK rec):JG E rec:=by
 intro id ops s K h C a F n lo base hC hI hs hd hb hF Q hQ
 refine wpIn_region_any hE.prog.mixed ?_
 have hg:ir C.w {C.w with drawn:=C.w.drawn+1}:=⟨Nat.le_refl _,rfl,rfl,rfl,fun _ _=>rfl⟩
 obtain⟨g1,g2⟩:=nE hI hg
 have hs':=hs.step hI g2
 have e:({s with st:=C.st}:S)=s:=by rw[hs.st]
 have hs'':dv {C with w:={C.w with drawn:=C.w.drawn+1}} s a:=by
  have e2:({s with st:=({C with w:={C.w with drawn:=C.w.drawn+1}}:Ctx).st}:S)=s:=e
  rw[e2] at hs';exact hs'
 have hfull:=oD hM hr _ _ _ (DC.jv _ _) h
 have:=xa (C:={C with w:={C.w with drawn:=C.w.drawn+1}}) hE hrec hF (n:=n) (K:=K) (lo:=lo) (base:=base) (Q:=Q) ops.size (Array.replicate ops.size false) hC g1 hs'' (hd.ext g2) hb
  (by simpa[ya] using hfull) (fun a' w' h'=>hQ _ _ (cM.trans (C:=C) (C':={C with w:={C.w with drawn:=C.w.drawn+1}}) rfl (g2.mono (by rw[hs.st];exact hb)) h'))
 exact this
theorem KH{E:Env}(hE:aj E){rec:Rec}(hr:eK rec){s:S}{d:Option Tmp}{o:Op}{K K':S->Prop}(hK: ∀s,K s->K' s)(h:OJ E rec s d o K):OJ E rec s d o K':=by
 unfold OJ at h⊢
 split at h
 ·exact dk (hK _) h
 ·split at h
  ·split at h<;>try exact h.elim
   rename_i t _
   cases t<;>exact hK _ h
  ·split at h
   ·exact mZ hE hr (fun _ _ hh=>hK _ hh) h
   ·exact um ⟨fun _ _=>rfl⟩ rfl (fun _ _ hh=>hK _ hh) h
theorem rK{E:Env}(hE:aj E){rec:Rec}(hr:eK rec){ops:List Oper}: ∀(l:List Oper) {s:S} {K K':S->Prop},(∀s,K s->K' s)->rf E rec ops l s K->rf E rec ops l s K'
 |[],s,K,K',hK,h=>hK _ h
 |o::l,s,K,K',hK,h=>by
  rw[uE] at h⊢
  exact iM (fun _ _=>rfl) (KH hE hr (fun s'=>rK hE hr l hK)) (rK hE hr l hK) h
theorem kB{E:Env}(hE:aj E){rec:Rec}(hr:eK rec){ops:List Oper}{K K':S->Prop}(hK: ∀s,K s->K' s): ∀(n:Nat) (listed:List Bool) (s:S),pL E rec ops n listed s K->pL E rec ops n listed s K'
 |0,listed,s,h=>by
  unfold pL at h⊢
  split at h
  ·exact hK _ h
  ·exact h.elim
 | n +1,listed,s,h=>by
  unfold pL at h⊢
  split at h
  ·exact hK _ h
  ·split at h
   ·exact dp hE hr (fun s'=>kB hE hr hK n _ s') h
   ·split at h
    ·exact dp hE hr (fun s'=>kB hE hr hK n _ s') h
    split at h
    ·exact dp hE hr (fun s'=>kB hE hr hK n _ s') h
    generalize jW listed ops 0=l at h⊢
    have: ∀l:List (Nat×Oper),(Jb (fun i o=>dr E rec ops o s fun s'=>pL E rec ops n (fk listed i) s' K) l)->Jb (fun i o=>dr E rec ops o s fun s'=>pL E rec ops n (fk listed i) s' K') l:=by
     intro l
     induction l with
     |nil=>exact id
     |cons x l ih=>
      obtain⟨i,o⟩:=x
      cases l with
      |nil=>exact fun h=>dp hE hr (fun s'=>kB hE hr hK n _ s') h
      |cons y l=>exact fun h=>⟨dp hE hr (fun s'=>kB hE hr hK n _ s') h.1,ih h.2⟩
    exact this _ h
theorem I1{E:Env}(hE:aj E){rec:Rec}(hr:eK rec)(f:FuncId)(rd:Option Nat)(base:Nat): ∀(c:Code) (s:S) (K K':Exit->S->Prop),(∀e s,K e s->K' e s)->ka E rec f rd base c s K->ka E rec f rd base c s K':=by
 intro c
 induction c with
 |skip=>intro s K K' hK h;exact hK _ _ h
 |label l=>intro s K K' hK h;exact hK _ _ h
 |region id ops d=>
  intro s K K' hK h
  cases d with
  |false=>exact rK hE hr _ (hK _) h
  |true=>exact kB hE hr (hK _) _ _ _ h
 |seq x y ihx ihy=>
  intro s K K' hK h
  refine ihx s _ _ ?_ h
  intro e s' hh
  cases e with
  |normal=>exact ihy s' _ _ hK hh
  |_=>exact hK _ _ hh
 |cond c x y ihx ihy=>
  intro s K K' hK h
  unfold ka at h⊢
  split at h<;>try exact h.elim
  rename_i t _
  cases t with
  |true=>exact ihx _ _ _ hK h
  |false=>exact ihy _ _ _ hK h
 | block id c ih=>
  intro s K K' hK h
  refine ih s _ _ ?_ h
  intro e s' hh
  cases e with
  |exit i=>
   simp only[zn] at hh⊢
   cases hb:Nat.beq i id<;>rw[hb] at hh<;>exact hK _ _ hh
  |_=>exact hK _ _ hh
 |loop c ih=>
  intro s K K' hK h
  unfold ka at h⊢
  split at h<;>try exact h.elim
  exact dk (fun hh=>by rw[lL] at hh⊢;exact hE.loop _ _ _ _ _ _ _ _ hK hh) h
 | rangeFunc g ps asg body iha ihb=>
  intro s K K' hK h
  unfold ka at h⊢
  split at h<;>try exact h.elim
  have hrk: ∀st,pT s.st.length s K st->pT s.st.length s K' st:=by
   intro st hh
   unfold pT at hh⊢
   split at hh<;>try exact hh.elim
   rename_i r hl
   cases hs:r.state<;>cases hp:r.pending<;>rw[hs,hp] at hh<;>try exact hh.elim
   all_goals first|exact hK _ _ hh|(rename_i c;cases c<;>first|exact hh.elim|exact hK _ _ hh)
  refine dk (fun hh=>?_) h
  split at hh
  ·exact hE.lk _ _ _ _ _ _ _ hrk hh
  ·exact sJ hr (fun _ st=>hrk st) hh
 |exit id=>intro s K K' hK h;exact hK _ _ h
 |goto l=>intro s K K' hK h;exact h.elim
 |scope c ih=>
  intro s K K' hK h
  refine ih s _ _ ?_ h
  intro e s' hh
  cases e with
  |goto l=>exact hh.elim
  |_=>exact hK _ _ hh
 |ret=>intro s K K' hK h;exact hK _ _ h
 |refuse r=>intro s K K' hK h;exact h.elim
theorem uh{E:Env}(hE:aj E): ∀n,eK (vc E n)
 |0=>fun _ _ _ _ _ _ _ _ h=>h.elim
 |n+1=>fun f rd base c s K K' hK h=>I1 hE (uh hE n) f rd base c s K K' hK h
theorem x2{E:Env}(hE:aD E)(hM:aj E): ∀n,gf E.P (vc E n)
 |0=>fun _ _ _ _ _ _ h=>h.elim
 |n+1=>fun f rd base c s K h=>Em hE (x2 hE hM n) (EC hE hM (x2 hE hM n) (uh hM n)) f rd base c s K h
#print axioms x2
end Go.Dn
