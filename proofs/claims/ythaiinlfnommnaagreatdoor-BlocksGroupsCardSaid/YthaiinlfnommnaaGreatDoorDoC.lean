import Derived.Test.YthaiinlfnommnaaGreatDoorDoB
namespace Go.Dn
open Go
theorem xU: ∀(l:List AV) (i j:Nat) (x y:AV),i≠j->b8 (b8 l i x) j y=b8 (b8 l j y) i x
 |[],_,_,_,_,_=>rfl
 |a::l,0,0,_,_,h=>absurd rfl h
 |a::l,0,j+1,_,_,_=>rfl
 |a::l,i+1,0,_,_,_=>rfl
 |a::l,i+1,j+1,x,y,h=>by simp only[b8];rw[xU l i j x y (by omega)]
theorem uj{s:S}{d d':Option Tmp}{a b:AV}(st:List Obj)(h:vd d d'=true):put ({put s d a with st:=st}) d' b=put (put {s with st:=st} d' b) d a:=by
 cases d with
 |none=>rfl
 | some t=>
  cases d' with
  |none=>rfl
  |some u=>
   have:t≠u:=by intro e;subst e;simp[vd] at h
   simp only[put]
   rw[xU _ _ _ _ _ this]
theorem kb{ops:List Oper}{o:Oper}{s:S}{d:Option Tmp}{a:AV}(h:zZ ops o d=false):Looks ops o s (put s d a):=by
 intro t ht
 cases d with
 |none=>rfl
 |some u=>
  have:u≠t:=by intro e;subst e;simp only[zZ] at h;rw[h] at ht;cases ht
  simp only[put]
  rw[iG _ _ _ _ this]
theorem Looks.symm{ops:List Oper}{o:Oper}{s1 s2:S}(h:Looks ops o s1 s2):Looks ops o s2 s1:=fun t ht=>(h t ht).symm
theorem JO{quiet:FuncId->Bool}{o:Op}(h:Bu o=true):ea quiet o=2/\∀s,gh s o=none:=by
 cases o with
 |alloc T=>exact⟨rfl,fun _=>rfl⟩
 |box T x=>exact⟨rfl,fun _=>rfl⟩
 |makeSlice T a b=>exact⟨rfl,fun _=>rfl⟩
 |makeMap T x=>cases x<;>first|exact⟨rfl,fun _=>rfl⟩|cases h
 |_=>cases h
theorem cn(s:S)(d:Option Tmp)(a:AV):(put s d a).st=s.st:=by cases d<;>rfl
theorem CB{P:Pg}{s:S}{dst:Option Tmp}{o:Op}(hg:Bu o=true){K:S->Prop}(h:ck P s dst o K):ck P s dst o fun s'=>K s'/\Kept s.st s'.st:=by
 cases o with
 |alloc T=>
  simp only[ck] at h⊢
  split at h<;>try exact h.elim
  exact⟨h,by rw[cn];exact Kept.app _ _⟩
 |box T x=>
  simp only[ck] at h⊢
  split at h<;>try exact h.elim
  rename_i h1
  rw[if_pos h1]
  exact⟨h,by rw[cn];exact Kept.app _ _⟩
 |makeSlice T a b=>
  simp only[ck] at h⊢
  split at h<;>try exact h.elim
  split at h<;>try exact h.elim
  exact dd (fun h=>⟨h,by rw[cn];exact Kept.app _ _⟩) h
 | makeMap T x=>
  cases x with
  |some y=>cases hg
  |none=>
   simp only[ck] at h⊢
   split at h<;>try exact h.elim
   exact⟨h,by rw[cn];exact Kept.app _ _⟩
 |_=>cases hg
theorem Hc{E:Env}{rec:Rec}{ops:List Oper}{b:Oper}{s:S}{K:S->Prop}(hb:ea E.quiet b.op<2\/Bu b.op=true)(h:dg E rec ops b s K):dg E rec ops b s fun s'=>K s'/\Kept s.st s'.st:=by
 rcases hb with hb|hb
 ·obtain⟨a,h1,h2⟩:=oh hb h
  exact h2 s _ (fun _ _=>rfl) (fun _=> .refl _) ⟨h1,by rw[cn];exact .refl _⟩
 ·rw[dT] at h⊢
  refine ie (fun _ _=>rfl) (fun h=>?_) (fun h=>⟨h,by rw[cn];exact .refl _⟩) h
  obtain⟨e1,e2⟩:=JO (quiet:=E.quiet) hb
  unfold sO at h⊢
  rw[e1] at h⊢
  simp only[e2] at h⊢
  exact CB hb h
theorem G2{E:Env}(hE:aj E){rec:Rec}(hr:eh rec){ops:List Oper}{i j:Oper}(hsw:tk E.quiet ops i j=true){s:S}{K:S->Prop}
  (h:dg E rec ops i s fun s1=>dg E rec ops j s1 K):dg E rec ops j s fun s2=>dg E rec ops i s2 K:=by
 simp only[tk,rK,aa2,Bool.not_eq_true'] at hsw
 obtain⟨⟨⟨h1,h2⟩,h3⟩,h4⟩:=hsw
 have hc:ea E.quiet i.op<2:=by
  split at h4
  ·omega
  ·omega
  ·cases h4
 have hj:ea E.quiet i.op=1->ea E.quiet j.op<2\/Bu j.op=true:=by
  intro e
  rw[e] at h4
  simpa using h4
 obtain⟨a,g1,g2⟩:=oh hc h
 have hst:(put s i.dst a).st=s.st:=by cases i.dst<;>rfl
 have g3:dg E rec ops j (put s i.dst a) fun s'=>K s'/\(ea E.quiet i.op=1->Kept s.st s'.st):=by
  rcases Nat.eq_zero_or_pos (ea E.quiet i.op) with e|e
  ·exact de hE hr (fun s' hk=>⟨hk,fun e2=>by omega⟩) g1
  ·refine de hE hr (fun s' hk=>⟨hk.1,fun _=>?_⟩) (Hc (hj (by omega)) g1)
   rw[←hst];exact hk.2
 refine ma hE hr (kb h1).symm hst ?_ g3
 intro st b hs hk
 refine g2 _ _ ?_ ?_ ?_
 ·have:Looks ops i s {s with st:=st}:=fun _ _=>rfl
  intro t ht
  exact(this t ht).trans (kb h2 t ht)
 ·intro e
  have:=hk.2 e
  rw[cn] at this⊢
  exact this
 ·rw[←uj st h3];exact hk.1
theorem nO: ∀(l:List Bool) (i:Nat),(eS l i).length=l.length
 |[],_=>rfl
 |_::_,0=>rfl
 |_::l,i+1=>by simp[eS,nO l i]
theorem fq: ∀(l:List Bool) (i:Nat),eQ (eS l i) i=true
 |[],_=>rfl
 |_::_,0=>rfl
 |_::l,i+1=>by simp only[eS,eQ];exact fq l i
theorem dF: ∀(l:List Bool) (i j:Nat),i≠j->eQ (eS l i) j=eQ l j
 |[],_,_,_=>rfl
 |_::_,0,j,h=>by cases j with|zero=>exact absurd rfl h|succ j=>rfl
 |_::l,i+1,j,h=>by
  cases j with
  |zero=>rfl
  |succ j=>simp only[eS,eQ];exact dF l i j (by omega)
theorem oz: ∀(l:List Bool) (i j:Nat),eS (eS l i) j=eS (eS l j) i
 |[],_,_=>rfl
 |_::_,0,0=>rfl
 |_::_,0,j+1=>rfl
 |_::_,i+1,0=>rfl
 |_::l,i+1,j+1=>by simp only[eS];rw[oz l i j]
theorem mP(listed:List Bool): ∀l:List Edge,ll listed l=true↔ ∀e,e∈l->Region.binds .any e=true->e.on<listed.length/\eQ listed e.on=true
 |[]=>by simp[ll]
 | e::l=>by
  simp only[ll,aa2,mP listed l,List.forall_mem_cons,ab6,Bool.not_eq_true',Nat.blt_eq]
  constructor
  ·rintro⟨h1,h2⟩
   refine⟨fun hb=>?_,h2⟩
   rcases h1 with h1|h1
   ·rw[h1] at hb;cases hb
   ·exact h1
  ·rintro⟨h1,h2⟩
   refine⟨?_,h2⟩
   cases hb:Region.binds .any e with
   |false=>exact .inl rfl
   |true=>exact .inr (h1 hb)
theorem tL(listed:List Bool): ∀(l:List Oper) (k i:Nat) (o:Oper),(i,o)∈jF listed l k↔ ∃m,i=k+m/\l[m]? =some o/\eQ listed i=false/\ll listed o.after.toList=true
 |[],k,i,o=>by simp[jF]
 | b ::l,k,i,o=>by
  have ih:=tL listed l (k+1) i o
  have tail:(i,o)∈jF listed l (k+1)↔ ∃m,i=k+(m+1)/\(b::l)[m+1]? =some o/\eQ listed i=false/\ll listed o.after.toList=true:=by
   rw[ih]
   constructor
   ·rintro⟨m,h1,h2,h3⟩;exact⟨m,by omega,by simpa using h2,h3⟩
   ·rintro⟨m,h1,h2,h3⟩;exact⟨m,by omega,by simpa using h2,h3⟩
  simp only[jF]
  cases hb:(!eQ listed k&&ll listed b.after.toList) with
  | true=>
   simp only[aa8,ac3,tail,ab0]
   simp only[aa2,Bool.not_eq_true'] at hb
   constructor
   ·rintro(⟨rfl,rfl⟩|⟨m,h⟩)
    ·exact⟨0,by omega,rfl,hb.1,hb.2⟩
    ·exact⟨m+1,h⟩
   ·rintro⟨m,h1,h2,h3⟩
    cases m with
    |zero=>simp at h2;exact .inl ⟨by omega,h2.symm⟩
    |succ m=>exact .inr ⟨m,h1,h2,h3⟩
  | false=>
   simp only[aa6,tail]
   constructor
   ·rintro⟨m,h⟩;exact⟨m+1,h⟩
   ·rintro⟨m,h1,h2,h3,h4⟩
    cases m with
    |zero=>
     simp at h2;subst h2
     simp only[Nat.add_zero] at h1;subst h1
     rw[h3,h4] at hb;simp at hb
    |succ m=>exact⟨m,h1,h2,h3,h4⟩
def kM(ops:List Oper)(listed:List Bool)(i:Nat)(o:Oper):Prop:=ops[i]? =some o/\eQ listed i=false/\∀e,e∈o.after.toList->Region.binds .any e=true->e.on<listed.length/\eQ listed e.on=true
theorem fN{ops:List Oper}{listed:List Bool}{i:Nat}{o:Oper}:(i,o)∈jF listed ops 0↔kM ops listed i o:=by
 rw[tL]
 constructor
 ·rintro⟨m,h1,h2,h3,h4⟩
  obtain rfl:i=m:=by omega
  exact⟨h2,h3,(mP _ _).1 h4⟩
 ·rintro⟨h1,h2,h3⟩
  exact⟨i,by omega,h1,h2,(mP _ _).2 h3⟩
theorem kM.set{ops:List Oper}{listed:List Bool}{i j:Nat}{o:Oper}(h:kM ops listed i o)(hij:j≠i):kM ops (eS listed j) i o:=by
 refine⟨h.1,by rw[dF _ _ _ hij];exact h.2.1,fun e he hb=>?_⟩
 obtain⟨h1,h2⟩:=h.2.2 e he hb
 refine⟨by rw[nO];exact h1,?_⟩
 by_cases e':j=e.on
 ·subst e';exact fq _ _
 ·rw[dF _ _ _ e'];exact h2
inductive zw (ops:List Oper) (i:Nat):Nat->Prop
 |base (j:Nat) (b:Oper) (e:Edge) (h1:ops[j]? =some b) (h2:e∈b.after.toList) (h3:Region.binds .any e=true) (h4:e.on=i):zw ops i j
 |step (j:Nat) (b:Oper) (e:Edge) (h1:ops[j]? =some b) (h2:e∈b.after.toList) (h3:Region.binds .any e=true) (h4:zw ops i e.on):zw ops i j
def DC(ops:List Oper)(listed:List Bool):Prop:=∀j b,ops[j]? =some b->j<listed.length->eQ listed j=true->∀e,e∈b.after.toList->Region.binds .any e=true->e.on<listed.length/\eQ listed e.on=true
theorem Dt{ops:List Oper}{listed:List Bool}(hd:DC ops listed){i j:Nat}(h:zw ops i j):j<listed.length->eQ listed j=true->eQ listed i=true:=by
 induction h with
 |base j b e h1 h2 h3 h4=>intro hl hn;rw[←h4];exact(hd j b h1 hl hn e h2 h3).2
 |step j b e h1 h2 h3 _ ih=>intro hl hn;exact ih (hd j b h1 hl hn e h2 h3).1 (hd j b h1 hl hn e h2 h3).2
theorem kM.dep{ops:List Oper}{listed:List Bool}(hd:DC ops listed){i j:Nat}{b:Oper}(h:kM ops listed j b)(hp:zw ops i j):eQ listed i=true:=by
 cases hp with
 |base _ b' e h1 h2 h3 h4=>
  have:b'=b:=Option.some.inj (h1.symm.trans h.1)
  subst this
  rw[←h4];exact(h.2.2 e h2 h3).2
 |step _ b' e h1 h2 h3 h4=>
  have:b'=b:=Option.some.inj (h1.symm.trans h.1)
  subst this
  exact Dt hd h4 (h.2.2 e h2 h3).1 (h.2.2 e h2 h3).2
theorem DC.iY(ops:List Oper)(n:Nat):DC ops (iY n):=fun j b _ hl hn=>by
 have: ∀(n j:Nat),j<(Go.Dn.iY n).length->eQ (Go.Dn.iY n) j=false:=by
  intro n
  induction n with
  |zero=>intro j h;simp[Go.Dn.iY] at h
  |succ n ih=>intro j h;cases j with|zero=>rfl|succ j=>simp only[Go.Dn.iY,eQ];exact ih j (by simpa[Go.Dn.iY] using h)
 rw[this n j hl] at hn;cases hn
theorem DC.set{ops:List Oper}{listed:List Bool}(hd:DC ops listed){i:Nat}{o:Oper}(h:kM ops listed i o):DC ops (eS listed i):=by
 intro j b hb hl hn e he hbi
 rw[nO] at hl⊢
 have key:e.on<listed.length/\eQ listed e.on=true:=by
  by_cases hij:i=j
  ·subst hij
   have:b=o:=Option.some.inj (hb.symm.trans h.1)
   subst this
   exact h.2.2 e he hbi
  ·rw[dF _ _ _ hij] at hn
   exact hd j b hb hl hn e he hbi
 refine⟨key.1,?_⟩
 by_cases e':i=e.on
 ·subst e';exact fq _ _
 ·rw[dF _ _ _ e'];exact key.2
theorem xO(acc:List Nat): ∀l:List Edge,wU acc l=true->∃e,e∈l/\Region.binds .any e=true/\e.on∈acc
 |[],h=>by simp[wU] at h
 | e::l,h=>by
  simp only[wU,ab6,aa2] at h
  rcases h with⟨h1,h2⟩|h
  ·exact⟨e,by simp,h1,(kH _ _).1 h2⟩
  ·obtain⟨e',h1,h2⟩:=xO acc l h
   exact⟨e',by simp[h1],h2⟩
theorem nS{ops:List Oper}{i:Nat}: ∀(l:List Oper) (k:Nat) (acc:List Nat),(∀m b,l[m]? =some b->ops[k+m]? =some b)->(∀j,j∈acc->j=i\/zw ops i j)->∀j,j∈fwd l k acc->j=i\/zw ops i j
 |[],_,_,_,ha,j,hj=>ha j hj
 | o::l,k,acc,hl,ha,j,hj=>by
  simp only[fwd] at hj
  have hl': ∀m b,l[m]? =some b->ops[k+1+m]? =some b:=fun m b hm=>by
   have:=hl (m+1) b (by simpa using hm)
   rwa [show k+1+m=k+(m+1) by omega]
  cases hb:wU acc o.after.toList with
  |false=>rw[hb] at hj;exact nS l (k+1) acc hl' ha j hj
  | true=>
   rw[hb] at hj
   refine nS l (k+1) (k::acc) hl' (fun j' hj'=>?_) j hj
   rcases List.mem_cons.1 hj' with rfl|hj'
   ·obtain⟨e,h1,h2,h3⟩:=xO _ _ hb
    rcases ha _ h3 with h4|h4
    ·exact .inr (.base _ o e (hl 0 o rfl) h1 h2 h4)
    ·exact .inr (.step _ o e (hl 0 o rfl) h1 h2 h4)
   ·exact ha j' hj'
def Lb(quiet:FuncId->Bool)(ops:List Oper)(listed:List Bool)(i:Nat)(o:Oper):Prop:=
 ∀j b,ops[j]? =some b->i≠j->eQ listed j=false-> ¬ zw ops i j->tk quiet ops o b=true
theorem free_spec{quiet:FuncId->Bool}{ops:List Oper}{listed:List Bool}{i:Nat}{o:Oper}{fs:List Nat}(hfs: ∀j,j∈fs->j=i\/zw ops i j): ∀(l:List Oper) (k:Nat),iV quiet ops listed i o fs l k=true->∀m b,l[m]? =some b->i≠k+m->eQ listed (k+m)=false-> ¬ zw ops i (k+m)->tk quiet ops o b=true
 |[],_,_,m,b,h,_,_,_=>by simp at h
 | x::l,k,h,m,b,hm,hi,hn,he=>by
  simp only[iV,aa2,ab6] at h
  cases m with
  | zero=>
   simp at hm;subst hm
   rcases h.1 with((h1|h1)|h1)|h1
   ·exact absurd (Nat.eq_of_beq_eq_true h1) (by simpa using hi)
   ·rw[show k+0=k from rfl] at hn;rw[hn] at h1;cases h1
   ·rcases hfs _ ((kH _ _).1 h1) with h2|h2
    ·exact absurd h2.symm (by simpa using hi)
    ·exact absurd h2 (by simpa using he)
   ·exact h1
  |succ m=>
   refine free_spec hfs l (k+1) h.2 m b (by simpa using hm) (by omega) ?_ ?_
   ·rw[show k+1+m=k+(m+1) by omega];exact hn
   ·rw[show k+1+m=k+(m+1) by omega];exact he
theorem Lb.set{quiet:FuncId->Bool}{ops:List Oper}{listed:List Bool}{i j:Nat}{o:Oper}(h:Lb quiet ops listed i o):Lb quiet ops (eS listed j) i o:=by
 intro k b hb hk hn he
 refine h k b hb hk ?_ he
 by_cases e:j=k
 ·subst e;rw[fq] at hn;cases hn
 ·rwa [dF _ _ _ e] at hn
def ko(E:Env)(rec:Rec)(ops:List Oper):Nat->List Bool->S->(S->Prop)->Prop
 |0,listed,s,K=>(∀i o,¬ kM ops listed i o)/\K s
 |n+1,listed,s,K=>((∀i o,¬ kM ops listed i o)->K s)/\∀i o,kM ops listed i o->dg E rec ops o s fun s'=>ko E rec ops n (eS listed i) s' K
theorem uU{E:Env}(hE:aj E){rec:Rec}(hr:eh rec){ops:List Oper}{K:S->Prop}: ∀(n:Nat) (listed:List Bool) (s:S) (i:Nat) (o:Oper),DC ops listed->kM ops listed i o->Lb E.quiet ops listed i o->
  (dg E rec ops o s fun s'=>ko E rec ops n (eS listed i) s' K)->ko E rec ops (n+1) listed s K
 | n,listed,s,i,o,hdc,hi,hf,h=>by
  refine⟨fun hn=>absurd hi (hn i o),fun j b hj=>?_⟩
  by_cases hij:i=j
  ·subst hij
   have:o=b:=Option.some.inj (hi.1.symm.trans hj.1)
   subst this;exact h
  ·have hsw:tk E.quiet ops o b=true:=hf j b hj.1 hij hj.2.1 (fun hp=>by
    have:=hj.dep hdc hp
    rw[hi.2.1] at this;cases this)
   cases n with
   | zero=>
    have hc:ea E.quiet o.op<2:=by
     simp only[tk,aa2] at hsw
     have h4:=hsw.2
     split at h4
     ·omega
     ·omega
     ·cases h4
    obtain⟨a,h1,_⟩:=oh hc h
    exact absurd (hj.set hij) (h1.1 j b)
   | succ n=>
    have h':dg E rec ops o s fun s1=>dg E rec ops b s1 fun s2=>ko E rec ops n (eS (eS listed i) j) s2 K:=
     de hE hr (fun s1 h1=>h1.2 j b (hj.set hij)) h
    refine de hE hr (fun s2 h2=>?_) (G2 hE hr hsw h')
    rw[oz] at h2
    exact uU hE hr n (eS listed j) s2 i o (hdc.set hj) (hi.set (Ne.symm hij)) hf.set h2
theorem xK{p:Nat->Oper->Prop}: ∀(l:List (Nat×Oper)),GQ p l->∀i o,(i,o)∈l->p i o
 |[],_,i,o,h=>by simp at h
 |[(j,b)],h,i,o,hi=>by
  simp only[List.mem_singleton,ab0] at hi
  obtain⟨rfl,rfl⟩:=hi;exact h
 |(j,b)::x::l,h,i,o,hi=>by
  simp only[GQ] at h
  rcases List.mem_cons.1 hi with hi|hi
  ·cases hi;exact h.1
  ·exact xK (x::l) h.2 i o hi
theorem pc{quiet:FuncId->Bool}{ops:List Oper}{listed:List Bool}: ∀(l:List (Nat×Oper)) {i:Nat} {o:Oper},nd quiet ops listed l=some (i,o)->(i,o)∈l/\iV quiet ops listed i o (fwd ops 0 [i]) ops 0=true
 |[],i,o,h=>by simp[nd] at h
 | (j,b)::l,i,o,h=>by
  simp only[nd] at h
  cases hb:iV quiet ops listed j b (fwd ops 0 [j]) ops 0 with
  |true=>rw[hb] at h;simp at h;obtain⟨rfl,rfl⟩:=h;exact⟨by simp,hb⟩
  |false=>
   rw[hb] at h
   obtain⟨h1,h2⟩:=pc l h
   exact⟨by simp[h1],h2⟩
def bW(st st':List Obj):Prop:=(∀k,jz (ax st k)=true->ax st' k=ax st k)/\∀k T E ls pd,ax st k= .rows T E ls pd->∃ls' pd',ax st' k= .rows T E ls' pd'
theorem EN{st:List Obj}{k:Nat}(h:ax st k≠ .dead):k<st.length:=by
 rcases Nat.lt_or_ge k st.length with h1|h1
 ·exact h1
 ·exact absurd (dZ _ _ h1) h
theorem bW.refl(st:List Obj):bW st st:=⟨fun _ _=>rfl,fun _ _ _ ls pd h=>⟨ls,pd,h⟩⟩
theorem bW.trans{a b c:List Obj}(h1:bW a b)(h2:bW b c):bW a c:=⟨fun k hk=>by
 rw[h2.1 k (by rw[h1.1 k hk];exact hk),h1.1 k hk],fun k T E ls pd h=>by
 obtain⟨_,_,h⟩:=h1.2 k T E ls pd h
 exact h2.2 k T E _ _ h⟩
theorem bW.of{st st':List Obj}(h: ∀k,ax st k≠ .dead->jz (ax st k)=true\/yk (ax st k)=true->ax st' k=ax st k):bW st st':=
 ⟨fun k hk=>h k (by intro e;rw[e] at hk;cases hk) (.inl hk),fun k T E ls pd hk=>⟨ls,pd,by rw[h k (by rw[hk];simp) (.inr (by rw[hk];rfl)),hk]⟩⟩
theorem bW.app(st l:List Obj):bW st (st++l):= .of fun _ hk _=>dL _ _ _ (EN hk)
theorem bW.set{st:List Obj}{i:Nat}{T:TypeId}{xs:List AV}{o:Obj}(h:ax st i= .row T xs):bW st (db st i o):= .of fun k _ hk=>by
 refine bu _ _ _ _ (fun e=>?_)
 subst e
 rw[h] at hk
 rcases hk with hk|hk<;>cases hk
theorem bW.rows{st:List Obj}{i:Nat}{T E:TypeId}{ls ls':List (List Value)}{pd pd':Option Nat}(h:ax st i= .rows T E ls pd):bW st (db st i (.rows T E ls' pd')):=by
 refine⟨fun k hk=>bu _ _ _ _ (fun e=>?_),fun k T' E' l p hk=>?_⟩
 ·subst e;rw[h] at hk;cases hk
 ·by_cases e:i=k
  ·subst e
   rw[h] at hk;cases hk
   exact⟨_,_,bm _ _ _ (EN (by rw[h];simp))⟩
  ·exact⟨l,p,by rw[bu _ _ _ _ e];exact hk⟩
theorem bW.freeze: ∀(is:List Nat) (st:List Obj),bW st (cI st is)
 |[],st=> .refl st
 | i::is,st=>by
  refine bW.trans (.of ?_) (bW.freeze is _)
  intro k hd hk
  by_cases e:i=k
  ·subst e
   rw[bm _ _ _ (EN hd)]
   cases ho:ax st i<;>rw[ho] at hk<;>first|rfl|(rcases hk with hk|hk<;>cases hk)
  ·exact bu _ _ _ _ e
theorem qe: ∀{st st':List Obj},qn st st'->∀k,ax st k≠ .dead->jz (ax st k)=true\/yk (ax st k)=true->ax st' k=ax st k
 |[],_,_,k,hd,_=>absurd rfl hd
 |a::l,[],h,_,_,_=>by cases a<;>exact h.elim
 |a::l,o::l',h,0,_,hk=>by
  cases a<;>first|exact h.1|(rcases hk with hk|hk<;>cases hk)
 |a::l,o::l',h,k+1,hd,hk=>qe (st:=l) (st':=l') (by cases a<;>first|exact h.2|exact h) k hd hk
theorem Jf{quiet:FuncId->Bool}{o:Op}(h:wX o=true):ea quiet o=2/\∀s,gh s o=none:=by
 cases o with
 |call c=>
  obtain⟨callee,args,ats⟩:=c
  cases callee with
  |builtin b=>cases b<;>first|exact⟨rfl,fun _=>rfl⟩|cases h
  |value g=>cases h
  |invoke r m=>cases h
 |buildSlice T n ps=>exact⟨rfl,fun _=>rfl⟩
 |makeSlice T a b=>exact⟨rfl,fun _=>rfl⟩
 |alloc T=>exact⟨rfl,fun _=>rfl⟩
 |box T x=>exact⟨rfl,fun _=>rfl⟩
 |makeMap T x=>cases x<;>first|exact⟨rfl,fun _=>rfl⟩|cases h
 |_=>cases h
theorem An{P:Pg}{s:S}{dst:Option Tmp}{o:Op}(hg:wX o=true){K:S->Prop}(h:ck P s dst o K):ck P s dst o fun s'=>K s'/\bW s.st s'.st:=by
 cases o with
 |alloc T=>
  simp only[ck] at h⊢
  split at h<;>try exact h.elim
  exact⟨h,by rw[cn];exact bW.app _ _⟩
 |box T x=>
  simp only[ck] at h⊢
  split at h<;>try exact h.elim
  rename_i h1
  rw[if_pos h1]
  exact⟨h,by rw[cn];exact bW.app _ _⟩
 | makeMap T x=>
  cases x with
  |some y=>cases hg
  |none=>
   simp only[ck] at h⊢
   split at h<;>try exact h.elim
   exact⟨h,by rw[cn];exact bW.app _ _⟩
 |buildSlice T n ps=>
  simp only[ck] at h⊢
  split at h<;>try exact h.elim
  split at h<;>try exact h.elim
  split at h<;>try exact h.elim
  split at h<;>try exact h.elim
  rename_i h4
  rw[if_pos h4]
  exact⟨h,by rw[cn];exact(bW.freeze _ _).trans (bW.app _ _)⟩
 |makeSlice T a b=>
  simp only[ck] at h⊢
  split at h<;>try exact h.elim
  split at h<;>try exact h.elim
  exact dd (fun h=>⟨h,by rw[cn];exact bW.app _ _⟩) h
 | call c=>
  obtain⟨callee,args,ats⟩:=c
  cases callee with
  | builtin b=>
   cases b<;>try (cases hg;done)
   simp only[ck] at h⊢
   split at h<;>try exact h.elim
   split at h<;>try exact h.elim
   rename_i h3
   rw[if_pos h3]
   unfold oq at h⊢
   split at h<;>try exact h.elim
   split at h<;>try exact h.elim
   split at h<;>try exact h.elim
   split at h<;>try exact h.elim
   ·exact dd (fun h=>⟨h,by rw[cn];exact bW.app _ _⟩) h
   ·split at h<;>try exact h.elim
    ·split at h<;>try exact h.elim
     rename_i k1 k2
     rw[if_pos k2]
     exact dd (fun h=>⟨h,by rw[cn];exact(bW.set k1).trans (bW.app _ _)⟩) h
    ·rename_i k1
     split at h<;>try exact h.elim
     rename_i k2
     simp only[k2]
     split at h<;>try exact h.elim
     rename_i k3
     rw[if_pos k3]
     exact dd (fun h=>⟨h,by rw[cn];exact bW.rows k1⟩) h
  |value g=>cases hg
  |invoke r m=>cases hg
 |_=>cases hg
theorem HS{E:Env}(hE:aj E){rec:Rec}{g:AV}{args:List AV}{st:List Obj}{K:AV->List Obj->Prop}(hl:Hf E g args st=true)(h:nF E rec g args st K):nF E rec g args st fun a st'=>K a st'/\bW st st':=by
 unfold Hf at hl
 split at hl
 ·rename_i f caps
  simp only[aa2,Bool.not_eq_true'] at hl
  obtain⟨⟨h1,h2⟩,h3⟩:=hl
  unfold nF at h⊢
  simp only[h1,h2,Bool.false_eq_true,if_false] at h⊢
  split at h3
  ·rename_i as hle
   rw[hle] at h⊢
   simp only[cI] at h⊢
   have hr:cO (o4 E.P (ki E.P f) as)=[]:=by
    unfold JL at h3
    split at h3
    ·rename_i he;exact he
    ·cases h3
   unfold pE at h⊢
   refine dd (fun h=>?_) h
   rw[kV] at h⊢
   refine hE.call _ _ _ _ _ (fun r sub h=>?_) h
   rw[mj,kG] at h⊢
   refine⟨h,?_⟩
   have hi:reach st (st.length*st.length+st.length+20) (cO (o4 E.P (ki E.P f) as)) []=[]:=by
    rw[hr,show st.length*st.length+st.length+20=(st.length*st.length+st.length+19)+1 from rfl,reach]
   rw[hi]
   simp only[eY,eY.go]
   exact bW.app _ _
  ·cases h3
 ·cases hl
theorem tw{E:Env}(hE:aj E){rec:Rec}(hr:eh rec){ops:List Oper}{b:Oper}{s:S}{K:S->Prop}(hb:(ea E.quiet b.op<2\/wX b.op=true)\/ua E.calm b.op=true)(h:dg E rec ops b s K):dg E rec ops b s fun s'=>K s'/\bW s.st s'.st:=by
 have small:ea E.quiet b.op<2->dg E rec ops b s fun s'=>K s'/\bW s.st s'.st:=fun hb=>by
  obtain⟨a,h1,h2⟩:=oh hb h
  exact h2 s _ (fun _ _=>rfl) (fun _=>Kept.refl _) ⟨h1,by rw[cn];exact .refl _⟩
 rcases hb with(hb|hb)|hb
 ·exact small hb
 ·rw[dT] at h⊢
  refine ie (fun _ _=>rfl) (fun h=>?_) (fun h=>⟨h,by rw[cn];exact .refl _⟩) h
  obtain⟨e1,e2⟩:=Jf (quiet:=E.quiet) hb
  unfold sO at h⊢
  rw[e1] at h⊢
  simp only[e2] at h⊢
  exact An hb h
 ·by_cases hlt:ea E.quiet b.op<2
  ·exact small hlt
  ·rw [dT] at h⊢
   refine ie (fun _ _=>rfl) (fun h=>?_) (fun h=>⟨h,by rw[cn];exact .refl _⟩) h
   have e1:ea E.quiet b.op=2/\∃g args,∀s,gh s b.op=some (ev s g,mO s args):=by
    cases ho:b.op with
    | call c=>
     obtain⟨callee,args,ats⟩:=c
     rw[ho] at hb hlt
     cases callee with
     | value g=>
      cases g with
      | func f=>
       simp only[ea] at hlt⊢
       cases hq:E.quiet f with
       |true=>
        rw[hq,aa8] at hlt
        exfalso;apply hlt
        cases G4 args.toList<;>decide
       |false=>exact⟨rfl,_,_,fun _=>rfl⟩
      |_=>cases hb
     |_=>cases hb
    |_=>rw[ho] at hb;cases hb
   obtain⟨e1,g,args,e2⟩:=e1
   unfold sO at h⊢
   rw[e1] at h⊢
   simp only[e2] at h⊢
   cases hL:Hf E (ev s g) (mO s args) s.st with
   |false=>
    refine mf hE hr (fun a st h=>?_) h
    rw[hb] at h⊢
    try rw[hL] at h
    exact⟨h.1,h.2,by rw[cn];exact .of (qe h.1)⟩
   |true=>
    refine mf hE hr (fun a st h=>?_) (HS hE hL h)
    rw[hb] at h⊢
    try rw[hL] at h
    exact⟨h.1,by rw[cn];exact h.2⟩
theorem Hk{P:Program}{st st':List Obj}{T:TypeId}{k:Nat}{i:Nat}{p:List Nat}{off:Nat}(h:ax st' i=ax st i):mL P st' T (.ptr i k p off)=mL P st T (.ptr i k p off):=by
 simp only[mL,h]
theorem I3{P:Program}{st st':List Obj}{T:TypeId}(U:TypeId)(l:List AV):yS P st' T (.ad U l)=yS P st T (.ad U l):=by
 unfold yS
 cases P.underlying T with
 |none=>rfl
 |some d=>cases d<;>rfl
theorem pL{E:Env}{s s':S}{o:Oper}(h:nb s o=true)(hs:sJ o.op s s')(hk:bW s.st s'.st):o.guard=none/\(ea E.quiet o.op=1/\∀c a b,o.op≠ .pick c a b)/\bG E s' o.op=bG E s o.op/\nb s' o=true:=by
 unfold nb at h⊢
 split at h<;>try (cases h;done)
 ·rename_i T x hg ho
  have he:ev s x=ev s' x:=hs.ev x (by rw[ho];simp[opsOf])
  refine⟨hg,⟨by rw[ho];rfl,fun c a b e=>by rw[ho] at e;cases e⟩,?_,?_⟩
  ·rw[ho];simp only[bG];rw[←he]
   split at h<;>try (cases h;done)
   ·rename_i hx;rw[hx,Hk (hk.1 _ h)]
   ·rename_i hx;rw[hx];rfl
   ·rename_i hx;rw[hx];rfl
  ·rw[←he]
   split at h<;>try (cases h;done)
   ·rw[hk.1 _ h];exact h
   ·rename_i hx;simp only[hx]
   ·rename_i hx;simp only[hx]
 ·rename_i args ats hg ho
  have he:mO s args.toList=mO s' args.toList:=gm (fun x hx=>hs.ev x (by rw[ho];simpa only[opsOf] using hx))
  refine⟨hg,⟨by rw[ho];rfl,fun c a b e=>by rw[ho] at e;cases e⟩,?_,?_⟩
  ·rw[ho];simp only[bG];rw[←he]
   split at h<;>try (cases h;done)
   rename_i hx;rw[hx]
   cases ats.toList with
   |nil=>rfl
   |cons T l=>simp only[I3 (st:=s.st) (st':=s'.st)]
  ·rw[←he];exact h
 ·rename_i x hg ho
  have he:ev s x=ev s' x:=hs.ev x (by rw[ho];simp[opsOf])
  refine⟨hg,⟨by rw[ho];rfl,fun c a b e=>by rw[ho] at e;cases e⟩,?_,?_⟩
  ·rw[ho];simp only[bG];rw[←he]
   split at h<;>try (cases h;done)
   rename_i hx;rw[hx];simp only[ky,hk.1 _ h];rfl
  ·rw[←he]
   split at h<;>try (cases h;done)
   rw[hk.1 _ h];exact h
 ·rename_i T x f hg ho
  have he:ev s x=ev s' x:=hs.ev x (by rw[ho];simp[opsOf])
  refine⟨hg,⟨by rw[ho];rfl,fun c a b e=>by rw[ho] at e;cases e⟩,?_,?_⟩
  ·rw[ho];simp only[bG];rw[←he]
   split at h<;>try (cases h;done)
   rename_i hx;rw[hx];simp only[gq,ky,hk.1 _ h];rfl
  ·rw[←he]
   split at h<;>try (cases h;done)
   rw[hk.1 _ h];exact h
 ·rename_i T x i hg ho
  have he:ev s x=ev s' x:=hs.ev x (by rw[ho];simp[opsOf])
  have hi:ev s i=ev s' i:=hs.ev i (by rw[ho];simp[opsOf])
  refine⟨hg,⟨by rw[ho];rfl,fun c a b e=>by rw[ho] at e;cases e⟩,?_,?_⟩
  ·rw[ho];simp only[bG];rw[←he,←hi]
   split at h<;>try (cases h;done)
   rename_i k n hx
   cases ho':ax s.st k<;>rw[ho'] at h<;>try (cases h;done)
   obtain⟨ls',pd',e⟩:=hk.2 k _ _ _ _ ho'
   rw[hx];simp only[fW,ho',e,gP]
  ·rw[←he]
   split at h<;>try (cases h;done)
   rename_i k n hx
   cases ho':ax s.st k<;>rw[ho'] at h<;>try (cases h;done)
   obtain⟨ls',pd',e⟩:=hk.2 k _ _ _ _ ho'
   rw[e];rfl
theorem tz{E:Env}{rec:Rec}{ops:List Oper}{o:Oper}{s:S}{K:S->Prop}(hs:nb s o=true)(h:dg E rec ops o s K): ∃a,K (put s o.dst a)/\∀(s':S) (K':S->Prop),Looks ops o s s'->bW s.st s'.st->K' (put s' o.dst a)->dg E rec ops o s' K':=by
 obtain⟨hg,⟨hcl,hnp⟩,_,_⟩:=pL (E:=E) hs (Looks.same (ops:=ops) (s2:=s) (fun _ _=>rfl)) (.refl _)
 have h0:sO E rec s o.dst o.op K:=by
  unfold dg at h;rw[hg] at h;exact h
 have h1: ∃c a,bG E s o.op=some (c,a)/\c=true/\K (put s o.dst a):=by
  unfold sO at h0
  rw[hcl] at h0
  simp only[] at h0
  split at h0
  ·rename_i c a hr
   obtain⟨q1,q2⟩:=an.1 h0
   exact⟨c,a,hr,q1,q2⟩
  ·exact h0.elim
 obtain⟨c,a,hr,hc,hk⟩:=h1
 refine⟨a,hk,fun s' K' hl hb hk'=>?_⟩
 obtain⟨_,_,hr',_⟩:=pL (E:=E) hs hl.same hb
 rw[hr] at hr'
 unfold dg
 rw[hg]
 unfold sO
 rw[hcl]
 simp only[hr']
 exact an.2 ⟨hc,hk'⟩
def Bv(quiet calm:FuncId->Bool)(ops:List Oper)(listed:List Bool)(i:Nat)(o:Oper):Prop:=
 ∀j b,ops[j]? =some b->i≠j->eQ listed j=false-> ¬ zw ops i j->v9 quiet calm ops o b=true
theorem vU{quiet calm:FuncId->Bool}{ops:List Oper}{listed:List Bool}{i:Nat}{o:Oper}{fs:List Nat}(hfs: ∀j,j∈fs->j=i\/zw ops i j): ∀(l:List Oper) (k:Nat),xL quiet calm ops listed i o fs l k=true->∀m b,l[m]? =some b->i≠k+m->eQ listed (k+m)=false-> ¬ zw ops i (k+m)->v9 quiet calm ops o b=true
 |[],_,_,m,b,h,_,_,_=>by simp at h
 | x::l,k,h,m,b,hm,hi,hn,he=>by
  simp only[xL,aa2,ab6] at h
  cases m with
  | zero=>
   simp at hm;subst hm
   rcases h.1 with((h1|h1)|h1)|h1
   ·exact absurd (Nat.eq_of_beq_eq_true h1) (by simpa using hi)
   ·rw[show k+0=k from rfl] at hn;rw[hn] at h1;cases h1
   ·rcases hfs _ ((kH _ _).1 h1) with h2|h2
    ·exact absurd h2.symm (by simpa using hi)
    ·exact absurd h2 (by simpa using he)
   ·exact h1
  |succ m=>
   refine vU hfs l (k+1) h.2 m b (by simpa using hm) (by omega) ?_ ?_
   ·rw[show k+1+m=k+(m+1) by omega];exact hn
   ·rw[show k+1+m=k+(m+1) by omega];exact he
theorem Bv.set{quiet calm:FuncId->Bool}{ops:List Oper}{listed:List Bool}{i j:Nat}{o:Oper}(h:Bv quiet calm ops listed i o):Bv quiet calm ops (eS listed j) i o:=by
 intro k b hb hk hn he
 refine h k b hb hk ?_ he
 by_cases e:j=k
 ·subst e;rw[fq] at hn;cases hn
 ·rwa [dF _ _ _ e] at hn
theorem sc{E:Env}(hE:aj E){rec:Rec}(hr:eh rec){ops:List Oper}{K:S->Prop}: ∀(n:Nat) (listed:List Bool) (s:S) (i:Nat) (o:Oper),DC ops listed->kM ops listed i o->Bv E.quiet E.calm ops listed i o->nb s o=true->
  (dg E rec ops o s fun s'=>ko E rec ops n (eS listed i) s' K)->ko E rec ops (n+1) listed s K
 | n,listed,s,i,o,hdc,hi,hf,hst,h=>by
  refine⟨fun hn=>absurd hi (hn i o),fun j b hj=>?_⟩
  by_cases hij:i=j
  ·subst hij
   have:o=b:=Option.some.inj (hi.1.symm.trans hj.1)
   subst this;exact h
  ·have hsw:v9 E.quiet E.calm ops o b=true:=hf j b hj.1 hij hj.2.1 (fun hp=>by
    have:=hj.dep hdc hp
    rw[hi.2.1] at this;cases this)
   simp only[v9,rK,aa2,ab6,Bool.not_eq_true',Nat.blt_eq] at hsw
   obtain⟨⟨⟨q1,q2⟩,q3⟩,q4⟩:=hsw
   cases n with
   |zero=>
    obtain⟨a,h1,_⟩:=tz hst h
    exact absurd (hj.set hij) (h1.1 j b)
   | succ n=>
    have h':dg E rec ops o s fun s1=>dg E rec ops b s1 fun s2=>ko E rec ops n (eS (eS listed i) j) s2 K:=
     de hE hr (fun s1 h1=>h1.2 j b (hj.set hij)) h
    obtain⟨a,g1,g2⟩:=tz hst h'
    have g3:=tw hE hr q4 g1
    refine ma hE hr (kb q1).symm (cn s o.dst a) ?_ g3
    intro st c _ hk
    obtain⟨k1,k2⟩:=hk
    rw[cn,cn] at k2
    have hbk:bW s.st (put {s with st:=st} b.dst c).st:=by rw[cn];exact k2
    have hlk:Looks ops o s (put {s with st:=st} b.dst c):=by
     have:Looks ops o s {s with st:=st}:=fun _ _=>rfl
     intro t ht
     exact(this t ht).trans (kb q2 t ht)
    have key:=g2 (put {s with st:=st} b.dst c) (fun s2=>ko E rec ops n (eS (eS listed j) i) s2 K) hlk hbk (by
     rw[←uj st q3,oz];exact k1)
    exact sc hE hr n (eS listed j) _ i o (hdc.set hj) (hi.set (Ne.symm hij)) hf.set (pL (E:=E) hst hlk.same hbk).2.2.2 key
def oa(P:Program)(T:Option TypeId)(st st':List Obj):Prop:=∀k Tb a,ax st k= .box Tb a->∃a',ax st' k= .box Tb a'/\
 ∀T1,T=some T1->fj P T1=false->∀path,jf P Tb path=some T1->me a' path=me a path/\mN a' path=mN a path/\gH a' path=gH a path
theorem oa.refl(P:Program)(T:Option TypeId)(st:List Obj):oa P T st st:=fun _ _ a h=>⟨a,h,fun _ _ _ _ _=>⟨rfl,rfl,rfl⟩⟩
theorem oa.of{P:Program}{T:Option TypeId}{st st':List Obj}(h:bW st st'):oa P T st st':=fun k Tb a hk=>⟨a,by rw[h.1 k (by rw[hk];rfl),hk],fun _ _ _ _ _=>⟨rfl,rfl,rfl⟩⟩
theorem Bl{P:Program}{T:TypeId}(h:fj P T=false):fieldsOf P T=[]:=by
 unfold fj at h
 unfold fieldsOf
 split at h<;>simp_all
theorem vB{P:Program}{T1 T2:TypeId}(h1:fj P T1=false)(h2:fj P T2=false)(hne:T1≠T2): ∀(q p:List Nat) (Tb:TypeId) (a x:AV),jf P Tb p=some T1->jf P Tb q=some T2->mN a q=true->wid x=wid (me a q)->
  me (fv a q x) p=me a p/\mN (fv a q x) p=mN a p/\gH (fv a q x) p=gH a p
 |[],p,Tb,a,x,e1,e2,_,_=>by
  simp only[jf,aa4] at e2
  subst e2
  cases p with
  |nil=>simp only[jf,aa4] at e1;exact absurd e1.symm hne
  |cons i p=>simp only[jf,Bl h2,mv] at e1;cases e1
 |j::q,[],Tb,a,x,e1,e2,_,_=>by
  simp only[jf,aa4] at e1
  subst e1
  simp only[jf,Bl h1,mv] at e2;cases e2
 | j ::q,i::p,Tb,a,x,e1,e2,hi,hw=>by
  cases a with
  | agg l=>
   simp only[mN,aa2,aa1] at hi
   simp only[me,ae] at hw
   have hwj:wid (fv (nth l j) q x)=wid (nth l j):=lG q _ _ hi.2 hw
   simp only[fv,me,ae,mN,gH,fu]
   by_cases e:j=i
   ·subst e
    simp only[jf] at e1 e2
    cases hf:mv (fieldsOf P Tb) j with
    |none=>rw[hf] at e1;cases e1
    |some fd=>
     rw[hf] at e1 e2
     have:=vB h1 h2 hne q p fd.type (nth l j) x e1 e2 hi.2 hw
     rw[lA _ _ _ hi.1,this.1,this.2.1,this.2.2,uS _ _ _ _ hwj]
     exact⟨rfl,rfl,rfl⟩
   ·rw[iG _ _ _ _ e,uS _ _ _ _ hwj]
    exact⟨rfl,rfl,rfl⟩
  |_=>simp[mN] at hi
theorem Bz{P:Pg}{T:Option TypeId}{s:S}{dst:Option Tmp}{o:Op}(hb:zG P.toProgram T o=true){K:S->Prop}(h:ck P s dst o K):ck P s dst o fun s'=>K s'/\oa P.toProgram T s.st s'.st:=by
 cases o with
 | store U p x=>
  simp only[ck] at h⊢
  unfold ph at h⊢
  have rowT: ∀i (ob ob':Obj),ax s.st i=ob->jz ob=false->oa P.toProgram T s.st (db s.st i ob'):=fun i ob ob' h1 h2 k Tb a hk=>by
   refine⟨a,?_,fun _ _ _ _ _=>⟨rfl,rfl,rfl⟩⟩
   rw[bu _ _ _ _ (fun e=>by subst e;rw[h1] at hk;subst hk;cases h2)];exact hk
  have frzT: ∀is i (ob ob':Obj),ax (cI s.st is) i=ob->jz ob=false->oa P.toProgram T s.st (db (cI s.st is) i ob'):=fun is i ob ob' h1 h2 k Tb a hk=>by
   have hz:ax (cI s.st is) k= .box Tb a:=by rw[(bW.freeze is s.st).1 k (by rw[hk];rfl),hk]
   refine⟨a,?_,fun _ _ _ _ _=>⟨rfl,rfl,rfl⟩⟩
   rw[bu _ _ _ _ (fun e=>by subst e;rw[h1] at hz;subst hz;cases h2)];exact hz
  split at h<;>try exact h.elim
  rename_i i k path off hev
  split at h<;>try exact h.elim
  ·rename_i Tb a hst
   split at h<;>try exact h.elim
   rename_i hc
   rw[if_pos hc]
   refine⟨h,?_⟩
   rw[cn]
   simp only[aa2,beq_iff_eq] at hc
   obtain⟨⟨⟨⟨⟨⟨c1,c2⟩,c3⟩,c4⟩,_⟩,_⟩,c7⟩:=hc
   intro k' Tb' a' hk'
   by_cases e:i=k'
   ·subst e
    rw[hst] at hk';cases hk'
    refine⟨_,bm _ _ _ (EN (by rw[hst];simp)),fun T1 hT hA p hp=>?_⟩
    subst hT
    simp only[zG,aa2,Bool.not_eq_true'] at hb
    have hU:jf P.toProgram Tb path=some U:=by
     unfold vH at c7
     split at c7
     ·rename_i V hV;rw[hV,Nat.eq_of_beq_eq_true c7]
     ·cases c7
    exact vB hA hb.2 (fun e=>by subst e;rw[Nat.beq_refl] at hb;cases hb.1) path p Tb a (ev s x) hp hU c1 (by rw[c3,c4])
   ·exact⟨a',by rw[bu _ _ _ _ e];exact hk',fun _ _ _ _ _=>⟨rfl,rfl,rfl⟩⟩
  ·split at h<;>try exact h.elim
   rename_i x' Tr xs hx' hst
   split at h<;>try exact h.elim
   rename_i hc
   simp only[hst]
   rw[if_pos hc]
   exact⟨h,by rw[cn];exact frzT _ _ _ _ hst rfl⟩
  ·rename_i Tr E ls kp hst
   split at h<;>try exact h.elim
   split at h<;>try exact h.elim
   rename_i hc
   rw[if_pos hc]
   exact dd (fun h=>⟨h,by rw[cn];exact rowT _ _ _ hst rfl⟩) h
 |_=>cases T<;>cases hb
theorem Cc{E:Env}(hE:aj E){rec:Rec}(hr:eh rec){ops:List Oper}{b:Oper}{s:S}{T:Option TypeId}{K:S->Prop}(hb:((ea E.quiet b.op<2\/wX b.op=true)\/ua E.calm b.op=true)\/zG E.P.toProgram T b.op=true)(h:dg E rec ops b s K):dg E rec ops b s fun s'=>K s'/\oa E.P.toProgram T s.st s'.st:=by
 rcases hb with hb|hb
 ·exact de hE hr (fun _ h=>⟨h.1, .of h.2⟩) (tw hE hr hb h)
 ·rw[dT] at h⊢
  refine ie (fun _ _=>rfl) (fun h=>?_) (fun h=>⟨h,by rw[cn];exact .refl _ _ _⟩) h
  have e1:ea E.quiet b.op=2/\∀s,gh s b.op=none:=by
   cases ho:b.op with
   |store U p x=>exact⟨rfl,fun _=>rfl⟩
   |_=>rw[ho] at hb;cases T<;>cases hb
  obtain⟨e1,e2⟩:=e1
  unfold sO at h⊢
  rw[e1] at h⊢
  simp only[e2] at h⊢
  exact Bz hb h
theorem pt{E:Env}{s s':S}{o:Oper}{T:Option TypeId}(h:ni E.P.toProgram s o=some T)(hs:sJ o.op s s')(hk:oa E.P.toProgram T s.st s'.st):o.guard=none/\(ea E.quiet o.op=1/\∀c a b,o.op≠ .pick c a b)/\bG E s' o.op=bG E s o.op/\ni E.P.toProgram s' o=some T:=by
 unfold ni at h⊢
 split at h<;>try (cases h;done)
 ·rename_i U x hg ho
  have he:ev s x=ev s' x:=hs.ev x (by rw[ho];simp[opsOf])
  rw[←he]
  split at h<;>try (cases h;done)
  rename_i k j path off hx
  split at h<;>try (cases h;done)
  rename_i Tb a hst
  cases hc:vH E.P.toProgram Tb path U&& !fj E.P.toProgram U with
  |false=>rw[hc] at h;cases h
  | true=>
   rw[hc] at h
   simp only[aa8,aa4] at h
   subst h
   obtain⟨a',k1,k2⟩:=hk k Tb a hst
   have hc':=hc
   simp only[aa2,Bool.not_eq_true'] at hc'
   have hU:jf E.P.toProgram Tb path=some U:=by
    have c7:=hc'.1
    unfold vH at c7
    split at c7
    ·rename_i V hV;rw[hV,Nat.eq_of_beq_eq_true c7]
    ·cases c7
   obtain⟨r1,r2,r3⟩:=k2 U rfl hc'.2 path hU
   refine⟨hg,⟨by rw[ho];rfl,fun c a b e=>by rw[ho] at e;cases e⟩,?_,?_⟩
   ·rw[ho];simp only[bG];rw[←he,hx]
    simp only[mL,hst,k1,r1,r2,r3]
   ·simp only[hx,k1,hc,aa8]
 ·rename_i x hg ho
  have he:ev s x=ev s' x:=hs.ev x (by rw[ho];simp[opsOf])
  rw[←he]
  split at h<;>try (cases h;done)
  rename_i k j path off hx
  cases hc:jz (ax s.st k) with
  |false=>rw[hc] at h;cases h
  |true=>
   rw[hc] at h
   cases h
   cases hst:ax s.st k<;>rw[hst] at hc<;>try (cases hc;done)
   obtain⟨a',k1,_⟩:=hk k _ _ hst
   refine⟨hg,⟨by rw[ho];rfl,fun c a b e=>by rw[ho] at e;cases e⟩,?_,?_⟩
   ·rw[ho];simp only[bG];rw[←he,hx];simp only[ky,k1,hst]
   ·simp only[hx,k1];rfl
 ·rename_i U x f hg ho
  have he:ev s x=ev s' x:=hs.ev x (by rw[ho];simp[opsOf])
  rw[←he]
  split at h<;>try (cases h;done)
  rename_i k j path off hx
  cases hc:jz (ax s.st k) with
  |false=>rw[hc] at h;cases h
  |true=>
   rw[hc] at h
   cases h
   cases hst:ax s.st k<;>rw[hst] at hc<;>try (cases hc;done)
   obtain⟨a',k1,_⟩:=hk k _ _ hst
   refine⟨hg,⟨by rw[ho];rfl,fun c a b e=>by rw[ho] at e;cases e⟩,?_,?_⟩
   ·rw[ho];simp only[bG];rw[←he,hx];simp only[gq,ky,k1,hst]
   ·simp only[hx,k1];rfl
theorem vE{E:Env}{rec:Rec}{ops:List Oper}{o:Oper}{s:S}{T:Option TypeId}{K:S->Prop}(hs:ni E.P.toProgram s o=some T)(h:dg E rec ops o s K): ∃a,K (put s o.dst a)/\∀(s':S) (K':S->Prop),Looks ops o s s'->oa E.P.toProgram T s.st s'.st->K' (put s' o.dst a)->dg E rec ops o s' K':=by
 obtain⟨hg,⟨hcl,hnp⟩,_,_⟩:=pt (E:=E) hs (Looks.same (ops:=ops) (s2:=s) (fun _ _=>rfl)) (.refl _ _ _)
 have h0:sO E rec s o.dst o.op K:=by
  unfold dg at h;rw[hg] at h;exact h
 have h1: ∃c a,bG E s o.op=some (c,a)/\c=true/\K (put s o.dst a):=by
  unfold sO at h0
  rw[hcl] at h0
  simp only[] at h0
  split at h0
  ·rename_i c a hr
   obtain⟨q1,q2⟩:=an.1 h0
   exact⟨c,a,hr,q1,q2⟩
  ·exact h0.elim
 obtain⟨c,a,hr,hc,hk⟩:=h1
 refine⟨a,hk,fun s' K' hl hb hk'=>?_⟩
 obtain⟨_,_,hr',_⟩:=pt (E:=E) hs hl.same hb
 rw[hr] at hr'
 unfold dg
 rw[hg]
 unfold sO
 rw[hcl]
 simp only[hr']
 exact an.2 ⟨hc,hk'⟩
def B9(P:Program)(quiet calm:FuncId->Bool)(T:Option TypeId)(ops:List Oper)(listed:List Bool)(i:Nat)(o:Oper):Prop:=
 ∀j b,ops[j]? =some b->i≠j->eQ listed j=false-> ¬ zw ops i j->tB P quiet calm T ops o b=true
theorem uP{P:Program}{quiet calm:FuncId->Bool}{T:Option TypeId}{ops:List Oper}{listed:List Bool}{i:Nat}{o:Oper}{fs:List Nat}(hfs: ∀j,j∈fs->j=i\/zw ops i j): ∀(l:List Oper) (k:Nat),vW P quiet calm T ops listed i o fs l k=true->∀m b,l[m]? =some b->i≠k+m->eQ listed (k+m)=false-> ¬ zw ops i (k+m)->tB P quiet calm T ops o b=true
 |[],_,_,m,b,h,_,_,_=>by simp at h
 | x::l,k,h,m,b,hm,hi,hn,he=>by
  simp only[vW,aa2,ab6] at h
  cases m with
  | zero=>
   simp at hm;subst hm
   rcases h.1 with((h1|h1)|h1)|h1
   ·exact absurd (Nat.eq_of_beq_eq_true h1) (by simpa using hi)
   ·rw[show k+0=k from rfl] at hn;rw[hn] at h1;cases h1
   ·rcases hfs _ ((kH _ _).1 h1) with h2|h2
    ·exact absurd h2.symm (by simpa using hi)
    ·exact absurd h2 (by simpa using he)
   ·exact h1
  |succ m=>
   refine uP hfs l (k+1) h.2 m b (by simpa using hm) (by omega) ?_ ?_
   ·rw[show k+1+m=k+(m+1) by omega];exact hn
   ·rw[show k+1+m=k+(m+1) by omega];exact he
theorem B9.set{P:Program}{quiet calm:FuncId->Bool}{T:Option TypeId}{ops:List Oper}{listed:List Bool}{i j:Nat}{o:Oper}(h:B9 P quiet calm T ops listed i o):B9 P quiet calm T ops (eS listed j) i o:=by
 intro k b hb hk hn he
 refine h k b hb hk ?_ he
 by_cases e:j=k
 ·subst e;rw[fq] at hn;cases hn
 ·rwa [dF _ _ _ e] at hn
theorem sb{E:Env}(hE:aj E){rec:Rec}(hr:eh rec){ops:List Oper}{T:Option TypeId}{K:S->Prop}: ∀(n:Nat) (listed:List Bool) (s:S) (i:Nat) (o:Oper),DC ops listed->kM ops listed i o->B9 E.P.toProgram E.quiet E.calm T ops listed i o->ni E.P.toProgram s o=some T->
  (dg E rec ops o s fun s'=>ko E rec ops n (eS listed i) s' K)->ko E rec ops (n+1) listed s K
 | n,listed,s,i,o,hdc,hi,hf,hst,h=>by
  refine⟨fun hn=>absurd hi (hn i o),fun j b hj=>?_⟩
  by_cases hij:i=j
  ·subst hij
   have:o=b:=Option.some.inj (hi.1.symm.trans hj.1)
   subst this;exact h
  ·have hsw:tB E.P.toProgram E.quiet E.calm T ops o b=true:=hf j b hj.1 hij hj.2.1 (fun hp=>by
    have:=hj.dep hdc hp
    rw[hi.2.1] at this;cases this)
   simp only[tB,rK,aa2,ab6,Bool.not_eq_true',Nat.blt_eq] at hsw
   obtain⟨⟨⟨q1,q2⟩,q3⟩,q4⟩:=hsw
   cases n with
   |zero=>
    obtain⟨a,h1,_⟩:=vE hst h
    exact absurd (hj.set hij) (h1.1 j b)
   | succ n=>
    have h':dg E rec ops o s fun s1=>dg E rec ops b s1 fun s2=>ko E rec ops n (eS (eS listed i) j) s2 K:=
     de hE hr (fun s1 h1=>h1.2 j b (hj.set hij)) h
    obtain⟨a,g1,g2⟩:=vE hst h'
    have g3:=Cc (T:=T) hE hr q4 g1
    refine ma hE hr (kb q1).symm (cn s o.dst a) ?_ g3
    intro st c _ hk
    obtain⟨k1,k2⟩:=hk
    rw[cn,cn] at k2
    have hbk:oa E.P.toProgram T s.st (put {s with st:=st} b.dst c).st:=by rw[cn];exact k2
    have hlk:Looks ops o s (put {s with st:=st} b.dst c):=by
     have:Looks ops o s {s with st:=st}:=fun _ _=>rfl
     intro t ht
     exact(this t ht).trans (kb q2 t ht)
    have key:=g2 (put {s with st:=st} b.dst c) (fun s2=>ko E rec ops n (eS (eS listed j) i) s2 K) hlk hbk (by
     rw[←uj st q3,oz];exact k1)
    exact sb hE hr n (eS listed j) _ i o (hdc.set hj) (hi.set (Ne.symm hij)) hf.set (pt (E:=E) hst hlk.same hbk).2.2.2 key
theorem uI{P:Program}{quiet calm:FuncId->Bool}{ops:List Oper}{listed:List Bool}{s:S}: ∀(l:List (Nat×Oper)) {i:Nat} {o:Oper},sm P quiet calm ops listed s l=some (i,o)->∃T,(i,o)∈l/\ni P s o=some T/\vW P quiet calm T ops listed i o (fwd ops 0 [i]) ops 0=true
 |[],i,o,h=>by simp[sm] at h
 | (j,b)::l,i,o,h=>by
  simp only[sm] at h
  have rest:sm P quiet calm ops listed s l=some (i,o)->∃T,(i,o)∈(j,b)::l/\ni P s o=some T/\vW P quiet calm T ops listed i o (fwd ops 0 [i]) ops 0=true:=fun h=>by
   obtain⟨T,h1,h2⟩:=uI l h
   exact⟨T,by simp[h1],h2⟩
  split at h
  ·rename_i T hT
   cases hb:vW P quiet calm T ops listed j b (fwd ops 0 [j]) ops 0 with
   |true=>
    rw[hb] at h;simp at h;obtain⟨rfl,rfl⟩:=h
    exact⟨T,by simp,hT,hb⟩
   |false=>rw[hb] at h;exact rest h
  ·exact rest h
theorem u5{quiet calm:FuncId->Bool}{ops:List Oper}{listed:List Bool}{s:S}: ∀(l:List (Nat×Oper)) {i:Nat} {o:Oper},Ag quiet calm ops listed s l=some (i,o)->(i,o)∈l/\nb s o=true/\xL quiet calm ops listed i o (fwd ops 0 [i]) ops 0=true
 |[],i,o,h=>by simp[Ag] at h
 | (j,b)::l,i,o,h=>by
  simp only[Ag] at h
  cases hb:nb s b&&xL quiet calm ops listed j b (fwd ops 0 [j]) ops 0 with
  |true=>
   rw[hb] at h;simp at h;obtain⟨rfl,rfl⟩:=h
   rw[aa2] at hb
   exact⟨by simp,hb⟩
  |false=>
   rw[hb] at h
   obtain⟨h1,h2⟩:=u5 l h
   exact⟨by simp[h1],h2⟩
theorem nk{E:Env}(hE:aj E){rec:Rec}(hr:eh rec){ops:List Oper}{K:S->Prop}: ∀(n:Nat) (listed:List Bool) (s:S),DC ops listed->pP E rec ops n listed s K->ko E rec ops n listed s K
 | 0,listed,s,_,h=>by
  unfold pP at h
  split at h
  ·rename_i h0
   exact⟨fun i o hi=>by rw[←fN,h0] at hi;simp at hi,h⟩
  ·exact h.elim
 | n +1,listed,s,hdc,h=>by
  unfold pP at h
  split at h
  ·rename_i h0
   exact⟨fun _=>h,fun i o hi=>by rw[←fN,h0] at hi;simp at hi⟩
  ·rename_i h0
   split at h
   ·rename_i i o hp
    obtain⟨h1,h2⟩:=pc _ hp
    have hfs: ∀j,j∈fwd ops 0 [i]->j=i\/zw ops i j:=nS ops 0 [i] (fun m b hm=>by simpa using hm) (fun j hj=> .inl (by simpa using hj))
    have hfree:Lb E.quiet ops listed i o:=fun j b hb hij hn he=>free_spec hfs ops 0 h2 j b hb (by omega) (by simpa using hn) (by simpa using he)
    exact uU hE hr n listed s i o hdc (fN.1 h1) hfree (de hE hr (fun s'=>nk hE hr n _ s' (hdc.set (fN.1 h1))) h)
   ·split at h
    ·rename_i i o hp
     obtain⟨h1,h2,h3⟩:=u5 _ hp
     have hfs: ∀j,j∈fwd ops 0 [i]->j=i\/zw ops i j:=nS ops 0 [i] (fun m b hm=>by simpa using hm) (fun j hj=> .inl (by simpa using hj))
     have hfree:Bv E.quiet E.calm ops listed i o:=fun j b hb hij hn he=>vU hfs ops 0 h3 j b hb (by omega) (by simpa using hn) (by simpa using he)
     exact sc hE hr n listed s i o hdc (fN.1 h1) hfree h2 (de hE hr (fun s'=>nk hE hr n _ s' (hdc.set (fN.1 h1))) h)
    split at h
    ·rename_i i o hp
     have hp:sm E.P.toProgram E.quiet E.calm ops listed s (jF listed ops 0)=some (i,o):=by
      cases hc:E.calm 888888<;>rw[hc] at hp
      ·cases hp
      ·exact hp
     obtain⟨T,h1,h2,h3⟩:=uI _ hp
     have hfs: ∀j,j∈fwd ops 0 [i]->j=i\/zw ops i j:=nS ops 0 [i] (fun m b hm=>by simpa using hm) (fun j hj=> .inl (by simpa using hj))
     have hfree:B9 E.P.toProgram E.quiet E.calm T ops listed i o:=fun j b hb hij hn he=>uP hfs ops 0 h3 j b hb (by omega) (by simpa using hn) (by simpa using he)
     exact sb hE hr n listed s i o hdc (fN.1 h1) hfree h2 (de hE hr (fun s'=>nk hE hr n _ s' (hdc.set (fN.1 h1))) h)
    have:=xK _ h
    refine⟨fun hn=>?_,fun i o hi=>de hE hr (fun s'=>nk hE hr n _ s' (hdc.set hi)) (this i o (fN.2 hi))⟩
    exfalso
    cases hrl:jF listed ops 0 with
    |nil=>exact h0 hrl
    |cons x l=>
     obtain⟨i,o⟩:=x
     exact hn i o (fN.1 (by rw[hrl];simp))
theorem x2: ∀(l:List Bool) (i:Nat),eQ l i=l.getD i true
 |[],_=>rfl
 |_::_,0=>rfl
 |_::l,i+1=>by simpa[eQ] using x2 l i
theorem Bf: ∀(l:List Bool) (i:Nat),eS l i=l.set i true
 |[],_=>rfl
 |_::_,0=>rfl
 |_::l,i+1=>by simp[eS,Bf l i]
theorem xk: ∀n,iY n=List.replicate n false
 |0=>rfl
 |n+1=>by simp[iY,xk n,List.replicate_succ]
theorem nP{ops:Array Oper}{listed:Array Bool}{i:Nat}:i∈Region.ready .any ops listed↔ ∃o,kM ops.toList listed.toList i o:=by
 rw[mem_ready]
 have e1: ∀k,eQ listed.toList k=listed.getD k true:=fun k=>by rw[x2];simp
 constructor
 ·rintro⟨h1,o,h2,h3⟩
  refine⟨o,by simpa using h2,by rw[e1];exact h1,fun e he hb=>?_⟩
  have:=h3 e (by simpa using he) hb
  rcases Nat.lt_or_ge e.on listed.size with h'|h'
  ·refine⟨by simpa using h',?_⟩
   rw[e1];simp[h'] at this⊢;exact this
  ·simp[Array.getElem?_eq_none h'] at this
 ·rintro⟨o,h1,h2,h3⟩
  refine⟨by rw[←e1];exact h2,o,by simpa using h1,fun e he hb=>?_⟩
  obtain⟨h4,h5⟩:=h3 e (by simpa using he) hb
  rw[e1] at h5
  have h4':e.on<listed.size:=by simpa using h4
  simp[h4'] at h5⊢;exact h5
theorem vt{E:Env}(hE:aB E){rec:Rec}(hrec:fE E.P rec){F:Fence}(hF:F=Fence.wide\/ ∃B,F=Fence.wide.inRound B){n:Nat}{ops:Array Oper}{K:S->Prop}{lo base:Nat}{Q:Exit->Act->World->Prop}:
  ∀(k:Nat) (listed:Array Bool) {C:Ctx},C.P=E.P->Inv C->∀{s:S} {a:Act},dm C s a->gN lo C a.defers->base<=s.st.length->ko E rec ops.toList k listed.toList s K->
   (∀a' w',cx lo base C K a' w'->Q .normal a' w')->wpAnyIn F n E.P .any ops Q k listed a C.w
 |0,listed,C,hC,hI,s,a,hs,hd,hb,h,hQ=>by
  refine⟨?_,hQ _ _ ⟨C,s,rfl,rfl,hI,hs,hd,hb,Ext.refl C (by rw[hs.st];exact hb),h.2⟩⟩
  rw[List.eq_nil_iff_forall_not_mem]
  intro i hi
  obtain⟨o,ho⟩:=nP.1 hi
  exact h.1 i o ho
 | k+1,listed,C,hC,hI,s,a,hs,hd,hb,h,hQ=>by
  refine⟨fun hn=>hQ _ _ ⟨C,s,rfl,rfl,hI,hs,hd,hb,Ext.refl C (by rw[hs.st];exact hb),h.1 fun i o ho=>?_⟩,fun i hi=>?_⟩
  ·have:=nP.2 ⟨o,ho⟩
   rw[hn] at this;simp at this
  ·obtain⟨o,ho⟩:=nP.1 hi
   have h1:=h.2 i o ho
   rw[dT] at h1
   have hn: ∀a' w',cx lo base C (fun s'=>ko E rec ops.toList k (eS listed.toList i) s' K) a' w'->wpAnyIn F n E.P .any ops Q k (listed.setIfInBounds i true) a' w':=by
    rintro a' w' ⟨C',s',rfl,hP',hI',hs',hd',hb',he,hK⟩
    refine vt hE hrec hF k _ (hP'.trans hC) hI' hs' hd' hb' ?_ (fun a2 w2 h2=>hQ _ _ (h2.trans hP' he))
    have e:(listed.setIfInBounds i true).toList=eS listed.toList i:=by rw[Bf];simp
    rw[e];exact hK
   exact so hI hs hd hb hF (i:=i) (o:=o) (by simpa using ho.1) (fun hp=>Hy hE hrec hC hI hs hd hb hF hp hn) hn h1
theorem Db{E:Env}(hE:aB E)(hM:aj E){rec:Rec}(hrec:fE E.P rec)(hr:eh rec):Ld E rec:=by
 intro id ops s K h C a F n lo base hC hI hs hd hb hF Q hQ
 refine wpIn_region_any hE.prog.mixed ?_
 have hg:gU C.w {C.w with drawn:=C.w.drawn+1}:=⟨Nat.le_refl _,rfl,rfl,rfl,fun _ _=>rfl⟩
 obtain⟨g1,g2⟩:=ny hI hg
 have hs':=hs.step hI g2
 have e:({s with st:=C.st}:S)=s:=by rw[hs.st]
 have hs'':dm {C with w:={C.w with drawn:=C.w.drawn+1}} s a:=by
  have e2:({s with st:=({C with w:={C.w with drawn:=C.w.drawn+1}}:Ctx).st}:S)=s:=e
  rw[e2] at hs';exact hs'
 have hfull:=nk hM hr _ _ _ (DC.iY _ _) h
 have:=vt (C:={C with w:={C.w with drawn:=C.w.drawn+1}}) hE hrec hF (n:=n) (K:=K) (lo:=lo) (base:=base) (Q:=Q) ops.size (Array.replicate ops.size false) hC g1 hs'' (hd.ext g2) hb
  (by simpa[xk] using hfull) (fun a' w' h'=>hQ _ _ (cx.trans (C:=C) (C':={C with w:={C.w with drawn:=C.w.drawn+1}}) rfl (g2.mono (by rw[hs.st];exact hb)) h'))
 exact this
theorem IH{E:Env}(hE:aj E){rec:Rec}(hr:eh rec){s:S}{d:Option Tmp}{o:Op}{K K':S->Prop}(hK: ∀s,K s->K' s)(h:LW E rec s d o K):LW E rec s d o K':=by
 unfold LW at h⊢
 split at h
 ·exact dd (hK _) h
 ·split at h
  ·split at h<;>try exact h.elim
   rename_i t _
   cases t<;>exact hK _ h
  ·split at h
   ·exact mf hE hr (fun _ _ hh=>hK _ hh) h
   ·exact v8 ⟨fun _ _=>rfl⟩ rfl (fun _ _ hh=>hK _ hh) h
theorem rO{E:Env}(hE:aj E){rec:Rec}(hr:eh rec){ops:List Oper}: ∀(l:List Oper) {s:S} {K K':S->Prop},(∀s,K s->K' s)->qi E rec ops l s K->qi E rec ops l s K'
 |[],s,K,K',hK,h=>hK _ h
 |o::l,s,K,K',hK,h=>by
  rw[uq] at h⊢
  exact ie (fun _ _=>rfl) (IH hE hr (fun s'=>rO hE hr l hK)) (rO hE hr l hK) h
theorem ke{E:Env}(hE:aj E){rec:Rec}(hr:eh rec){ops:List Oper}{K K':S->Prop}(hK: ∀s,K s->K' s): ∀(n:Nat) (listed:List Bool) (s:S),pP E rec ops n listed s K->pP E rec ops n listed s K'
 |0,listed,s,h=>by
  unfold pP at h⊢
  split at h
  ·exact hK _ h
  ·exact h.elim
 | n +1,listed,s,h=>by
  unfold pP at h⊢
  split at h
  ·exact hK _ h
  ·split at h
   ·exact de hE hr (fun s'=>ke hE hr hK n _ s') h
   ·split at h
    ·exact de hE hr (fun s'=>ke hE hr hK n _ s') h
    split at h
    ·exact de hE hr (fun s'=>ke hE hr hK n _ s') h
    generalize jF listed ops 0=l at h⊢
    have: ∀l:List (Nat×Oper),(GQ (fun i o=>dg E rec ops o s fun s'=>pP E rec ops n (eS listed i) s' K) l)->GQ (fun i o=>dg E rec ops o s fun s'=>pP E rec ops n (eS listed i) s' K') l:=by
     intro l
     induction l with
     |nil=>exact id
     |cons x l ih=>
      obtain⟨i,o⟩:=x
      cases l with
      |nil=>exact fun h=>de hE hr (fun s'=>ke hE hr hK n _ s') h
      |cons y l=>exact fun h=>⟨de hE hr (fun s'=>ke hE hr hK n _ s') h.1,ih h.2⟩
    exact this _ h
theorem Hw{E:Env}(hE:aj E){rec:Rec}(hr:eh rec)(f:FuncId)(rd:Option Nat)(base:Nat): ∀(c:Code) (s:S) (K K':Exit->S->Prop),(∀e s,K e s->K' e s)->jQ E rec f rd base c s K->jQ E rec f rd base c s K':=by
 intro c
 induction c with
 |skip=>intro s K K' hK h;exact hK _ _ h
 |label l=>intro s K K' hK h;exact hK _ _ h
 |region id ops d=>
  intro s K K' hK h
  cases d with
  |false=>exact rO hE hr _ (hK _) h
  |true=>exact ke hE hr (hK _) _ _ _ h
 |seq x y ihx ihy=>
  intro s K K' hK h
  refine ihx s _ _ ?_ h
  intro e s' hh
  cases e with
  |normal=>exact ihy s' _ _ hK hh
  |_=>exact hK _ _ hh
 |cond c x y ihx ihy=>
  intro s K K' hK h
  unfold jQ at h⊢
  split at h<;>try exact h.elim
  rename_i t _
  cases t with
  |true=>exact ihx _ _ _ hK h
  |false=>exact ihy _ _ _ hK h
 | block id c ih=>
  intro s K K' hK h
  refine ih s _ _ ?_ h
  intro e s' hh
  cases e with
  |exit i=>
   simp only[zd] at hh⊢
   cases hb:Nat.beq i id<;>rw[hb] at hh<;>exact hK _ _ hh
  |_=>exact hK _ _ hh
 |loop c ih=>
  intro s K K' hK h
  unfold jQ at h⊢
  split at h<;>try exact h.elim
  exact dd (fun hh=>by rw[kV] at hh⊢;exact hE.loop _ _ _ _ _ _ _ _ hK hh) h
 | rangeFunc g ps asg body iha ihb=>
  intro s K K' hK h
  unfold jQ at h⊢
  split at h<;>try exact h.elim
  have hrk: ∀st,pn s.st.length s K st->pn s.st.length s K' st:=by
   intro st hh
   unfold pn at hh⊢
   split at hh<;>try exact hh.elim
   rename_i r hl
   cases hs:r.state<;>cases hp:r.pending<;>rw[hs,hp] at hh<;>try exact hh.elim
   all_goals first|exact hK _ _ hh|(rename_i c;cases c<;>first|exact hh.elim|exact hK _ _ hh)
  refine dd (fun hh=>?_) h
  split at hh
  ·exact hE.lF _ _ _ _ _ _ _ hrk hh
  ·exact r4 hr (fun _ st=>hrk st) hh
 |exit id=>intro s K K' hK h;exact hK _ _ h
 |goto l=>intro s K K' hK h;exact h.elim
 |scope c ih=>
  intro s K K' hK h
  refine ih s _ _ ?_ h
  intro e s' hh
  cases e with
  |goto l=>exact hh.elim
  |_=>exact hK _ _ hh
 |ret=>intro s K K' hK h;exact hK _ _ h
 |refuse r=>intro s K K' hK h;exact h.elim
theorem te{E:Env}(hE:aj E): ∀n,eh (vc E n)
 |0=>fun _ _ _ _ _ _ _ _ h=>h.elim
 |n+1=>fun f rd base c s K K' hK h=>Hw hE (te hE n) f rd base c s K K' hK h
theorem xR{E:Env}(hE:aB E)(hM:aj E): ∀n,fE E.P (vc E n)
 |0=>fun _ _ _ _ _ _ h=>h.elim
 |n+1=>fun f rd base c s K h=>Eb hE (xR hE hM n) (Db hE hM (xR hE hM n) (te hM n)) f rd base c s K h
#print axioms xR
end Go.Dn
