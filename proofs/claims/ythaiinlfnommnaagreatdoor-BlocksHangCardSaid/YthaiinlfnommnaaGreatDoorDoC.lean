import Derived.Test.YthaiinlfnommnaaGreatDoorDoB
namespace Go.Dn
open Go
theorem yR: ∀(l:List AV) (i j:Nat) (x y:AV),i≠j->cg (cg l i x) j y=cg (cg l j y) i x
 |[],_,_,_,_,_=>rfl
 |a::l,0,0,_,_,h=>absurd rfl h
 |a::l,0,j+1,_,_,_=>rfl
 |a::l,i+1,0,_,_,_=>rfl
 |a::l,i+1,j+1,x,y,h=>by simp only[cg];rw[yR l i j x y (by omega)]
theorem wY{s:S}{d d':Option Tmp}{a b:AV}(st:List Obj)(h:vI d d'=true):put ({put s d a with st:=st}) d' b=put (put {s with st:=st} d' b) d a:=by
 cases d with
 |none=>rfl
 | some t=>
  cases d' with
  |none=>rfl
  |some u=>
   have:t≠u:=by intro e;subst e;simp[vI] at h
   simp only[put]
   rw[yR _ _ _ _ _ this]
theorem ko{ops:List Oper}{o:Oper}{s:S}{d:Option Tmp}{a:AV}(h:Aq ops o d=false):Looks ops o s (put s d a):=by
 intro t ht
 cases d with
 |none=>rfl
 |some u=>
  have:u≠t:=by intro e;subst e;simp only[Aq] at h;rw[h] at ht;cases ht
  simp only[put]
  rw[jc _ _ _ _ this]
theorem Looks.symm{ops:List Oper}{o:Oper}{s1 s2:S}(h:Looks ops o s1 s2):Looks ops o s2 s1:=fun t ht=>(h t ht).symm
theorem LW{quiet:FuncId->Bool}{o:Op}(h:CM o=true):er quiet o=2/\∀s,gx s o=none:=by
 cases o with
 |alloc T=>exact⟨rfl,fun _=>rfl⟩
 |box T x=>exact⟨rfl,fun _=>rfl⟩
 |makeSlice T a b=>exact⟨rfl,fun _=>rfl⟩
 |makeMap T x=>cases x<;>first|exact⟨rfl,fun _=>rfl⟩|cases h
 |_=>cases h
theorem cw(s:S)(d:Option Tmp)(a:AV):(put s d a).st=s.st:=by cases d<;>rfl
theorem DA{P:Pg}{s:S}{dst:Option Tmp}{o:Op}(hg:CM o=true){K:S->Prop}(h:cr P s dst o K):cr P s dst o fun s'=>K s'/\Kept s.st s'.st:=by
 cases o with
 |alloc T=>
  simp only[cr] at h⊢
  split at h<;>try exact h.elim
  exact⟨h,by rw[cw];exact Kept.app _ _⟩
 |box T x=>
  simp only[cr] at h⊢
  split at h<;>try exact h.elim
  rename_i h1
  rw[if_pos h1]
  exact⟨h,by rw[cw];exact Kept.app _ _⟩
 |makeSlice T a b=>
  simp only[cr] at h⊢
  split at h<;>try exact h.elim
  split at h<;>try exact h.elim
  exact dj (fun h=>⟨h,by rw[cw];exact Kept.app _ _⟩) h
 | makeMap T x=>
  cases x with
  |some y=>cases hg
  |none=>
   simp only[cr] at h⊢
   split at h<;>try exact h.elim
   exact⟨h,by rw[cw];exact Kept.app _ _⟩
 |_=>cases hg
theorem IN{E:Env}{rec:Rec}{ops:List Oper}{b:Oper}{s:S}{K:S->Prop}(hb:er E.quiet b.op<2\/CM b.op=true)(h:dn E rec ops b s K):dn E rec ops b s fun s'=>K s'/\Kept s.st s'.st:=by
 rcases hb with hb|hb
 ·obtain⟨a,h1,h2⟩:=pc hb h
  exact h2 s _ (fun _ _=>rfl) (fun _=> .refl _) ⟨h1,by rw[cw];exact .refl _⟩
 ·rw[ea] at h⊢
  refine iF (fun _ _=>rfl) (fun h=>?_) (fun h=>⟨h,by rw[cw];exact .refl _⟩) h
  obtain⟨e1,e2⟩:=LW (quiet:=E.quiet) hb
  unfold tw at h⊢
  rw[e1] at h⊢
  simp only[e2] at h⊢
  exact DA hb h
theorem Ig{E:Env}(hE:aj E){rec:Rec}(hr:eB rec){ops:List Oper}{i j:Oper}(hsw:wI E.quiet ops i j=true){s:S}{K:S->Prop}
  (h:dn E rec ops i s fun s1=>dn E rec ops j s1 K):dn E rec ops j s fun s2=>dn E rec ops i s2 K:=by
 simp only[wI,si,aa2,Bool.not_eq_true'] at hsw
 obtain⟨⟨⟨h1,h2⟩,h3⟩,h4⟩:=hsw
 have hc:er E.quiet i.op<2:=by
  split at h4
  ·omega
  ·omega
  ·cases h4
 have hj:er E.quiet i.op=1->er E.quiet j.op<2\/CM j.op=true:=by
  intro e
  rw[e] at h4
  simpa using h4
 obtain⟨a,g1,g2⟩:=pc hc h
 have hst:(put s i.dst a).st=s.st:=by cases i.dst<;>rfl
 have g3:dn E rec ops j (put s i.dst a) fun s'=>K s'/\(er E.quiet i.op=1->Kept s.st s'.st):=by
  rcases Nat.eq_zero_or_pos (er E.quiet i.op) with e|e
  ·exact dk hE hr (fun s' hk=>⟨hk,fun e2=>by omega⟩) g1
  ·refine dk hE hr (fun s' hk=>⟨hk.1,fun _=>?_⟩) (IN (hj (by omega)) g1)
   rw[←hst];exact hk.2
 refine mQ hE hr (ko h1).symm hst ?_ g3
 intro st b hs hk
 refine g2 _ _ ?_ ?_ ?_
 ·have:Looks ops i s {s with st:=st}:=fun _ _=>rfl
  intro t ht
  exact(this t ht).trans (ko h2 t ht)
 ·intro e
  have:=hk.2 e
  rw[cw] at this⊢
  exact this
 ·rw[←wY st h3];exact hk.1
theorem nT: ∀(l:List Bool) (i:Nat),(fb l i).length=l.length
 |[],_=>rfl
 |_::_,0=>rfl
 |_::l,i+1=>by simp[fb,nT l i]
theorem fC: ∀(l:List Bool) (i:Nat),fh (fb l i) i=true
 |[],_=>rfl
 |_::_,0=>rfl
 |_::l,i+1=>by simp only[fb,fh];exact fC l i
theorem dN: ∀(l:List Bool) (i j:Nat),i≠j->fh (fb l i) j=fh l j
 |[],_,_,_=>rfl
 |_::_,0,j,h=>by cases j with|zero=>exact absurd rfl h|succ j=>rfl
 |_::l,i+1,j,h=>by
  cases j with
  |zero=>rfl
  |succ j=>simp only[fb,fh];exact dN l i j (by omega)
theorem oP: ∀(l:List Bool) (i j:Nat),fb (fb l i) j=fb (fb l j) i
 |[],_,_=>rfl
 |_::_,0,0=>rfl
 |_::_,0,j+1=>rfl
 |_::_,i+1,0=>rfl
 |_::l,i+1,j+1=>by simp only[fb];rw[oP l i j]
theorem nP(listed:List Bool): ∀l:List Edge,ld listed l=true↔ ∀e,e∈l->Region.binds .any e=true->e.on<listed.length/\fh listed e.on=true
 |[]=>by simp[ld]
 | e::l=>by
  simp only[ld,aa2,nP listed l,List.forall_mem_cons,ab6,Bool.not_eq_true',Nat.blt_eq]
  constructor
  ·rintro⟨h1,h2⟩
   refine⟨fun hb=>?_,h2⟩
   rcases h1 with h1|h1
   ·rw[h1] at hb;cases hb
   ·exact h1
  ·rintro⟨h1,h2⟩
   refine⟨?_,h2⟩
   cases hb:Region.binds .any e with
   |false=>exact .inl rfl
   |true=>exact .inr (h1 hb)
theorem vZ(listed:List Bool): ∀(l:List Oper) (k i:Nat) (o:Oper),(i,o)∈jY listed l k↔ ∃m,i=k+m/\l[m]? =some o/\fh listed i=false/\ld listed o.after.toList=true
 |[],k,i,o=>by simp[jY]
 | b ::l,k,i,o=>by
  have ih:=vZ listed l (k+1) i o
  have tail:(i,o)∈jY listed l (k+1)↔ ∃m,i=k+(m+1)/\(b::l)[m+1]? =some o/\fh listed i=false/\ld listed o.after.toList=true:=by
   rw[ih]
   constructor
   ·rintro⟨m,h1,h2,h3⟩;exact⟨m,by omega,by simpa using h2,h3⟩
   ·rintro⟨m,h1,h2,h3⟩;exact⟨m,by omega,by simpa using h2,h3⟩
  simp only[jY]
  cases hb:(!fh listed k&&ld listed b.after.toList) with
  | true=>
   simp only[aa8,ac3,tail,ab0]
   simp only[aa2,Bool.not_eq_true'] at hb
   constructor
   ·rintro(⟨rfl,rfl⟩|⟨m,h⟩)
    ·exact⟨0,by omega,rfl,hb.1,hb.2⟩
    ·exact⟨m+1,h⟩
   ·rintro⟨m,h1,h2,h3⟩
    cases m with
    |zero=>simp at h2;exact .inl ⟨by omega,h2.symm⟩
    |succ m=>exact .inr ⟨m,h1,h2,h3⟩
  | false=>
   simp only[aa6,tail]
   constructor
   ·rintro⟨m,h⟩;exact⟨m+1,h⟩
   ·rintro⟨m,h1,h2,h3,h4⟩
    cases m with
    |zero=>
     simp at h2;subst h2
     simp only[Nat.add_zero] at h1;subst h1
     rw[h3,h4] at hb;simp at hb
    |succ m=>exact⟨m,h1,h2,h3,h4⟩
def lh(ops:List Oper)(listed:List Bool)(i:Nat)(o:Oper):Prop:=ops[i]? =some o/\fh listed i=false/\∀e,e∈o.after.toList->Region.binds .any e=true->e.on<listed.length/\fh listed e.on=true
theorem gk{ops:List Oper}{listed:List Bool}{i:Nat}{o:Oper}:(i,o)∈jY listed ops 0↔lh ops listed i o:=by
 rw[vZ]
 constructor
 ·rintro⟨m,h1,h2,h3,h4⟩
  obtain rfl:i=m:=by omega
  exact⟨h2,h3,(nP _ _).1 h4⟩
 ·rintro⟨h1,h2,h3⟩
  exact⟨i,by omega,h1,h2,(nP _ _).2 h3⟩
theorem lh.set{ops:List Oper}{listed:List Bool}{i j:Nat}{o:Oper}(h:lh ops listed i o)(hij:j≠i):lh ops (fb listed j) i o:=by
 refine⟨h.1,by rw[dN _ _ _ hij];exact h.2.1,fun e he hb=>?_⟩
 obtain⟨h1,h2⟩:=h.2.2 e he hb
 refine⟨by rw[nT];exact h1,?_⟩
 by_cases e':j=e.on
 ·subst e';exact fC _ _
 ·rw[dN _ _ _ e'];exact h2
inductive zC (ops:List Oper) (i:Nat):Nat->Prop
 |base (j:Nat) (b:Oper) (e:Edge) (h1:ops[j]? =some b) (h2:e∈b.after.toList) (h3:Region.binds .any e=true) (h4:e.on=i):zC ops i j
 |step (j:Nat) (b:Oper) (e:Edge) (h1:ops[j]? =some b) (h2:e∈b.after.toList) (h3:Region.binds .any e=true) (h4:zC ops i e.on):zC ops i j
def DC(ops:List Oper)(listed:List Bool):Prop:=∀j b,ops[j]? =some b->j<listed.length->fh listed j=true->∀e,e∈b.after.toList->Region.binds .any e=true->e.on<listed.length/\fh listed e.on=true
theorem Er{ops:List Oper}{listed:List Bool}(hd:DC ops listed){i j:Nat}(h:zC ops i j):j<listed.length->fh listed j=true->fh listed i=true:=by
 induction h with
 |base j b e h1 h2 h3 h4=>intro hl hn;rw[←h4];exact(hd j b h1 hl hn e h2 h3).2
 |step j b e h1 h2 h3 _ ih=>intro hl hn;exact ih (hd j b h1 hl hn e h2 h3).1 (hd j b h1 hl hn e h2 h3).2
theorem lh.dep{ops:List Oper}{listed:List Bool}(hd:DC ops listed){i j:Nat}{b:Oper}(h:lh ops listed j b)(hp:zC ops i j):fh listed i=true:=by
 cases hp with
 |base _ b' e h1 h2 h3 h4=>
  have:b'=b:=Option.some.inj (h1.symm.trans h.1)
  subst this
  rw[←h4];exact(h.2.2 e h2 h3).2
 |step _ b' e h1 h2 h3 h4=>
  have:b'=b:=Option.some.inj (h1.symm.trans h.1)
  subst this
  exact Er hd h4 (h.2.2 e h2 h3).1 (h.2.2 e h2 h3).2
theorem DC.jn(ops:List Oper)(n:Nat):DC ops (jn n):=fun j b _ hl hn=>by
 have: ∀(n j:Nat),j<(Go.Dn.jn n).length->fh (Go.Dn.jn n) j=false:=by
  intro n
  induction n with
  |zero=>intro j h;simp[Go.Dn.jn] at h
  |succ n ih=>intro j h;cases j with|zero=>rfl|succ j=>simp only[Go.Dn.jn,fh];exact ih j (by simpa[Go.Dn.jn] using h)
 rw[this n j hl] at hn;cases hn
theorem DC.set{ops:List Oper}{listed:List Bool}(hd:DC ops listed){i:Nat}{o:Oper}(h:lh ops listed i o):DC ops (fb listed i):=by
 intro j b hb hl hn e he hbi
 rw[nT] at hl⊢
 have key:e.on<listed.length/\fh listed e.on=true:=by
  by_cases hij:i=j
  ·subst hij
   have:b=o:=Option.some.inj (hb.symm.trans h.1)
   subst this
   exact h.2.2 e he hbi
  ·rw[dN _ _ _ hij] at hn
   exact hd j b hb hl hn e he hbi
 refine⟨key.1,?_⟩
 by_cases e':i=e.on
 ·subst e';exact fC _ _
 ·rw[dN _ _ _ e'];exact key.2
theorem yI(acc:List Nat): ∀l:List Edge,xQ acc l=true->∃e,e∈l/\Region.binds .any e=true/\e.on∈acc
 |[],h=>by simp[xQ] at h
 | e::l,h=>by
  simp only[xQ,ab6,aa2] at h
  rcases h with⟨h1,h2⟩|h
  ·exact⟨e,by simp,h1,(kQ _ _).1 h2⟩
  ·obtain⟨e',h1,h2⟩:=yI acc l h
   exact⟨e',by simp[h1],h2⟩
theorem nX{ops:List Oper}{i:Nat}: ∀(l:List Oper) (k:Nat) (acc:List Nat),(∀m b,l[m]? =some b->ops[k+m]? =some b)->(∀j,j∈acc->j=i\/zC ops i j)->∀j,j∈fwd l k acc->j=i\/zC ops i j
 |[],_,_,_,ha,j,hj=>ha j hj
 | o::l,k,acc,hl,ha,j,hj=>by
  simp only[fwd] at hj
  have hl': ∀m b,l[m]? =some b->ops[k+1+m]? =some b:=fun m b hm=>by
   have:=hl (m+1) b (by simpa using hm)
   rwa [show k+1+m=k+(m+1) by omega]
  cases hb:xQ acc o.after.toList with
  |false=>rw[hb] at hj;exact nX l (k+1) acc hl' ha j hj
  | true=>
   rw[hb] at hj
   refine nX l (k+1) (k::acc) hl' (fun j' hj'=>?_) j hj
   rcases List.mem_cons.1 hj' with rfl|hj'
   ·obtain⟨e,h1,h2,h3⟩:=yI _ _ hb
    rcases ha _ h3 with h4|h4
    ·exact .inr (.base _ o e (hl 0 o rfl) h1 h2 h4)
    ·exact .inr (.step _ o e (hl 0 o rfl) h1 h2 h4)
   ·exact ha j' hj'
def JS(quiet:FuncId->Bool)(ops:List Oper)(listed:List Bool)(i:Nat)(o:Oper):Prop:=
 ∀j b,ops[j]? =some b->i≠j->fh listed j=false-> ¬ zC ops i j->wI quiet ops o b=true
theorem free_spec{quiet:FuncId->Bool}{ops:List Oper}{listed:List Bool}{i:Nat}{o:Oper}{fs:List Nat}(hfs: ∀j,j∈fs->j=i\/zC ops i j): ∀(l:List Oper) (k:Nat),fV quiet ops listed i o fs l k=true->∀m b,l[m]? =some b->i≠k+m->fh listed (k+m)=false-> ¬ zC ops i (k+m)->wI quiet ops o b=true
 |[],_,_,m,b,h,_,_,_=>by simp at h
 | x::l,k,h,m,b,hm,hi,hn,he=>by
  simp only[fV,aa2,ab6] at h
  cases m with
  | zero=>
   simp at hm;subst hm
   rcases h.1 with((h1|h1)|h1)|h1
   ·exact absurd (Nat.eq_of_beq_eq_true h1) (by simpa using hi)
   ·rw[show k+0=k from rfl] at hn;rw[hn] at h1;cases h1
   ·rcases hfs _ ((kQ _ _).1 h1) with h2|h2
    ·exact absurd h2.symm (by simpa using hi)
    ·exact absurd h2 (by simpa using he)
   ·exact h1
  |succ m=>
   refine free_spec hfs l (k+1) h.2 m b (by simpa using hm) (by omega) ?_ ?_
   ·rw[show k+1+m=k+(m+1) by omega];exact hn
   ·rw[show k+1+m=k+(m+1) by omega];exact he
theorem JS.set{quiet:FuncId->Bool}{ops:List Oper}{listed:List Bool}{i j:Nat}{o:Oper}(h:JS quiet ops listed i o):JS quiet ops (fb listed j) i o:=by
 intro k b hb hk hn he
 refine h k b hb hk ?_ he
 by_cases e:j=k
 ·subst e;rw[fC] at hn;cases hn
 ·rwa [dN _ _ _ e] at hn
def kP(E:Env)(rec:Rec)(ops:List Oper):Nat->List Bool->S->(S->Prop)->Prop
 |0,listed,s,K=>(∀i o,¬ lh ops listed i o)/\K s
 |n+1,listed,s,K=>((∀i o,¬ lh ops listed i o)->K s)/\∀i o,lh ops listed i o->dn E rec ops o s fun s'=>kP E rec ops n (fb listed i) s' K
theorem v7{E:Env}(hE:aj E){rec:Rec}(hr:eB rec){ops:List Oper}{K:S->Prop}: ∀(n:Nat) (listed:List Bool) (s:S) (i:Nat) (o:Oper),DC ops listed->lh ops listed i o->JS E.quiet ops listed i o->
  (dn E rec ops o s fun s'=>kP E rec ops n (fb listed i) s' K)->kP E rec ops (n+1) listed s K
 | n,listed,s,i,o,hdc,hi,hf,h=>by
  refine⟨fun hn=>absurd hi (hn i o),fun j b hj=>?_⟩
  by_cases hij:i=j
  ·subst hij
   have:o=b:=Option.some.inj (hi.1.symm.trans hj.1)
   subst this;exact h
  ·have hsw:wI E.quiet ops o b=true:=hf j b hj.1 hij hj.2.1 (fun hp=>by
    have:=hj.dep hdc hp
    rw[hi.2.1] at this;cases this)
   cases n with
   | zero=>
    have hc:er E.quiet o.op<2:=by
     simp only[wI,aa2] at hsw
     have h4:=hsw.2
     split at h4
     ·omega
     ·omega
     ·cases h4
    obtain⟨a,h1,_⟩:=pc hc h
    exact absurd (hj.set hij) (h1.1 j b)
   | succ n=>
    have h':dn E rec ops o s fun s1=>dn E rec ops b s1 fun s2=>kP E rec ops n (fb (fb listed i) j) s2 K:=
     dk hE hr (fun s1 h1=>h1.2 j b (hj.set hij)) h
    refine dk hE hr (fun s2 h2=>?_) (Ig hE hr hsw h')
    rw[oP] at h2
    exact v7 hE hr n (fb listed j) s2 i o (hdc.set hj) (hi.set (Ne.symm hij)) hf.set h2
theorem x0{p:Nat->Oper->Prop}: ∀(l:List (Nat×Oper)),HF p l->∀i o,(i,o)∈l->p i o
 |[],_,i,o,h=>by simp at h
 |[(j,b)],h,i,o,hi=>by
  simp only[List.mem_singleton,ab0] at hi
  obtain⟨rfl,rfl⟩:=hi;exact h
 |(j,b)::x::l,h,i,o,hi=>by
  simp only[HF] at h
  rcases List.mem_cons.1 hi with hi|hi
  ·cases hi;exact h.1
  ·exact x0 (x::l) h.2 i o hi
theorem pq{quiet:FuncId->Bool}{ops:List Oper}{listed:List Bool}: ∀(l:List (Nat×Oper)) {i:Nat} {o:Oper},ot quiet ops listed l=some (i,o)->(i,o)∈l/\fV quiet ops listed i o (fwd ops 0 [i]) ops 0=true
 |[],i,o,h=>by simp[ot] at h
 | (j,b)::l,i,o,h=>by
  simp only[ot] at h
  cases hb:fV quiet ops listed j b (fwd ops 0 [j]) ops 0 with
  |true=>rw[hb] at h;simp at h;obtain⟨rfl,rfl⟩:=h;exact⟨by simp,hb⟩
  |false=>
   rw[hb] at h
   obtain⟨h1,h2⟩:=pq l h
   exact⟨by simp[h1],h2⟩
def cf(st st':List Obj):Prop:=(∀k,jP (aw st k)=true->aw st' k=aw st k)/\∀k T E ls pd,aw st k= .rows T E ls pd->∃ls' pd',aw st' k= .rows T E ls' pd'
theorem GH{st:List Obj}{k:Nat}(h:aw st k≠ .dead):k<st.length:=by
 rcases Nat.lt_or_ge k st.length with h1|h1
 ·exact h1
 ·exact absurd (eo _ _ h1) h
theorem cf.refl(st:List Obj):cf st st:=⟨fun _ _=>rfl,fun _ _ _ ls pd h=>⟨ls,pd,h⟩⟩
theorem cf.trans{a b c:List Obj}(h1:cf a b)(h2:cf b c):cf a c:=⟨fun k hk=>by
 rw[h2.1 k (by rw[h1.1 k hk];exact hk),h1.1 k hk],fun k T E ls pd h=>by
 obtain⟨_,_,h⟩:=h1.2 k T E ls pd h
 exact h2.2 k T E _ _ h⟩
theorem cf.of{st st':List Obj}(h: ∀k,aw st k≠ .dead->jP (aw st k)=true\/zc (aw st k)=true->aw st' k=aw st k):cf st st':=
 ⟨fun k hk=>h k (by intro e;rw[e] at hk;cases hk) (.inl hk),fun k T E ls pd hk=>⟨ls,pd,by rw[h k (by rw[hk];simp) (.inr (by rw[hk];rfl)),hk]⟩⟩
theorem cf.app(st l:List Obj):cf st (st++l):= .of fun _ hk _=>dT _ _ _ (GH hk)
theorem cf.set{st:List Obj}{i:Nat}{T:TypeId}{xs:List AV}{o:Obj}(h:aw st i= .row T xs):cf st (db st i o):= .of fun k _ hk=>by
 refine bz _ _ _ _ (fun e=>?_)
 subst e
 rw[h] at hk
 rcases hk with hk|hk<;>cases hk
theorem cf.rows{st:List Obj}{i:Nat}{T E:TypeId}{ls ls':List (List Value)}{pd pd':Option Nat}(h:aw st i= .rows T E ls pd):cf st (db st i (.rows T E ls' pd')):=by
 refine⟨fun k hk=>bz _ _ _ _ (fun e=>?_),fun k T' E' l p hk=>?_⟩
 ·subst e;rw[h] at hk;cases hk
 ·by_cases e:i=k
  ·subst e
   rw[h] at hk;cases hk
   exact⟨_,_,bp _ _ _ (GH (by rw[h];simp))⟩
  ·exact⟨l,p,by rw[bz _ _ _ _ e];exact hk⟩
theorem cf.freeze: ∀(is:List Nat) (st:List Obj),cf st (cP st is)
 |[],st=> .refl st
 | i::is,st=>by
  refine cf.trans (.of ?_) (cf.freeze is _)
  intro k hd hk
  by_cases e:i=k
  ·subst e
   rw[bp _ _ _ (GH hd)]
   cases ho:aw st i<;>rw[ho] at hk<;>first|rfl|(rcases hk with hk|hk<;>cases hk)
  ·exact bz _ _ _ _ e
theorem rh: ∀{st st':List Obj},rD st st'->∀k,aw st k≠ .dead->jP (aw st k)=true\/zc (aw st k)=true->aw st' k=aw st k
 |[],_,_,k,hd,_=>absurd rfl hd
 |a::l,[],h,_,_,_=>by cases a<;>exact h.elim
 |a::l,o::l',h,0,_,hk=>by
  cases a<;>first|exact h.1|(rcases hk with hk|hk<;>cases hk)
 |a::l,o::l',h,k+1,hd,hk=>rh (st:=l) (st':=l') (by cases a<;>first|exact h.2|exact h) k hd hk
theorem Kh{quiet:FuncId->Bool}{o:Op}(h:yF o=true):er quiet o=2/\∀s,gx s o=none:=by
 cases o with
 |call c=>
  obtain⟨callee,args,ats⟩:=c
  cases callee with
  |builtin b=>cases b<;>first|exact⟨rfl,fun _=>rfl⟩|cases h
  |value g=>cases h
  |invoke r m=>cases h
 |buildSlice T n ps=>exact⟨rfl,fun _=>rfl⟩
 |makeSlice T a b=>exact⟨rfl,fun _=>rfl⟩
 |alloc T=>exact⟨rfl,fun _=>rfl⟩
 |box T x=>exact⟨rfl,fun _=>rfl⟩
 |makeMap T x=>cases x<;>first|exact⟨rfl,fun _=>rfl⟩|cases h
 |_=>cases h
theorem Bw{P:Pg}{s:S}{dst:Option Tmp}{o:Op}(hg:yF o=true){K:S->Prop}(h:cr P s dst o K):cr P s dst o fun s'=>K s'/\cf s.st s'.st:=by
 cases o with
 |alloc T=>
  simp only[cr] at h⊢
  split at h<;>try exact h.elim
  exact⟨h,by rw[cw];exact cf.app _ _⟩
 |box T x=>
  simp only[cr] at h⊢
  split at h<;>try exact h.elim
  rename_i h1
  rw[if_pos h1]
  exact⟨h,by rw[cw];exact cf.app _ _⟩
 | makeMap T x=>
  cases x with
  |some y=>cases hg
  |none=>
   simp only[cr] at h⊢
   split at h<;>try exact h.elim
   exact⟨h,by rw[cw];exact cf.app _ _⟩
 |buildSlice T n ps=>
  simp only[cr] at h⊢
  split at h<;>try exact h.elim
  split at h<;>try exact h.elim
  split at h<;>try exact h.elim
  split at h<;>try exact h.elim
  rename_i h4
  rw[if_pos h4]
  exact⟨h,by rw[cw];exact(cf.freeze _ _).trans (cf.app _ _)⟩
 |makeSlice T a b=>
  simp only[cr] at h⊢
  split at h<;>try exact h.elim
  split at h<;>try exact h.elim
  exact dj (fun h=>⟨h,by rw[cw];exact cf.app _ _⟩) h
 | call c=>
  obtain⟨callee,args,ats⟩:=c
  cases callee with
  | builtin b=>
   cases b<;>try (cases hg;done)
   simp only[cr] at h⊢
   split at h<;>try exact h.elim
   split at h<;>try exact h.elim
   rename_i h3
   rw[if_pos h3]
   unfold oT at h⊢
   split at h<;>try exact h.elim
   split at h<;>try exact h.elim
   split at h<;>try exact h.elim
   split at h<;>try exact h.elim
   ·exact dj (fun h=>⟨h,by rw[cw];exact cf.app _ _⟩) h
   ·split at h<;>try exact h.elim
    ·split at h<;>try exact h.elim
     rename_i k1 k2
     rw[if_pos k2]
     exact dj (fun h=>⟨h,by rw[cw];exact(cf.set k1).trans (cf.app _ _)⟩) h
    ·rename_i k1
     split at h<;>try exact h.elim
     rename_i k2
     simp only[k2]
     split at h<;>try exact h.elim
     rename_i k3
     rw[if_pos k3]
     exact dj (fun h=>⟨h,by rw[cw];exact cf.rows k1⟩) h
  |value g=>cases hg
  |invoke r m=>cases hg
 |_=>cases hg
theorem I0{E:Env}(hE:aj E){rec:Rec}{g:AV}{args:List AV}{st:List Obj}{K:AV->List Obj->Prop}(hl:II E g args st=true)(h:oG E rec g args st K):oG E rec g args st fun a st'=>K a st'/\cf st st':=by
 unfold II at hl
 split at hl
 ·rename_i f caps
  simp only[aa2,Bool.not_eq_true'] at hl
  obtain⟨⟨h1,h2⟩,h3⟩:=hl
  unfold oG at h⊢
  simp only[h1,h2,Bool.false_eq_true,if_false] at h⊢
  split at h3
  ·rename_i as hle
   rw[hle] at h⊢
   simp only[cP] at h⊢
   have hr:cW (pE E.P (kB E.P f) as)=[]:=by
    unfold Lk at h3
    split at h3
    ·rename_i he;exact he
    ·cases h3
   unfold pT at h⊢
   refine dj (fun h=>?_) h
   rw[lu] at h⊢
   refine hE.call _ _ _ _ _ (fun r sub h=>?_) h
   rw[mP,kK] at h⊢
   refine⟨h,?_⟩
   have hi:reach st (st.length*st.length+st.length+20) (cW (pE E.P (kB E.P f) as)) []=[]:=by
    rw[hr,show st.length*st.length+st.length+20=(st.length*st.length+st.length+19)+1 from rfl,reach]
   rw[hi]
   simp only[fg,fg.go]
   exact cf.app _ _
  ·cases h3
 ·cases hl
theorem vz{E:Env}(hE:aj E){rec:Rec}(hr:eB rec){ops:List Oper}{b:Oper}{s:S}{K:S->Prop}(hb:(er E.quiet b.op<2\/yF b.op=true)\/xa E.calm b.op=true)(h:dn E rec ops b s K):dn E rec ops b s fun s'=>K s'/\cf s.st s'.st:=by
 have small:er E.quiet b.op<2->dn E rec ops b s fun s'=>K s'/\cf s.st s'.st:=fun hb=>by
  obtain⟨a,h1,h2⟩:=pc hb h
  exact h2 s _ (fun _ _=>rfl) (fun _=>Kept.refl _) ⟨h1,by rw[cw];exact .refl _⟩
 rcases hb with(hb|hb)|hb
 ·exact small hb
 ·rw[ea] at h⊢
  refine iF (fun _ _=>rfl) (fun h=>?_) (fun h=>⟨h,by rw[cw];exact .refl _⟩) h
  obtain⟨e1,e2⟩:=Kh (quiet:=E.quiet) hb
  unfold tw at h⊢
  rw[e1] at h⊢
  simp only[e2] at h⊢
  exact Bw hb h
 ·by_cases hlt:er E.quiet b.op<2
  ·exact small hlt
  ·rw [ea] at h⊢
   refine iF (fun _ _=>rfl) (fun h=>?_) (fun h=>⟨h,by rw[cw];exact .refl _⟩) h
   have e1:er E.quiet b.op=2/\∃g args,∀s,gx s b.op=some (ev s g,np s args):=by
    cases ho:b.op with
    | call c=>
     obtain⟨callee,args,ats⟩:=c
     rw[ho] at hb hlt
     cases callee with
     | value g=>
      cases g with
      | func f=>
       simp only[er] at hlt⊢
       cases hq:E.quiet f with
       |true=>
        rw[hq,aa8] at hlt
        exfalso;apply hlt
        cases Jf args.toList<;>decide
       |false=>exact⟨rfl,_,_,fun _=>rfl⟩
      |_=>cases hb
     |_=>cases hb
    |_=>rw[ho] at hb;cases hb
   obtain⟨e1,g,args,e2⟩:=e1
   unfold tw at h⊢
   rw[e1] at h⊢
   simp only[e2] at h⊢
   cases hL:II E (ev s g) (np s args) s.st with
   |false=>
    refine mA hE hr (fun a st h=>?_) h
    rw[hb] at h⊢
    try rw[hL] at h
    exact⟨h.1,h.2,by rw[cw];exact .of (rh h.1)⟩
   |true=>
    refine mA hE hr (fun a st h=>?_) (I0 hE hL h)
    rw[hb] at h⊢
    try rw[hL] at h
    exact⟨h.1,by rw[cw];exact h.2⟩
theorem I4{P:Program}{st st':List Obj}{T:TypeId}{k:Nat}{i:Nat}{p:List Nat}{off:Nat}(h:aw st' i=aw st i):nj P st' T (.ptr i k p off)=nj P st T (.ptr i k p off):=by
 simp only[nj,h]
theorem La{P:Program}{st st':List Obj}{T:TypeId}(U:TypeId)(l:List AV):Ah P st' T (.ad U l)=Ah P st T (.ad U l):=by
 unfold Ah
 cases P.underlying T with
 |none=>rfl
 |some d=>cases d<;>rfl
theorem qj{E:Env}{s s':S}{o:Oper}(h:nQ s o=true)(hs:tC o.op s s')(hk:cf s.st s'.st):o.guard=none/\(er E.quiet o.op=1/\∀c a b,o.op≠ .pick c a b)/\bJ E s' o.op=bJ E s o.op/\nQ s' o=true:=by
 unfold nQ at h⊢
 split at h<;>try (cases h;done)
 ·rename_i T x hg ho
  have he:ev s x=ev s' x:=hs.ev x (by rw[ho];simp[opsOf])
  refine⟨hg,⟨by rw[ho];rfl,fun c a b e=>by rw[ho] at e;cases e⟩,?_,?_⟩
  ·rw[ho];simp only[bJ];rw[←he]
   split at h<;>try (cases h;done)
   ·rename_i hx;rw[hx,I4 (hk.1 _ h)]
   ·rename_i hx;rw[hx];rfl
   ·rename_i hx;rw[hx];rfl
  ·rw[←he]
   split at h<;>try (cases h;done)
   ·rw[hk.1 _ h];exact h
   ·rename_i hx;simp only[hx]
   ·rename_i hx;simp only[hx]
 ·rename_i args ats hg ho
  have he:np s args.toList=np s' args.toList:=gH (fun x hx=>hs.ev x (by rw[ho];simpa only[opsOf] using hx))
  refine⟨hg,⟨by rw[ho];rfl,fun c a b e=>by rw[ho] at e;cases e⟩,?_,?_⟩
  ·rw[ho];simp only[bJ];rw[←he]
   split at h<;>try (cases h;done)
   rename_i hx;rw[hx]
   cases ats.toList with
   |nil=>rfl
   |cons T l=>simp only[La (st:=s.st) (st':=s'.st)]
  ·rw[←he];exact h
 ·rename_i x hg ho
  have he:ev s x=ev s' x:=hs.ev x (by rw[ho];simp[opsOf])
  refine⟨hg,⟨by rw[ho];rfl,fun c a b e=>by rw[ho] at e;cases e⟩,?_,?_⟩
  ·rw[ho];simp only[bJ];rw[←he]
   split at h<;>try (cases h;done)
   rename_i hx;rw[hx];simp only[kR,hk.1 _ h];rfl
  ·rw[←he]
   split at h<;>try (cases h;done)
   rw[hk.1 _ h];exact h
 ·rename_i T x f hg ho
  have he:ev s x=ev s' x:=hs.ev x (by rw[ho];simp[opsOf])
  refine⟨hg,⟨by rw[ho];rfl,fun c a b e=>by rw[ho] at e;cases e⟩,?_,?_⟩
  ·rw[ho];simp only[bJ];rw[←he]
   split at h<;>try (cases h;done)
   rename_i hx;rw[hx];simp only[gw,kR,hk.1 _ h];rfl
  ·rw[←he]
   split at h<;>try (cases h;done)
   rw[hk.1 _ h];exact h
 ·rename_i T x i hg ho
  have he:ev s x=ev s' x:=hs.ev x (by rw[ho];simp[opsOf])
  have hi:ev s i=ev s' i:=hs.ev i (by rw[ho];simp[opsOf])
  refine⟨hg,⟨by rw[ho];rfl,fun c a b e=>by rw[ho] at e;cases e⟩,?_,?_⟩
  ·rw[ho];simp only[bJ];rw[←he,←hi]
   split at h<;>try (cases h;done)
   rename_i k n hx
   cases ho':aw s.st k<;>rw[ho'] at h<;>try (cases h;done)
   obtain⟨ls',pd',e⟩:=hk.2 k _ _ _ _ ho'
   rw[hx];simp only[gI,ho',e,hJ]
  ·rw[←he]
   split at h<;>try (cases h;done)
   rename_i k n hx
   cases ho':aw s.st k<;>rw[ho'] at h<;>try (cases h;done)
   obtain⟨ls',pd',e⟩:=hk.2 k _ _ _ _ ho'
   rw[e];rfl
theorem xi{E:Env}{rec:Rec}{ops:List Oper}{o:Oper}{s:S}{K:S->Prop}(hs:nQ s o=true)(h:dn E rec ops o s K): ∃a,K (put s o.dst a)/\∀(s':S) (K':S->Prop),Looks ops o s s'->cf s.st s'.st->K' (put s' o.dst a)->dn E rec ops o s' K':=by
 obtain⟨hg,⟨hcl,hnp⟩,_,_⟩:=qj (E:=E) hs (Looks.same (ops:=ops) (s2:=s) (fun _ _=>rfl)) (.refl _)
 have h0:tw E rec s o.dst o.op K:=by
  unfold dn at h;rw[hg] at h;exact h
 have h1: ∃c a,bJ E s o.op=some (c,a)/\c=true/\K (put s o.dst a):=by
  unfold tw at h0
  rw[hcl] at h0
  simp only[] at h0
  split at h0
  ·rename_i c a hr
   obtain⟨q1,q2⟩:=aq.1 h0
   exact⟨c,a,hr,q1,q2⟩
  ·exact h0.elim
 obtain⟨c,a,hr,hc,hk⟩:=h1
 refine⟨a,hk,fun s' K' hl hb hk'=>?_⟩
 obtain⟨_,_,hr',_⟩:=qj (E:=E) hs hl.same hb
 rw[hr] at hr'
 unfold dn
 rw[hg]
 unfold tw
 rw[hcl]
 simp only[hr']
 exact aq.2 ⟨hc,hk'⟩
def B8(quiet calm:FuncId->Bool)(ops:List Oper)(listed:List Bool)(i:Nat)(o:Oper):Prop:=
 ∀j b,ops[j]? =some b->i≠j->fh listed j=false-> ¬ zC ops i j->w6 quiet calm ops o b=true
theorem wm{quiet calm:FuncId->Bool}{ops:List Oper}{listed:List Bool}{i:Nat}{o:Oper}{fs:List Nat}(hfs: ∀j,j∈fs->j=i\/zC ops i j): ∀(l:List Oper) (k:Nat),x4 quiet calm ops listed i o fs l k=true->∀m b,l[m]? =some b->i≠k+m->fh listed (k+m)=false-> ¬ zC ops i (k+m)->w6 quiet calm ops o b=true
 |[],_,_,m,b,h,_,_,_=>by simp at h
 | x::l,k,h,m,b,hm,hi,hn,he=>by
  simp only[x4,aa2,ab6] at h
  cases m with
  | zero=>
   simp at hm;subst hm
   rcases h.1 with((h1|h1)|h1)|h1
   ·exact absurd (Nat.eq_of_beq_eq_true h1) (by simpa using hi)
   ·rw[show k+0=k from rfl] at hn;rw[hn] at h1;cases h1
   ·rcases hfs _ ((kQ _ _).1 h1) with h2|h2
    ·exact absurd h2.symm (by simpa using hi)
    ·exact absurd h2 (by simpa using he)
   ·exact h1
  |succ m=>
   refine wm hfs l (k+1) h.2 m b (by simpa using hm) (by omega) ?_ ?_
   ·rw[show k+1+m=k+(m+1) by omega];exact hn
   ·rw[show k+1+m=k+(m+1) by omega];exact he
theorem B8.set{quiet calm:FuncId->Bool}{ops:List Oper}{listed:List Bool}{i j:Nat}{o:Oper}(h:B8 quiet calm ops listed i o):B8 quiet calm ops (fb listed j) i o:=by
 intro k b hb hk hn he
 refine h k b hb hk ?_ he
 by_cases e:j=k
 ·subst e;rw[fC] at hn;cases hn
 ·rwa [dN _ _ _ e] at hn
theorem s6{E:Env}(hE:aj E){rec:Rec}(hr:eB rec){ops:List Oper}{K:S->Prop}: ∀(n:Nat) (listed:List Bool) (s:S) (i:Nat) (o:Oper),DC ops listed->lh ops listed i o->B8 E.quiet E.calm ops listed i o->nQ s o=true->
  (dn E rec ops o s fun s'=>kP E rec ops n (fb listed i) s' K)->kP E rec ops (n+1) listed s K
 | n,listed,s,i,o,hdc,hi,hf,hst,h=>by
  refine⟨fun hn=>absurd hi (hn i o),fun j b hj=>?_⟩
  by_cases hij:i=j
  ·subst hij
   have:o=b:=Option.some.inj (hi.1.symm.trans hj.1)
   subst this;exact h
  ·have hsw:w6 E.quiet E.calm ops o b=true:=hf j b hj.1 hij hj.2.1 (fun hp=>by
    have:=hj.dep hdc hp
    rw[hi.2.1] at this;cases this)
   simp only[w6,si,aa2,ab6,Bool.not_eq_true',Nat.blt_eq] at hsw
   obtain⟨⟨⟨q1,q2⟩,q3⟩,q4⟩:=hsw
   cases n with
   |zero=>
    obtain⟨a,h1,_⟩:=xi hst h
    exact absurd (hj.set hij) (h1.1 j b)
   | succ n=>
    have h':dn E rec ops o s fun s1=>dn E rec ops b s1 fun s2=>kP E rec ops n (fb (fb listed i) j) s2 K:=
     dk hE hr (fun s1 h1=>h1.2 j b (hj.set hij)) h
    obtain⟨a,g1,g2⟩:=xi hst h'
    have g3:=vz hE hr q4 g1
    refine mQ hE hr (ko q1).symm (cw s o.dst a) ?_ g3
    intro st c _ hk
    obtain⟨k1,k2⟩:=hk
    rw[cw,cw] at k2
    have hbk:cf s.st (put {s with st:=st} b.dst c).st:=by rw[cw];exact k2
    have hlk:Looks ops o s (put {s with st:=st} b.dst c):=by
     have:Looks ops o s {s with st:=st}:=fun _ _=>rfl
     intro t ht
     exact(this t ht).trans (ko q2 t ht)
    have key:=g2 (put {s with st:=st} b.dst c) (fun s2=>kP E rec ops n (fb (fb listed j) i) s2 K) hlk hbk (by
     rw[←wY st q3,oP];exact k1)
    exact s6 hE hr n (fb listed j) _ i o (hdc.set hj) (hi.set (Ne.symm hij)) hf.set (qj (E:=E) hst hlk.same hbk).2.2.2 key
def nu(P:Program)(T:Option TypeId)(st st':List Obj):Prop:=∀k Tb a,aw st k= .box Tb a->∃a',aw st' k= .box Tb a'/\
 ∀T1,T=some T1->fx P T1=false->∀path,js P Tb path=some T1->mC a' path=mC a path/\nk a' path=nk a path/\gV a' path=gV a path
theorem nu.refl(P:Program)(T:Option TypeId)(st:List Obj):nu P T st st:=fun _ _ a h=>⟨a,h,fun _ _ _ _ _=>⟨rfl,rfl,rfl⟩⟩
theorem nu.of{P:Program}{T:Option TypeId}{st st':List Obj}(h:cf st st'):nu P T st st':=fun k Tb a hk=>⟨a,by rw[h.1 k (by rw[hk];rfl),hk],fun _ _ _ _ _=>⟨rfl,rfl,rfl⟩⟩
theorem BF{P:Program}{T:TypeId}(h:fx P T=false):fieldsOf P T=[]:=by
 unfold fx at h
 unfold fieldsOf
 split at h<;>simp_all
theorem wK{P:Program}{T1 T2:TypeId}(h1:fx P T1=false)(h2:fx P T2=false)(hne:T1≠T2): ∀(q p:List Nat) (Tb:TypeId) (a x:AV),js P Tb p=some T1->js P Tb q=some T2->nk a q=true->wid x=wid (mC a q)->
  mC (fS a q x) p=mC a p/\nk (fS a q x) p=nk a p/\gV (fS a q x) p=gV a p
 |[],p,Tb,a,x,e1,e2,_,_=>by
  simp only[js,aa4] at e2
  subst e2
  cases p with
  |nil=>simp only[js,aa4] at e1;exact absurd e1.symm hne
  |cons i p=>simp only[js,BF h2,mO] at e1;cases e1
 |j::q,[],Tb,a,x,e1,e2,_,_=>by
  simp only[js,aa4] at e1
  subst e1
  simp only[js,BF h1,mO] at e2;cases e2
 | j ::q,i::p,Tb,a,x,e1,e2,hi,hw=>by
  cases a with
  | agg l=>
   simp only[nk,aa2,aa1] at hi
   simp only[mC,ae] at hw
   have hwj:wid (fS (nth l j) q x)=wid (nth l j):=lX q _ _ hi.2 hw
   simp only[fS,mC,ae,nk,gV,fJ]
   by_cases e:j=i
   ·subst e
    simp only[js] at e1 e2
    cases hf:mO (fieldsOf P Tb) j with
    |none=>rw[hf] at e1;cases e1
    |some fd=>
     rw[hf] at e1 e2
     have:=wK h1 h2 hne q p fd.type (nth l j) x e1 e2 hi.2 hw
     rw[lM _ _ _ hi.1,this.1,this.2.1,this.2.2,wA _ _ _ _ hwj]
     exact⟨rfl,rfl,rfl⟩
   ·rw[jc _ _ _ _ e,wA _ _ _ _ hwj]
    exact⟨rfl,rfl,rfl⟩
  |_=>simp[nk] at hi
theorem Bu{P:Pg}{T:Option TypeId}{s:S}{dst:Option Tmp}{o:Op}(hb:zK P.toProgram T o=true){K:S->Prop}(h:cr P s dst o K):cr P s dst o fun s'=>K s'/\nu P.toProgram T s.st s'.st:=by
 cases o with
 | store U p x=>
  simp only[cr] at h⊢
  unfold qa at h⊢
  have rowT: ∀i (ob ob':Obj),aw s.st i=ob->jP ob=false->nu P.toProgram T s.st (db s.st i ob'):=fun i ob ob' h1 h2 k Tb a hk=>by
   refine⟨a,?_,fun _ _ _ _ _=>⟨rfl,rfl,rfl⟩⟩
   rw[bz _ _ _ _ (fun e=>by subst e;rw[h1] at hk;subst hk;cases h2)];exact hk
  have frzT: ∀is i (ob ob':Obj),aw (cP s.st is) i=ob->jP ob=false->nu P.toProgram T s.st (db (cP s.st is) i ob'):=fun is i ob ob' h1 h2 k Tb a hk=>by
   have hz:aw (cP s.st is) k= .box Tb a:=by rw[(cf.freeze is s.st).1 k (by rw[hk];rfl),hk]
   refine⟨a,?_,fun _ _ _ _ _=>⟨rfl,rfl,rfl⟩⟩
   rw[bz _ _ _ _ (fun e=>by subst e;rw[h1] at hz;subst hz;cases h2)];exact hz
  split at h<;>try exact h.elim
  rename_i i k path off hev
  split at h<;>try exact h.elim
  ·rename_i Tb a hst
   split at h<;>try exact h.elim
   rename_i hc
   rw[if_pos hc]
   refine⟨h,?_⟩
   rw[cw]
   simp only[aa2,beq_iff_eq] at hc
   obtain⟨⟨⟨⟨⟨⟨c1,c2⟩,c3⟩,c4⟩,_⟩,_⟩,c7⟩:=hc
   intro k' Tb' a' hk'
   by_cases e:i=k'
   ·subst e
    rw[hst] at hk';cases hk'
    refine⟨_,bp _ _ _ (GH (by rw[hst];simp)),fun T1 hT hA p hp=>?_⟩
    subst hT
    simp only[zK,aa2,Bool.not_eq_true'] at hb
    have hU:js P.toProgram Tb path=some U:=by
     unfold vB at c7
     split at c7
     ·rename_i V hV;rw[hV,Nat.eq_of_beq_eq_true c7]
     ·cases c7
    exact wK hA hb.2 (fun e=>by subst e;rw[Nat.beq_refl] at hb;cases hb.1) path p Tb a (ev s x) hp hU c1 (by rw[c3,c4])
   ·exact⟨a',by rw[bz _ _ _ _ e];exact hk',fun _ _ _ _ _=>⟨rfl,rfl,rfl⟩⟩
  ·split at h<;>try exact h.elim
   rename_i x' Tr xs hx' hst
   split at h<;>try exact h.elim
   rename_i hc
   simp only[hst]
   rw[if_pos hc]
   exact⟨h,by rw[cw];exact frzT _ _ _ _ hst rfl⟩
  ·rename_i Tr E ls kp hst
   split at h<;>try exact h.elim
   split at h<;>try exact h.elim
   rename_i hc
   rw[if_pos hc]
   exact dj (fun h=>⟨h,by rw[cw];exact rowT _ _ _ hst rfl⟩) h
 |_=>cases T<;>cases hb
theorem Bk{E:Env}(hE:aj E){rec:Rec}(hr:eB rec){ops:List Oper}{b:Oper}{s:S}{T:Option TypeId}{K:S->Prop}(hb:((er E.quiet b.op<2\/yF b.op=true)\/xa E.calm b.op=true)\/zK E.P.toProgram T b.op=true)(h:dn E rec ops b s K):dn E rec ops b s fun s'=>K s'/\nu E.P.toProgram T s.st s'.st:=by
 rcases hb with hb|hb
 ·exact dk hE hr (fun _ h=>⟨h.1, .of h.2⟩) (vz hE hr hb h)
 ·rw[ea] at h⊢
  refine iF (fun _ _=>rfl) (fun h=>?_) (fun h=>⟨h,by rw[cw];exact .refl _ _ _⟩) h
  have e1:er E.quiet b.op=2/\∀s,gx s b.op=none:=by
   cases ho:b.op with
   |store U p x=>exact⟨rfl,fun _=>rfl⟩
   |_=>rw[ho] at hb;cases T<;>cases hb
  obtain⟨e1,e2⟩:=e1
  unfold tw at h⊢
  rw[e1] at h⊢
  simp only[e2] at h⊢
  exact Bu hb h
theorem pQ{E:Env}{s s':S}{o:Oper}{T:Option TypeId}(h:nL E.P.toProgram s o=some T)(hs:tC o.op s s')(hk:nu E.P.toProgram T s.st s'.st):o.guard=none/\(er E.quiet o.op=1/\∀c a b,o.op≠ .pick c a b)/\bJ E s' o.op=bJ E s o.op/\nL E.P.toProgram s' o=some T:=by
 unfold nL at h⊢
 split at h<;>try (cases h;done)
 ·rename_i U x hg ho
  have he:ev s x=ev s' x:=hs.ev x (by rw[ho];simp[opsOf])
  rw[←he]
  split at h<;>try (cases h;done)
  rename_i k j path off hx
  split at h<;>try (cases h;done)
  rename_i Tb a hst
  cases hc:vB E.P.toProgram Tb path U&& !fx E.P.toProgram U with
  |false=>rw[hc] at h;cases h
  | true=>
   rw[hc] at h
   simp only[aa8,aa4] at h
   subst h
   obtain⟨a',k1,k2⟩:=hk k Tb a hst
   have hc':=hc
   simp only[aa2,Bool.not_eq_true'] at hc'
   have hU:js E.P.toProgram Tb path=some U:=by
    have c7:=hc'.1
    unfold vB at c7
    split at c7
    ·rename_i V hV;rw[hV,Nat.eq_of_beq_eq_true c7]
    ·cases c7
   obtain⟨r1,r2,r3⟩:=k2 U rfl hc'.2 path hU
   refine⟨hg,⟨by rw[ho];rfl,fun c a b e=>by rw[ho] at e;cases e⟩,?_,?_⟩
   ·rw[ho];simp only[bJ];rw[←he,hx]
    simp only[nj,hst,k1,r1,r2,r3]
   ·simp only[hx,k1,hc,aa8]
 ·rename_i x hg ho
  have he:ev s x=ev s' x:=hs.ev x (by rw[ho];simp[opsOf])
  rw[←he]
  split at h<;>try (cases h;done)
  rename_i k j path off hx
  cases hc:jP (aw s.st k) with
  |false=>rw[hc] at h;cases h
  |true=>
   rw[hc] at h
   cases h
   cases hst:aw s.st k<;>rw[hst] at hc<;>try (cases hc;done)
   obtain⟨a',k1,_⟩:=hk k _ _ hst
   refine⟨hg,⟨by rw[ho];rfl,fun c a b e=>by rw[ho] at e;cases e⟩,?_,?_⟩
   ·rw[ho];simp only[bJ];rw[←he,hx];simp only[kR,k1,hst]
   ·simp only[hx,k1];rfl
 ·rename_i U x f hg ho
  have he:ev s x=ev s' x:=hs.ev x (by rw[ho];simp[opsOf])
  rw[←he]
  split at h<;>try (cases h;done)
  rename_i k j path off hx
  cases hc:jP (aw s.st k) with
  |false=>rw[hc] at h;cases h
  |true=>
   rw[hc] at h
   cases h
   cases hst:aw s.st k<;>rw[hst] at hc<;>try (cases hc;done)
   obtain⟨a',k1,_⟩:=hk k _ _ hst
   refine⟨hg,⟨by rw[ho];rfl,fun c a b e=>by rw[ho] at e;cases e⟩,?_,?_⟩
   ·rw[ho];simp only[bJ];rw[←he,hx];simp only[gw,kR,k1,hst]
   ·simp only[hx,k1];rfl
theorem uX{E:Env}{rec:Rec}{ops:List Oper}{o:Oper}{s:S}{T:Option TypeId}{K:S->Prop}(hs:nL E.P.toProgram s o=some T)(h:dn E rec ops o s K): ∃a,K (put s o.dst a)/\∀(s':S) (K':S->Prop),Looks ops o s s'->nu E.P.toProgram T s.st s'.st->K' (put s' o.dst a)->dn E rec ops o s' K':=by
 obtain⟨hg,⟨hcl,hnp⟩,_,_⟩:=pQ (E:=E) hs (Looks.same (ops:=ops) (s2:=s) (fun _ _=>rfl)) (.refl _ _ _)
 have h0:tw E rec s o.dst o.op K:=by
  unfold dn at h;rw[hg] at h;exact h
 have h1: ∃c a,bJ E s o.op=some (c,a)/\c=true/\K (put s o.dst a):=by
  unfold tw at h0
  rw[hcl] at h0
  simp only[] at h0
  split at h0
  ·rename_i c a hr
   obtain⟨q1,q2⟩:=aq.1 h0
   exact⟨c,a,hr,q1,q2⟩
  ·exact h0.elim
 obtain⟨c,a,hr,hc,hk⟩:=h1
 refine⟨a,hk,fun s' K' hl hb hk'=>?_⟩
 obtain⟨_,_,hr',_⟩:=pQ (E:=E) hs hl.same hb
 rw[hr] at hr'
 unfold dn
 rw[hg]
 unfold tw
 rw[hcl]
 simp only[hr']
 exact aq.2 ⟨hc,hk'⟩
def BS(P:Program)(quiet calm:FuncId->Bool)(T:Option TypeId)(ops:List Oper)(listed:List Bool)(i:Nat)(o:Oper):Prop:=
 ∀j b,ops[j]? =some b->i≠j->fh listed j=false-> ¬ zC ops i j->wq P quiet calm T ops o b=true
theorem uz{P:Program}{quiet calm:FuncId->Bool}{T:Option TypeId}{ops:List Oper}{listed:List Bool}{i:Nat}{o:Oper}{fs:List Nat}(hfs: ∀j,j∈fs->j=i\/zC ops i j): ∀(l:List Oper) (k:Nat),uC P quiet calm T ops listed i o fs l k=true->∀m b,l[m]? =some b->i≠k+m->fh listed (k+m)=false-> ¬ zC ops i (k+m)->wq P quiet calm T ops o b=true
 |[],_,_,m,b,h,_,_,_=>by simp at h
 | x::l,k,h,m,b,hm,hi,hn,he=>by
  simp only[uC,aa2,ab6] at h
  cases m with
  | zero=>
   simp at hm;subst hm
   rcases h.1 with((h1|h1)|h1)|h1
   ·exact absurd (Nat.eq_of_beq_eq_true h1) (by simpa using hi)
   ·rw[show k+0=k from rfl] at hn;rw[hn] at h1;cases h1
   ·rcases hfs _ ((kQ _ _).1 h1) with h2|h2
    ·exact absurd h2.symm (by simpa using hi)
    ·exact absurd h2 (by simpa using he)
   ·exact h1
  |succ m=>
   refine uz hfs l (k+1) h.2 m b (by simpa using hm) (by omega) ?_ ?_
   ·rw[show k+1+m=k+(m+1) by omega];exact hn
   ·rw[show k+1+m=k+(m+1) by omega];exact he
theorem BS.set{P:Program}{quiet calm:FuncId->Bool}{T:Option TypeId}{ops:List Oper}{listed:List Bool}{i j:Nat}{o:Oper}(h:BS P quiet calm T ops listed i o):BS P quiet calm T ops (fb listed j) i o:=by
 intro k b hb hk hn he
 refine h k b hb hk ?_ he
 by_cases e:j=k
 ·subst e;rw[fC] at hn;cases hn
 ·rwa [dN _ _ _ e] at hn
theorem sJ{E:Env}(hE:aj E){rec:Rec}(hr:eB rec){ops:List Oper}{T:Option TypeId}{K:S->Prop}: ∀(n:Nat) (listed:List Bool) (s:S) (i:Nat) (o:Oper),DC ops listed->lh ops listed i o->BS E.P.toProgram E.quiet E.calm T ops listed i o->nL E.P.toProgram s o=some T->
  (dn E rec ops o s fun s'=>kP E rec ops n (fb listed i) s' K)->kP E rec ops (n+1) listed s K
 | n,listed,s,i,o,hdc,hi,hf,hst,h=>by
  refine⟨fun hn=>absurd hi (hn i o),fun j b hj=>?_⟩
  by_cases hij:i=j
  ·subst hij
   have:o=b:=Option.some.inj (hi.1.symm.trans hj.1)
   subst this;exact h
  ·have hsw:wq E.P.toProgram E.quiet E.calm T ops o b=true:=hf j b hj.1 hij hj.2.1 (fun hp=>by
    have:=hj.dep hdc hp
    rw[hi.2.1] at this;cases this)
   simp only[wq,si,aa2,ab6,Bool.not_eq_true',Nat.blt_eq] at hsw
   obtain⟨⟨⟨q1,q2⟩,q3⟩,q4⟩:=hsw
   cases n with
   |zero=>
    obtain⟨a,h1,_⟩:=uX hst h
    exact absurd (hj.set hij) (h1.1 j b)
   | succ n=>
    have h':dn E rec ops o s fun s1=>dn E rec ops b s1 fun s2=>kP E rec ops n (fb (fb listed i) j) s2 K:=
     dk hE hr (fun s1 h1=>h1.2 j b (hj.set hij)) h
    obtain⟨a,g1,g2⟩:=uX hst h'
    have g3:=Bk (T:=T) hE hr q4 g1
    refine mQ hE hr (ko q1).symm (cw s o.dst a) ?_ g3
    intro st c _ hk
    obtain⟨k1,k2⟩:=hk
    rw[cw,cw] at k2
    have hbk:nu E.P.toProgram T s.st (put {s with st:=st} b.dst c).st:=by rw[cw];exact k2
    have hlk:Looks ops o s (put {s with st:=st} b.dst c):=by
     have:Looks ops o s {s with st:=st}:=fun _ _=>rfl
     intro t ht
     exact(this t ht).trans (ko q2 t ht)
    have key:=g2 (put {s with st:=st} b.dst c) (fun s2=>kP E rec ops n (fb (fb listed j) i) s2 K) hlk hbk (by
     rw[←wY st q3,oP];exact k1)
    exact sJ hE hr n (fb listed j) _ i o (hdc.set hj) (hi.set (Ne.symm hij)) hf.set (pQ (E:=E) hst hlk.same hbk).2.2.2 key
theorem vP{P:Program}{quiet calm:FuncId->Bool}{ops:List Oper}{listed:List Bool}{s:S}: ∀(l:List (Nat×Oper)) {i:Nat} {o:Oper},sQ P quiet calm ops listed s l=some (i,o)->∃T,(i,o)∈l/\nL P s o=some T/\uC P quiet calm T ops listed i o (fwd ops 0 [i]) ops 0=true
 |[],i,o,h=>by simp[sQ] at h
 | (j,b)::l,i,o,h=>by
  simp only[sQ] at h
  have rest:sQ P quiet calm ops listed s l=some (i,o)->∃T,(i,o)∈(j,b)::l/\nL P s o=some T/\uC P quiet calm T ops listed i o (fwd ops 0 [i]) ops 0=true:=fun h=>by
   obtain⟨T,h1,h2⟩:=vP l h
   exact⟨T,by simp[h1],h2⟩
  split at h
  ·rename_i T hT
   cases hb:uC P quiet calm T ops listed j b (fwd ops 0 [j]) ops 0 with
   |true=>
    rw[hb] at h;simp at h;obtain⟨rfl,rfl⟩:=h
    exact⟨T,by simp,hT,hb⟩
   |false=>rw[hb] at h;exact rest h
  ·exact rest h
theorem vu{quiet calm:FuncId->Bool}{ops:List Oper}{listed:List Bool}{s:S}: ∀(l:List (Nat×Oper)) {i:Nat} {o:Oper},Bi quiet calm ops listed s l=some (i,o)->(i,o)∈l/\nQ s o=true/\x4 quiet calm ops listed i o (fwd ops 0 [i]) ops 0=true
 |[],i,o,h=>by simp[Bi] at h
 | (j,b)::l,i,o,h=>by
  simp only[Bi] at h
  cases hb:nQ s b&&x4 quiet calm ops listed j b (fwd ops 0 [j]) ops 0 with
  |true=>
   rw[hb] at h;simp at h;obtain⟨rfl,rfl⟩:=h
   rw[aa2] at hb
   exact⟨by simp,hb⟩
  |false=>
   rw[hb] at h
   obtain⟨h1,h2⟩:=vu l h
   exact⟨by simp[h1],h2⟩
theorem ny{E:Env}(hE:aj E){rec:Rec}(hr:eB rec){ops:List Oper}{K:S->Prop}: ∀(n:Nat) (listed:List Bool) (s:S),DC ops listed->qe E rec ops n listed s K->kP E rec ops n listed s K
 | 0,listed,s,_,h=>by
  unfold qe at h
  split at h
  ·rename_i h0
   exact⟨fun i o hi=>by rw[←gk,h0] at hi;simp at hi,h⟩
  ·exact h.elim
 | n +1,listed,s,hdc,h=>by
  unfold qe at h
  split at h
  ·rename_i h0
   exact⟨fun _=>h,fun i o hi=>by rw[←gk,h0] at hi;simp at hi⟩
  ·rename_i h0
   split at h
   ·rename_i i o hp
    obtain⟨h1,h2⟩:=pq _ hp
    have hfs: ∀j,j∈fwd ops 0 [i]->j=i\/zC ops i j:=nX ops 0 [i] (fun m b hm=>by simpa using hm) (fun j hj=> .inl (by simpa using hj))
    have hfree:JS E.quiet ops listed i o:=fun j b hb hij hn he=>free_spec hfs ops 0 h2 j b hb (by omega) (by simpa using hn) (by simpa using he)
    exact v7 hE hr n listed s i o hdc (gk.1 h1) hfree (dk hE hr (fun s'=>ny hE hr n _ s' (hdc.set (gk.1 h1))) h)
   ·split at h
    ·rename_i i o hp
     obtain⟨h1,h2,h3⟩:=vu _ hp
     have hfs: ∀j,j∈fwd ops 0 [i]->j=i\/zC ops i j:=nX ops 0 [i] (fun m b hm=>by simpa using hm) (fun j hj=> .inl (by simpa using hj))
     have hfree:B8 E.quiet E.calm ops listed i o:=fun j b hb hij hn he=>wm hfs ops 0 h3 j b hb (by omega) (by simpa using hn) (by simpa using he)
     exact s6 hE hr n listed s i o hdc (gk.1 h1) hfree h2 (dk hE hr (fun s'=>ny hE hr n _ s' (hdc.set (gk.1 h1))) h)
    split at h
    ·rename_i i o hp
     have hp:sQ E.P.toProgram E.quiet E.calm ops listed s (jY listed ops 0)=some (i,o):=by
      cases hc:E.calm 888888<;>rw[hc] at hp
      ·cases hp
      ·exact hp
     obtain⟨T,h1,h2,h3⟩:=vP _ hp
     have hfs: ∀j,j∈fwd ops 0 [i]->j=i\/zC ops i j:=nX ops 0 [i] (fun m b hm=>by simpa using hm) (fun j hj=> .inl (by simpa using hj))
     have hfree:BS E.P.toProgram E.quiet E.calm T ops listed i o:=fun j b hb hij hn he=>uz hfs ops 0 h3 j b hb (by omega) (by simpa using hn) (by simpa using he)
     exact sJ hE hr n listed s i o hdc (gk.1 h1) hfree h2 (dk hE hr (fun s'=>ny hE hr n _ s' (hdc.set (gk.1 h1))) h)
    have:=x0 _ h
    refine⟨fun hn=>?_,fun i o hi=>dk hE hr (fun s'=>ny hE hr n _ s' (hdc.set hi)) (this i o (gk.2 hi))⟩
    exfalso
    cases hrl:jY listed ops 0 with
    |nil=>exact h0 hrl
    |cons x l=>
     obtain⟨i,o⟩:=x
     exact hn i o (gk.1 (by rw[hrl];simp))
theorem yl: ∀(l:List Bool) (i:Nat),fh l i=l.getD i true
 |[],_=>rfl
 |_::_,0=>rfl
 |_::l,i+1=>by simpa[fh] using yl l i
theorem Cd: ∀(l:List Bool) (i:Nat),fb l i=l.set i true
 |[],_=>rfl
 |_::_,0=>rfl
 |_::l,i+1=>by simp[fb,Cd l i]
theorem ya: ∀n,jn n=List.replicate n false
 |0=>rfl
 |n+1=>by simp[jn,ya n,List.replicate_succ]
theorem nt{ops:Array Oper}{listed:Array Bool}{i:Nat}:i∈Region.ready .any ops listed↔ ∃o,lh ops.toList listed.toList i o:=by
 rw[mem_ready]
 have e1: ∀k,fh listed.toList k=listed.getD k true:=fun k=>by rw[yl];simp
 constructor
 ·rintro⟨h1,o,h2,h3⟩
  refine⟨o,by simpa using h2,by rw[e1];exact h1,fun e he hb=>?_⟩
  have:=h3 e (by simpa using he) hb
  rcases Nat.lt_or_ge e.on listed.size with h'|h'
  ·refine⟨by simpa using h',?_⟩
   rw[e1];simp[h'] at this⊢;exact this
  ·simp[Array.getElem?_eq_none h'] at this
 ·rintro⟨o,h1,h2,h3⟩
  refine⟨by rw[←e1];exact h2,o,by simpa using h1,fun e he hb=>?_⟩
  obtain⟨h4,h5⟩:=h3 e (by simpa using he) hb
  rw[e1] at h5
  have h4':e.on<listed.size:=by simpa using h4
  simp[h4'] at h5⊢;exact h5
theorem wE{E:Env}(hE:aB E){rec:Rec}(hrec:gh E.P rec){F:Fence}(hF:F=Fence.wide\/ ∃B,F=Fence.wide.inRound B){n:Nat}{ops:Array Oper}{K:S->Prop}{lo base:Nat}{Q:Exit->Act->World->Prop}:
  ∀(k:Nat) (listed:Array Bool) {C:Ctx},C.P=E.P->Inv C->∀{s:S} {a:Act},dt C s a->ik lo C a.defers->base<=s.st.length->kP E rec ops.toList k listed.toList s K->
   (∀a' w',cE lo base C K a' w'->Q .normal a' w')->wpAnyIn F n E.P .any ops Q k listed a C.w
 |0,listed,C,hC,hI,s,a,hs,hd,hb,h,hQ=>by
  refine⟨?_,hQ _ _ ⟨C,s,rfl,rfl,hI,hs,hd,hb,Ext.refl C (by rw[hs.st];exact hb),h.2⟩⟩
  rw[List.eq_nil_iff_forall_not_mem]
  intro i hi
  obtain⟨o,ho⟩:=nt.1 hi
  exact h.1 i o ho
 | k+1,listed,C,hC,hI,s,a,hs,hd,hb,h,hQ=>by
  refine⟨fun hn=>hQ _ _ ⟨C,s,rfl,rfl,hI,hs,hd,hb,Ext.refl C (by rw[hs.st];exact hb),h.1 fun i o ho=>?_⟩,fun i hi=>?_⟩
  ·have:=nt.2 ⟨o,ho⟩
   rw[hn] at this;simp at this
  ·obtain⟨o,ho⟩:=nt.1 hi
   have h1:=h.2 i o ho
   rw[ea] at h1
   have hn: ∀a' w',cE lo base C (fun s'=>kP E rec ops.toList k (fb listed.toList i) s' K) a' w'->wpAnyIn F n E.P .any ops Q k (listed.setIfInBounds i true) a' w':=by
    rintro a' w' ⟨C',s',rfl,hP',hI',hs',hd',hb',he,hK⟩
    refine wE hE hrec hF k _ (hP'.trans hC) hI' hs' hd' hb' ?_ (fun a2 w2 h2=>hQ _ _ (h2.trans hP' he))
    have e:(listed.setIfInBounds i true).toList=fb listed.toList i:=by rw[Cd];simp
    rw[e];exact hK
   exact tj hI hs hd hb hF (i:=i) (o:=o) (by simpa using ho.1) (fun hp=>IF hE hrec hC hI hs hd hb hF hp hn) hn h1
theorem EY{E:Env}(hE:aB E)(hM:aj E){rec:Rec}(hrec:gh E.P rec)(hr:eB rec):MA E rec:=by
 intro id ops s K h C a F n lo base hC hI hs hd hb hF Q hQ
 refine wpIn_region_any hE.prog.mixed ?_
 have hg:gU C.w {C.w with drawn:=C.w.drawn+1}:=⟨Nat.le_refl _,rfl,rfl,rfl,fun _ _=>rfl⟩
 obtain⟨g1,g2⟩:=lZ hI hg
 have hs':=hs.step hI g2
 have e:({s with st:=C.st}:S)=s:=by rw[hs.st]
 have hs'':dt {C with w:={C.w with drawn:=C.w.drawn+1}} s a:=by
  have e2:({s with st:=({C with w:={C.w with drawn:=C.w.drawn+1}}:Ctx).st}:S)=s:=e
  rw[e2] at hs';exact hs'
 have hfull:=ny hM hr _ _ _ (DC.jn _ _) h
 have:=wE (C:={C with w:={C.w with drawn:=C.w.drawn+1}}) hE hrec hF (n:=n) (K:=K) (lo:=lo) (base:=base) (Q:=Q) ops.size (Array.replicate ops.size false) hC g1 hs'' (hd.ext g2) hb
  (by simpa[ya] using hfull) (fun a' w' h'=>hQ _ _ (cE.trans (C:=C) (C':={C with w:={C.w with drawn:=C.w.drawn+1}}) rfl (g2.mono (by rw[hs.st];exact hb)) h'))
 exact this
theorem LM{E:Env}(hE:aj E){rec:Rec}(hr:eB rec){s:S}{d:Option Tmp}{o:Op}{K K':S->Prop}(hK: ∀s,K s->K' s)(h:N3 E rec s d o K):N3 E rec s d o K':=by
 unfold N3 at h⊢
 split at h
 ·exact dj (hK _) h
 ·split at h
  ·split at h<;>try exact h.elim
   rename_i t _
   cases t<;>exact hK _ h
  ·split at h
   ·exact mA hE hr (fun _ _ hh=>hK _ hh) h
   ·exact vh ⟨fun _ _=>rfl⟩ rfl (fun _ _ hh=>hK _ hh) h
theorem sE{E:Env}(hE:aj E){rec:Rec}(hr:eB rec){ops:List Oper}: ∀(l:List Oper) {s:S} {K K':S->Prop},(∀s,K s->K' s)->rE E rec ops l s K->rE E rec ops l s K'
 |[],s,K,K',hK,h=>hK _ h
 |o::l,s,K,K',hK,h=>by
  rw[vJ] at h⊢
  exact iF (fun _ _=>rfl) (LM hE hr (fun s'=>sE hE hr l hK)) (sE hE hr l hK) h
theorem kl{E:Env}(hE:aj E){rec:Rec}(hr:eB rec){ops:List Oper}{K K':S->Prop}(hK: ∀s,K s->K' s): ∀(n:Nat) (listed:List Bool) (s:S),qe E rec ops n listed s K->qe E rec ops n listed s K'
 |0,listed,s,h=>by
  unfold qe at h⊢
  split at h
  ·exact hK _ h
  ·exact h.elim
 | n +1,listed,s,h=>by
  unfold qe at h⊢
  split at h
  ·exact hK _ h
  ·split at h
   ·exact dk hE hr (fun s'=>kl hE hr hK n _ s') h
   ·split at h
    ·exact dk hE hr (fun s'=>kl hE hr hK n _ s') h
    split at h
    ·exact dk hE hr (fun s'=>kl hE hr hK n _ s') h
    generalize jY listed ops 0=l at h⊢
    have: ∀l:List (Nat×Oper),(HF (fun i o=>dn E rec ops o s fun s'=>qe E rec ops n (fb listed i) s' K) l)->HF (fun i o=>dn E rec ops o s fun s'=>qe E rec ops n (fb listed i) s' K') l:=by
     intro l
     induction l with
     |nil=>exact id
     |cons x l ih=>
      obtain⟨i,o⟩:=x
      cases l with
      |nil=>exact fun h=>dk hE hr (fun s'=>kl hE hr hK n _ s') h
      |cons y l=>exact fun h=>⟨dk hE hr (fun s'=>kl hE hr hK n _ s') h.1,ih h.2⟩
    exact this _ h
theorem I7{E:Env}(hE:aj E){rec:Rec}(hr:eB rec)(f:FuncId)(rd:Option Nat)(base:Nat): ∀(c:Code) (s:S) (K K':Exit->S->Prop),(∀e s,K e s->K' e s)->j3 E rec f rd base c s K->j3 E rec f rd base c s K':=by
 intro c
 induction c with
 |skip=>intro s K K' hK h;exact hK _ _ h
 |label l=>intro s K K' hK h;exact hK _ _ h
 |region id ops d=>
  intro s K K' hK h
  cases d with
  |false=>exact sE hE hr _ (hK _) h
  |true=>exact kl hE hr (hK _) _ _ _ h
 |seq x y ihx ihy=>
  intro s K K' hK h
  refine ihx s _ _ ?_ h
  intro e s' hh
  cases e with
  |normal=>exact ihy s' _ _ hK hh
  |_=>exact hK _ _ hh
 |cond c x y ihx ihy=>
  intro s K K' hK h
  unfold j3 at h⊢
  split at h<;>try exact h.elim
  rename_i t _
  cases t with
  |true=>exact ihx _ _ _ hK h
  |false=>exact ihy _ _ _ hK h
 | block id c ih=>
  intro s K K' hK h
  refine ih s _ _ ?_ h
  intro e s' hh
  cases e with
  |exit i=>
   simp only[zZ] at hh⊢
   cases hb:Nat.beq i id<;>rw[hb] at hh<;>exact hK _ _ hh
  |_=>exact hK _ _ hh
 |loop c ih=>
  intro s K K' hK h
  unfold j3 at h⊢
  split at h<;>try exact h.elim
  exact dj (fun hh=>by rw[lu] at hh⊢;exact hE.loop _ _ _ _ _ _ _ _ hK hh) h
 | rangeFunc g ps asg body iha ihb=>
  intro s K K' hK h
  unfold j3 at h⊢
  split at h<;>try exact h.elim
  have hrk: ∀st,qo s.st.length s K st->qo s.st.length s K' st:=by
   intro st hh
   unfold qo at hh⊢
   split at hh<;>try exact hh.elim
   rename_i r hl
   cases hs:r.state<;>cases hp:r.pending<;>rw[hs,hp] at hh<;>try exact hh.elim
   all_goals first|exact hK _ _ hh|(rename_i c;cases c<;>first|exact hh.elim|exact hK _ _ hh)
  refine dj (fun hh=>?_) h
  split at hh
  ·exact hE.ke _ _ _ _ _ _ _ hrk hh
  ·exact tu hr (fun _ st=>hrk st) hh
 |exit id=>intro s K K' hK h;exact hK _ _ h
 |goto l=>intro s K K' hK h;exact h.elim
 |scope c ih=>
  intro s K K' hK h
  refine ih s _ _ ?_ h
  intro e s' hh
  cases e with
  |goto l=>exact hh.elim
  |_=>exact hK _ _ hh
 |ret=>intro s K K' hK h;exact hK _ _ h
 |refuse r=>intro s K K' hK h;exact h.elim
theorem tM{E:Env}(hE:aj E): ∀n,eB (vc E n)
 |0=>fun _ _ _ _ _ _ _ _ h=>h.elim
 |n+1=>fun f rd base c s K K' hK h=>I7 hE (tM hE n) f rd base c s K K' hK h
theorem xP{E:Env}(hE:aB E)(hM:aj E): ∀n,gh E.P (vc E n)
 |0=>fun _ _ _ _ _ _ h=>h.elim
 |n+1=>fun f rd base c s K h=>Fk hE (xP hE hM n) (EY hE hM (xP hE hM n) (tM hM n)) f rd base c s K h
#print axioms xP
end Go.Dn
