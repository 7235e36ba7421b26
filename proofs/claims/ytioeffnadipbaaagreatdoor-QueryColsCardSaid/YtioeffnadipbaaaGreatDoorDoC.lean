import Derived.Test.YtioeffnadipbaaaGreatDoorDoB
namespace Go.Dn
open Go
theorem xU: ∀(l:List AV) (i j:Nat) (x y:AV),i≠j->bJ (bJ l i x) j y=bJ (bJ l j y) i x
 |[],_,_,_,_,_=>rfl
 |a::l,0,0,_,_,h=>absurd rfl h
 |a::l,0,j+1,_,_,_=>rfl
 |a::l,i+1,0,_,_,_=>rfl
 |a::l,i+1,j+1,x,y,h=>by simp only[bJ];rw[xU l i j x y (by omega)]
theorem uy{s:S}{d d':Option Tmp}{a b:AV}(st:List Obj)(h:vv d d'=true):put ({put s d a with st:=st}) d' b=put (put {s with st:=st} d' b) d a:=by
 cases d with
 |none=>rfl
 | some t=>
  cases d' with
  |none=>rfl
  |some u=>
   have:t≠u:=by intro e;subst e;simp[vv] at h
   simp only[put]
   rw[xU _ _ _ _ _ this]
theorem jZ{ops:List Oper}{o:Oper}{s:S}{d:Option Tmp}{a:AV}(h:zY ops o d=false):Looks ops o s (put s d a):=by
 intro t ht
 cases d with
 |none=>rfl
 |some u=>grind [zY,put,gw]
theorem Looks.symm{ops:List Oper}{o:Oper}{s1 s2:S}(h:Looks ops o s1 s2):Looks ops o s2 s1:=fun t ht=>(h t ht).symm
theorem J1{quiet:FuncId->Bool}{o:Op}(h:Bl o=true):eb quiet o=2/\∀s,gi s o=none:=by
 cases o with
 |alloc T=>exact⟨rfl,fun _=>rfl⟩
 |box T x=>exact⟨rfl,fun _=>rfl⟩
 |makeSlice T a b=>exact⟨rfl,fun _=>rfl⟩
 |makeMap T x=>cases x<;>first|exact⟨rfl,fun _=>rfl⟩|cases h
 |_=>cases h
theorem b9(s:S)(d:Option Tmp)(a:AV):(put s d a).st=s.st:=by cases d<;>rfl
theorem DJ{P:Pg}{s:S}{dst:Option Tmp}{o:Op}(hg:Bl o=true){K:S->Prop}(h:b8 P s dst o K):b8 P s dst o fun s'=>K s'/\Kept s.st s'.st:=by
 cases o with
 |alloc T=>
  simp only[b8] at h⊢
  split at h<;>try exact h.elim
  exact⟨h,by rw[b9];exact Kept.app _ _⟩
 |box T x=>grind [b8,cq,b9,Kept.app]
 |makeSlice T a b=>grind [b8,cq,b9,Kept.app]
 | makeMap T x=>
  cases x with
  |some y=>cases hg
  |none=>
   simp only[b8] at h⊢
   split at h<;>try exact h.elim
   exact⟨h,by rw[b9];exact Kept.app _ _⟩
 |_=>cases hg
theorem Gc{E:Env}{rec:Rec}{ops:List Oper}{b:Oper}{s:S}{K:S->Prop}(hb:eb E.quiet b.op<2\/Bl b.op=true)(h:dd E rec ops b s K):dd E rec ops b s fun s'=>K s'/\Kept s.st s'.st:=by
 rcases hb with hb|hb
 ·obtain⟨a,h1,h2⟩:=oK hb h
  exact h2 s _ (fun _ _=>rfl) (fun _=> .refl _) ⟨h1,by rw[b9];exact .refl _⟩
 ·rw[dT] at h⊢
  refine il (fun _ _=>rfl) (fun h=>?_) (fun h=>⟨h,by rw[b9];exact .refl _⟩) h
  obtain⟨e1,e2⟩:=J1 (quiet:=E.quiet) hb
  unfold sR at h⊢
  grind [DJ]
theorem GU{E:Env}(hE:aj E){rec:Rec}(hr:eC rec){ops:List Oper}{i j:Oper}(hsw:vl E.quiet ops i j=true){s:S}{K:S->Prop}
  (h:dd E rec ops i s fun s1=>dd E rec ops j s1 K):dd E rec ops j s fun s2=>dd E rec ops i s2 K:=by
 simp only[vl,rC,aa1,Bool.not_eq_true'] at hsw
 obtain⟨⟨⟨h1,h2⟩,h3⟩,h4⟩:=hsw
 have hc:eb E.quiet i.op<2:=by
  split at h4
  ·omega
  ·omega
  ·cases h4
 have hj:eb E.quiet i.op=1->eb E.quiet j.op<2\/Bl j.op=true:=by
  intro e
  rw[e] at h4
  simpa using h4
 obtain⟨a,g1,g2⟩:=oK hc h
 have hst:(put s i.dst a).st=s.st:=by cases i.dst<;>rfl
 have g3:dd E rec ops j (put s i.dst a) fun s'=>K s'/\(eb E.quiet i.op=1->Kept s.st s'.st):=by
  rcases Nat.eq_zero_or_pos (eb E.quiet i.op) with e|e
  ·simp_all
  ·grind [di,Gc]
 refine mw hE hr (jZ h1).symm hst ?_ g3
 intro st b hs hk
 refine g2 _ _ ?_ ?_ ?_
 ·have:Looks ops i s {s with st:=st}:=fun _ _=>rfl
  intro t ht
  exact(this t ht).trans (jZ h2 t ht)
 ·intro e
  have:=hk.2 e
  rw[b9] at this⊢
  exact this
 ·rw[←uy st h3];exact hk.1
theorem nj: ∀(l:List Bool) (i:Nat),(eU l i).length=l.length
 |[],_=>rfl
 |_::_,0=>rfl
 |_::l,i+1=>by simp[eU,nj l i]
theorem fm: ∀(l:List Bool) (i:Nat),eZ (eU l i) i=true
 |[],_=>rfl
 |_::_,0=>rfl
 |_::l,i+1=>by simp only[eU,eZ];exact fm l i
theorem dF: ∀(l:List Bool) (i j:Nat),i≠j->eZ (eU l i) j=eZ l j
 |[],_,_,_=>rfl
 |_::_,0,j,h=>by cases j with|zero=>exact absurd rfl h|succ j=>rfl
 |_::l,i+1,j,h=>by
  cases j with
  |zero=>rfl
  |succ j=>simp only[eU,eZ];exact dF l i j (by omega)
theorem oL: ∀(l:List Bool) (i j:Nat),eU (eU l i) j=eU (eU l j) i
 |[],_,_=>rfl
 |_::_,0,0=>rfl
 |_::_,0,j+1=>rfl
 |_::_,i+1,0=>rfl
 |_::l,i+1,j+1=>by simp only[eU];rw[oL l i j]
theorem nZ(listed:List Bool): ∀l:List Edge,kG listed l=true↔ ∀e,e∈l->Region.binds .any e=true->e.on<listed.length/\eZ listed e.on=true
 |[]=>by simp[kG]
 | e::l=>by
  simp only[kG,aa1,nZ listed l,List.forall_mem_cons,ab5,Bool.not_eq_true',Nat.blt_eq]
  constructor
  ·rintro⟨h1,h2⟩
   refine⟨fun hb=>?_,h2⟩
   rcases h1 with h1|h1
   ·rw[h1] at hb;cases hb
   ·exact h1
  ·rintro⟨h1,h2⟩
   refine⟨?_,h2⟩
   cases hb:Region.binds .any e with
   |false=>exact .inl rfl
   |true=>exact .inr (h1 hb)
theorem uz(listed:List Bool): ∀(l:List Oper) (k i:Nat) (o:Oper),(i,o)∈jz listed l k↔ ∃m,i=k+m/\l[m]? =some o/\eZ listed i=false/\kG listed o.after.toList=true
 |[],k,i,o=>by simp[jz]
 | b::l,k,i,o=>by
  have ih:=uz listed l (k+1) i o
  have tail:(i,o)∈jz listed l (k+1)↔ ∃m,i=k+(m+1)/\(b::l)[m+1]? =some o/\eZ listed i=false/\kG listed o.after.toList=true:=by
   rw[ih]
   constructor
   ·rintro⟨m,h1,h2,h3⟩;exact⟨m,by omega,by simpa using h2,h3⟩
   ·rintro⟨m,h1,h2,h3⟩;exact⟨m,by omega,by simpa using h2,h3⟩
  simp only[jz]
  cases hb:(!eZ listed k&&kG listed b.after.toList) with
  | true=>
   simp only[aa7,ac1,tail,aa9]
   simp only[aa1,Bool.not_eq_true'] at hb
   constructor
   ·rintro(⟨rfl,rfl⟩|⟨m,h⟩)
    ·exact⟨0,by omega,rfl,hb.1,hb.2⟩
    ·exact⟨m+1,h⟩
   ·grind
  |false=>grind
def kX(ops:List Oper)(listed:List Bool)(i:Nat)(o:Oper):Prop:=ops[i]? =some o/\eZ listed i=false/\∀e,e∈o.after.toList->Region.binds .any e=true->e.on<listed.length/\eZ listed e.on=true
theorem fQ{ops:List Oper}{listed:List Bool}{i:Nat}{o:Oper}:(i,o)∈jz listed ops 0↔kX ops listed i o:=by
 rw[uz]
 constructor
 ·rintro⟨m,h1,h2,h3,h4⟩
  obtain rfl:i=m:=by omega
  exact⟨h2,h3,(nZ _ _).1 h4⟩
 ·rintro⟨h1,h2,h3⟩
  exact⟨i,by omega,h1,h2,(nZ _ _).2 h3⟩
theorem kX.set{ops:List Oper}{listed:List Bool}{i j:Nat}{o:Oper}(h:kX ops listed i o)(hij:j≠i):kX ops (eU listed j) i o:=by
 refine⟨h.1,by rw[dF _ _ _ hij];exact h.2.1,fun e he hb=>?_⟩
 obtain⟨h1,h2⟩:=h.2.2 e he hb
 grind [nj,fm,dF]
inductive zE (ops:List Oper) (i:Nat):Nat->Prop
 |base (j:Nat) (b:Oper) (e:Edge) (h1:ops[j]? =some b) (h2:e∈b.after.toList) (h3:Region.binds .any e=true) (h4:e.on=i):zE ops i j
 |step (j:Nat) (b:Oper) (e:Edge) (h1:ops[j]? =some b) (h2:e∈b.after.toList) (h3:Region.binds .any e=true) (h4:zE ops i e.on):zE ops i j
def DC(ops:List Oper)(listed:List Bool):Prop:=∀j b,ops[j]? =some b->j<listed.length->eZ listed j=true->∀e,e∈b.after.toList->Region.binds .any e=true->e.on<listed.length/\eZ listed e.on=true
theorem Co{ops:List Oper}{listed:List Bool}(hd:DC ops listed){i j:Nat}(h:zE ops i j):j<listed.length->eZ listed j=true->eZ listed i=true:=by
 induction h with
 |base j b e h1 h2 h3 h4=>intro hl hn;rw[←h4];exact(hd j b h1 hl hn e h2 h3).2
 |step j b e h1 h2 h3 _ ih=>intro hl hn;exact ih (hd j b h1 hl hn e h2 h3).1 (hd j b h1 hl hn e h2 h3).2
theorem kX.dep{ops:List Oper}{listed:List Bool}(hd:DC ops listed){i j:Nat}{b:Oper}(h:kX ops listed j b)(hp:zE ops i j):eZ listed i=true:=by
 cases hp with
 |base _ b' e h1 h2 h3 h4=>
  have:b'=b:=Option.some.inj (h1.symm.trans h.1)
  subst this
  rw[←h4];exact(h.2.2 e h2 h3).2
 |step _ b' e h1 h2 h3 h4=>
  have:b'=b:=Option.some.inj (h1.symm.trans h.1)
  subst this
  exact Co hd h4 (h.2.2 e h2 h3).1 (h.2.2 e h2 h3).2
theorem DC.gI(ops:List Oper)(n:Nat):DC ops (gI n):=fun j b _ hl hn=>by
 have: ∀(n j:Nat),j<(Go.Dn.gI n).length->eZ (Go.Dn.gI n) j=false:=by
  intro n
  induction n with
  |zero=>intro j h;simp[Go.Dn.gI] at h
  |succ n ih=>intro j h;cases j with|zero=>rfl|succ j=>simp only[Go.Dn.gI,eZ];exact ih j (by simpa[Go.Dn.gI] using h)
 rw[this n j hl] at hn;cases hn
theorem DC.set{ops:List Oper}{listed:List Bool}(hd:DC ops listed){i:Nat}{o:Oper}(h:kX ops listed i o):DC ops (eU listed i):=by
 intro j b hb hl hn e he hbi
 rw[nj] at hl⊢
 have key:e.on<listed.length/\eZ listed e.on=true:=by
  by_cases hij:i=j
  ·subst hij
   have:b=o:=Option.some.inj (hb.symm.trans h.1)
   subst this
   exact h.2.2 e he hbi
  ·rw[dF _ _ _ hij] at hn
   exact hd j b hb hl hn e he hbi
 grind [fm,dF]
theorem xg(acc:List Nat): ∀l:List Edge,wP acc l=true->∃e,e∈l/\Region.binds .any e=true/\e.on∈acc
 |[],h=>by simp[wP] at h
 | e::l,h=>by
  simp only[wP,ab5,aa1] at h
  rcases h with⟨h1,h2⟩|h
  ·exact⟨e,by simp,h1,(kl _ _).1 h2⟩
  ·obtain⟨e',h1,h2⟩:=xg acc l h
   exact⟨e',by simp[h1],h2⟩
theorem n9{ops:List Oper}{i:Nat}: ∀(l:List Oper) (k:Nat) (acc:List Nat),(∀m b,l[m]? =some b->ops[k+m]? =some b)->(∀j,j∈acc->j=i\/zE ops i j)->∀j,j∈fwd l k acc->j=i\/zE ops i j
 |[],_,_,_,ha,j,hj=>ha j hj
 | o::l,k,acc,hl,ha,j,hj=>by
  simp only[fwd] at hj
  have hl': ∀m b,l[m]? =some b->ops[k+1+m]? =some b:=fun m b hm=>by
   have:=hl (m+1) b (by simpa using hm)
   rwa [show k+1+m=k+(m+1) by omega]
  cases hb:wP acc o.after.toList with
  |false=>rw[hb] at hj;exact n9 l (k+1) acc hl' ha j hj
  | true=>
   rw[hb] at hj
   refine n9 l (k+1) (k::acc) hl' (fun j' hj'=>?_) j hj
   rcases List.mem_cons.1 hj' with rfl|hj'
   ·obtain⟨e,h1,h2,h3⟩:=xg _ _ hb
    rcases ha _ h3 with h4|h4
    ·exact .inr (.base _ o e (hl 0 o rfl) h1 h2 h4)
    ·exact .inr (.step _ o e (hl 0 o rfl) h1 h2 h4)
   ·exact ha j' hj'
def KU(quiet:FuncId->Bool)(ops:List Oper)(listed:List Bool)(i:Nat)(o:Oper):Prop:=
 ∀j b,ops[j]? =some b->i≠j->eZ listed j=false-> ¬ zE ops i j->vl quiet ops o b=true
theorem free_spec{quiet:FuncId->Bool}{ops:List Oper}{listed:List Bool}{i:Nat}{o:Oper}{fs:List Nat}(hfs: ∀j,j∈fs->j=i\/zE ops i j): ∀(l:List Oper) (k:Nat),xj quiet ops listed i o fs l k=true->∀m b,l[m]? =some b->i≠k+m->eZ listed (k+m)=false-> ¬ zE ops i (k+m)->vl quiet ops o b=true
 |[],_,_,m,b,h,_,_,_=>by simp at h
 | x::l,k,h,m,b,hm,hi,hn,he=>by
  simp only[xj,aa1,ab5] at h
  cases m with
  | zero=>
   simp at hm;subst hm
   rcases h.1 with((h1|h1)|h1)|h1
   ·exact absurd (Nat.eq_of_beq_eq_true h1) (by simpa using hi)
   ·rw[show k+0=k from rfl] at hn;rw[hn] at h1;cases h1
   ·rcases hfs _ ((kl _ _).1 h1) with h2|h2
    ·exact absurd h2.symm (by simpa using hi)
    ·exact absurd h2 (by simpa using he)
   ·exact h1
  |succ m=>
   refine free_spec hfs l (k+1) h.2 m b (by simpa using hm) (by omega) ?_ ?_
   ·rw[show k+1+m=k+(m+1) by omega];exact hn
   ·rw[show k+1+m=k+(m+1) by omega];exact he
theorem KU.set{quiet:FuncId->Bool}{ops:List Oper}{listed:List Bool}{i j:Nat}{o:Oper}(h:KU quiet ops listed i o):KU quiet ops (eU listed j) i o:=by
 intro k b hb hk hn he
 refine h k b hb hk ?_ he
 grind [fm,dF]
def kt(E:Env)(rec:Rec)(ops:List Oper):Nat->List Bool->S->(S->Prop)->Prop
 |0,listed,s,K=>(∀i o,¬ kX ops listed i o)/\K s
 |n+1,listed,s,K=>((∀i o,¬ kX ops listed i o)->K s)/\∀i o,kX ops listed i o->dd E rec ops o s fun s'=>kt E rec ops n (eU listed i) s' K
theorem uO{E:Env}(hE:aj E){rec:Rec}(hr:eC rec){ops:List Oper}{K:S->Prop}: ∀(n:Nat) (listed:List Bool) (s:S) (i:Nat) (o:Oper),DC ops listed->kX ops listed i o->KU E.quiet ops listed i o->
  (dd E rec ops o s fun s'=>kt E rec ops n (eU listed i) s' K)->kt E rec ops (n+1) listed s K
 | n,listed,s,i,o,hdc,hi,hf,h=>by
  refine⟨fun hn=>absurd hi (hn i o),fun j b hj=>?_⟩
  by_cases hij:i=j
  ·subst hij
   have:o=b:=Option.some.inj (hi.1.symm.trans hj.1)
   subst this;exact h
  ·have hsw:vl E.quiet ops o b=true:=hf j b hj.1 hij hj.2.1 (fun hp=>by
    have:=hj.dep hdc hp
    rw[hi.2.1] at this;cases this)
   cases n with
   | zero=>
    have hc:eb E.quiet o.op<2:=by
     simp only[vl,aa1] at hsw
     have h4:=hsw.2
     split at h4
     ·omega
     ·omega
     ·cases h4
    obtain⟨a,h1,_⟩:=oK hc h
    exact absurd (hj.set hij) (h1.1 j b)
   | succ n=>
    have h':dd E rec ops o s fun s1=>dd E rec ops b s1 fun s2=>kt E rec ops n (eU (eU listed i) j) s2 K:=
     di hE hr (fun s1 h1=>h1.2 j b (hj.set hij)) h
    refine di hE hr (fun s2 h2=>?_) (GU hE hr hsw h')
    rw[oL] at h2
    exact uO hE hr n (eU listed j) s2 i o (hdc.set hj) (hi.set (Ne.symm hij)) hf.set h2
theorem xG{p:Nat->Oper->Prop}: ∀(l:List (Nat×Oper)),GQ p l->∀i o,(i,o)∈l->p i o
 |[],_,i,o,h=>by simp at h
 |[(j,b)],h,i,o,hi=>by
  simp only[List.mem_singleton,aa9] at hi
  obtain⟨rfl,rfl⟩:=hi;exact h
 |(j,b)::x::l,h,i,o,hi=>by
  simp only[GQ] at h
  rcases List.mem_cons.1 hi with hi|hi
  ·cases hi;exact h.1
  ·exact xG (x::l) h.2 i o hi
theorem o7{quiet:FuncId->Bool}{ops:List Oper}{listed:List Bool}: ∀(l:List (Nat×Oper)) {i:Nat} {o:Oper},nI quiet ops listed l=some (i,o)->(i,o)∈l/\xj quiet ops listed i o (fwd ops 0 [i]) ops 0=true
 |[],i,o,h=>by simp[nI] at h
 | (j,b)::l,i,o,h=>by
  simp only[nI] at h
  cases hb:xj quiet ops listed j b (fwd ops 0 [j]) ops 0 with
  |true=>rw[hb] at h;simp at h;obtain⟨rfl,rfl⟩:=h;exact⟨by simp,hb⟩
  |false=>
   rw[hb] at h
   obtain⟨h1,h2⟩:=o7 l h
   exact⟨by simp[h1],h2⟩
def bR(st st':List Obj):Prop:=(∀k,jB (an st k)=true->an st' k=an st k)/\∀k T E ls pd,an st k= .rows T E ls pd->∃ls' pd',an st' k= .rows T E ls' pd'
theorem Fv{st:List Obj}{k:Nat}(h:an st k≠ .dead):k<st.length:=by grind [eh]
theorem bR.refl(st:List Obj):bR st st:=⟨fun _ _=>rfl,fun _ _ _ ls pd h=>⟨ls,pd,h⟩⟩
theorem bR.trans{a b c:List Obj}(h1:bR a b)(h2:bR b c):bR a c:=⟨fun k hk=>by
 rw[h2.1 k (by rw[h1.1 k hk];exact hk),h1.1 k hk],fun k T E ls pd h=>by
 obtain⟨_,_,h⟩:=h1.2 k T E ls pd h
 exact h2.2 k T E _ _ h⟩
theorem bR.of{st st':List Obj}(h: ∀k,an st k≠ .dead->jB (an st k)=true\/yV (an st k)=true->an st' k=an st k):bR st st':=
 ⟨fun k hk=>h k (by intro e;rw[e] at hk;cases hk) (.inl hk),fun k T E ls pd hk=>⟨ls,pd,by rw[h k (by rw[hk];simp) (.inr (by rw[hk];rfl)),hk]⟩⟩
theorem bR.app(st l:List Obj):bR st (st++l):= .of fun _ hk _=>dL _ _ _ (Fv hk)
theorem bR.set{st:List Obj}{i:Nat}{T:TypeId}{xs:List AV}{o:Obj}(h:an st i= .row T xs):bR st (c9 st i o):= .of fun k _ hk=>by
 refine bt _ _ _ _ (fun e=>?_)
 subst e
 rw[h] at hk
 rcases hk with hk|hk<;>cases hk
theorem bR.rows{st:List Obj}{i:Nat}{T E:TypeId}{ls ls':List (List Value)}{pd pd':Option Nat}(h:an st i= .rows T E ls pd):bR st (c9 st i (.rows T E ls' pd')):=by
 refine⟨fun k hk=>bt _ _ _ _ (fun e=>?_),fun k T' E' l p hk=>?_⟩
 ·subst e;rw[h] at hk;cases hk
 ·grind [bn,Fv,bt]
theorem bR.freeze: ∀(is:List Nat) (st:List Obj),bR st (cD st is)
 |[],st=> .refl st
 | i::is,st=>by
  refine bR.trans (.of ?_) (bR.freeze is _)
  intro k hd hk
  by_cases e:i=k
  ·subst e
   rw[bn _ _ _ (Fv hd)]
   cases ho:an st i<;>rw[ho] at hk<;>first|rfl|(rcases hk with hk|hk<;>cases hk)
  ·exact bt _ _ _ _ e
theorem ri: ∀{st st':List Obj},qC st st'->∀k,an st k≠ .dead->jB (an st k)=true\/yV (an st k)=true->an st' k=an st k
 |[],_,_,k,hd,_=>absurd rfl hd
 |a::l,[],h,_,_,_=>by cases a<;>exact h.elim
 |a::l,o::l',h,0,_,hk=>by
  cases a<;>first|exact h.1|(rcases hk with hk|hk<;>cases hk)
 |a::l,o::l',h,k+1,hd,hk=>ri (st:=l) (st':=l') (by cases a<;>first|exact h.2|exact h) k hd hk
theorem JC{quiet:FuncId->Bool}{o:Op}(h:wV o=true):eb quiet o=2/\∀s,gi s o=none:=by
 cases o with
 |call c=>
  obtain⟨callee,args,ats⟩:=c
  cases callee with
  |builtin b=>cases b<;>first|exact⟨rfl,fun _=>rfl⟩|cases h
  |value g=>cases h
  |invoke r m=>cases h
 |buildSlice T n ps=>exact⟨rfl,fun _=>rfl⟩
 |makeSlice T a b=>exact⟨rfl,fun _=>rfl⟩
 |alloc T=>exact⟨rfl,fun _=>rfl⟩
 |box T x=>exact⟨rfl,fun _=>rfl⟩
 |makeMap T x=>cases x<;>first|exact⟨rfl,fun _=>rfl⟩|cases h
 |_=>cases h
theorem A9{P:Pg}{s:S}{dst:Option Tmp}{o:Op}(hg:wV o=true){K:S->Prop}(h:b8 P s dst o K):b8 P s dst o fun s'=>K s'/\bR s.st s'.st:=by
 cases o with
 |alloc T=>
  simp only[b8] at h⊢
  split at h<;>try exact h.elim
  exact⟨h,by rw[b9];exact bR.app _ _⟩
 | box T x=>
  simp only[b8] at h⊢
  split at h<;>try exact h.elim
  rename_i h1
  rw[if_pos h1]
  split at h
  ·rename_i hi
   first|simp only[hi]|skip
   exact cq (fun h=>⟨h,by rw[b9];exact bR.app _ _⟩) h
  ·rename_i hi
   first|simp only[hi]|skip
   exact⟨h,by rw[b9];exact bR.app _ _⟩
 | makeMap T x=>
  cases x with
  |some y=>cases hg
  |none=>
   simp only[b8] at h⊢
   split at h<;>try exact h.elim
   exact⟨h,by rw[b9];exact bR.app _ _⟩
 |buildSlice T n ps=>
  simp only[b8] at h⊢
  split at h<;>try exact h.elim
  split at h<;>try exact h.elim
  split at h<;>try exact h.elim
  split at h<;>try exact h.elim
  rename_i h4
  rw[if_pos h4]
  exact⟨h,by rw[b9];exact(bR.freeze _ _).trans (bR.app _ _)⟩
 |makeSlice T a b=>
  simp only[b8] at h⊢
  split at h<;>try exact h.elim
  split at h<;>try exact h.elim
  exact cq (fun h=>⟨h,by rw[b9];exact bR.app _ _⟩) h
 | call c=>
  obtain⟨callee,args,ats⟩:=c
  cases callee with
  | builtin b=>
   cases b<;>try (cases hg;done)
   simp only[b8] at h⊢
   split at h<;>try exact h.elim
   split at h<;>try exact h.elim
   rename_i h3
   rw[if_pos h3]
   unfold oE at h⊢
   split at h<;>try exact h.elim
   split at h<;>try exact h.elim
   split at h<;>try exact h.elim
   split at h<;>try exact h.elim
   ·exact cq (fun h=>⟨h,by rw[b9];exact bR.app _ _⟩) h
   ·split at h<;>try exact h.elim
    ·split at h<;>try exact h.elim
     rename_i k1 k2
     rw[if_pos k2]
     exact cq (fun h=>⟨h,by rw[b9];exact(bR.set k1).trans (bR.app _ _)⟩) h
    ·rename_i k1
     split at h<;>try exact h.elim
     rename_i k2
     simp only
     split at h<;>try exact h.elim
     rename_i k3
     rw[if_pos k3]
     exact cq (fun h=>⟨h,by rw[b9];exact bR.rows k1⟩) h
  |value g=>cases hg
  |invoke r m=>cases hg
 |_=>cases hg
theorem Hy{E:Env}(hE:aj E){rec:Rec}{g:AV}{args:List AV}{st:List Obj}{K:AV->List Obj->Prop}(hl:Gs E g args st=true)(h:nC E rec g args st K):nC E rec g args st fun a st'=>K a st'/\bR st st':=by
 unfold Gs at hl
 split at hl
 ·rename_i f caps
  simp only[aa1,Bool.not_eq_true'] at hl
  obtain⟨⟨h1,h2⟩,h3⟩:=hl
  unfold nC at h⊢
  simp only[h1,h2,Bool.false_eq_true,if_false] at h⊢
  split at h3
  ·rename_i as hle
   rw[hle] at h⊢
   simp only[cD] at h⊢
   have hr:cW (pg E.P (ku E.P f) as)=[]:=by
    unfold Ix at h3
    split at h3
    ·rename_i he;exact he
    ·cases h3
   unfold pO at h⊢
   refine cq (fun h=>?_) h
   rw[jQ] at h⊢
   refine hE.call _ _ _ _ _ (fun r sub h=>?_) h
   rw[mu,kf] at h⊢
   grind [cW,pg,ku,reach,e9,e9.go,bR.app]
  ·cases h3
 ·cases hl
theorem uY{E:Env}(hE:aj E){rec:Rec}(hr:eC rec){ops:List Oper}{b:Oper}{s:S}{K:S->Prop}(hb:(eb E.quiet b.op<2\/wV b.op=true)\/ug E.calm b.op=true)(h:dd E rec ops b s K):dd E rec ops b s fun s'=>K s'/\bR s.st s'.st:=by
 have small:eb E.quiet b.op<2->dd E rec ops b s fun s'=>K s'/\bR s.st s'.st:=fun hb=>by
  obtain⟨a,h1,h2⟩:=oK hb h
  exact h2 s _ (fun _ _=>rfl) (fun _=>Kept.refl _) ⟨h1,by rw[b9];exact .refl _⟩
 rcases hb with(hb|hb)|hb
 ·exact small hb
 ·rw[dT] at h⊢
  refine il (fun _ _=>rfl) (fun h=>?_) (fun h=>⟨h,by rw[b9];exact .refl _⟩) h
  obtain⟨e1,e2⟩:=JC (quiet:=E.quiet) hb
  unfold sR at h⊢
  rw[e1] at h⊢
  simp only[e2] at h⊢
  exact A9 hb h
 ·by_cases hlt:eb E.quiet b.op<2
  ·exact small hlt
  ·rw [dT] at h⊢
   refine il (fun _ _=>rfl) (fun h=>?_) (fun h=>⟨h,by rw[b9];exact .refl _⟩) h
   have e1:eb E.quiet b.op=2/\∃g args,∀s,gi s b.op=some (ev s g,mQ s args):=by
    cases ho:b.op with
    | call c=>
     obtain⟨callee,args,ats⟩:=c
     rw[ho] at hb hlt
     cases callee with
     | value g=>
      cases g with
      | func f=>
       simp only[eb] at hlt⊢
       cases hq:E.quiet f with
       |true=>
        rw[hq,aa7] at hlt
        exfalso;apply hlt
        cases He args.toList<;>decide
       |false=>exact⟨rfl,_,_,fun _=>rfl⟩
      |_=>cases hb
     |_=>cases hb
    |_=>rw[ho] at hb;cases hb
   obtain⟨e1,g,args,e2⟩:=e1
   unfold sR at h⊢
   rw[e1] at h⊢
   simp only[e2] at h⊢
   cases hL:Gs E (ev s g) (mQ s args) s.st with
   |false=>
    refine lW hE hr (fun a st h=>?_) h
    rw[hb] at h⊢
    try rw[hL] at h
    exact⟨h.1,h.2,by rw[b9];exact .of (ri h.1)⟩
   |true=>
    refine lW hE hr (fun a st h=>?_) (Hy hE hL h)
    rw[hb] at h⊢
    try rw[hL] at h
    exact⟨h.1,by rw[b9];exact h.2⟩
theorem Gm{P:Program}{st st':List Obj}{T:TypeId}{k:Nat}{i:Nat}{p:List Nat}{off:Nat}(h:an st' i=an st i):mG P st' T (.ptr i k p off)=mG P st T (.ptr i k p off):=by
 simp only[mG,h]
theorem Iq{P:Program}{st st':List Obj}{T:TypeId}(U:TypeId)(l:List AV):zP P st' T (.ad U l)=zP P st T (.ad U l):=by
 unfold zP
 cases P.underlying T with
 |none=>rfl
 |some d=>cases d<;>rfl
theorem pt{E:Env}{s s':S}{o:Oper}(h:nf s o=true)(hs:s9 o.op s s')(hk:bR s.st s'.st):o.guard=none/\(eb E.quiet o.op=1/\∀c a b,o.op≠ .pick c a b)/\bF E s' o.op=bF E s o.op/\nf s' o=true:=by
 unfold nf at h⊢
 split at h<;>try (cases h;done)
 ·rename_i T x hg ho
  have he:ev s x=ev s' x:=hs.ev x (by rw[ho];simp[opsOf])
  refine⟨hg,⟨by rw[ho];rfl,fun c a b e=>by rw[ho] at e;cases e⟩,?_,?_⟩
  ·rw[ho];simp only[bF];rw[←he]
   split at h<;>try (cases h;done)
   ·rename_i hx;rw[hx,Gm (hk.1 _ h)]
   ·rename_i hx;rw[hx];rfl
   ·rename_i hx;rw[hx];rfl
  ·rw[←he]
   split at h<;>try (cases h;done)
   ·rw[hk.1 _ h];exact h
   ·rename_i hx;simp only
   ·rename_i hx;simp only
 ·rename_i args ats hg ho
  have he:mQ s args.toList=mQ s' args.toList:=gj (fun x hx=>hs.ev x (by rw[ho];simpa only[opsOf] using hx))
  refine⟨hg,⟨by rw[ho];rfl,fun c a b e=>by rw[ho] at e;cases e⟩,?_,?_⟩
  ·rw[ho];simp only[bF];rw[←he]
   split at h<;>try (cases h;done)
   rename_i hx;rw[hx]
   cases ats.toList with
   |nil=>rfl
   |cons T l=>simp only[Iq (st:=s.st) (st':=s'.st)]
  ·rw[←he];exact h
 ·rename_i x hg ho
  have he:ev s x=ev s' x:=hs.ev x (by rw[ho];simp[opsOf])
  refine⟨hg,⟨by rw[ho];rfl,fun c a b e=>by rw[ho] at e;cases e⟩,?_,?_⟩
  ·rw[ho];simp only[bF];rw[←he]
   split at h<;>try (cases h;done)
   rename_i hx;rw[hx];simp only[kq,hk.1 _ h];rfl
  ·rw[←he]
   split at h<;>try (cases h;done)
   rw[hk.1 _ h];exact h
 ·rename_i T x f hg ho
  have he:ev s x=ev s' x:=hs.ev x (by rw[ho];simp[opsOf])
  refine⟨hg,⟨by rw[ho];rfl,fun c a b e=>by rw[ho] at e;cases e⟩,?_,?_⟩
  ·rw[ho];simp only[bF];rw[←he]
   split at h<;>try (cases h;done)
   rename_i hx;rw[hx];simp only[gr,kq,hk.1 _ h];rfl
  ·rw[←he]
   split at h<;>try (cases h;done)
   rw[hk.1 _ h];exact h
 ·rename_i T x i hg ho
  have he:ev s x=ev s' x:=hs.ev x (by rw[ho];simp[opsOf])
  have hi:ev s i=ev s' i:=hs.ev i (by rw[ho];simp[opsOf])
  refine⟨hg,⟨by rw[ho];rfl,fun c a b e=>by rw[ho] at e;cases e⟩,?_,?_⟩
  ·rw[ho];simp only[bF];rw[←he,←hi]
   split at h<;>try (cases h;done)
   rename_i k n hx
   cases ho':an s.st k<;>rw[ho'] at h<;>try (cases h;done)
   obtain⟨ls',pd',e⟩:=hk.2 k _ _ _ _ ho'
   rw[hx];simp only[gf,ho',e,gC]
  ·rw[←he]
   split at h<;>try (cases h;done)
   rename_i k n hx
   cases ho':an s.st k<;>rw[ho'] at h<;>try (cases h;done)
   obtain⟨ls',pd',e⟩:=hk.2 k _ _ _ _ ho'
   rw[e];rfl
theorem uj{E:Env}{rec:Rec}{ops:List Oper}{o:Oper}{s:S}{K:S->Prop}(hs:nf s o=true)(h:dd E rec ops o s K): ∃a,K (put s o.dst a)/\∀(s':S) (K':S->Prop),Looks ops o s s'->bR s.st s'.st->K' (put s' o.dst a)->dd E rec ops o s' K':=by
 obtain⟨hg,⟨hcl,hnp⟩,_,_⟩:=pt (E:=E) hs (Looks.same (ops:=ops) (s2:=s) (fun _ _=>rfl)) (.refl _)
 have h0:sR E rec s o.dst o.op K:=by
  unfold dd at h;rw[hg] at h;exact h
 have h1: ∃c a,bF E s o.op=some (c,a)/\c=true/\K (put s o.dst a):=by
  unfold sR at h0
  grind [ai.1]
 obtain⟨c,a,hr,hc,hk⟩:=h1
 refine⟨a,hk,fun s' K' hl hb hk'=>?_⟩
 obtain⟨_,_,hr',_⟩:=pt (E:=E) hs hl.same hb
 rw[hr] at hr'
 unfold dd
 rw[hg]
 unfold sR
 rw[hcl]
 simp only[hr']
 exact ai.2 ⟨hc,hk'⟩
def As(quiet calm:FuncId->Bool)(ops:List Oper)(listed:List Bool)(i:Nat)(o:Oper):Prop:=
 ∀j b,ops[j]? =some b->i≠j->eZ listed j=false-> ¬ zE ops i j->vD quiet calm ops o b=true
theorem tZ{quiet calm:FuncId->Bool}{ops:List Oper}{listed:List Bool}{i:Nat}{o:Oper}{fs:List Nat}(hfs: ∀j,j∈fs->j=i\/zE ops i j): ∀(l:List Oper) (k:Nat),x5 quiet calm ops listed i o fs l k=true->∀m b,l[m]? =some b->i≠k+m->eZ listed (k+m)=false-> ¬ zE ops i (k+m)->vD quiet calm ops o b=true
 |[],_,_,m,b,h,_,_,_=>by simp at h
 | x::l,k,h,m,b,hm,hi,hn,he=>by
  simp only[x5,aa1,ab5] at h
  cases m with
  | zero=>
   simp at hm;subst hm
   rcases h.1 with((h1|h1)|h1)|h1
   ·exact absurd (Nat.eq_of_beq_eq_true h1) (by simpa using hi)
   ·rw[show k+0=k from rfl] at hn;rw[hn] at h1;cases h1
   ·rcases hfs _ ((kl _ _).1 h1) with h2|h2
    ·exact absurd h2.symm (by simpa using hi)
    ·exact absurd h2 (by simpa using he)
   ·exact h1
  |succ m=>
   refine tZ hfs l (k+1) h.2 m b (by simpa using hm) (by omega) ?_ ?_
   ·rw[show k+1+m=k+(m+1) by omega];exact hn
   ·rw[show k+1+m=k+(m+1) by omega];exact he
theorem As.set{quiet calm:FuncId->Bool}{ops:List Oper}{listed:List Bool}{i j:Nat}{o:Oper}(h:As quiet calm ops listed i o):As quiet calm ops (eU listed j) i o:=by
 intro k b hb hk hn he
 refine h k b hb hk ?_ he
 grind [fm,dF]
theorem sB{E:Env}(hE:aj E){rec:Rec}(hr:eC rec){ops:List Oper}{K:S->Prop}: ∀(n:Nat) (listed:List Bool) (s:S) (i:Nat) (o:Oper),DC ops listed->kX ops listed i o->As E.quiet E.calm ops listed i o->nf s o=true->
  (dd E rec ops o s fun s'=>kt E rec ops n (eU listed i) s' K)->kt E rec ops (n+1) listed s K
 | n,listed,s,i,o,hdc,hi,hf,hst,h=>by
  refine⟨fun hn=>absurd hi (hn i o),fun j b hj=>?_⟩
  by_cases hij:i=j
  ·subst hij
   have:o=b:=Option.some.inj (hi.1.symm.trans hj.1)
   subst this;exact h
  ·have hsw:vD E.quiet E.calm ops o b=true:=hf j b hj.1 hij hj.2.1 (fun hp=>by
    have:=hj.dep hdc hp
    rw[hi.2.1] at this;cases this)
   simp only[vD,rC,aa1,ab5,Bool.not_eq_true',Nat.blt_eq] at hsw
   obtain⟨⟨⟨q1,q2⟩,q3⟩,q4⟩:=hsw
   cases n with
   |zero=>
    obtain⟨a,h1,_⟩:=uj hst h
    exact absurd (hj.set hij) (h1.1 j b)
   | succ n=>
    have h':dd E rec ops o s fun s1=>dd E rec ops b s1 fun s2=>kt E rec ops n (eU (eU listed i) j) s2 K:=
     di hE hr (fun s1 h1=>h1.2 j b (hj.set hij)) h
    obtain⟨a,g1,g2⟩:=uj hst h'
    have g3:=uY hE hr q4 g1
    refine mw hE hr (jZ q1).symm (b9 s o.dst a) ?_ g3
    intro st c _ hk
    obtain⟨k1,k2⟩:=hk
    rw[b9,b9] at k2
    have hbk:bR s.st (put {s with st:=st} b.dst c).st:=by rw[b9];exact k2
    have hlk:Looks ops o s (put {s with st:=st} b.dst c):=by
     have:Looks ops o s {s with st:=st}:=fun _ _=>rfl
     intro t ht
     exact(this t ht).trans (jZ q2 t ht)
    have key:=g2 (put {s with st:=st} b.dst c) (fun s2=>kt E rec ops n (eU (eU listed j) i) s2 K) hlk hbk (by
     rw[←uy st q3,oL];exact k1)
    exact sB hE hr n (eU listed j) _ i o (hdc.set hj) (hi.set (Ne.symm hij)) hf.set (pt (E:=E) hst hlk.same hbk).2.2.2 key
def nq(P:Program)(T:Option TypeId)(st st':List Obj):Prop:=∀k Tb a,an st k= .box Tb a->∃a',an st' k= .box Tb a'/\
 ∀T1,T=some T1->dK P T1=false->∀path,iX P Tb path=some T1->lT a' path=lT a path/\mL a' path=mL a path/\gH a' path=gH a path
theorem nq.refl(P:Program)(T:Option TypeId)(st:List Obj):nq P T st st:=fun _ _ a h=>⟨a,h,fun _ _ _ _ _=>⟨rfl,rfl,rfl⟩⟩
theorem nq.of{P:Program}{T:Option TypeId}{st st':List Obj}(h:bR st st'):nq P T st st':=fun k Tb a hk=>⟨a,by rw[h.1 k (by rw[hk];rfl),hk],fun _ _ _ _ _=>⟨rfl,rfl,rfl⟩⟩
theorem B5{P:Program}{T:TypeId}(h:dK P T=false):fieldsOf P T=[]:=by
 unfold dK at h
 unfold fieldsOf
 split at h<;>simp_all
theorem ur{P:Program}{T1 T2:TypeId}(h1:dK P T1=false)(h2:dK P T2=false)(hne:T1≠T2): ∀(q p:List Nat) (Tb:TypeId) (a x:AV),iX P Tb p=some T1->iX P Tb q=some T2->mL a q=true->wid x=wid (lT a q)->
  lT (fF a q x) p=lT a p/\mL (fF a q x) p=mL a p/\gH (fF a q x) p=gH a p
 |[],p,Tb,a,x,e1,e2,_,_=>by
  simp only[iX,aa3] at e2
  subst e2
  cases p with
  |nil=>simp only[iX,aa3] at e1;exact absurd e1.symm hne
  |cons i p=>simp only[iX,B5 h2,mA] at e1;cases e1
 |j::q,[],Tb,a,x,e1,e2,_,_=>by
  simp only[iX,aa3] at e1
  subst e1
  simp only[iX,B5 h1,mA] at e2;cases e2
 | j ::q,i::p,Tb,a,x,e1,e2,hi,hw=>by
  cases a with
  | agg l=>
   simp only[mL,aa1,aa0] at hi
   simp only[lT,af] at hw
   have hwj:wid (fF (nth l j) q x)=wid (nth l j):=lJ q _ _ hi.2 hw
   simp only[fF,lT,af,mL,gH,eD]
   by_cases e:j=i
   ·subst e
    simp only[iX] at e1 e2
    cases hf:mA (fieldsOf P Tb) j with
    |none=>rw[hf] at e1;cases e1
    |some fd=>
     rw[hf] at e1 e2
     have:=ur h1 h2 hne q p fd.type (nth l j) x e1 e2 hi.2 hw
     rw[je _ _ _ hi.1,this.1,this.2.1,this.2.2,vH _ _ _ _ hwj]
     exact⟨rfl,rfl,rfl⟩
   ·rw[gw _ _ _ _ e,vH _ _ _ _ hwj]
    exact⟨rfl,rfl,rfl⟩
  |_=>simp[mL] at hi
theorem B8{P:Pg}{T:Option TypeId}{s:S}{dst:Option Tmp}{o:Op}(hb:yO P.toProgram T o=true){K:S->Prop}(h:b8 P s dst o K):b8 P s dst o fun s'=>K s'/\nq P.toProgram T s.st s'.st:=by
 cases o with
 | store U p x=>
  simp only[b8] at h⊢
  unfold pD at h⊢
  have rowT: ∀i (ob ob':Obj),an s.st i=ob->jB ob=false->nq P.toProgram T s.st (c9 s.st i ob'):=fun i ob ob' h1 h2 k Tb a hk=>by
   refine⟨a,?_,fun _ _ _ _ _=>⟨rfl,rfl,rfl⟩⟩
   rw[bt _ _ _ _ (fun e=>by subst e;rw[h1] at hk;subst hk;cases h2)];exact hk
  have frzT: ∀is i (ob ob':Obj),an (cD s.st is) i=ob->jB ob=false->nq P.toProgram T s.st (c9 (cD s.st is) i ob'):=fun is i ob ob' h1 h2 k Tb a hk=>by
   have hz:an (cD s.st is) k= .box Tb a:=by rw[(bR.freeze is s.st).1 k (by rw[hk];rfl),hk]
   refine⟨a,?_,fun _ _ _ _ _=>⟨rfl,rfl,rfl⟩⟩
   rw[bt _ _ _ _ (fun e=>by subst e;rw[h1] at hz;subst hz;cases h2)];exact hz
  split at h<;>try exact h.elim
  rename_i i k path off hev
  split at h<;>try exact h.elim
  ·rename_i Tb a hst
   split at h<;>try exact h.elim
   rename_i hc
   rw[if_pos hc]
   refine⟨h,?_⟩
   rw[b9]
   simp only[aa1,beq_iff_eq] at hc
   obtain⟨⟨⟨⟨⟨⟨c1,c2⟩,c3⟩,c4⟩,_⟩,_⟩,c7⟩:=hc
   intro k' Tb' a' hk'
   by_cases e:i=k'
   ·subst e
    rw[hst] at hk';cases hk'
    refine⟨_,bn _ _ _ (Fv (by rw[hst];simp)),fun T1 hT hA p hp=>?_⟩
    subst hT
    simp only[yO,aa1,Bool.not_eq_true'] at hb
    have hU:iX P.toProgram Tb path=some U:=by
     unfold tK at c7
     split at c7
     ·rename_i V hV;rw[hV,Nat.eq_of_beq_eq_true c7]
     ·cases c7
    exact ur hA hb.2 (fun e=>by subst e;rw[Nat.beq_refl] at hb;cases hb.1) path p Tb a (ev s x) hp hU c1 (by rw[c3,c4])
   ·exact⟨a',by rw[bt _ _ _ _ e];exact hk',fun _ _ _ _ _=>⟨rfl,rfl,rfl⟩⟩
  ·split at h<;>try exact h.elim
   rename_i x' Tr xs hx' hst
   split at h<;>try exact h.elim
   rename_i hc
   simp only
   rw[if_pos hc]
   exact⟨h,by rw[b9];exact frzT _ _ _ _ hst rfl⟩
  ·rename_i Tr E ls kp hst
   split at h<;>try exact h.elim
   split at h<;>try exact h.elim
   rename_i hc
   rw[if_pos hc]
   exact cq (fun h=>⟨h,by rw[b9];exact rowT _ _ _ hst rfl⟩) h
 |_=>cases T<;>cases hb
theorem Ay{E:Env}(hE:aj E){rec:Rec}(hr:eC rec){ops:List Oper}{b:Oper}{s:S}{T:Option TypeId}{K:S->Prop}(hb:((eb E.quiet b.op<2\/wV b.op=true)\/ug E.calm b.op=true)\/yO E.P.toProgram T b.op=true)(h:dd E rec ops b s K):dd E rec ops b s fun s'=>K s'/\nq E.P.toProgram T s.st s'.st:=by
 rcases hb with hb|hb
 ·exact di hE hr (fun _ h=>⟨h.1, .of h.2⟩) (uY hE hr hb h)
 ·rw[dT] at h⊢
  refine il (fun _ _=>rfl) (fun h=>?_) (fun h=>⟨h,by rw[b9];exact .refl _ _ _⟩) h
  have e1:eb E.quiet b.op=2/\∀s,gi s b.op=none:=by
   cases ho:b.op with
   |store U p x=>exact⟨rfl,fun _=>rfl⟩
   |_=>rw[ho] at hb;cases T<;>cases hb
  obtain⟨e1,e2⟩:=e1
  unfold sR at h⊢
  grind [B8]
theorem pX{E:Env}{s s':S}{o:Oper}{T:Option TypeId}(h:nh E.P.toProgram s o=some T)(hs:s9 o.op s s')(hk:nq E.P.toProgram T s.st s'.st):o.guard=none/\(eb E.quiet o.op=1/\∀c a b,o.op≠ .pick c a b)/\bF E s' o.op=bF E s o.op/\nh E.P.toProgram s' o=some T:=by
 unfold nh at h⊢
 split at h<;>try (cases h;done)
 ·rename_i U x hg ho
  have he:ev s x=ev s' x:=hs.ev x (by rw[ho];simp[opsOf])
  rw[←he]
  split at h<;>try (cases h;done)
  rename_i k j path off hx
  split at h<;>try (cases h;done)
  rename_i Tb a hst
  cases hc:tK E.P.toProgram Tb path U&& !dK E.P.toProgram U with
  |false=>rw[hc] at h;cases h
  | true=>
   rw[hc] at h
   simp only[aa7,aa3] at h
   subst h
   obtain⟨a',k1,k2⟩:=hk k Tb a hst
   have hc':=hc
   simp only[aa1,Bool.not_eq_true'] at hc'
   have hU:iX E.P.toProgram Tb path=some U:=by
    have c7:=hc'.1
    unfold tK at c7
    split at c7
    ·rename_i V hV;rw[hV,Nat.eq_of_beq_eq_true c7]
    ·cases c7
   obtain⟨r1,r2,r3⟩:=k2 U rfl hc'.2 path hU
   refine⟨hg,⟨by rw[ho];rfl,fun c a b e=>by rw[ho] at e;cases e⟩,?_,?_⟩
   ·rw[ho];simp only[bF];rw[←he,hx]
    simp only[mG,hst,k1,r1,r2,r3]
   ·simp only[k1,hc,aa7]
 ·rename_i x hg ho
  have he:ev s x=ev s' x:=hs.ev x (by rw[ho];simp[opsOf])
  rw[←he]
  split at h<;>try (cases h;done)
  rename_i k j path off hx
  cases hc:jB (an s.st k) with
  |false=>rw[hc] at h;cases h
  |true=>
   rw[hc] at h
   cases h
   cases hst:an s.st k<;>rw[hst] at hc<;>try (cases hc;done)
   obtain⟨a',k1,_⟩:=hk k _ _ hst
   refine⟨hg,⟨by rw[ho];rfl,fun c a b e=>by rw[ho] at e;cases e⟩,?_,?_⟩
   ·rw[ho];simp only[bF];rw[←he,hx];simp only[kq,k1,hst]
   ·simp only[k1];rfl
 ·rename_i U x f hg ho
  have he:ev s x=ev s' x:=hs.ev x (by rw[ho];simp[opsOf])
  rw[←he]
  split at h<;>try (cases h;done)
  rename_i k j path off hx
  cases hc:jB (an s.st k) with
  |false=>rw[hc] at h;cases h
  |true=>
   rw[hc] at h
   cases h
   cases hst:an s.st k<;>rw[hst] at hc<;>try (cases hc;done)
   obtain⟨a',k1,_⟩:=hk k _ _ hst
   refine⟨hg,⟨by rw[ho];rfl,fun c a b e=>by rw[ho] at e;cases e⟩,?_,?_⟩
   ·rw[ho];simp only[bF];rw[←he,hx];simp only[gr,kq,k1,hst]
   ·simp only[k1];rfl
theorem vr{E:Env}{rec:Rec}{ops:List Oper}{o:Oper}{s:S}{T:Option TypeId}{K:S->Prop}(hs:nh E.P.toProgram s o=some T)(h:dd E rec ops o s K): ∃a,K (put s o.dst a)/\∀(s':S) (K':S->Prop),Looks ops o s s'->nq E.P.toProgram T s.st s'.st->K' (put s' o.dst a)->dd E rec ops o s' K':=by
 obtain⟨hg,⟨hcl,hnp⟩,_,_⟩:=pX (E:=E) hs (Looks.same (ops:=ops) (s2:=s) (fun _ _=>rfl)) (.refl _ _ _)
 have h0:sR E rec s o.dst o.op K:=by
  unfold dd at h;rw[hg] at h;exact h
 have h1: ∃c a,bF E s o.op=some (c,a)/\c=true/\K (put s o.dst a):=by
  unfold sR at h0
  grind [ai.1]
 obtain⟨c,a,hr,hc,hk⟩:=h1
 refine⟨a,hk,fun s' K' hl hb hk'=>?_⟩
 obtain⟨_,_,hr',_⟩:=pX (E:=E) hs hl.same hb
 rw[hr] at hr'
 unfold dd
 rw[hg]
 unfold sR
 rw[hcl]
 simp only[hr']
 exact ai.2 ⟨hc,hk'⟩
def BD(P:Program)(quiet calm:FuncId->Bool)(T:Option TypeId)(ops:List Oper)(listed:List Bool)(i:Nat)(o:Oper):Prop:=
 ∀j b,ops[j]? =some b->i≠j->eZ listed j=false-> ¬ zE ops i j->uN P quiet calm T ops o b=true
theorem vo{P:Program}{quiet calm:FuncId->Bool}{T:Option TypeId}{ops:List Oper}{listed:List Bool}{i:Nat}{o:Oper}{fs:List Nat}(hfs: ∀j,j∈fs->j=i\/zE ops i j): ∀(l:List Oper) (k:Nat),vM P quiet calm T ops listed i o fs l k=true->∀m b,l[m]? =some b->i≠k+m->eZ listed (k+m)=false-> ¬ zE ops i (k+m)->uN P quiet calm T ops o b=true
 |[],_,_,m,b,h,_,_,_=>by simp at h
 | x::l,k,h,m,b,hm,hi,hn,he=>by
  simp only[vM,aa1,ab5] at h
  cases m with
  | zero=>
   simp at hm;subst hm
   rcases h.1 with((h1|h1)|h1)|h1
   ·exact absurd (Nat.eq_of_beq_eq_true h1) (by simpa using hi)
   ·rw[show k+0=k from rfl] at hn;rw[hn] at h1;cases h1
   ·rcases hfs _ ((kl _ _).1 h1) with h2|h2
    ·exact absurd h2.symm (by simpa using hi)
    ·exact absurd h2 (by simpa using he)
   ·exact h1
  |succ m=>
   refine vo hfs l (k+1) h.2 m b (by simpa using hm) (by omega) ?_ ?_
   ·rw[show k+1+m=k+(m+1) by omega];exact hn
   ·rw[show k+1+m=k+(m+1) by omega];exact he
theorem BD.set{P:Program}{quiet calm:FuncId->Bool}{T:Option TypeId}{ops:List Oper}{listed:List Bool}{i j:Nat}{o:Oper}(h:BD P quiet calm T ops listed i o):BD P quiet calm T ops (eU listed j) i o:=by
 intro k b hb hk hn he
 refine h k b hb hk ?_ he
 grind [fm,dF]
theorem sC{E:Env}(hE:aj E){rec:Rec}(hr:eC rec){ops:List Oper}{T:Option TypeId}{K:S->Prop}: ∀(n:Nat) (listed:List Bool) (s:S) (i:Nat) (o:Oper),DC ops listed->kX ops listed i o->BD E.P.toProgram E.quiet E.calm T ops listed i o->nh E.P.toProgram s o=some T->
  (dd E rec ops o s fun s'=>kt E rec ops n (eU listed i) s' K)->kt E rec ops (n+1) listed s K
 | n,listed,s,i,o,hdc,hi,hf,hst,h=>by
  refine⟨fun hn=>absurd hi (hn i o),fun j b hj=>?_⟩
  by_cases hij:i=j
  ·subst hij
   have:o=b:=Option.some.inj (hi.1.symm.trans hj.1)
   subst this;exact h
  ·have hsw:uN E.P.toProgram E.quiet E.calm T ops o b=true:=hf j b hj.1 hij hj.2.1 (fun hp=>by
    have:=hj.dep hdc hp
    rw[hi.2.1] at this;cases this)
   simp only[uN,rC,aa1,ab5,Bool.not_eq_true',Nat.blt_eq] at hsw
   obtain⟨⟨⟨q1,q2⟩,q3⟩,q4⟩:=hsw
   cases n with
   |zero=>
    obtain⟨a,h1,_⟩:=vr hst h
    exact absurd (hj.set hij) (h1.1 j b)
   | succ n=>
    have h':dd E rec ops o s fun s1=>dd E rec ops b s1 fun s2=>kt E rec ops n (eU (eU listed i) j) s2 K:=
     di hE hr (fun s1 h1=>h1.2 j b (hj.set hij)) h
    obtain⟨a,g1,g2⟩:=vr hst h'
    have g3:=Ay (T:=T) hE hr q4 g1
    refine mw hE hr (jZ q1).symm (b9 s o.dst a) ?_ g3
    intro st c _ hk
    obtain⟨k1,k2⟩:=hk
    rw[b9,b9] at k2
    have hbk:nq E.P.toProgram T s.st (put {s with st:=st} b.dst c).st:=by rw[b9];exact k2
    have hlk:Looks ops o s (put {s with st:=st} b.dst c):=by
     have:Looks ops o s {s with st:=st}:=fun _ _=>rfl
     intro t ht
     exact(this t ht).trans (jZ q2 t ht)
    have key:=g2 (put {s with st:=st} b.dst c) (fun s2=>kt E rec ops n (eU (eU listed j) i) s2 K) hlk hbk (by
     rw[←uy st q3,oL];exact k1)
    exact sC hE hr n (eU listed j) _ i o (hdc.set hj) (hi.set (Ne.symm hij)) hf.set (pX (E:=E) hst hlk.same hbk).2.2.2 key
theorem uI{P:Program}{quiet calm:FuncId->Bool}{ops:List Oper}{listed:List Bool}{s:S}: ∀(l:List (Nat×Oper)) {i:Nat} {o:Oper},sG P quiet calm ops listed s l=some (i,o)->∃T,(i,o)∈l/\nh P s o=some T/\vM P quiet calm T ops listed i o (fwd ops 0 [i]) ops 0=true
 |[],i,o,h=>by simp[sG] at h
 | (j,b)::l,i,o,h=>by
  simp only[sG] at h
  have rest:sG P quiet calm ops listed s l=some (i,o)->∃T,(i,o)∈(j,b)::l/\nh P s o=some T/\vM P quiet calm T ops listed i o (fwd ops 0 [i]) ops 0=true:=fun h=>by
   obtain⟨T,h1,h2⟩:=uI l h
   exact⟨T,by simp[h1],h2⟩
  split at h
  ·rename_i T hT
   cases hb:vM P quiet calm T ops listed j b (fwd ops 0 [j]) ops 0 with
   |true=>
    rw[hb] at h;simp at h;obtain⟨rfl,rfl⟩:=h
    exact⟨T,by simp,hT,hb⟩
   |false=>rw[hb] at h;exact rest h
  ·exact rest h
theorem wh{quiet calm:FuncId->Bool}{ops:List Oper}{listed:List Bool}{s:S}: ∀(l:List (Nat×Oper)) {i:Nat} {o:Oper},AB quiet calm ops listed s l=some (i,o)->(i,o)∈l/\nf s o=true/\x5 quiet calm ops listed i o (fwd ops 0 [i]) ops 0=true
 |[],i,o,h=>by simp[AB] at h
 | (j,b)::l,i,o,h=>by
  simp only[AB] at h
  cases hb:nf s b&&x5 quiet calm ops listed j b (fwd ops 0 [j]) ops 0 with
  |true=>
   rw[hb] at h;simp at h;obtain⟨rfl,rfl⟩:=h
   rw[aa1] at hb
   exact⟨by simp,hb⟩
  |false=>
   rw[hb] at h
   obtain⟨h1,h2⟩:=wh l h
   exact⟨by simp[h1],h2⟩
theorem nJ{E:Env}(hE:aj E){rec:Rec}(hr:eC rec){ops:List Oper}{K:S->Prop}: ∀(n:Nat) (listed:List Bool) (s:S),DC ops listed->mN E rec ops n listed s K->kt E rec ops n listed s K
 | 0,listed,s,_,h=>by
  unfold mN at h
  split at h
  ·rename_i h0
   exact⟨fun i o hi=>by rw[←fQ,h0] at hi;simp at hi,h⟩
  ·exact h.elim
 | n +1,listed,s,hdc,h=>by
  unfold mN at h
  split at h
  ·rename_i h0
   exact⟨fun _=>h,fun i o hi=>by rw[←fQ,h0] at hi;simp at hi⟩
  ·rename_i h0
   split at h
   ·rename_i i o hp
    obtain⟨h1,h2⟩:=o7 _ hp
    have hfs: ∀j,j∈fwd ops 0 [i]->j=i\/zE ops i j:=n9 ops 0 [i] (fun m b hm=>by simpa using hm) (fun j hj=> .inl (by simpa using hj))
    have hfree:KU E.quiet ops listed i o:=fun j b hb hij hn he=>free_spec hfs ops 0 h2 j b hb (by omega) (by simpa using hn) (by simpa using he)
    exact uO hE hr n listed s i o hdc (fQ.1 h1) hfree (di hE hr (fun s'=>nJ hE hr n _ s' (hdc.set (fQ.1 h1))) h)
   ·split at h
    ·rename_i i o hp
     obtain⟨h1,h2,h3⟩:=wh _ hp
     have hfs: ∀j,j∈fwd ops 0 [i]->j=i\/zE ops i j:=n9 ops 0 [i] (fun m b hm=>by simpa using hm) (fun j hj=> .inl (by simpa using hj))
     have hfree:As E.quiet E.calm ops listed i o:=fun j b hb hij hn he=>tZ hfs ops 0 h3 j b hb (by omega) (by simpa using hn) (by simpa using he)
     exact sB hE hr n listed s i o hdc (fQ.1 h1) hfree h2 (di hE hr (fun s'=>nJ hE hr n _ s' (hdc.set (fQ.1 h1))) h)
    split at h
    ·rename_i i o hp
     have hp:sG E.P.toProgram E.quiet E.calm ops listed s (jz listed ops 0)=some (i,o):=by
      cases hc:E.calm 888888<;>rw[hc] at hp
      ·cases hp
      ·exact hp
     obtain⟨T,h1,h2,h3⟩:=uI _ hp
     have hfs: ∀j,j∈fwd ops 0 [i]->j=i\/zE ops i j:=n9 ops 0 [i] (fun m b hm=>by simpa using hm) (fun j hj=> .inl (by simpa using hj))
     have hfree:BD E.P.toProgram E.quiet E.calm T ops listed i o:=fun j b hb hij hn he=>vo hfs ops 0 h3 j b hb (by omega) (by simpa using hn) (by simpa using he)
     exact sC hE hr n listed s i o hdc (fQ.1 h1) hfree h2 (di hE hr (fun s'=>nJ hE hr n _ s' (hdc.set (fQ.1 h1))) h)
    have:=xG _ h
    refine⟨fun hn=>?_,fun i o hi=>di hE hr (fun s'=>nJ hE hr n _ s' (hdc.set hi)) (this i o (fQ.2 hi))⟩
    exfalso
    cases hrl:jz listed ops 0 with
    |nil=>exact h0 hrl
    |cons x l=>
     obtain⟨i,o⟩:=x
     exact hn i o (fQ.1 (by rw[hrl];simp))
theorem xi: ∀(l:List Bool) (i:Nat),eZ l i=l.getD i true
 |[],_=>rfl
 |_::_,0=>rfl
 |_::l,i+1=>by simpa[eZ] using xi l i
theorem A5: ∀(l:List Bool) (i:Nat),eU l i=l.set i true
 |[],_=>rfl
 |_::_,0=>rfl
 |_::l,i+1=>by simp[eU,A5 l i]
theorem xV: ∀n,gI n=List.replicate n false
 |0=>rfl
 |n+1=>by simp[gI,xV n,List.replicate_succ]
theorem mW{ops:Array Oper}{listed:Array Bool}{i:Nat}:i∈Region.ready .any ops listed↔ ∃o,kX ops.toList listed.toList i o:=by
 rw[mem_ready]
 have e1: ∀k,eZ listed.toList k=listed.getD k true:=fun k=>by rw[xi];simp
 constructor
 ·rintro⟨h1,o,h2,h3⟩
  refine⟨o,by simpa using h2,by rw[e1];exact h1,fun e he hb=>?_⟩
  grind
 ·rintro⟨o,h1,h2,h3⟩
  grind
theorem wu{E:Env}(hE:aE E){rec:Rec}(hrec:fK E.P rec){F:Fence}(hF:F=Fence.wide\/ ∃B,F=Fence.wide.inRound B){n:Nat}{ops:Array Oper}{K:S->Prop}{lo base:Nat}{Q:Exit->Act->World->Prop}:
  ∀(k:Nat) (listed:Array Bool) {C:Ctx},C.P=E.P->Inv C->∀{s:S} {a:Act},db C s a->gS lo C a.defers->base<=s.st.length->kt E rec ops.toList k listed.toList s K->
   (∀a' w',cH lo base C K a' w'->Q .normal a' w')->wpAnyIn F n E.P .any ops Q k listed a C.w
 |0,listed,C,hC,hI,s,a,hs,hd,hb,h,hQ=>by
  refine⟨?_,hQ _ _ ⟨C,s,rfl,rfl,hI,hs,hd,hb,Ext.refl C (by rw[hs.st];exact hb),h.2⟩⟩
  rw[List.eq_nil_iff_forall_not_mem]
  intro i hi
  obtain⟨o,ho⟩:=mW.1 hi
  exact h.1 i o ho
 | k+1,listed,C,hC,hI,s,a,hs,hd,hb,h,hQ=>by
  refine⟨fun hn=>hQ _ _ ⟨C,s,rfl,rfl,hI,hs,hd,hb,Ext.refl C (by rw[hs.st];exact hb),h.1 fun i o ho=>?_⟩,fun i hi=>?_⟩
  ·have:=mW.2 ⟨o,ho⟩
   rw[hn] at this;simp at this
  ·obtain⟨o,ho⟩:=mW.1 hi
   have h1:=h.2 i o ho
   rw[dT] at h1
   have hn: ∀a' w',cH lo base C (fun s'=>kt E rec ops.toList k (eU listed.toList i) s' K) a' w'->wpAnyIn F n E.P .any ops Q k (listed.setIfInBounds i true) a' w':=by
    rintro a' w' ⟨C',s',rfl,hP',hI',hs',hd',hb',he,hK⟩
    refine wu hE hrec hF k _ (hP'.trans hC) hI' hs' hd' hb' ?_ (fun a2 w2 h2=>hQ _ _ (h2.trans hP' he))
    have e:(listed.setIfInBounds i true).toList=eU listed.toList i:=by rw[A5];simp
    rw[e];exact hK
   exact sD hI hs hd hb hF (i:=i) (o:=o) (by simpa using ho.1) (fun hp=>Gj hE hrec hC hI hs hd hb hF hp hn) hn h1
theorem Dy{E:Env}(hE:aE E)(hM:aj E){rec:Rec}(hrec:fK E.P rec)(hr:eC rec):Ik E rec:=by
 intro id ops s K h C a F n lo base hC hI hs hd hb hF Q hQ
 refine wpIn_region_any hE.prog.mixed ?_
 have hg:gT C.w {C.w with drawn:=C.w.drawn+1}:=⟨Nat.le_refl _,rfl,rfl,rfl,fun _ _=>rfl⟩
 obtain⟨g1,g2⟩:=nK hI hg
 have hs':=hs.step hI g2
 have e:({s with st:=C.st}:S)=s:=by rw[hs.st]
 have hs'':db {C with w:={C.w with drawn:=C.w.drawn+1}} s a:=by grind
 have hfull:=nJ hM hr _ _ _ (DC.gI _ _) h
 have:=wu (C:={C with w:={C.w with drawn:=C.w.drawn+1}}) hE hrec hF (n:=n) (K:=K) (lo:=lo) (base:=base) (Q:=Q) ops.size (Array.replicate ops.size false) hC g1 hs'' (hd.ext g2) hb
  (by simpa[xV] using hfull) (fun a' w' h'=>hQ _ _ (cH.trans (C:=C) (C':={C with w:={C.w with drawn:=C.w.drawn+1}}) rfl (g2.mono (by rw[hs.st];exact hb)) h'))
 exact this
theorem Jk{E:Env}(hE:aj E){rec:Rec}(hr:eC rec){s:S}{d:Option Tmp}{o:Op}{K K':S->Prop}(hK: ∀s,K s->K' s)(h:M1 E rec s d o K):M1 E rec s d o K':=by
 unfold M1 at h⊢
 split at h
 ·exact cq (hK _) h
 ·split at h
  ·split at h<;>try exact h.elim
   rename_i t _
   cases t<;>exact hK _ h
  ·split at h
   ·exact lW hE hr (fun _ _ hh=>hK _ hh) h
   ·exact uk ⟨fun _ _=>rfl⟩ rfl (fun _ _ hh=>hK _ hh) h
theorem rN{E:Env}(hE:aj E){rec:Rec}(hr:eC rec){ops:List Oper}: ∀(l:List Oper) {s:S} {K K':S->Prop},(∀s,K s->K' s)->nr E rec ops l s K->nr E rec ops l s K'
 |[],s,K,K',hK,h=>hK _ h
 |o::l,s,K,K',hK,h=>by
  rw[vP] at h⊢
  exact il (fun _ _=>rfl) (Jk hE hr (fun s'=>rN hE hr l hK)) (rN hE hr l hK) h
theorem jY{E:Env}(hE:aj E){rec:Rec}(hr:eC rec){ops:List Oper}{K K':S->Prop}(hK: ∀s,K s->K' s): ∀(n:Nat) (listed:List Bool) (s:S),mN E rec ops n listed s K->mN E rec ops n listed s K'
 |0,listed,s,h=>by
  unfold mN at h⊢
  split at h
  ·exact hK _ h
  ·exact h.elim
 | n +1,listed,s,h=>by
  unfold mN at h⊢
  split at h
  ·exact hK _ h
  ·split at h
   ·exact di hE hr (fun s'=>jY hE hr hK n _ s') h
   ·split at h
    ·exact di hE hr (fun s'=>jY hE hr hK n _ s') h
    split at h
    ·exact di hE hr (fun s'=>jY hE hr hK n _ s') h
    generalize jz listed ops 0=l at h⊢
    have: ∀l:List (Nat×Oper),(GQ (fun i o=>dd E rec ops o s fun s'=>mN E rec ops n (eU listed i) s' K) l)->GQ (fun i o=>dd E rec ops o s fun s'=>mN E rec ops n (eU listed i) s' K') l:=by
     intro l
     induction l with
     |nil=>exact id
     |cons x l ih=>
      obtain⟨i,o⟩:=x
      cases l with
      |nil=>exact fun h=>di hE hr (fun s'=>jY hE hr hK n _ s') h
      |cons y l=>exact fun h=>⟨di hE hr (fun s'=>jY hE hr hK n _ s') h.1,ih h.2⟩
    exact this _ h
theorem Hv{E:Env}(hE:aj E){rec:Rec}(hr:eC rec)(f:FuncId)(rd:Option Nat)(base:Nat): ∀(c:Code) (s:S) (K K':Exit->S->Prop),(∀e s,K e s->K' e s)->jH E rec f rd base c s K->jH E rec f rd base c s K':=by
 intro c
 induction c with
 |skip=>intro s K K' hK h;exact hK _ _ h
 |label l=>intro s K K' hK h;exact hK _ _ h
 | region id ops d=>
  intro s K K' hK h
  cases d with
  |false=>
   have h:nr E rec ops.toList ops.toList s (wH (K .normal)):=h
   show nr E rec ops.toList ops.toList s (wH (K' .normal))
   rw[tx] at h⊢
   exact rN hE hr _ (hK _) h
  |true=>
   have h:mN E rec ops.toList ops.toList.length (gI ops.toList.length) s (wH (K .normal)):=h
   show mN E rec ops.toList ops.toList.length (gI ops.toList.length) s (wH (K' .normal))
   rw[tx] at h⊢
   exact jY hE hr (hK _) _ _ _ h
 |seq x y ihx ihy=>
  intro s K K' hK h
  refine ihx s _ _ ?_ h
  intro e s' hh
  cases e with
  |normal=>exact ihy s' _ _ hK hh
  |_=>exact hK _ _ hh
 |cond c x y ihx ihy=>
  intro s K K' hK h
  unfold jH at h⊢
  split at h<;>try exact h.elim
  rename_i t _
  cases t with
  |true=>exact ihx _ _ _ hK h
  |false=>exact ihy _ _ _ hK h
 | block id c ih=>
  intro s K K' hK h
  refine ih s _ _ ?_ h
  intro e s' hh
  cases e with
  |exit i=>
   simp only[yQ] at hh⊢
   cases hb:Nat.beq i id<;>rw[hb] at hh<;>exact hK _ _ hh
  |_=>exact hK _ _ hh
 |loop c ih=>
  intro s K K' hK h
  unfold jH at h⊢
  split at h<;>try exact h.elim
  exact cq (fun hh=>by rw[jQ] at hh⊢;exact hE.loop _ _ _ _ _ _ _ _ hK hh) h
 | rangeFunc g ps asg body iha ihb=>
  intro s K K' hK h
  unfold jH at h⊢
  split at h<;>try exact h.elim
  have hrk: ∀st,px s.st.length s K st->px s.st.length s K' st:=by
   intro st hh
   unfold px at hh⊢
   split at hh<;>try exact hh.elim
   rename_i r hl
   cases hs:r.state<;>cases hp:r.pending<;>rw[hs,hp] at hh<;>try exact hh.elim
   all_goals first|exact hK _ _ hh|(rename_i c;cases c<;>first|exact hh.elim|exact hK _ _ hh)
  refine cq (fun hh=>?_) h
  split at hh
  ·exact hE.kW _ _ _ _ _ _ _ hrk hh
  ·exact sM hr (fun _ st=>hrk st) hh
 |exit id=>intro s K K' hK h;exact hK _ _ h
 |goto l=>intro s K K' hK h;exact h.elim
 |scope c ih=>
  intro s K K' hK h
  refine ih s _ _ ?_ h
  intro e s' hh
  cases e with
  |goto l=>exact hh.elim
  |_=>exact hK _ _ hh
 |ret=>intro s K K' hK h;exact hK _ _ h
 |refuse r=>intro s K K' hK h;exact h.elim
theorem oA{E:Env}(hE:aj E): ∀n,eC (vc E n)
 |0=>fun _ _ _ _ _ _ _ _ h=>h.elim
 |n+1=>fun f rd base c s K K' hK h=>Hv hE (oA hE n) f rd base c s K K' hK h
theorem xH{E:Env}(hE:aE E)(hM:aj E): ∀n,fK E.P (vc E n)
 |0=>fun _ _ _ _ _ _ h=>h.elim
 |n+1=>fun f rd base c s K h=>DM hE (xH hE hM n) (Dy hE hM (xH hE hM n) (oA hM n)) f rd base c s K h
#print axioms xH
end Go.Dn
