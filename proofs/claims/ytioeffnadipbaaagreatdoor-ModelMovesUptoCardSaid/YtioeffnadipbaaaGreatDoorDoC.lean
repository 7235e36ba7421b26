import Derived.Test.YtioeffnadipbaaaGreatDoorDoB
namespace Go.Dn
open Go
theorem y4: ∀l i j x y,i≠j->bt (bt l i x) j y=bt (bt l j y) i x
 |[],_,_,_,_,_=>rfl
 |a::l,0,0,_,_,h=>absurd rfl h
 |a::l,0,j+1,_,_,_=>rfl
 |a::l,i+1,0,_,_,_=>rfl
 |a::l,i+1,j+1,x,y,h=>by simp[bt];rw[y4 l i j x y (by omega)]
theorem xL{s d c a b} st(h:ym d c=true):put {put s d a with st:=st} c b=put (put {s with st:=st} c b) d a:=by
 cases d with
 |none=>rfl
 | some t=>
  cases c with
  |none=>rfl
  |some u=>
   have:t≠u:=by intro e;simp_all[ym]
   grind [put,y4]
theorem kF{ops o s d a}(h:Bq ops o d=false):Looks ops o s (put s d a):=by
 intro t b;cases d<;>grind [Bq,put,jf]
theorem Looks.symm{ops o s1 s2}(h:Looks ops o s1 s2):Looks ops o s2 s1:=fun t a=>(h t a).symm
theorem LR{quiet o}(h:Em o=true):fq quiet o=2/\∀s,gP s o=none:=by
 cases o with
 |alloc T=>exact⟨rfl,fun _=>rfl⟩
 |box T x=>exact⟨rfl,fun _=>rfl⟩
 |makeSlice T a b=>exact⟨rfl,fun _=>rfl⟩
 |makeMap T x=>cases x<;>exact⟨rfl,fun _=>rfl⟩
 |_=>cases h
theorem cn s d a:(put s d a).st=s.st:=by cases d<;>rfl
theorem GS{P s dst o}(hg:Em o=true){K}(h:cm P s dst o K):cm P s dst o fun s'=>K s'/\Kept s.st s'.st:=by
 cases o with
 |alloc T=>
  grind [cm,cn,Kept.app]
 |box T x=>grind [cm,cy,cn,Kept.app]
 |makeSlice T a b=>grind [cm,cy,cn,Kept.app]
 |makeMap T x=>
  cases x<;>grind [cm,cn,Kept.app]
 |_=>cases hg
theorem Jr{E rec ops b s K}(hb:fq E.quiet b.op<2\/Em b.op=true)(h:dD E rec ops b s K):dD E rec ops b s fun s'=>K s'/\Kept s.st s'.st:=by
 rcases hb with hb|hb
 ·obtain⟨a,h1,h2⟩:=pG hb h
  exact h2 s _ (fun _ _=>rfl) (fun _=> .refl _) ⟨h1,by rw[cn];exact .refl _⟩
 ·rw[ef] at h⊢
  refine iL (fun _ _=>rfl) (fun h=>?_) (fun h=>⟨h,by rw[cn];exact .refl _⟩) h;obtain⟨e1,e2⟩:=LR (quiet:=E.quiet) hb
  simp_all[uG,GS]
theorem Ju{E}(hE:aj E){rec}(hr:eB rec){ops i j}(hsw:w5 E.quiet ops i j=true){s K}
  (h:dD E rec ops i s fun s1=>dD E rec ops j s1 K):dD E rec ops j s fun s2=>dD E rec ops i s2 K:=by
 simp only[w5,tQ,ao0,Bool.not_eq_true'] at hsw;obtain⟨⟨⟨h1,h2⟩,h3⟩,h4⟩:=hsw;have hc:fq E.quiet i.op<2:=by
  split at h4
  ·omega
  ·omega
  ·cases h4
 have hj:fq E.quiet i.op=1->fq E.quiet j.op<2\/Em j.op=true:=by
  intro e;rw[e] at h4;simpa using h4
 obtain⟨a,g1,g2⟩:=pG hc h;have hst:(put s i.dst a).st=s.st:=by cases i.dst<;>rfl
 have g3:dD E rec ops j (put s i.dst a) fun s'=>K s'/\(fq E.quiet i.op=1->Kept s.st s'.st):=by
  rcases Nat.eq_zero_or_pos (fq E.quiet i.op) with e|e
  ·simp_all
  ·grind [di,Jr]
 refine nF hE hr (kF h1).symm hst ?_ g3;intro st b hs hk;refine g2 _ _ ?_ ?_ ?_
 ·have:Looks ops i s {s with st:=st}:=fun _ _=>rfl
  intro t ht;exact(this t ht).trans (kF h2 t ht)
 ·intro e
  have:=hk.2 e
  rw[cn] at this⊢;exact this
 ·rw[←xL st h3];exact hk.1
theorem oU: ∀l i,(gA l i).length=l.length
 |[],_=>rfl
 |_::_,0=>rfl
 |_::l,i+1=>by simp[gA,oU l i]
theorem fz: ∀l i,fx (gA l i) i=true
 |[],_=>rfl
 |_::_,0=>rfl
 |_::l,i+1=>by exact fz l i
theorem dF: ∀l i j,i≠j->fx (gA l i) j=fx l j
 |[],_,_,_=>rfl
 |_::_,0,j,h=>by cases j with|zero=>grind|succ j=>rfl
 |_::l,i+1,j,h=>by
  cases j with
  |zero=>rfl
  |succ j=>exact dF l i j (by omega)
theorem pB: ∀l i j,gA (gA l i) j=gA (gA l j) i
 |[],_,_=>rfl
 |_::_,0,0=>rfl
 |_::_,0,j+1=>rfl
 |_::_,i+1,0=>rfl
 |_::l,i+1,j+1=>by simp[gA];rw[pB l i j]
theorem ov a: ∀l,lZ a l=true↔ ∀e,e∈l->Region.binds .any e=true->e.on<a.length/\fx a e.on=true
 |[]=>by simp[lZ]
 |e::l=>by
  simp[lZ,ov _ l]
  grind
theorem wW a: ∀l k i o,(i,o)∈ke a l k↔ ∃m,i=k+m/\l[m]? =some o/\fx a i=false/\lZ a o.after.toList=true
 |[],k,i,o=>by simp[ke]
 | b::l,k,i,o=>by
  have e:=wW a l (k+1) i o;have c:(i,o)∈ke a l (k+1)↔ ∃m,i=k+(m+1)/\(b::l)[m+1]? =some o/\fx a i=false/\lZ a o.after.toList=true:=by
   rw[e];constructor
   ·rintro⟨m,j,f,g⟩;exact⟨m,by omega,by simpa using f,g⟩
   grind
  simp only[ke];cases d:(!fx a k&&lZ a b.after.toList) with
  | true=>
   simp only[ao6,ap7,c,ao8];simp only[ao0,Bool.not_eq_true'] at d;constructor
   ·rintro(⟨rfl,rfl⟩|⟨m,h⟩)
    ·exact⟨0,by omega,rfl,d.1,d.2⟩
    ·exact⟨m+1,h⟩
   ·grind
  |false=>grind
def lJ(ops:List Oper) a i o:=ops[i]? =some o/\fx a i=false/\∀e,e∈o.after.toList->Region.binds .any e=true->e.on<a.length/\fx a e.on=true
theorem gl{ops a i o}:(i,o)∈ke a ops 0↔lJ ops a i o:=by
 rw[wW];constructor
 ·rintro⟨m,d,b,c,e⟩
  obtain rfl:i=m:=by omega
  exact⟨b,c,(ov _ _).1 e⟩
 ·rintro⟨d,b,c⟩
  grind [ov]
theorem lJ.set{ops a i j o}(h:lJ ops a i o)(b:j≠i):lJ ops (gA a j) i o:=by
 refine⟨h.1,by rw[dF _ _ _ b];exact h.2.1,fun e c d=>?_⟩;obtain⟨g,f⟩:=h.2.2 e c d
 grind [oU,fz,dF]
inductive Ae (ops:List Oper) (i:Nat):Nat->Prop
 |base (j:Nat) (b:Oper) (e:Edge) (h1:ops[j]? =some b) (h2:e∈b.after.toList) (h3:Region.binds .any e=true) (h4:e.on=i):Ae ops i j
 |step (j:Nat) (b:Oper) (e:Edge) (h1:ops[j]? =some b) (h2:e∈b.after.toList) (h3:Region.binds .any e=true) (h4:Ae ops i e.on):Ae ops i j
def DC(ops:List Oper) a:=∀j b,ops[j]? =some b->j<a.length->fx a j=true->∀e,e∈b.after.toList->Region.binds .any e=true->e.on<a.length/\fx a e.on=true
theorem Gl{ops a}(hd:DC ops a){i j}(h:Ae ops i j):j<a.length->fx a j=true->fx a i=true:=by
 induction h with
 |base j b e d f c l=>intro k g;rw[←l];exact(hd j b d k g e f c).2
 |step j b e d f c _ m=>intro k g;exact m (hd j b d k g e f c).1 (hd j b d k g e f c).2
theorem lJ.dep{ops a}(hd:DC ops a){i j b}(h:lJ ops a j b)(k:Ae ops i j):fx a i=true:=by
 cases k with
 |base _ l e f d c g=>
  have:=Option.some.inj (f.symm.trans h.1)
  subst this;rw[←g];exact(h.2.2 e d c).2
 |step _ l e f d c g=>
  have:=Option.some.inj (f.symm.trans h.1)
  subst this;exact Gl hd g (h.2.2 e d c).1 (h.2.2 e d c).2
theorem DC.iF ops n:DC ops (iF n):=fun j b _ d c=>by
 have: ∀n j,j<(Go.Dn.iF n).length->fx (Go.Dn.iF n) j=false:=by
  intro n;induction n with
  |zero=>grind [Go.Dn.iF]
  |succ n a=>intro j h;cases j<;>grind [Go.Dn.iF,fx]
 grind
theorem DC.set{ops a}(hd:DC ops a){i o}(h:lJ ops a i o):DC ops (gA a i):=by
 intro j b k l f e g c;rw[oU] at l⊢;have m:e.on<a.length/\fx a e.on=true:=by
  by_cases d:i=j
  ·subst d
   have:=Option.some.inj (k.symm.trans h.1)
   subst this;exact h.2.2 e g c
  ·rw[dF _ _ _ d] at f
   exact hd j b k l f e g c
 grind [fz,dF]
theorem zA a: ∀l,z7 a l=true->∃e,e∈l/\Region.binds .any e=true/\e.on∈a
 |[],h=>by grind [z7]
 | e::l,h=>by
  simp[z7] at h;rcases h with⟨b,c⟩|h
  ·grind [kJ]
  ·obtain⟨d,b,c⟩:=zA _ l h
   grind
theorem o4{ops i}: ∀l k a,(∀m b,l[m]? =some b->ops[k+m]? =some b)->(∀j,j∈a->j=i\/Ae ops i j)->∀j,j∈fwd l k a->j=i\/Ae ops i j
 |[],_,_,_,g,j,c=>g j c
 | o::l,k,a,h,g,j,c=>by
  simp only[fwd] at c;have f: ∀m b,l[m]? =some b->ops[k+1+m]? =some b:=fun m b s=>by
   have:=h (m+1) b (by simpa using s)
   grind
  cases n:z7 a o.after.toList with
  |false=>rw[n] at c;exact o4 l (k+1) a f g j c
  | true=>
   rw[n] at c;refine o4 l (k+1) (k::a) f (fun u d=>?_) j c;rcases List.mem_cons.1 d with rfl|d
   ·obtain⟨e,q,r,t⟩:=zA _ _ n
    rcases g _ t with p|p
    ·exact .inr (.base _ o e (h 0 o rfl) q r p)
    ·exact .inr (.step _ o e (h 0 o rfl) q r p)
   grind
def NT quiet ops a i o:=
 ∀j b,ops[j]? =some b->i≠j->fx a j=false-> ¬ Ae ops i j->w5 quiet ops o b=true
theorem free_spec{quiet ops a i o d}(c: ∀j,j∈d->j=i\/Ae ops i j): ∀l k,iQ quiet ops a i o d l k=true->∀m b,l[m]? =some b->i≠k+m->fx a (k+m)=false-> ¬ Ae ops i (k+m)->w5 quiet ops o b=true
 |[],_,_,m,b,h,_,_,_=>by simp at h
 | x::l,k,h,m,b,e,n,f,g=>by
  simp only[iQ,ao0] at h;cases m with
  |zero=>
   grind [Nat.eq_of_beq_eq_true,kJ]
  |succ m=>
   refine free_spec c l (k+1) h.2 m b (by grind) (by omega) ?_ ?_
   ·grind
   grind
theorem NT.set{quiet ops a i j o}(h:NT quiet ops a i o):NT quiet ops (gA a j) i o:=by
 intro k b d e f c;refine h k b d e ?_ c
 grind [fz,dF]
def nM(E:Env)(rec:Rec)(ops:List Oper):Nat->List Bool->S->(S->Prop)->Prop
 |0,listed,s,K=>(∀i o,¬ lJ ops listed i o)/\K s
 |n+1,listed,s,K=>((∀i o,¬ lJ ops listed i o)->K s)/\∀i o,lJ ops listed i o->dD E rec ops o s fun s'=>nM E rec ops n (gA listed i) s' K
theorem we{E}(hE:aj E){rec}(hr:eB rec){ops K}: ∀n listed s i o,DC ops listed->lJ ops listed i o->NT E.quiet ops listed i o->
  (dD E rec ops o s fun s'=>nM E rec ops n (gA listed i) s' K)->nM E rec ops (n+1) listed s K
 | n,listed,s,i,o,hdc,hi,hf,h=>by
  refine⟨fun hn=>absurd hi (hn i o),fun j b hj=>?_⟩;by_cases hij:i=j
  ·subst hij
   have:o=b:=Option.some.inj (hi.1.symm.trans hj.1)
   subst this;exact h
  ·have hsw:w5 E.quiet ops o b=true:=hf j b hj.1 hij hj.2.1 (fun hp=>by
    have:=hj.dep hdc hp
    rw[hi.2.1] at this;cases this)
   cases n with
   | zero=>
    have hc:fq E.quiet o.op<2:=by
     simp only[w5,ao0] at hsw
     grind
    obtain⟨a,h1,_⟩:=pG hc h;exact absurd (hj.set hij) (h1.1 j b)
   | succ n=>
    have h':=
     di hE hr (fun s1 h1=>h1.2 j b (hj.set hij)) h
    refine di hE hr (fun s2 h2=>?_) (Ju hE hr hsw h');rw[pB] at h2;exact we hE hr n (gA listed j) s2 i o (hdc.set hj) (hi.set (Ne.symm hij)) hf.set h2
theorem y1{p}: ∀l,Nn p l->∀i o,(i,o)∈l->p i o
 |[],_,i,o,h=>by grind
 |[(j,b)],h,i,o,a=>by
  simp   at a;obtain⟨rfl,rfl⟩:=a;exact h
 |(j,b)::x::l,h,i,o,a=>by
  rcases List.mem_cons.1 a with a|a
  ·cases a;exact h.1
  ·exact y1 _ h.2 i o a
theorem qg{quiet ops a}: ∀l {i o},oI quiet ops a l=some (i,o)->(i,o)∈l/\iQ quiet ops a i o (fwd ops 0 [i]) ops 0=true
 |[],i,o,h=>by grind [oI]
 | (j,b)::l,i,o,h=>by
  simp[oI] at h;cases c:iQ quiet ops a j b (fwd ops 0 [j]) ops 0 with
  |true=>grind
  |false=>
   rw[c] at h;obtain⟨e,d⟩:=qg l h
   grind
def bW st st':=(∀k,j9 (ay st k)=true->ay st' k=ay st k)/\∀k T E ls pd,ay st k= .rows T E ls pd->∃ls' pd',ay st' k= .rows T E ls' pd'
theorem H4{st k}(h:ay st k≠ .dead):k<st.length:=by grind [eR]
theorem bW.refl st:bW st st:=⟨by simp,by grind⟩
theorem bW.trans{a b c}(d:bW a b)(f:bW b c):bW a c:=⟨fun k e=>by
 rw[f.1 k (by rw[d.1 k e];omega),d.1 k e],fun k T E i g h=>by
 obtain⟨_,_,h⟩:=d.2 k T E _ _ h;exact f.2 k T E _ _ h⟩
theorem bW.of{st st'}(h: ∀k,ay st k≠ .dead->j9 (ay st k)=true\/AB (ay st k)=true->ay st' k=ay st k):bW st st':=
 ⟨fun k hk=>h k (by intro e;rw[e] at hk;cases hk) (.inl hk),fun k T E ls pd hk=>⟨_,_,by rw[h k (by grind) (.inr (by rw[hk];rfl)),hk]⟩⟩
theorem bW.app st l:bW st (st++l):= .of fun _ a _=>dT _ _ _ (H4 a)
theorem bW.set{st i T xs o}(h:ay st i= .row T xs):bW st (dd st i o):= .of fun k _ a=>by
 refine bH _ _ _ _ fun e=>?_
 subst e;rw[h] at a;rcases a with a|a<;>cases a
theorem bW.rows{st i T E d b f a}(h:ay st i= .rows T E d f):bW st (dd st i (.rows T E b a)):=by
 refine⟨fun k c=>bH _ _ _ _ fun e=>?_,fun k j g l p c=>?_⟩
 ·subst e;rw[h] at c;cases c
 grind [br,H4,bH]
theorem bW.freeze: ∀b st,bW st (cG st b)
 |[],st=> .refl _
 | i::b,st=>by
  refine bW.trans (.of ?_) (bW.freeze b _);intro k hd a;by_cases e:i=k
  ·subst e
   rw[br _ _ _ (H4 hd)];cases c:ay _ i<;>rw[c] at a<;>first|rfl|(rcases a with a|a<;>cases a)
  grind [bH]
theorem rV: ∀{st st'},rn st st'->∀k,ay st k≠ .dead->j9 (ay st k)=true\/AB (ay st k)=true->ay st' k=ay st k
 |[],_,_,k,hd,_=>absurd rfl hd
 |a::l,[],h,_,_,_=>by cases a<;>exact h.elim
 |a::l,o::l',h,0,_,hk=>by
  cases a<;>first|exact h.1|(rcases hk with hk|hk<;>cases hk)
 |a::l,o::l',h,k+1,hd,hk=>rV   (by cases a<;>first|exact h.2|exact h) k hd hk
theorem NX{quiet o}(h:zt o=true):fq quiet o=2/\∀s,gP s o=none:=by
 cases o with
 |call c=>
  obtain⟨d,e,f⟩:=c;cases d with
  |builtin b=>cases b<;>first|exact⟨rfl,fun _=>rfl⟩|cases h
  |value g=>cases h
  |invoke r m=>cases h
 |buildSlice T n ps=>exact⟨rfl,fun _=>rfl⟩
 |makeSlice T a b=>exact⟨rfl,fun _=>rfl⟩
 |alloc T=>exact⟨rfl,fun _=>rfl⟩
 |box T x=>exact⟨rfl,fun _=>rfl⟩
 |makeMap T x=>cases x<;>exact⟨rfl,fun _=>rfl⟩
 |_=>cases h
theorem CN{P s dst o}(hg:zt o=true){K}(h:cm P s dst o K):cm P s dst o fun s'=>K s'/\bW s.st s'.st:=by
 cases o with
 |alloc T=>
  simp only[cm] at h⊢;split at h<;>try exact h.elim
  exact⟨h,by rw[cn];exact bW.app _ _⟩
 | box T x=>
  simp only[cm] at h⊢;split at h<;>try exact h.elim
  rename_i h1;rw[if_pos h1];split at h
  ·rename_i hi
   first|simp only[hi]|skip
   exact cy (fun h=>⟨h,by rw[cn];exact bW.app _ _⟩) h
  ·rename_i hi
   first|simp only[hi]|skip
   exact⟨h,by rw[cn];exact bW.app _ _⟩
 | makeMap T x=>
  cases x with
  |some y=>cases hg
  |none=>
   simp only[cm] at h⊢;split at h<;>try exact h.elim
   exact⟨h,by rw[cn];exact bW.app _ _⟩
 |buildSlice T n ps=>
  simp only[cm] at h⊢;split at h<;>try exact h.elim
  split at h<;>try exact h.elim
  split at h<;>try exact h.elim
  split at h<;>try exact h.elim
  rename_i h4;rw[if_pos h4];exact⟨h,by rw[cn];exact(bW.freeze _ _).trans (bW.app _ _)⟩
 |makeSlice T a b=>
  simp only[cm] at h⊢;split at h<;>try exact h.elim
  split at h<;>try exact h.elim
  exact cy (fun h=>⟨h,by rw[cn];exact bW.app _ _⟩) h
 | call c=>
  obtain⟨callee,args,ats⟩:=c;cases callee with
  | builtin b=>
   cases b<;>try (cases hg;done)
   simp only[cm] at h⊢;split at h<;>try exact h.elim
   split at h<;>try exact h.elim
   rename_i h3;rw[if_pos h3];unfold pL at h⊢;split at h<;>try exact h.elim
   split at h<;>try exact h.elim
   split at h<;>try exact h.elim
   split at h<;>try exact h.elim
   ·exact cy (fun h=>⟨h,by rw[cn];exact bW.app _ _⟩) h
   ·split at h<;>try exact h.elim
    ·split at h<;>try exact h.elim
     rename_i k1 k2;rw[if_pos k2];exact cy (fun h=>⟨h,by rw[cn];exact(bW.set k1).trans (bW.app _ _)⟩) h
    ·rename_i k1
     split at h<;>try exact h.elim
     rename_i k2;simp only;split at h<;>try exact h.elim
     rename_i k3;rw[if_pos k3];exact cy (fun h=>⟨h,by rw[cn];exact bW.rows k1⟩) h
  |value g=>cases hg
  |invoke r m=>cases hg
 |_=>cases hg
theorem JT{E}(hE:aj E){rec g args st K}(hl:JR E g args st=true)(h:o0 E rec g args st K):o0 E rec g args st fun a st'=>K a st'/\bW st st':=by
 unfold JR at hl;split at hl
 ·rename_i f caps
  simp only[ao0,Bool.not_eq_true'] at hl;obtain⟨⟨h1,h2⟩,h3⟩:=hl;unfold o0 at h⊢;simp only[h1,h2] at h⊢;split at h3
  ·rename_i as hle
   rw[hle] at h⊢;simp only[cG] at h⊢;have hr:cU (sg E.P (mz E.P f) as)=[]:=by
    grind [LV]
   refine cy (fun h=>?_) h;rw[kx] at h⊢
   grind [nA,kM,cU,sg,reach,fy,fy.go,bW.app]
  ·cases h3
 ·cases hl
theorem wB{E}(hE:aj E){rec}(hr:eB rec){ops b s K}(hb:(fq E.quiet b.op<2\/zt b.op=true)\/w6 E.calm b.op=true)(h:dD E rec ops b s K):dD E rec ops b s fun s'=>K s'/\bW s.st s'.st:=by
 have small:fq E.quiet b.op<2->dD E rec ops b s fun s'=>K s'/\bW s.st s'.st:=fun hb=>by
  obtain⟨a,h1,h2⟩:=pG hb h;exact h2 s _ (fun _ _=>rfl) (fun _=>Kept.refl _) ⟨h1,by rw[cn];exact .refl _⟩
 rcases hb with(hb|hb)|hb
 ·exact small hb
 ·rw[ef] at h⊢
  refine iL (fun _ _=>rfl) (fun h=>?_) (fun h=>⟨h,by rw[cn];exact .refl _⟩) h;obtain⟨e1,e2⟩:=NX (quiet:=E.quiet) hb;unfold uG at h⊢;rw[e1] at h⊢;simp only[e2] at h⊢;exact CN hb h
 ·by_cases hlt:fq E.quiet b.op<2
  ·exact small hlt
  ·rw [ef] at h⊢
   refine iL (fun _ _=>rfl) (fun h=>?_) (fun h=>⟨h,by rw[cn];exact .refl _⟩) h;have e1:fq E.quiet b.op=2/\∃g args,∀s,gP s b.op=some (ev s g,oP s args):=by
    cases ho:b.op with
    | call c=>
     obtain⟨callee,args,ats⟩:=c;rw[ho] at hb hlt;cases callee with
     | value g=>
      cases g with
      | func f=>
       simp only[fq] at hlt⊢;cases hq:E.quiet f with
       |true=>
        rw[hq,ao6] at hlt
        exfalso;apply hlt
        cases Pa args.toList<;>decide
       |false=>exact⟨rfl,_,_,fun _=>rfl⟩
      |_=>cases hb
     |_=>cases hb
    |_=>rw[ho] at hb;cases hb
   obtain⟨e1,g,args,e2⟩:=e1;unfold uG at h⊢;rw[e1] at h⊢;simp only[e2] at h⊢;cases hL:JR E (ev s g) (oP s args) s.st with
   |false=>
    refine nr hE hr (fun a st h=>?_) h;rw[hb] at h⊢
    try rw[hL] at h
    exact⟨h.1,h.2,by rw[cn];exact .of (rV h.1)⟩
   |true=>
    refine nr hE hr (fun a st h=>?_) (JT hE hL h);rw[hb] at h⊢
    try rw[hL] at h
    exact⟨h.1,by rw[cn];exact h.2⟩
theorem Lj{P st st' T k i p off}(h:ay st' i=ay st i):nG P st' T (.ptr i k p off)=nG P st T (.ptr i k p off):=by
 grind [nG]
theorem N4{P st st' T} U l:BO P st' T (.ah U l)=BO P st T (.ah U l):=by
 unfold BO
 grind
theorem qT{E s s' o}(h:oc s o=true)(hs:uz o.op s s')(hk:bW s.st s'.st):o.guard=none/\(fq E.quiet o.op=1/\∀c a b,o.op≠ .pick c a b)/\bJ E s' o.op=bJ E s o.op/\oc s' o=true:=by
 unfold oc at h⊢;split at h<;>try (cases h;done)
 ·rename_i T x hg ho
  have he:ev s x=ev s' x:=hs.ev x (by rw[ho];simp[opsOf]);refine⟨hg,⟨by rw[ho];rfl,fun c a b e=>by rw[ho] at e;cases e⟩,?_,?_⟩
  ·rw[ho];simp only[bJ];rw[←he]
   split at h<;>try (cases h;done)
   ·rename_i hx;rw[hx,Lj (hk.1 _ h)]
   ·rename_i hx;rw[hx];rfl
   ·rename_i hx;rw[hx];rfl
  ·rw[←he]
   split at h<;>try (cases h;done)
   ·rw[hk.1 _ h];exact h
   ·rename_i hx;simp only
   ·rename_i hx;simp only
 ·rename_i args ats hg ho
  have he:oP s args.toList=oP s' args.toList:=gO (fun x hx=>hs.ev x (by rw[ho];simpa only[opsOf] using hx));refine⟨hg,⟨by rw[ho];rfl,fun c a b e=>by rw[ho] at e;cases e⟩,?_,?_⟩
  ·rw[ho];simp only[bJ];rw[←he]
   split at h<;>try (cases h;done)
   rename_i hx;rw[hx]
   cases ats.toList with
   |nil=>rfl
   |cons T l=>simp only[N4 (st:=s.st) (st':=s'.st)]
  ·rw[←he];exact h
 ·rename_i x hg ho
  have he:ev s x=ev s' x:=hs.ev x (by rw[ho];simp[opsOf]);refine⟨hg,⟨by rw[ho];rfl,fun c a b e=>by rw[ho] at e;cases e⟩,?_,?_⟩
  ·rw[ho];simp only[bJ];rw[←he]
   split at h<;>try (cases h;done)
   rename_i hx;rw[hx];simp only[iO,hk.1 _ h];rfl
  ·rw[←he]
   split at h<;>try (cases h;done)
   rw[hk.1 _ h];exact h
 ·rename_i T x f hg ho
  have he:ev s x=ev s' x:=hs.ev x (by rw[ho];simp[opsOf]);refine⟨hg,⟨by rw[ho];rfl,fun c a b e=>by rw[ho] at e;cases e⟩,?_,?_⟩
  ·rw[ho];simp only[bJ];rw[←he]
   split at h<;>try (cases h;done)
   rename_i hx;rw[hx];simp only[gK,iO,hk.1 _ h];rfl
  ·rw[←he]
   split at h<;>try (cases h;done)
   rw[hk.1 _ h];exact h
 ·rename_i T x i hg ho
  have he:ev s x=ev s' x:=hs.ev x (by rw[ho];simp[opsOf]);have hi:ev s i=ev s' i:=hs.ev i (by rw[ho];simp[opsOf]);refine⟨hg,⟨by rw[ho];rfl,fun c a b e=>by rw[ho] at e;cases e⟩,?_,?_⟩
  ·rw[ho];simp only[bJ];rw[←he,←hi]
   split at h<;>try (cases h;done)
   rename_i k n hx;cases ho':ay s.st k<;>rw[ho'] at h<;>try (cases h;done)
   obtain⟨ls',pd',e⟩:=hk.2 k _ _ _ _ ho';rw[hx];simp only[gG,ho',e,hR]
  ·rw[←he]
   split at h<;>try (cases h;done)
   rename_i k n hx;cases ho':ay s.st k<;>rw[ho'] at h<;>try (cases h;done)
   obtain⟨ls',pd',e⟩:=hk.2 k _ _ _ _ ho';rw[e];rfl
theorem vU{E rec ops o s K}(hs:oc s o=true)(h:dD E rec ops o s K): ∃a,K (put s o.dst a)/\∀s' K',Looks ops o s s'->bW s.st s'.st->K' (put s' o.dst a)->dD E rec ops o s' K':=by
 obtain⟨hg,⟨hcl,hnp⟩,_,_⟩:=qT (E:=E) hs (Looks.same (ops:=ops) (s2:=s) (fun _ _=>rfl)) (.refl _);have h0:uG E rec s o.dst o.op K:=by
  grind [dD]
 have h1: ∃c a,bJ E s o.op=some (c,a)/\c=true/\K (put s o.dst a):=by
  unfold uG at h0
  grind [ai.1]
 obtain⟨c,a,hr,hc,hk⟩:=h1;refine⟨a,hk,fun s' K' hl hb hk'=>?_⟩;obtain⟨_,_,hr',_⟩:=qT (E:=E) hs hl.same hb
 simp_all[dD,uG,ai]
def DA quiet c ops a i o:=
 ∀j b,ops[j]? =some b->i≠j->fx a j=false-> ¬ Ae ops i j->x9 quiet c ops o b=true
theorem wZ{quiet c ops a i o e}(d: ∀j,j∈e->j=i\/Ae ops i j): ∀l k,zR quiet c ops a i o e l k=true->∀m b,l[m]? =some b->i≠k+m->fx a (k+m)=false-> ¬ Ae ops i (k+m)->x9 quiet c ops o b=true
 |[],_,_,m,b,h,_,_,_=>by simp at h
 | x::l,k,h,m,b,f,p,g,n=>by
  simp only[zR,ao0] at h;cases m with
  |zero=>
   grind [Nat.eq_of_beq_eq_true,kJ]
  |succ m=>
   refine wZ d l _ h.2 m b (by grind) (by omega) ?_ ?_
   ·grind
   grind
theorem DA.set{quiet c ops a i j o}(h:DA quiet c ops a i o):DA quiet c ops (gA a j) i o:=by
 intro k b e f g d;refine h k b e f ?_ d
 grind [fz,dF]
theorem tW{E}(hE:aj E){rec}(hr:eB rec){ops K}: ∀n listed s i o,DC ops listed->lJ ops listed i o->DA E.quiet E.calm ops listed i o->oc s o=true->
  (dD E rec ops o s fun s'=>nM E rec ops n (gA listed i) s' K)->nM E rec ops (n+1) listed s K
 | n,listed,s,i,o,hdc,hi,hf,hst,h=>by
  refine⟨fun hn=>absurd hi (hn i o),fun j b hj=>?_⟩;by_cases hij:i=j
  ·subst hij
   have:o=b:=Option.some.inj (hi.1.symm.trans hj.1)
   subst this;exact h
  ·have hsw:x9 E.quiet E.calm ops o b=true:=hf j b hj.1 hij hj.2.1 (fun hp=>by
    have:=hj.dep hdc hp
    rw[hi.2.1] at this;cases this)
   simp only[x9,tQ,ao0,ap2,Bool.not_eq_true',Nat.blt_eq] at hsw;obtain⟨⟨⟨q1,q2⟩,q3⟩,q4⟩:=hsw;cases n with
   |zero=>
    obtain⟨a,h1,_⟩:=vU hst h;exact absurd (hj.set hij) (h1.1 j b)
   | succ n=>
    have h':=
     di hE hr (fun s1 h1=>h1.2 j b (hj.set hij)) h
    obtain⟨a,g1,g2⟩:=vU hst h';have g3:=wB hE hr q4 g1;refine nF hE hr (kF q1).symm (cn s o.dst a) ?_ g3;intro st c _ hk;obtain⟨k1,k2⟩:=hk;rw[cn,cn] at k2;have hbk:bW s.st (put {s with st:=st} b.dst c).st:=by rw[cn];exact k2
    have hlk:Looks ops o s (put {s with st:=st} b.dst c):=by
     have:Looks ops o s {s with st:=st}:=fun _ _=>rfl
     intro t ht;exact(this t ht).trans (kF q2 t ht)
    have key:=g2 (put {s with st:=st} b.dst c) (fun s2=>nM E rec ops n (gA (gA listed j) i) s2 K) hlk hbk (by
     rw[←xL st q3,pB];exact k1)
    exact tW hE hr n (gA listed j) _ i o (hdc.set hj) (hi.set (Ne.symm hij)) hf.set (qT (E:=E) hst hlk.same hbk).2.2.2 key
def oT P T st st':=∀k Tb a,ay st k= .box Tb a->∃a',ay st' k= .box Tb a'/\
 ∀T1,T=some T1->dH P T1=false->∀path,j7 P Tb path=some T1->oF a' path=oF a path/\nO a' path=nO a path/\js a' path=js a path
theorem oT.refl P T st:oT P T st st:=fun _ _ a h=>⟨a,h,by simp⟩
theorem oT.of{P T st st'}(h:bW st st'):oT P T st st':=fun k Tb a hk=>⟨a,by rw[h.1 k (by rw[hk];rfl),hk],by simp⟩
theorem DX{P T}(h:dH P T=false):fieldsOf P T=[]:=by
 grind [dH,fieldsOf]
theorem wV{P g k}(o:dH P g=false)(t:dH P k=false)(h:g≠k): ∀q p d a x,j7 P d p=some g->j7 P d q=some k->nO a q=true->wid x=wid (oF a q)->
  oF (iS a q x) p=oF a p/\nO (iS a q x) p=nO a p/\js (iS a q x) p=js a p
 |[],p,d,a,x,c,b,_,_=>by
  simp only[j7,ao2] at b;subst b;cases p<;>grind [j7,Option.some.injEq,DX,qp]
 |j::q,[],d,a,x,c,b,_,_=>by
  simp only[j7,ao2] at c;subst c;simp only[j7,DX o,qp] at b;cases b
 | j ::q,i::p,d,a,x,c,b,f,n=>by
  cases a with
  | agg l=>
   simp only[nO,ao0,an9] at f;simp only[oF,af] at n;have m:wid (iS (nth l j) q x)=wid (nth l j):=oM q _ _ f.2 n;simp only[iS,oF,af,nO,js,fJ];by_cases e:j=i
   ·subst e
    simp only[j7] at c b;cases r:qp (fieldsOf P d) j with
    |none=>rw[r] at c;cases c
    |some s=>
     rw[r] at c b;have:=wV o t h q p s.type (nth l j) x c b f.2 n
     grind [l9,xU]
   ·rw[jf _ _ _ _ e,xU _ _ _ _ m]
    exact⟨rfl,rfl,rfl⟩
  |_=>simp[nO] at f
theorem CI{P T s dst o}(hb:Be P.toProgram T o=true){K}(h:cm P s dst o K):cm P s dst o fun s'=>K s'/\oT P.toProgram T s.st s'.st:=by
 cases o with
 | store U p x=>
  simp only[cm] at h⊢;unfold qv at h⊢;have rowT: ∀i (ob ob':Obj),ay s.st i=ob->j9 ob=false->oT P.toProgram T s.st (dd s.st i ob'):=fun i ob ob' h1 h2 k Tb a hk=>by
   refine⟨a,?_,fun _ _ _ _ _=>⟨rfl,rfl,rfl⟩⟩;rw[bH _ _ _ _ (fun e=>by subst e;rw[h1] at hk;subst hk;cases h2)];exact hk
  have frzT: ∀is i (ob ob':Obj),ay (cG s.st is) i=ob->j9 ob=false->oT P.toProgram T s.st (dd (cG s.st is) i ob'):=fun is i ob ob' h1 h2 k Tb a hk=>by
   have hz:ay (cG s.st is) k= .box Tb a:=by rw[(bW.freeze is s.st).1 k (by rw[hk];rfl),hk]
   refine⟨a,?_,fun _ _ _ _ _=>⟨rfl,rfl,rfl⟩⟩;rw[bH _ _ _ _ (fun e=>by subst e;rw[h1] at hz;subst hz;cases h2)];exact hz
  split at h<;>try exact h.elim
  rename_i i k path off hev;split at h<;>try exact h.elim
  ·rename_i Tb a hst
   split at h<;>try exact h.elim
   rename_i hc;rw[if_pos hc];refine⟨h,?_⟩;rw[cn];simp only[ao0,beq_iff_eq] at hc;obtain⟨⟨⟨⟨⟨⟨c1,c2⟩,c3⟩,c4⟩,_⟩,_⟩,c7⟩:=hc;intro k' Tb' a' hk';by_cases e:i=k'
   ·subst e
    rw[hst] at hk';cases hk'
    refine⟨_,br _ _ _ (H4 (by rw[hst];simp)),fun T1 hT hA p hp=>?_⟩;subst hT;simp only[Be,ao0,Bool.not_eq_true'] at hb;have hU:j7 P.toProgram Tb path=some U:=by
     unfold xg at c7;split at c7
     ·rename_i V hV;rw[hV,Nat.eq_of_beq_eq_true c7]
     ·cases c7
    exact wV hA hb.2 (fun e=>by subst e;rw[Nat.beq_refl] at hb;cases hb.1) path p Tb a (ev s x) hp hU c1 (by rw[c3,c4])
   ·exact⟨a',by rw[bH _ _ _ _ e];exact hk',fun _ _ _ _ _=>⟨rfl,rfl,rfl⟩⟩
  ·split at h<;>try exact h.elim
   rename_i x' Tr xs hx' hst;split at h<;>try exact h.elim
   rename_i hc;simp only;rw[if_pos hc];exact⟨h,by rw[cn];exact frzT _ _ _ _ hst rfl⟩
  ·rename_i Tr E ls kp hst
   split at h<;>try exact h.elim
   split at h<;>try exact h.elim
   rename_i hc;rw[if_pos hc];exact cy (fun h=>⟨h,by rw[cn];exact rowT _ _ _ hst rfl⟩) h
 |_=>cases T<;>cases hb
theorem CQ{E}(hE:aj E){rec}(hr:eB rec){ops b s T K}(hb:((fq E.quiet b.op<2\/zt b.op=true)\/w6 E.calm b.op=true)\/Be E.P.toProgram T b.op=true)(h:dD E rec ops b s K):dD E rec ops b s fun s'=>K s'/\oT E.P.toProgram T s.st s'.st:=by
 rcases hb with hb|hb
 ·exact di hE hr (fun _ h=>⟨h.1, .of h.2⟩) (wB hE hr hb h)
 ·rw[ef] at h⊢
  refine iL (fun _ _=>rfl) (fun h=>?_) (fun h=>⟨h,by rw[cn];exact .refl _ _ _⟩) h;have e1:fq E.quiet b.op=2/\∀s,gP s b.op=none:=by
   cases ho:b.op with
   |store U p x=>exact⟨rfl,fun _=>rfl⟩
   |_=>rw[ho] at hb;cases T<;>cases hb
  simp_all[uG,CI]
theorem qJ{E s s' o T}(h:ou E.P.toProgram s o=some T)(hs:uz o.op s s')(hk:oT E.P.toProgram T s.st s'.st):o.guard=none/\(fq E.quiet o.op=1/\∀c a b,o.op≠ .pick c a b)/\bJ E s' o.op=bJ E s o.op/\ou E.P.toProgram s' o=some T:=by
 unfold ou at h⊢;split at h<;>try (cases h;done)
 ·rename_i U x hg ho
  have he:ev s x=ev s' x:=hs.ev x (by rw[ho];simp[opsOf]);rw[←he];split at h<;>try (cases h;done)
  rename_i k j path off hx;split at h<;>try (cases h;done)
  rename_i Tb a hst;cases hc:xg E.P.toProgram Tb path U&& !dH E.P.toProgram U with
  |false=>rw[hc] at h;cases h
  | true=>
   rw[hc] at h;simp only[ao6,ao2] at h;subst h;obtain⟨a',k1,k2⟩:=hk k Tb a hst;have hc':=hc;simp only[ao0,Bool.not_eq_true'] at hc';have hU:j7 E.P.toProgram Tb path=some U:=by
    have c7:=hc'.1;unfold xg at c7;split at c7
    ·rename_i V hV;rw[hV,Nat.eq_of_beq_eq_true c7]
    ·cases c7
   obtain⟨r1,r2,r3⟩:=k2 U rfl hc'.2 path hU;refine⟨hg,⟨by rw[ho];rfl,fun c a b e=>by rw[ho] at e;cases e⟩,?_,?_⟩
   ·rw[ho];simp only[bJ];rw[←he,hx]
    simp only[nG,hst,k1,r1,r2,r3]
   ·simp only[k1,hc,ao6]
 ·rename_i x hg ho
  have he:ev s x=ev s' x:=hs.ev x (by rw[ho];simp[opsOf]);rw[←he];split at h<;>try (cases h;done)
  rename_i k j path off hx;cases hc:j9 (ay s.st k) with
  |false=>rw[hc] at h;cases h
  |true=>
   rw[hc] at h;cases h;cases hst:ay s.st k<;>rw[hst] at hc<;>try (cases hc;done)
   obtain⟨a',k1,_⟩:=hk k _ _ hst;refine⟨hg,⟨by rw[ho];rfl,fun c a b e=>by rw[ho] at e;cases e⟩,?_,?_⟩
   ·rw[ho];simp only[bJ];rw[←he,hx];simp only[iO,k1,hst]
   ·simp only[k1];rfl
 ·rename_i U x f hg ho
  have he:ev s x=ev s' x:=hs.ev x (by rw[ho];simp[opsOf]);rw[←he];split at h<;>try (cases h;done)
  rename_i k j path off hx;cases hc:j9 (ay s.st k) with
  |false=>rw[hc] at h;cases h
  |true=>
   rw[hc] at h;cases h;cases hst:ay s.st k<;>rw[hst] at hc<;>try (cases hc;done)
   obtain⟨a',k1,_⟩:=hk k _ _ hst;refine⟨hg,⟨by rw[ho];rfl,fun c a b e=>by rw[ho] at e;cases e⟩,?_,?_⟩
   ·rw[ho];simp only[bJ];rw[←he,hx];simp only[gK,iO,k1,hst]
   ·simp only[k1];rfl
theorem wN{E rec ops o s T K}(hs:ou E.P.toProgram s o=some T)(h:dD E rec ops o s K): ∃a,K (put s o.dst a)/\∀s' K',Looks ops o s s'->oT E.P.toProgram T s.st s'.st->K' (put s' o.dst a)->dD E rec ops o s' K':=by
 obtain⟨hg,⟨hcl,hnp⟩,_,_⟩:=qJ (E:=E) hs (Looks.same (ops:=ops) (s2:=s) (fun _ _=>rfl)) (.refl _ _ _);have h0:uG E rec s o.dst o.op K:=by
  grind [dD]
 have h1: ∃c a,bJ E s o.op=some (c,a)/\c=true/\K (put s o.dst a):=by
  unfold uG at h0
  grind [ai.1]
 obtain⟨c,a,hr,hc,hk⟩:=h1;refine⟨a,hk,fun s' K' hl hb hk'=>?_⟩;obtain⟨_,_,hr',_⟩:=qJ (E:=E) hs hl.same hb
 simp_all[dD,uG,ai]
def Cg P quiet c T ops a i o:=
 ∀j b,ops[j]? =some b->i≠j->fx a j=false-> ¬ Ae ops i j->wS P quiet c T ops o b=true
theorem vD{P quiet c T ops a i o e}(d: ∀j,j∈e->j=i\/Ae ops i j): ∀l k,eO P quiet c T ops a i o e l k=true->∀m b,l[m]? =some b->i≠k+m->fx a (k+m)=false-> ¬ Ae ops i (k+m)->wS P quiet c T ops o b=true
 |[],_,_,m,b,h,_,_,_=>by simp at h
 | x::l,k,h,m,b,f,p,g,n=>by
  simp only[eO,ao0] at h;cases m with
  |zero=>
   grind [Nat.eq_of_beq_eq_true,kJ]
  |succ m=>
   refine vD d l _ h.2 m b (by grind) (by omega) ?_ ?_
   ·grind
   grind
theorem Cg.set{P quiet c T ops a i j o}(h:Cg P quiet c T ops a i o):Cg P quiet c T ops (gA a j) i o:=by
 intro k b e f g d;refine h k b e f ?_ d
 grind [fz,dF]
theorem tU{E}(hE:aj E){rec}(hr:eB rec){ops T K}: ∀n listed s i o,DC ops listed->lJ ops listed i o->Cg E.P.toProgram E.quiet E.calm T ops listed i o->ou E.P.toProgram s o=some T->
  (dD E rec ops o s fun s'=>nM E rec ops n (gA listed i) s' K)->nM E rec ops (n+1) listed s K
 | n,listed,s,i,o,hdc,hi,hf,hst,h=>by
  refine⟨fun hn=>absurd hi (hn i o),fun j b hj=>?_⟩;by_cases hij:i=j
  ·subst hij
   have:o=b:=Option.some.inj (hi.1.symm.trans hj.1)
   subst this;exact h
  ·have hsw:wS E.P.toProgram E.quiet E.calm T ops o b=true:=hf j b hj.1 hij hj.2.1 (fun hp=>by
    have:=hj.dep hdc hp
    rw[hi.2.1] at this;cases this)
   simp only[wS,tQ,ao0,ap2,Bool.not_eq_true',Nat.blt_eq] at hsw;obtain⟨⟨⟨q1,q2⟩,q3⟩,q4⟩:=hsw;cases n with
   |zero=>
    obtain⟨a,h1,_⟩:=wN hst h;exact absurd (hj.set hij) (h1.1 j b)
   | succ n=>
    have h':=
     di hE hr (fun s1 h1=>h1.2 j b (hj.set hij)) h
    obtain⟨a,g1,g2⟩:=wN hst h';have g3:=CQ (T:=T) hE hr q4 g1;refine nF hE hr (kF q1).symm (cn s o.dst a) ?_ g3;intro st c _ hk;obtain⟨k1,k2⟩:=hk;rw[cn,cn] at k2;have hbk:oT E.P.toProgram T s.st (put {s with st:=st} b.dst c).st:=by rw[cn];exact k2
    have hlk:Looks ops o s (put {s with st:=st} b.dst c):=by
     have:Looks ops o s {s with st:=st}:=fun _ _=>rfl
     intro t ht;exact(this t ht).trans (kF q2 t ht)
    have key:=g2 (put {s with st:=st} b.dst c) (fun s2=>nM E rec ops n (gA (gA listed j) i) s2 K) hlk hbk (by
     rw[←xL st q3,pB];exact k1)
    exact tU hE hr n (gA listed j) _ i o (hdc.set hj) (hi.set (Ne.symm hij)) hf.set (qJ (E:=E) hst hlk.same hbk).2.2.2 key
theorem wM{P quiet c ops a s}: ∀l {i o},ur P quiet c ops a s l=some (i,o)->∃T,(i,o)∈l/\ou P s o=some T/\eO P quiet c T ops a i o (fwd ops 0 [i]) ops 0=true
 |[],i,o,h=>by grind [ur]
 | (j,b)::l,i,o,h=>by
  simp[ur] at h;have d:ur P quiet c ops a s l=some (i,o)->∃T,(i,o)∈(j,b)::l/\ou P s o=some T/\eO P quiet c T ops a i o (fwd ops 0 [i]) ops 0=true:=fun h=>by
   obtain⟨T,f,e⟩:=wM l h
   grind
  grind
theorem wH{quiet c ops a s}: ∀l {i o},CZ quiet c ops a s l=some (i,o)->(i,o)∈l/\oc s o=true/\zR quiet c ops a i o (fwd ops 0 [i]) ops 0=true
 |[],i,o,h=>by grind [CZ]
 | (j,b)::l,i,o,h=>by
  simp[CZ] at h;cases d:oc s b&&zR quiet c ops a j b (fwd ops 0 [j]) ops 0 with
  |true=>
   grind
  |false=>
   rw[d] at h;obtain⟨f,e⟩:=wH l h
   grind
theorem oL{E}(hE:aj E){rec}(hr:eB rec){ops K}: ∀n listed s,DC ops listed->nP E rec ops n listed s K->nM E rec ops n listed s K
 | 0,listed,s,_,h=>by
  unfold nP at h;split at h
  ·rename_i h0
   exact⟨fun i o hi=>by rw[←gl,h0] at hi;simp at hi,h⟩
  ·exact h.elim
 | n +1,listed,s,hdc,h=>by
  unfold nP at h;split at h
  ·rename_i h0
   exact⟨fun _=>h,fun i o hi=>by rw[←gl,h0] at hi;simp at hi⟩
  ·rename_i h0
   split at h
   ·rename_i i o hp
    obtain⟨h1,h2⟩:=qg _ hp;have hfs: ∀j,j∈fwd ops 0 [i]->j=i\/Ae ops i j:=o4 ops 0 [i] (fun m b hm=>by simpa using hm) (fun j hj=> .inl (by simpa using hj));have hfree:NT E.quiet ops listed i o:=fun j b hb hij hn he=>free_spec hfs ops 0 h2 j b hb (by omega) (by simpa using hn) (by simpa using he)
    exact we hE hr n listed s i o hdc (gl.1 h1) hfree (di hE hr (fun s'=>oL hE hr n _ s' (hdc.set (gl.1 h1))) h)
   ·split at h
    ·rename_i i o hp
     obtain⟨h1,h2,h3⟩:=wH _ hp;have hfs: ∀j,j∈fwd ops 0 [i]->j=i\/Ae ops i j:=o4 ops 0 [i] (fun m b hm=>by simpa using hm) (fun j hj=> .inl (by simpa using hj));have hfree:DA E.quiet E.calm ops listed i o:=fun j b hb hij hn he=>wZ hfs ops 0 h3 j b hb (by omega) (by simpa using hn) (by simpa using he)
     exact tW hE hr n listed s i o hdc (gl.1 h1) hfree h2 (di hE hr (fun s'=>oL hE hr n _ s' (hdc.set (gl.1 h1))) h)
    split at h
    ·rename_i i o hp
     have hp:ur E.P.toProgram E.quiet E.calm ops listed s (ke listed ops 0)=some (i,o):=by
      cases hc:E.calm 888888<;>rw[hc] at hp
      ·cases hp
      ·exact hp
     obtain⟨T,h1,h2,h3⟩:=wM _ hp;have hfs: ∀j,j∈fwd ops 0 [i]->j=i\/Ae ops i j:=o4 ops 0 [i] (fun m b hm=>by simpa using hm) (fun j hj=> .inl (by simpa using hj));have hfree:Cg E.P.toProgram E.quiet E.calm T ops listed i o:=fun j b hb hij hn he=>vD hfs ops 0 h3 j b hb (by omega) (by simpa using hn) (by simpa using he)
     exact tU hE hr n listed s i o hdc (gl.1 h1) hfree h2 (di hE hr (fun s'=>oL hE hr n _ s' (hdc.set (gl.1 h1))) h)
    have:=y1 _ h
    refine⟨fun hn=>?_,fun i o hi=>di hE hr (fun s'=>oL hE hr n _ s' (hdc.set hi)) (this i o (gl.2 hi))⟩
    exfalso
    cases hrl:ke listed ops 0 with
    |nil=>exact h0 hrl
    |cons x l=>
     obtain⟨i,o⟩:=x;exact hn i o (gl.1 (by rw[hrl];simp))
theorem yR: ∀l i,fx l i=l.getD i true
 |[],_=>rfl
 |_::_,0=>rfl
 |_::l,i+1=>by simpa[fx] using yR l i
theorem DR: ∀l i,gA l i=l.set i true
 |[],_=>rfl
 |_::_,0=>rfl
 |_::l,i+1=>by simp[gA,DR l i]
theorem yP: ∀n,iF n=List.replicate n false
 |0=>rfl
 |n+1=>by simp[iF,yP n,List.replicate_succ]
theorem oB{ops a i}:i∈Region.ready .any ops a↔ ∃o,lJ ops.toList a.toList i o:=by
 rw[mem_ready];have f: ∀k,fx a.toList k=a.getD k true:=fun k=>by rw[yR];simp
 constructor
 ·rintro⟨b,o,c,d⟩
  refine⟨o,by grind,by grind,fun e h g=>?_⟩
  grind
 ·rintro⟨o,b,c,d⟩
  grind
theorem vO{E}(hE:aE E){rec}(hrec:gf E.P rec){F}(hF:F=Fence.wide\/ ∃B,F=Fence.wide.inRound B){n ops K lo base Q}:
  ∀k listed {C},C.P=E.P->Inv C->∀{s a},da C s a->ie lo C a.defers->base<=s.st.length->nM E rec ops.toList k listed.toList s K->
   (∀a' w',cB lo base C K a' w'->Q .normal a' w')->wpAnyIn F n E.P .any ops Q k listed a C.w
 |0,listed,C,hC,hI,s,a,hs,hd,hb,h,hQ=>by
  refine⟨?_,hQ _ _ ⟨C,s,rfl,rfl,hI,hs,hd,hb,Ext.refl C (by rw[hs.st];exact hb),h.2⟩⟩;rw[List.eq_nil_iff_forall_not_mem];intro i hi;obtain⟨o,ho⟩:=oB.1 hi;exact h.1 i o ho
 | k+1,listed,C,hC,hI,s,a,hs,hd,hb,h,hQ=>by
  refine⟨fun hn=>hQ _ _ ⟨C,s,rfl,rfl,hI,hs,hd,hb,Ext.refl C (by rw[hs.st];exact hb),h.1 fun i o ho=>?_⟩,fun i hi=>?_⟩
  ·have:=oB.2 ⟨o,ho⟩
   rw[hn] at this;simp at this
  ·obtain⟨o,ho⟩:=oB.1 hi
   have h1:=h.2 i o ho;rw[ef] at h1;have hn: ∀a' w',cB lo base C (fun s'=>nM E rec ops.toList k (gA listed.toList i) s' K) a' w'->wpAnyIn F n E.P .any ops Q k (listed.setIfInBounds i true) a' w':=by
    rintro a' w' ⟨C',s',rfl,hP',hI',hs',hd',hb',he,hK⟩;refine vO hE hrec hF k _ (hP'.trans hC) hI' hs' hd' hb' ?_ (fun a2 w2 h2=>hQ _ _ (h2.trans hP' he))
    grind [gA,DR]
   exact uq hI hs hd hb hF (i:=i) (o:=o) (by simpa using ho.1) (fun hp=>KO hE hrec hC hI hs hd hb hF hp hn) hn h1
theorem F4{E}(j:aE E)(r:aj E){b}(d:gf E.P b)(u:eB b):MZ E b:=by
 intro id ops s K h C a F n lo base v i k hd l p Q m;refine wpIn_region_any j.prog.mixed ?_;have o:ik C.w {C.w with drawn:=C.w.drawn+1}:=⟨Nat.le_refl _,rfl,rfl,rfl,fun _ _=>rfl⟩
 obtain⟨q,g⟩:=o3 i o;have t:=k.step i g;have e:({s with st:=C.st}:S)=s:=by rw[k.st]
 have f:da {C with w:={C.w with drawn:=C.w.drawn+1}} s a:=by grind
 have c:=oL r u _ _ _ (DC.iF _ _) h;have:=vO (C:={C with w:={C.w with drawn:=C.w.drawn+1}}) j d p (n:=n)     ops.size _ v q f (hd.ext g) l
  (by simpa[yP] using c) (fun z y x=>m _ _ (cB.trans  (C':={C with w:={C.w with drawn:=C.w.drawn+1}}) rfl (g.mono (by grind)) x))
 exact this
theorem OM{E}(e:aj E){a}(f:eB a){s d o K c}(b: ∀s,K s->c s)(h:QD E a s d o K):QD E a s d o c:=by
 unfold QD at h⊢;split at h
 ·exact cy (b _) h
 ·split at h
  ·split at h<;>try grind
   rename_i t _;cases t<;>exact b _ h
  ·split at h
   ·grind [nr]
   ·exact xe ⟨fun _ _=>rfl⟩ rfl (by grind) h
theorem sL{E}(hE:aj E){rec}(hr:eB rec){ops}: ∀l {s K K'},(∀s,K s->K' s)->nW E rec ops l s K->nW E rec ops l s K'
 |[],s,K,K',hK,h=>hK _ h
 |o::l,s,K,K',hK,h=>by
  rw[v9] at h⊢;exact iL (fun _ _=>rfl) (OM hE hr fun s'=>sL hE hr l hK) (sL hE hr l hK) h
theorem kG{E}(hE:aj E){rec}(hr:eB rec){ops K K'}(hK: ∀s,K s->K' s): ∀n listed s,nP E rec ops n listed s K->nP E rec ops n listed s K'
 |0,listed,s,h=>by
  unfold nP at h⊢;split at h
  ·exact hK _ h
  ·exact h.elim
 | n +1,listed,s,h=>by
  unfold nP at h⊢;split at h
  ·exact hK _ h
  ·split at h
   ·exact di hE hr (fun s'=>kG hE hr hK n _ s') h
   ·split at h
    ·exact di hE hr (fun s'=>kG hE hr hK n _ s') h
    split at h
    ·exact di hE hr (fun s'=>kG hE hr hK n _ s') h
    generalize ke listed ops 0=l at h⊢
    have: ∀l:List (Nat×Oper),(Nn (fun i o=>dD E rec ops o s fun s'=>nP E rec ops n (gA listed i) s' K) l)->Nn (fun i o=>dD E rec ops o s fun s'=>nP E rec ops n (gA listed i) s' K') l:=by
     intro l;induction l with
     |nil=>exact id
     |cons x l ih=>
      obtain⟨i,o⟩:=x;cases l with
      |nil=>exact fun h=>di hE hr (fun s'=>kG hE hr hK n _ s') h
      |cons y l=>exact fun h=>⟨di hE hr (fun s'=>kG hE hr hK n _ s') h.1,ih h.2⟩
    exact this _ h
theorem JQ{E}(hE:aj E){rec}(hr:eB rec) f rd base: ∀c s K K',(∀e s,K e s->K' e s)->kk E rec f rd base c s K->kk E rec f rd base c s K':=by
 intro c;induction c with
 |skip=>intro s K K' hK h;exact hK _ _ h
 |label l=>intro s K K' hK h;exact hK _ _ h
 | region id ops d=>
  intro s K K' hK h;cases d with
  |false=>
   have h:nW E rec ops.toList ops.toList s (yI (K .normal)):=h;show nW E rec ops.toList ops.toList s (yI (K' .normal))
   rw[vj] at h⊢;exact sL hE hr _ (hK _) h
  |true=>
   have h:nP E rec ops.toList ops.toList.length (iF ops.toList.length) s (yI (K .normal)):=h;show nP E rec ops.toList ops.toList.length (iF ops.toList.length) s (yI (K' .normal))
   rw[vj] at h⊢;exact kG hE hr (hK _) _ _ _ h
 |seq x y ihx ihy=>
  intro s K K' hK h;refine ihx s _ _ ?_ h;intro e s' hh;cases e with
  |normal=>exact ihy s' _ _ hK hh
  |_=>exact hK _ _ hh
 |cond c x y ihx ihy=>
  intro s K K' hK h;unfold kk at h⊢;split at h<;>try exact h.elim
  rename_i t _;cases t with
  |true=>exact ihx _ _ _ hK h
  |false=>exact ihy _ _ _ hK h
 | block id c ih=>
  intro s K K' hK h;refine ih s _ _ ?_ h;intro e s' hh;cases e with
  |exit i=>
   simp only[B0] at hh⊢;cases hb:Nat.beq i id<;>rw[hb] at hh<;>exact hK _ _ hh
  |_=>exact hK _ _ hh
 |loop c ih=>
  intro s K K' hK h;unfold kk at h⊢;split at h<;>try exact h.elim
  exact cy (fun hh=>by rw[kx] at hh⊢;exact hE.loop _ _ _ _ _ _ _ _ hK hh) h
 | rangeFunc g ps asg body iha ihb=>
  intro s K K' hK h;unfold kk at h⊢;split at h<;>try exact h.elim
  have hrk: ∀st,qV s.st.length s K st->qV s.st.length s K' st:=by
   intro st hh;unfold qV at hh⊢;split at hh<;>try exact hh.elim
   grind
  refine cy (fun hh=>?_) h;split at hh
  ·exact hE.kQ _ _ _ _ _ _ _ hrk hh
  ·exact uk hr (fun _ st=>hrk st) hh
 |exit id=>intro s K K' hK h;exact hK _ _ h
 |goto l=>intro s K K' hK h;exact h.elim
 |scope c ih=>
  intro s K K' hK h;refine ih s _ _ ?_ h;intro e s' hh;cases e with
  |goto l=>exact hh.elim
  |_=>exact hK _ _ hh
 |ret=>intro s K K' hK h;exact hK _ _ h
 |refuse r=>intro s K K' hK h;exact h.elim
theorem vb{E}(a:aj E): ∀n,eB (vc E n)
 |0=>fun _ _ _ _ _ _ _ _ h=>h.elim
 |n+1=>fun f d base c s K e b h=>JQ a (vb a n) f _ _ c s K _ b h
theorem y0{E}(b:aE E)(a:aj E): ∀n,gf E.P (vc E n)
 |0=>fun _ _ _ _ _ _ h=>h.elim
 |n+1=>fun f d base c s K h=>GZ b (y0 b a n) (F4 b a (y0 b a n) (vb a n)) f _ _ c s K h
#print axioms y0
end Go.Dn
