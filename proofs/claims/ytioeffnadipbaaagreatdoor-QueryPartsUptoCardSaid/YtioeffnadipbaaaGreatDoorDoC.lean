import Derived.Test.YtioeffnadipbaaaGreatDoorDoB
namespace Go.Dn
open Go
theorem zJ: ∀l i j x y,i≠j->bQ (bQ l i x) j y=bQ (bQ l j y) i x
 |[],_,_,_,_,_=>rfl
 |a::l,0,0,_,_,h=>absurd rfl h
 |a::l,0,j+1,_,_,_=>rfl
 |a::l,i+1,0,_,_,_=>rfl
 |a::l,i+1,j+1,x,y,h=>by simp[bQ];rw[zJ l i j x y (by omega)]
theorem xG{s d c a b} st(h:wg d c=true):put {put s d a with st:=st} c b=put (put {s with st:=st} c b) d a:=by
 cases d with
 |none=>rfl
 | some t=>
  cases c with
  |none=>rfl
  |some u=>
   have:t≠u:=by intro e;simp_all[wg]
   grind [put,zJ]
theorem kK{ops o s d a}(h:AW ops o d=false):Looks ops o s (put s d a):=by
 intro t b;cases d<;>grind [AW,put,jl]
theorem Looks.symm{ops o s1 s2}(h:Looks ops o s1 s2):Looks ops o s2 s1:=fun t a=>(h t a).symm
theorem Mo{quiet o}(h:CP o=true):fg quiet o=2/\∀s,gM s o=none:=by
 cases o with
 |alloc T=>exact⟨rfl,fun _=>rfl⟩
 |box T x=>exact⟨rfl,fun _=>rfl⟩
 |makeSlice T a b=>exact⟨rfl,fun _=>rfl⟩
 |makeMap T x=>cases x<;>exact⟨rfl,fun _=>rfl⟩
 |_=>cases h
theorem cq s d a:(put s d a).st=s.st:=by cases d<;>rfl
theorem Fg{P s dst o}(hg:CP o=true){K}(h:cm P s dst o K):cm P s dst o fun s'=>K s'/\Kept s.st s'.st:=by
 cases o with
 |alloc T=>
  grind [cm,cq,Kept.app]
 |box T x=>grind [cm,cj,cq,Kept.app]
 |makeSlice T a b=>grind [cm,cj,cq,Kept.app]
 |makeMap T x=>
  cases x<;>grind [cm,cq,Kept.app]
 |_=>cases hg
theorem Kq{E rec ops b s K}(hb:fg E.quiet b.op<2\/CP b.op=true)(h:dI E rec ops b s K):dI E rec ops b s fun s'=>K s'/\Kept s.st s'.st:=by
 rcases hb with hb|hb
 ·obtain⟨a,h1,h2⟩:=qd hb h
  exact h2 s _ (fun _ _=>rfl) (fun _=> .refl _) ⟨h1,by rw[cq];exact .refl _⟩
 ·rw[ef] at h⊢
  refine iQ (fun _ _=>rfl) (fun h=>?_) (fun h=>⟨h,by rw[cq];exact .refl _⟩) h;obtain⟨e1,e2⟩:=Mo (quiet:=E.quiet) hb
  simp_all[vb,Fg]
theorem Kv{E}(hE:aj E){rec}(hr:eD rec){ops i j}(hsw:yc E.quiet ops i j=true){s K}
  (h:dI E rec ops i s fun s1=>dI E rec ops j s1 K):dI E rec ops j s fun s2=>dI E rec ops i s2 K:=by
 simp only[yc,tc,an3,Bool.not_eq_true'] at hsw;obtain⟨⟨⟨h1,h2⟩,h3⟩,h4⟩:=hsw;have hc:fg E.quiet i.op<2:=by
  split at h4
  ·omega
  ·omega
  ·cases h4
 have hj:fg E.quiet i.op=1->fg E.quiet j.op<2\/CP j.op=true:=by
  intro e;rw[e] at h4;simpa using h4
 obtain⟨a,g1,g2⟩:=qd hc h;have hst:(put s i.dst a).st=s.st:=by cases i.dst<;>rfl
 have g3:dI E rec ops j (put s i.dst a) fun s'=>K s'/\(fg E.quiet i.op=1->Kept s.st s'.st):=by
  rcases Nat.eq_zero_or_pos (fg E.quiet i.op) with e|e
  ·simp_all
  ·grind [dv,Kq]
 refine nR hE hr (kK h1).symm hst ?_ g3;intro st b hs hk;refine g2 _ _ ?_ ?_ ?_
 ·have:Looks ops i s {s with st:=st}:=fun _ _=>rfl
  intro t ht;exact(this t ht).trans (kK h2 t ht)
 ·intro e
  have:=hk.2 e
  rw[cq] at this⊢;exact this
 ·rw[←xG st h3];exact hk.1
theorem pg: ∀l i,(gH l i).length=l.length
 |[],_=>rfl
 |_::_,0=>rfl
 |_::l,i+1=>by simp[gH,pg l i]
theorem fM: ∀l i,fF (gH l i) i=true
 |[],_=>rfl
 |_::_,0=>rfl
 |_::l,i+1=>by exact fM l i
theorem dH: ∀l i j,i≠j->fF (gH l i) j=fF l j
 |[],_,_,_=>rfl
 |_::_,0,j,h=>by cases j with|zero=>grind|succ j=>rfl
 |_::l,i+1,j,h=>by
  cases j with
  |zero=>rfl
  |succ j=>exact dH l i j (by omega)
theorem pZ: ∀l i j,gH (gH l i) j=gH (gH l j) i
 |[],_,_=>rfl
 |_::_,0,0=>rfl
 |_::_,0,j+1=>rfl
 |_::_,i+1,0=>rfl
 |_::l,i+1,j+1=>by simp[gH];rw[pZ l i j]
theorem oS a: ∀l,lT a l=true↔ ∀e,e∈l->Region.binds .any e=true->e.on<a.length/\fF a e.on=true
 |[]=>by simp[lT]
 |e::l=>by
  simp[lT,oS _ l]
  grind
theorem xI a: ∀l k i o,(i,o)∈ki a l k↔ ∃m,i=k+m/\l[m]? =some o/\fF a i=false/\lT a o.after.toList=true
 |[],k,i,o=>by simp[ki]
 | b::l,k,i,o=>by
  have e:=xI a l (k+1) i o;have c:(i,o)∈ki a l (k+1)↔ ∃m,i=k+(m+1)/\(b::l)[m+1]? =some o/\fF a i=false/\lT a o.after.toList=true:=by
   rw[e];constructor
   ·rintro⟨m,j,f,g⟩;exact⟨m,by omega,by simpa using f,g⟩
   grind
  simp only[ki];cases d:(!fF a k&&lT a b.after.toList) with
  | true=>
   simp only[an9,ap0,c,ao1];simp only[an3,Bool.not_eq_true'] at d;constructor
   ·rintro(⟨rfl,rfl⟩|⟨m,h⟩)
    ·exact⟨0,by omega,rfl,d.1,d.2⟩
    ·exact⟨m+1,h⟩
   ·grind
  |false=>grind
def lG(ops:List Oper) a i o:=ops[i]? =some o/\fF a i=false/\∀e,e∈o.after.toList->Region.binds .any e=true->e.on<a.length/\fF a e.on=true
theorem gy{ops a i o}:(i,o)∈ki a ops 0↔lG ops a i o:=by
 rw[xI];constructor
 ·rintro⟨m,d,b,c,e⟩
  obtain rfl:i=m:=by omega
  exact⟨b,c,(oS _ _).1 e⟩
 ·rintro⟨d,b,c⟩
  grind [oS]
theorem lG.set{ops a i j o}(h:lG ops a i o)(b:j≠i):lG ops (gH a j) i o:=by
 refine⟨h.1,by rw[dH _ _ _ b];exact h.2.1,fun e c d=>?_⟩;obtain⟨g,f⟩:=h.2.2 e c d
 grind [pg,fM,dH]
inductive Aa (ops:List Oper) (i:Nat):Nat->Prop
 |base (j:Nat) (b:Oper) (e:Edge) (h1:ops[j]? =some b) (h2:e∈b.after.toList) (h3:Region.binds .any e=true) (h4:e.on=i):Aa ops i j
 |step (j:Nat) (b:Oper) (e:Edge) (h1:ops[j]? =some b) (h2:e∈b.after.toList) (h3:Region.binds .any e=true) (h4:Aa ops i e.on):Aa ops i j
def DC(ops:List Oper) a:=∀j b,ops[j]? =some b->j<a.length->fF a j=true->∀e,e∈b.after.toList->Region.binds .any e=true->e.on<a.length/\fF a e.on=true
theorem EL{ops a}(hd:DC ops a){i j}(h:Aa ops i j):j<a.length->fF a j=true->fF a i=true:=by
 induction h with
 |base j b e d f c l=>intro k g;rw[←l];exact(hd j b d k g e f c).2
 |step j b e d f c _ m=>intro k g;exact m (hd j b d k g e f c).1 (hd j b d k g e f c).2
theorem lG.dep{ops a}(hd:DC ops a){i j b}(h:lG ops a j b)(k:Aa ops i j):fF a i=true:=by
 cases k with
 |base _ l e f d c g=>
  have:=Option.some.inj (f.symm.trans h.1)
  subst this;rw[←g];exact(h.2.2 e d c).2
 |step _ l e f d c g=>
  have:=Option.some.inj (f.symm.trans h.1)
  subst this;exact EL hd g (h.2.2 e d c).1 (h.2.2 e d c).2
theorem DC.iJ ops n:DC ops (iJ n):=fun j b _ d c=>by
 have: ∀n j,j<(Go.Dn.iJ n).length->fF (Go.Dn.iJ n) j=false:=by
  intro n;induction n with
  |zero=>grind [Go.Dn.iJ]
  |succ n a=>intro j h;cases j<;>grind [Go.Dn.iJ,fF]
 grind
theorem DC.set{ops a}(hd:DC ops a){i o}(h:lG ops a i o):DC ops (gH a i):=by
 intro j b k l f e g c;rw[pg] at l⊢;have m:e.on<a.length/\fF a e.on=true:=by
  by_cases d:i=j
  ·subst d
   have:=Option.some.inj (k.symm.trans h.1)
   subst this;exact h.2.2 e g c
  ·rw[dH _ _ _ d] at f
   exact hd j b k l f e g c
 grind [fM,dH]
theorem zt a: ∀l,zr a l=true->∃e,e∈l/\Region.binds .any e=true/\e.on∈a
 |[],h=>by grind [zr]
 | e::l,h=>by
  simp[zr] at h;rcases h with⟨b,c⟩|h
  ·grind [ld]
  ·obtain⟨d,b,c⟩:=zt _ l h
   grind
theorem oN{ops i}: ∀l k a,(∀m b,l[m]? =some b->ops[k+m]? =some b)->(∀j,j∈a->j=i\/Aa ops i j)->∀j,j∈fwd l k a->j=i\/Aa ops i j
 |[],_,_,_,g,j,c=>g j c
 | o::l,k,a,h,g,j,c=>by
  simp only[fwd] at c;have f: ∀m b,l[m]? =some b->ops[k+1+m]? =some b:=fun m b s=>by
   have:=h (m+1) b (by simpa using s)
   grind
  cases n:zr a o.after.toList with
  |false=>rw[n] at c;exact oN l (k+1) a f g j c
  | true=>
   rw[n] at c;refine oN l (k+1) (k::a) f (fun u d=>?_) j c;rcases List.mem_cons.1 d with rfl|d
   ·obtain⟨e,q,r,t⟩:=zt _ _ n
    rcases g _ t with p|p
    ·exact .inr (.base _ o e (h 0 o rfl) q r p)
    ·exact .inr (.step _ o e (h 0 o rfl) q r p)
   grind
def Ld quiet ops a i o:=
 ∀j b,ops[j]? =some b->i≠j->fF a j=false-> ¬ Aa ops i j->yc quiet ops o b=true
theorem free_spec{quiet ops a i o d}(c: ∀j,j∈d->j=i\/Aa ops i j): ∀l k,yZ quiet ops a i o d l k=true->∀m b,l[m]? =some b->i≠k+m->fF a (k+m)=false-> ¬ Aa ops i (k+m)->yc quiet ops o b=true
 |[],_,_,m,b,h,_,_,_=>by simp at h
 | x::l,k,h,m,b,e,n,f,g=>by
  simp only[yZ,an3] at h;cases m with
  |zero=>
   grind [Nat.eq_of_beq_eq_true,ld]
  |succ m=>
   refine free_spec c l (k+1) h.2 m b (by grind) (by omega) ?_ ?_
   ·grind
   grind
theorem Ld.set{quiet ops a i j o}(h:Ld quiet ops a i o):Ld quiet ops (gH a j) i o:=by
 intro k b d e f c;refine h k b d e ?_ c
 grind [fM,dH]
def nZ(E:Env)(rec:Rec)(ops:List Oper):Nat->List Bool->S->(S->Prop)->Prop
 |0,listed,s,K=>(∀i o,¬ lG ops listed i o)/\K s
 |n+1,listed,s,K=>((∀i o,¬ lG ops listed i o)->K s)/\∀i o,lG ops listed i o->dI E rec ops o s fun s'=>nZ E rec ops n (gH listed i) s' K
theorem wB{E}(hE:aj E){rec}(hr:eD rec){ops K}: ∀n listed s i o,DC ops listed->lG ops listed i o->Ld E.quiet ops listed i o->
  (dI E rec ops o s fun s'=>nZ E rec ops n (gH listed i) s' K)->nZ E rec ops (n+1) listed s K
 | n,listed,s,i,o,hdc,hi,hf,h=>by
  refine⟨fun hn=>absurd hi (hn i o),fun j b hj=>?_⟩;by_cases hij:i=j
  ·subst hij
   have:o=b:=Option.some.inj (hi.1.symm.trans hj.1)
   subst this;exact h
  ·have hsw:yc E.quiet ops o b=true:=hf j b hj.1 hij hj.2.1 (fun hp=>by
    have:=hj.dep hdc hp
    rw[hi.2.1] at this;cases this)
   cases n with
   | zero=>
    have hc:fg E.quiet o.op<2:=by
     simp only[yc,an3] at hsw
     grind
    obtain⟨a,h1,_⟩:=qd hc h;exact absurd (hj.set hij) (h1.1 j b)
   | succ n=>
    have h':=
     dv hE hr (fun s1 h1=>h1.2 j b (hj.set hij)) h
    refine dv hE hr (fun s2 h2=>?_) (Kv hE hr hsw h');rw[pZ] at h2;exact wB hE hr n (gH listed j) s2 i o (hdc.set hj) (hi.set (Ne.symm hij)) hf.set h2
theorem yM{p}: ∀l,Lp p l->∀i o,(i,o)∈l->p i o
 |[],_,i,o,h=>by grind
 |[(j,b)],h,i,o,a=>by
  simp   at a;obtain⟨rfl,rfl⟩:=a;exact h
 |(j,b)::x::l,h,i,o,a=>by
  rcases List.mem_cons.1 a with a|a
  ·cases a;exact h.1
  ·exact yM _ h.2 i o a
theorem qw{quiet ops a}: ∀l {i o},o0 quiet ops a l=some (i,o)->(i,o)∈l/\yZ quiet ops a i o (fwd ops 0 [i]) ops 0=true
 |[],i,o,h=>by grind [o0]
 | (j,b)::l,i,o,h=>by
  simp[o0] at h;cases c:yZ quiet ops a j b (fwd ops 0 [j]) ops 0 with
  |true=>grind
  |false=>
   rw[c] at h;obtain⟨e,d⟩:=qw l h
   grind
def bU st st':=(∀k,j9 (au st k)=true->au st' k=au st k)/\∀k T E ls pd,au st k= .rows T E ls pd->∃ls' pd',au st' k= .rows T E ls' pd'
theorem Hd{st k}(h:au st k≠ .dead):k<st.length:=by grind [eC]
theorem bU.refl st:bU st st:=⟨by simp,by grind⟩
theorem bU.trans{a b c}(d:bU a b)(f:bU b c):bU a c:=⟨fun k e=>by
 rw[f.1 k (by rw[d.1 k e];omega),d.1 k e],fun k T E i g h=>by
 obtain⟨_,_,h⟩:=d.2 k T E _ _ h;exact f.2 k T E _ _ h⟩
theorem bU.of{st st'}(h: ∀k,au st k≠ .dead->j9 (au st k)=true\/AJ (au st k)=true->au st' k=au st k):bU st st':=
 ⟨fun k hk=>h k (by intro e;rw[e] at hk;cases hk) (.inl hk),fun k T E ls pd hk=>⟨_,_,by rw[h k (by grind) (.inr (by rw[hk];rfl)),hk]⟩⟩
theorem bU.app st l:bU st (st++l):= .of fun _ a _=>dV _ _ _ (Hd a)
theorem bU.set{st i T xs o}(h:au st i= .row T xs):bU st (dj st i o):= .of fun k _ a=>by
 refine bw _ _ _ _ fun e=>?_
 subst e;rw[h] at a;rcases a with a|a<;>cases a
theorem bU.rows{st i T E d b f a}(h:au st i= .rows T E d f):bU st (dj st i (.rows T E b a)):=by
 refine⟨fun k c=>bw _ _ _ _ fun e=>?_,fun k j g l p c=>?_⟩
 ·subst e;rw[h] at c;cases c
 grind [bn,Hd,bw]
theorem bU.freeze: ∀b st,bU st (cQ st b)
 |[],st=> .refl _
 | i::b,st=>by
  refine bU.trans (.of ?_) (bU.freeze b _);intro k hd a;by_cases e:i=k
  ·subst e
   rw[bn _ _ _ (Hd hd)];cases c:au _ i<;>rw[c] at a<;>first|rfl|(rcases a with a|a<;>cases a)
  grind [bw]
theorem rQ: ∀{st st'},rP st st'->∀k,au st k≠ .dead->j9 (au st k)=true\/AJ (au st k)=true->au st' k=au st k
 |[],_,_,k,hd,_=>absurd rfl hd
 |a::l,[],h,_,_,_=>by cases a<;>exact h.elim
 |a::l,o::l',h,0,_,hk=>by
  cases a<;>first|exact h.1|(rcases hk with hk|hk<;>cases hk)
 |a::l,o::l',h,k+1,hd,hk=>rQ   (by cases a<;>first|exact h.2|exact h) k hd hk
theorem LZ{quiet o}(h:y4 o=true):fg quiet o=2/\∀s,gM s o=none:=by
 cases o with
 |call c=>
  obtain⟨d,e,f⟩:=c;cases d with
  |builtin b=>cases b<;>first|exact⟨rfl,fun _=>rfl⟩|cases h
  |value g=>cases h
  |invoke r m=>cases h
 |buildSlice T n ps=>exact⟨rfl,fun _=>rfl⟩
 |makeSlice T a b=>exact⟨rfl,fun _=>rfl⟩
 |alloc T=>exact⟨rfl,fun _=>rfl⟩
 |box T x=>exact⟨rfl,fun _=>rfl⟩
 |makeMap T x=>cases x<;>exact⟨rfl,fun _=>rfl⟩
 |_=>cases h
theorem D8{P s dst o}(hg:y4 o=true){K}(h:cm P s dst o K):cm P s dst o fun s'=>K s'/\bU s.st s'.st:=by
 cases o with
 |alloc T=>
  simp only[cm] at h⊢;split at h<;>try exact h.elim
  exact⟨h,by rw[cq];exact bU.app _ _⟩
 | box T x=>
  simp only[cm] at h⊢;split at h<;>try exact h.elim
  rename_i h1;rw[if_pos h1];split at h
  ·rename_i hi
   first|simp only[hi]|skip
   exact cj (fun h=>⟨h,by rw[cq];exact bU.app _ _⟩) h
  ·rename_i hi
   first|simp only[hi]|skip
   exact⟨h,by rw[cq];exact bU.app _ _⟩
 | makeMap T x=>
  cases x with
  |some y=>cases hg
  |none=>
   simp only[cm] at h⊢;split at h<;>try exact h.elim
   exact⟨h,by rw[cq];exact bU.app _ _⟩
 |buildSlice T n ps=>
  simp only[cm] at h⊢;split at h<;>try exact h.elim
  split at h<;>try exact h.elim
  split at h<;>try exact h.elim
  split at h<;>try exact h.elim
  rename_i h4;rw[if_pos h4];exact⟨h,by rw[cq];exact(bU.freeze _ _).trans (bU.app _ _)⟩
 |makeSlice T a b=>
  simp only[cm] at h⊢;split at h<;>try exact h.elim
  split at h<;>try exact h.elim
  exact cj (fun h=>⟨h,by rw[cq];exact bU.app _ _⟩) h
 | call c=>
  obtain⟨callee,args,ats⟩:=c;cases callee with
  | builtin b=>
   cases b<;>try (cases hg;done)
   simp only[cm] at h⊢;split at h<;>try exact h.elim
   split at h<;>try exact h.elim
   rename_i h3;rw[if_pos h3];unfold pL at h⊢;split at h<;>try exact h.elim
   split at h<;>try exact h.elim
   split at h<;>try exact h.elim
   split at h<;>try exact h.elim
   ·exact cj (fun h=>⟨h,by rw[cq];exact bU.app _ _⟩) h
   ·split at h<;>try exact h.elim
    ·split at h<;>try exact h.elim
     rename_i k1 k2;rw[if_pos k2];exact cj (fun h=>⟨h,by rw[cq];exact(bU.set k1).trans (bU.app _ _)⟩) h
    ·rename_i k1
     split at h<;>try exact h.elim
     rename_i k2;simp only;split at h<;>try exact h.elim
     rename_i k3;rw[if_pos k3];exact cj (fun h=>⟨h,by rw[cq];exact bU.rows k1⟩) h
  |value g=>cases hg
  |invoke r m=>cases hg
 |_=>cases hg
theorem IU{E}(hE:aj E){rec g args st K}(hl:Js E g args st=true)(h:oC E rec g args st K):oC E rec g args st fun a st'=>K a st'/\bU st st':=by
 unfold Js at hl;split at hl
 ·rename_i f caps
  simp only[an3,Bool.not_eq_true'] at hl;obtain⟨⟨h1,h2⟩,h3⟩:=hl;unfold oC at h⊢;simp only[h1,h2] at h⊢;split at h3
  ·rename_i as hle
   rw[hle] at h⊢;simp only[cQ] at h⊢;have hr:df (r4 E.P (mN E.P f) as)=[]:=by
    grind [MA]
   refine cj (fun h=>?_) h;rw[jO] at h⊢
   grind [nw,kW,df,r4,reach,fH,fH.go,bU.app]
  ·cases h3
 ·cases hl
theorem x9{E}(hE:aj E){rec}(hr:eD rec){ops b s K}(hb:(fg E.quiet b.op<2\/y4 b.op=true)\/v8 E.calm b.op=true)(h:dI E rec ops b s K):dI E rec ops b s fun s'=>K s'/\bU s.st s'.st:=by
 have small:fg E.quiet b.op<2->dI E rec ops b s fun s'=>K s'/\bU s.st s'.st:=fun hb=>by
  obtain⟨a,h1,h2⟩:=qd hb h;exact h2 s _ (fun _ _=>rfl) (fun _=>Kept.refl _) ⟨h1,by rw[cq];exact .refl _⟩
 rcases hb with(hb|hb)|hb
 ·exact small hb
 ·rw[ef] at h⊢
  refine iQ (fun _ _=>rfl) (fun h=>?_) (fun h=>⟨h,by rw[cq];exact .refl _⟩) h;obtain⟨e1,e2⟩:=LZ (quiet:=E.quiet) hb;unfold vb at h⊢;rw[e1] at h⊢;simp only[e2] at h⊢;exact D8 hb h
 ·by_cases hlt:fg E.quiet b.op<2
  ·exact small hlt
  ·rw [ef] at h⊢
   refine iQ (fun _ _=>rfl) (fun h=>?_) (fun h=>⟨h,by rw[cq];exact .refl _⟩) h;have e1:fg E.quiet b.op=2/\∃g args,∀s,gM s b.op=some (ev s g,oI s args):=by
    cases ho:b.op with
    | call c=>
     obtain⟨callee,args,ats⟩:=c;rw[ho] at hb hlt;cases callee with
     | value g=>
      cases g with
      | func f=>
       simp only[fg] at hlt⊢;cases hq:E.quiet f with
       |true=>
        rw[hq,an9] at hlt
        exfalso;apply hlt
        cases Lo args.toList<;>decide
       |false=>exact⟨rfl,_,_,fun _=>rfl⟩
      |_=>cases hb
     |_=>cases hb
    |_=>rw[ho] at hb;cases hb
   obtain⟨e1,g,args,e2⟩:=e1;unfold vb at h⊢;rw[e1] at h⊢;simp only[e2] at h⊢;cases hL:Js E (ev s g) (oI s args) s.st with
   |false=>
    refine np hE hr (fun a st h=>?_) h;rw[hb] at h⊢
    try rw[hL] at h
    exact⟨h.1,h.2,by rw[cq];exact .of (rQ h.1)⟩
   |true=>
    refine np hE hr (fun a st h=>?_) (IU hE hL h);rw[hb] at h⊢
    try rw[hL] at h
    exact⟨h.1,by rw[cq];exact h.2⟩
theorem Ju{P st st' T k i p off}(h:au st' i=au st i):n8 P st' T (.ptr i k p off)=n8 P st T (.ptr i k p off):=by
 grind [n8]
theorem Mh{P st st' T} U l:AP P st' T (.ad U l)=AP P st T (.ad U l):=by
 unfold AP
 grind
theorem rz{E s s' o}(h:pt s o=true)(hs:uY o.op s s')(hk:bU s.st s'.st):o.guard=none/\(fg E.quiet o.op=1/\∀c a b,o.op≠ .pick c a b)/\bH E s' o.op=bH E s o.op/\pt s' o=true:=by
 unfold pt at h⊢;split at h<;>try (cases h;done)
 ·rename_i T x hg ho
  have he:ev s x=ev s' x:=hs.ev x (by rw[ho];simp[opsOf]);refine⟨hg,⟨by rw[ho];rfl,fun c a b e=>by rw[ho] at e;cases e⟩,?_,?_⟩
  ·rw[ho];simp only[bH];rw[←he]
   split at h<;>try (cases h;done)
   ·rename_i hx;rw[hx,Ju (hk.1 _ h)]
   ·rename_i hx;rw[hx];rfl
   ·rename_i hx;rw[hx];rfl
  ·rw[←he]
   split at h<;>try (cases h;done)
   ·rw[hk.1 _ h];exact h
   ·rename_i hx;simp only
   ·rename_i hx;simp only
 ·rename_i args ats hg ho
  have he:oI s args.toList=oI s' args.toList:=gO (fun x hx=>hs.ev x (by rw[ho];simpa only[opsOf] using hx));refine⟨hg,⟨by rw[ho];rfl,fun c a b e=>by rw[ho] at e;cases e⟩,?_,?_⟩
  ·rw[ho];simp only[bH];rw[←he]
   split at h<;>try (cases h;done)
   rename_i hx;rw[hx]
   cases ats.toList with
   |nil=>rfl
   |cons T l=>simp only[Mh (st:=s.st) (st':=s'.st)]
  ·rw[←he];exact h
 ·rename_i x hg ho
  have he:ev s x=ev s' x:=hs.ev x (by rw[ho];simp[opsOf]);refine⟨hg,⟨by rw[ho];rfl,fun c a b e=>by rw[ho] at e;cases e⟩,?_,?_⟩
  ·rw[ho];simp only[bH];rw[←he]
   split at h<;>try (cases h;done)
   rename_i hx;rw[hx];simp only[iR,hk.1 _ h];rfl
  ·rw[←he]
   split at h<;>try (cases h;done)
   rw[hk.1 _ h];exact h
 ·rename_i T x f hg ho
  have he:ev s x=ev s' x:=hs.ev x (by rw[ho];simp[opsOf]);refine⟨hg,⟨by rw[ho];rfl,fun c a b e=>by rw[ho] at e;cases e⟩,?_,?_⟩
  ·rw[ho];simp only[bH];rw[←he]
   split at h<;>try (cases h;done)
   rename_i hx;rw[hx];simp only[gP,iR,hk.1 _ h];rfl
  ·rw[←he]
   split at h<;>try (cases h;done)
   rw[hk.1 _ h];exact h
 ·rename_i T x i hg ho
  have he:ev s x=ev s' x:=hs.ev x (by rw[ho];simp[opsOf]);have hi:ev s i=ev s' i:=hs.ev i (by rw[ho];simp[opsOf]);refine⟨hg,⟨by rw[ho];rfl,fun c a b e=>by rw[ho] at e;cases e⟩,?_,?_⟩
  ·rw[ho];simp only[bH];rw[←he,←hi]
   split at h<;>try (cases h;done)
   rename_i k n hx;cases ho':au s.st k<;>rw[ho'] at h<;>try (cases h;done)
   obtain⟨ls',pd',e⟩:=hk.2 k _ _ _ _ ho';rw[hx];simp only[gR,ho',e,ib]
  ·rw[←he]
   split at h<;>try (cases h;done)
   rename_i k n hx;cases ho':au s.st k<;>rw[ho'] at h<;>try (cases h;done)
   obtain⟨ls',pd',e⟩:=hk.2 k _ _ _ _ ho';rw[e];rfl
theorem w5{E rec ops o s K}(hs:pt s o=true)(h:dI E rec ops o s K): ∃a,K (put s o.dst a)/\∀s' K',Looks ops o s s'->bU s.st s'.st->K' (put s' o.dst a)->dI E rec ops o s' K':=by
 obtain⟨hg,⟨hcl,hnp⟩,_,_⟩:=rz (E:=E) hs (Looks.same (ops:=ops) (s2:=s) (fun _ _=>rfl)) (.refl _);have h0:vb E rec s o.dst o.op K:=by
  grind [dI]
 have h1: ∃c a,bH E s o.op=some (c,a)/\c=true/\K (put s o.dst a):=by
  unfold vb at h0
  grind [ai.1]
 obtain⟨c,a,hr,hc,hk⟩:=h1;refine⟨a,hk,fun s' K' hl hb hk'=>?_⟩;obtain⟨_,_,hr',_⟩:=rz (E:=E) hs hl.same hb
 simp_all[dI,vb,ai]
def B9 quiet c ops a i o:=
 ∀j b,ops[j]? =some b->i≠j->fF a j=false-> ¬ Aa ops i j->vP quiet c ops o b=true
theorem wy{quiet c ops a i o e}(d: ∀j,j∈e->j=i\/Aa ops i j): ∀l k,y0 quiet c ops a i o e l k=true->∀m b,l[m]? =some b->i≠k+m->fF a (k+m)=false-> ¬ Aa ops i (k+m)->vP quiet c ops o b=true
 |[],_,_,m,b,h,_,_,_=>by simp at h
 | x::l,k,h,m,b,f,p,g,n=>by
  simp only[y0,an3] at h;cases m with
  |zero=>
   grind [Nat.eq_of_beq_eq_true,ld]
  |succ m=>
   refine wy d l _ h.2 m b (by grind) (by omega) ?_ ?_
   ·grind
   grind
theorem B9.set{quiet c ops a i j o}(h:B9 quiet c ops a i o):B9 quiet c ops (gH a j) i o:=by
 intro k b e f g d;refine h k b e f ?_ d
 grind [fM,dH]
theorem uC{E}(hE:aj E){rec}(hr:eD rec){ops K}: ∀n listed s i o,DC ops listed->lG ops listed i o->B9 E.quiet E.calm ops listed i o->pt s o=true->
  (dI E rec ops o s fun s'=>nZ E rec ops n (gH listed i) s' K)->nZ E rec ops (n+1) listed s K
 | n,listed,s,i,o,hdc,hi,hf,hst,h=>by
  refine⟨fun hn=>absurd hi (hn i o),fun j b hj=>?_⟩;by_cases hij:i=j
  ·subst hij
   have:o=b:=Option.some.inj (hi.1.symm.trans hj.1)
   subst this;exact h
  ·have hsw:vP E.quiet E.calm ops o b=true:=hf j b hj.1 hij hj.2.1 (fun hp=>by
    have:=hj.dep hdc hp
    rw[hi.2.1] at this;cases this)
   simp only[vP,tc,an3,Bool.or_eq_true,Bool.not_eq_true',Nat.blt_eq] at hsw;obtain⟨⟨⟨q1,q2⟩,q3⟩,q4⟩:=hsw;cases n with
   |zero=>
    obtain⟨a,h1,_⟩:=w5 hst h;exact absurd (hj.set hij) (h1.1 j b)
   | succ n=>
    have h':=
     dv hE hr (fun s1 h1=>h1.2 j b (hj.set hij)) h
    obtain⟨a,g1,g2⟩:=w5 hst h';have g3:=x9 hE hr q4 g1;refine nR hE hr (kK q1).symm (cq s o.dst a) ?_ g3;intro st c _ hk;obtain⟨k1,k2⟩:=hk;rw[cq,cq] at k2;have hbk:bU s.st (put {s with st:=st} b.dst c).st:=by rw[cq];exact k2
    have hlk:Looks ops o s (put {s with st:=st} b.dst c):=by
     have:Looks ops o s {s with st:=st}:=fun _ _=>rfl
     intro t ht;exact(this t ht).trans (kK q2 t ht)
    have key:=g2 (put {s with st:=st} b.dst c) (fun s2=>nZ E rec ops n (gH (gH listed j) i) s2 K) hlk hbk (by
     rw[←xG st q3,pZ];exact k1)
    exact uC hE hr n (gH listed j) _ i o (hdc.set hj) (hi.set (Ne.symm hij)) hf.set (rz (E:=E) hst hlk.same hbk).2.2.2 key
def ov P T st st':=∀k Tb a,au st k= .box Tb a->∃a',au st' k= .box Tb a'/\
 ∀T1,T=some T1->dJ P T1=false->∀path,kg P Tb path=some T1->og a' path=og a path/\oi a' path=oi a path/\jm a' path=jm a path
theorem ov.refl P T st:ov P T st st:=fun _ _ a h=>⟨a,h,by simp⟩
theorem ov.of{P T st st'}(h:bU st st'):ov P T st st':=fun k Tb a hk=>⟨a,by rw[h.1 k (by rw[hk];rfl),hk],by simp⟩
theorem Cy{P T}(h:dJ P T=false):fieldsOf P T=[]:=by
 grind [dJ,fieldsOf]
theorem xW{P g k}(o:dJ P g=false)(t:dJ P k=false)(h:g≠k): ∀q p d a x,kg P d p=some g->kg P d q=some k->oi a q=true->wid x=wid (og a q)->
  og (gD a q x) p=og a p/\oi (gD a q x) p=oi a p/\jm (gD a q x) p=jm a p
 |[],p,d,a,x,c,b,_,_=>by
  simp only[kg,an5] at b;subst b;cases p<;>grind [kg,Option.some.injEq,Cy,qY]
 |j::q,[],d,a,x,c,b,_,_=>by
  simp only[kg,an5] at c;subst c;simp only[kg,Cy o,qY] at b;cases b
 | j ::q,i::p,d,a,x,c,b,f,n=>by
  cases a with
  | agg l=>
   simp only[oi,an3,an2] at f;simp only[og,af] at n;have m:wid (gD (nth l j) q x)=wid (nth l j):=mY q _ _ f.2 n;simp only[gD,og,af,oi,jm,fY];by_cases e:j=i
   ·subst e
    simp only[kg] at c b;cases r:qY (fieldsOf P d) j with
    |none=>rw[r] at c;cases c
    |some s=>
     rw[r] at c b;have:=xW o t h q p s.type (nth l j) x c b f.2 n
     grind [ml,xV]
   ·rw[jl _ _ _ _ e,xV _ _ _ _ m]
    exact⟨rfl,rfl,rfl⟩
  |_=>simp[oi] at f
theorem DW{P T s dst o}(hb:Bi P.toProgram T o=true){K}(h:cm P s dst o K):cm P s dst o fun s'=>K s'/\ov P.toProgram T s.st s'.st:=by
 cases o with
 | store U p x=>
  simp only[cm] at h⊢;unfold rC at h⊢;have rowT: ∀i (ob ob':Obj),au s.st i=ob->j9 ob=false->ov P.toProgram T s.st (dj s.st i ob'):=fun i ob ob' h1 h2 k Tb a hk=>by
   refine⟨a,?_,fun _ _ _ _ _=>⟨rfl,rfl,rfl⟩⟩;rw[bw _ _ _ _ (fun e=>by subst e;rw[h1] at hk;subst hk;cases h2)];exact hk
  have frzT: ∀is i (ob ob':Obj),au (cQ s.st is) i=ob->j9 ob=false->ov P.toProgram T s.st (dj (cQ s.st is) i ob'):=fun is i ob ob' h1 h2 k Tb a hk=>by
   have hz:au (cQ s.st is) k= .box Tb a:=by rw[(bU.freeze is s.st).1 k (by rw[hk];rfl),hk]
   refine⟨a,?_,fun _ _ _ _ _=>⟨rfl,rfl,rfl⟩⟩;rw[bw _ _ _ _ (fun e=>by subst e;rw[h1] at hz;subst hz;cases h2)];exact hz
  split at h<;>try exact h.elim
  rename_i i k path off hev;split at h<;>try exact h.elim
  ·rename_i Tb a hst
   split at h<;>try exact h.elim
   rename_i hc;rw[if_pos hc];refine⟨h,?_⟩;rw[cq];simp only[an3,beq_iff_eq] at hc;obtain⟨⟨⟨⟨⟨⟨c1,c2⟩,c3⟩,c4⟩,_⟩,_⟩,c7⟩:=hc;intro k' Tb' a' hk';by_cases e:i=k'
   ·subst e
    rw[hst] at hk';cases hk'
    refine⟨_,bn _ _ _ (Hd (by rw[hst];simp)),fun T1 hT hA p hp=>?_⟩;subst hT;simp only[Bi,an3,Bool.not_eq_true'] at hb;have hU:kg P.toProgram Tb path=some U:=by
     unfold xx at c7;split at c7
     ·rename_i V hV;rw[hV,Nat.eq_of_beq_eq_true c7]
     ·cases c7
    exact xW hA hb.2 (fun e=>by subst e;rw[Nat.beq_refl] at hb;cases hb.1) path p Tb a (ev s x) hp hU c1 (by rw[c3,c4])
   ·exact⟨a',by rw[bw _ _ _ _ e];exact hk',fun _ _ _ _ _=>⟨rfl,rfl,rfl⟩⟩
  ·split at h<;>try exact h.elim
   rename_i x' Tr xs hx' hst;split at h<;>try exact h.elim
   rename_i hc;simp only;rw[if_pos hc];exact⟨h,by rw[cq];exact frzT _ _ _ _ hst rfl⟩
  ·rename_i Tr E ls kp hst
   split at h<;>try exact h.elim
   split at h<;>try exact h.elim
   rename_i hc;rw[if_pos hc];exact cj (fun h=>⟨h,by rw[cq];exact rowT _ _ _ hst rfl⟩) h
 |_=>cases T<;>cases hb
theorem DT{E}(hE:aj E){rec}(hr:eD rec){ops b s T K}(hb:((fg E.quiet b.op<2\/y4 b.op=true)\/v8 E.calm b.op=true)\/Bi E.P.toProgram T b.op=true)(h:dI E rec ops b s K):dI E rec ops b s fun s'=>K s'/\ov E.P.toProgram T s.st s'.st:=by
 rcases hb with hb|hb
 ·exact dv hE hr (fun _ h=>⟨h.1, .of h.2⟩) (x9 hE hr hb h)
 ·rw[ef] at h⊢
  refine iQ (fun _ _=>rfl) (fun h=>?_) (fun h=>⟨h,by rw[cq];exact .refl _ _ _⟩) h;have e1:fg E.quiet b.op=2/\∀s,gM s b.op=none:=by
   cases ho:b.op with
   |store U p x=>exact⟨rfl,fun _=>rfl⟩
   |_=>rw[ho] at hb;cases T<;>cases hb
  simp_all[vb,DW]
theorem rE{E s s' o T}(h:pD E.P.toProgram s o=some T)(hs:uY o.op s s')(hk:ov E.P.toProgram T s.st s'.st):o.guard=none/\(fg E.quiet o.op=1/\∀c a b,o.op≠ .pick c a b)/\bH E s' o.op=bH E s o.op/\pD E.P.toProgram s' o=some T:=by
 unfold pD at h⊢;split at h<;>try (cases h;done)
 ·rename_i U x hg ho
  have he:ev s x=ev s' x:=hs.ev x (by rw[ho];simp[opsOf]);rw[←he];split at h<;>try (cases h;done)
  rename_i k j path off hx;split at h<;>try (cases h;done)
  rename_i Tb a hst;cases hc:xx E.P.toProgram Tb path U&& !dJ E.P.toProgram U with
  |false=>rw[hc] at h;cases h
  | true=>
   rw[hc] at h;simp only[an9,an5] at h;subst h;obtain⟨a',k1,k2⟩:=hk k Tb a hst;have hc':=hc;simp only[an3,Bool.not_eq_true'] at hc';have hU:kg E.P.toProgram Tb path=some U:=by
    have c7:=hc'.1;unfold xx at c7;split at c7
    ·rename_i V hV;rw[hV,Nat.eq_of_beq_eq_true c7]
    ·cases c7
   obtain⟨r1,r2,r3⟩:=k2 U rfl hc'.2 path hU;refine⟨hg,⟨by rw[ho];rfl,fun c a b e=>by rw[ho] at e;cases e⟩,?_,?_⟩
   ·rw[ho];simp only[bH];rw[←he,hx]
    simp only[n8,hst,k1,r1,r2,r3]
   ·simp only[k1,hc,an9]
 ·rename_i x hg ho
  have he:ev s x=ev s' x:=hs.ev x (by rw[ho];simp[opsOf]);rw[←he];split at h<;>try (cases h;done)
  rename_i k j path off hx;cases hc:j9 (au s.st k) with
  |false=>rw[hc] at h;cases h
  |true=>
   rw[hc] at h;cases h;cases hst:au s.st k<;>rw[hst] at hc<;>try (cases hc;done)
   obtain⟨a',k1,_⟩:=hk k _ _ hst;refine⟨hg,⟨by rw[ho];rfl,fun c a b e=>by rw[ho] at e;cases e⟩,?_,?_⟩
   ·rw[ho];simp only[bH];rw[←he,hx];simp only[iR,k1,hst]
   ·simp only[k1];rfl
 ·rename_i U x f hg ho
  have he:ev s x=ev s' x:=hs.ev x (by rw[ho];simp[opsOf]);rw[←he];split at h<;>try (cases h;done)
  rename_i k j path off hx;cases hc:j9 (au s.st k) with
  |false=>rw[hc] at h;cases h
  |true=>
   rw[hc] at h;cases h;cases hst:au s.st k<;>rw[hst] at hc<;>try (cases hc;done)
   obtain⟨a',k1,_⟩:=hk k _ _ hst;refine⟨hg,⟨by rw[ho];rfl,fun c a b e=>by rw[ho] at e;cases e⟩,?_,?_⟩
   ·rw[ho];simp only[bH];rw[←he,hx];simp only[gP,iR,k1,hst]
   ·simp only[k1];rfl
theorem w6{E rec ops o s T K}(hs:pD E.P.toProgram s o=some T)(h:dI E rec ops o s K): ∃a,K (put s o.dst a)/\∀s' K',Looks ops o s s'->ov E.P.toProgram T s.st s'.st->K' (put s' o.dst a)->dI E rec ops o s' K':=by
 obtain⟨hg,⟨hcl,hnp⟩,_,_⟩:=rE (E:=E) hs (Looks.same (ops:=ops) (s2:=s) (fun _ _=>rfl)) (.refl _ _ _);have h0:vb E rec s o.dst o.op K:=by
  grind [dI]
 have h1: ∃c a,bH E s o.op=some (c,a)/\c=true/\K (put s o.dst a):=by
  unfold vb at h0
  grind [ai.1]
 obtain⟨c,a,hr,hc,hk⟩:=h1;refine⟨a,hk,fun s' K' hl hb hk'=>?_⟩;obtain⟨_,_,hr',_⟩:=rE (E:=E) hs hl.same hb
 simp_all[dI,vb,ai]
def Ca P quiet c T ops a i o:=
 ∀j b,ops[j]? =some b->i≠j->fF a j=false-> ¬ Aa ops i j->vQ P quiet c T ops o b=true
theorem wz{P quiet c T ops a i o e}(d: ∀j,j∈e->j=i\/Aa ops i j): ∀l k,oM P quiet c T ops a i o e l k=true->∀m b,l[m]? =some b->i≠k+m->fF a (k+m)=false-> ¬ Aa ops i (k+m)->vQ P quiet c T ops o b=true
 |[],_,_,m,b,h,_,_,_=>by simp at h
 | x::l,k,h,m,b,f,p,g,n=>by
  simp only[oM,an3] at h;cases m with
  |zero=>
   grind [Nat.eq_of_beq_eq_true,ld]
  |succ m=>
   refine wz d l _ h.2 m b (by grind) (by omega) ?_ ?_
   ·grind
   grind
theorem Ca.set{P quiet c T ops a i j o}(h:Ca P quiet c T ops a i o):Ca P quiet c T ops (gH a j) i o:=by
 intro k b e f g d;refine h k b e f ?_ d
 grind [fM,dH]
theorem uD{E}(hE:aj E){rec}(hr:eD rec){ops T K}: ∀n listed s i o,DC ops listed->lG ops listed i o->Ca E.P.toProgram E.quiet E.calm T ops listed i o->pD E.P.toProgram s o=some T->
  (dI E rec ops o s fun s'=>nZ E rec ops n (gH listed i) s' K)->nZ E rec ops (n+1) listed s K
 | n,listed,s,i,o,hdc,hi,hf,hst,h=>by
  refine⟨fun hn=>absurd hi (hn i o),fun j b hj=>?_⟩;by_cases hij:i=j
  ·subst hij
   have:o=b:=Option.some.inj (hi.1.symm.trans hj.1)
   subst this;exact h
  ·have hsw:vQ E.P.toProgram E.quiet E.calm T ops o b=true:=hf j b hj.1 hij hj.2.1 (fun hp=>by
    have:=hj.dep hdc hp
    rw[hi.2.1] at this;cases this)
   simp only[vQ,tc,an3,Bool.or_eq_true,Bool.not_eq_true',Nat.blt_eq] at hsw;obtain⟨⟨⟨q1,q2⟩,q3⟩,q4⟩:=hsw;cases n with
   |zero=>
    obtain⟨a,h1,_⟩:=w6 hst h;exact absurd (hj.set hij) (h1.1 j b)
   | succ n=>
    have h':=
     dv hE hr (fun s1 h1=>h1.2 j b (hj.set hij)) h
    obtain⟨a,g1,g2⟩:=w6 hst h';have g3:=DT (T:=T) hE hr q4 g1;refine nR hE hr (kK q1).symm (cq s o.dst a) ?_ g3;intro st c _ hk;obtain⟨k1,k2⟩:=hk;rw[cq,cq] at k2;have hbk:ov E.P.toProgram T s.st (put {s with st:=st} b.dst c).st:=by rw[cq];exact k2
    have hlk:Looks ops o s (put {s with st:=st} b.dst c):=by
     have:Looks ops o s {s with st:=st}:=fun _ _=>rfl
     intro t ht;exact(this t ht).trans (kK q2 t ht)
    have key:=g2 (put {s with st:=st} b.dst c) (fun s2=>nZ E rec ops n (gH (gH listed j) i) s2 K) hlk hbk (by
     rw[←xG st q3,pZ];exact k1)
    exact uD hE hr n (gH listed j) _ i o (hdc.set hj) (hi.set (Ne.symm hij)) hf.set (rE (E:=E) hst hlk.same hbk).2.2.2 key
theorem xz{P quiet c ops a s}: ∀l {i o},uK P quiet c ops a s l=some (i,o)->∃T,(i,o)∈l/\pD P s o=some T/\oM P quiet c T ops a i o (fwd ops 0 [i]) ops 0=true
 |[],i,o,h=>by grind [uK]
 | (j,b)::l,i,o,h=>by
  simp[uK] at h;have d:uK P quiet c ops a s l=some (i,o)->∃T,(i,o)∈(j,b)::l/\pD P s o=some T/\oM P quiet c T ops a i o (fwd ops 0 [i]) ops 0=true:=fun h=>by
   obtain⟨T,f,e⟩:=xz l h
   grind
  grind
theorem xy{quiet c ops a s}: ∀l {i o},Dg quiet c ops a s l=some (i,o)->(i,o)∈l/\pt s o=true/\y0 quiet c ops a i o (fwd ops 0 [i]) ops 0=true
 |[],i,o,h=>by grind [Dg]
 | (j,b)::l,i,o,h=>by
  simp[Dg] at h;cases d:pt s b&&y0 quiet c ops a j b (fwd ops 0 [j]) ops 0 with
  |true=>
   grind
  |false=>
   rw[d] at h;obtain⟨f,e⟩:=xy l h
   grind
theorem ow{E}(hE:aj E){rec}(hr:eD rec){ops K}: ∀n listed s,DC ops listed->oe E rec ops n listed s K->nZ E rec ops n listed s K
 | 0,listed,s,_,h=>by
  unfold oe at h;split at h
  ·rename_i h0
   exact⟨fun i o hi=>by rw[←gy,h0] at hi;simp at hi,h⟩
  ·exact h.elim
 | n +1,listed,s,hdc,h=>by
  unfold oe at h;split at h
  ·rename_i h0
   exact⟨fun _=>h,fun i o hi=>by rw[←gy,h0] at hi;simp at hi⟩
  ·rename_i h0
   split at h
   ·rename_i i o hp
    obtain⟨h1,h2⟩:=qw _ hp;have hfs: ∀j,j∈fwd ops 0 [i]->j=i\/Aa ops i j:=oN ops 0 [i] (fun m b hm=>by simpa using hm) (fun j hj=> .inl (by simpa using hj));have hfree:Ld E.quiet ops listed i o:=fun j b hb hij hn he=>free_spec hfs ops 0 h2 j b hb (by omega) (by simpa using hn) (by simpa using he)
    exact wB hE hr n listed s i o hdc (gy.1 h1) hfree (dv hE hr (fun s'=>ow hE hr n _ s' (hdc.set (gy.1 h1))) h)
   ·split at h
    ·rename_i i o hp
     obtain⟨h1,h2,h3⟩:=xy _ hp;have hfs: ∀j,j∈fwd ops 0 [i]->j=i\/Aa ops i j:=oN ops 0 [i] (fun m b hm=>by simpa using hm) (fun j hj=> .inl (by simpa using hj));have hfree:B9 E.quiet E.calm ops listed i o:=fun j b hb hij hn he=>wy hfs ops 0 h3 j b hb (by omega) (by simpa using hn) (by simpa using he)
     exact uC hE hr n listed s i o hdc (gy.1 h1) hfree h2 (dv hE hr (fun s'=>ow hE hr n _ s' (hdc.set (gy.1 h1))) h)
    split at h
    ·rename_i i o hp
     have hp:uK E.P.toProgram E.quiet E.calm ops listed s (ki listed ops 0)=some (i,o):=by
      cases hc:E.calm 888888<;>rw[hc] at hp
      ·cases hp
      ·exact hp
     obtain⟨T,h1,h2,h3⟩:=xz _ hp;have hfs: ∀j,j∈fwd ops 0 [i]->j=i\/Aa ops i j:=oN ops 0 [i] (fun m b hm=>by simpa using hm) (fun j hj=> .inl (by simpa using hj));have hfree:Ca E.P.toProgram E.quiet E.calm T ops listed i o:=fun j b hb hij hn he=>wz hfs ops 0 h3 j b hb (by omega) (by simpa using hn) (by simpa using he)
     exact uD hE hr n listed s i o hdc (gy.1 h1) hfree h2 (dv hE hr (fun s'=>ow hE hr n _ s' (hdc.set (gy.1 h1))) h)
    have:=yM _ h
    refine⟨fun hn=>?_,fun i o hi=>dv hE hr (fun s'=>ow hE hr n _ s' (hdc.set hi)) (this i o (gy.2 hi))⟩
    exfalso
    cases hrl:ki listed ops 0 with
    |nil=>exact h0 hrl
    |cons x l=>
     obtain⟨i,o⟩:=x;exact hn i o (gy.1 (by rw[hrl];simp))
theorem zp: ∀l i,fF l i=l.getD i true
 |[],_=>rfl
 |_::_,0=>rfl
 |_::l,i+1=>by simpa[fF] using zp l i
theorem Dw: ∀l i,gH l i=l.set i true
 |[],_=>rfl
 |_::_,0=>rfl
 |_::l,i+1=>by simp[gH,Dw l i]
theorem yV: ∀n,iJ n=List.replicate n false
 |0=>rfl
 |n+1=>by simp[iJ,yV n,List.replicate_succ]
theorem o9{ops a i}:i∈Region.ready .any ops a↔ ∃o,lG ops.toList a.toList i o:=by
 rw[mem_ready];have f: ∀k,fF a.toList k=a.getD k true:=fun k=>by rw[zp];simp
 constructor
 ·rintro⟨b,o,c,d⟩
  refine⟨o,by grind,by grind,fun e h g=>?_⟩
  grind
 ·rintro⟨o,b,c,d⟩
  grind
theorem wC{E}(hE:aF E){rec}(hrec:gn E.P rec){F}(hF:F=Fence.wide\/ ∃B,F=Fence.wide.inRound B){n ops K lo base Q}:
  ∀k listed {C},C.P=E.P->Inv C->∀{s a},dh C s a->ij lo C a.defers->base<=s.st.length->nZ E rec ops.toList k listed.toList s K->
   (∀a' w',cH lo base C K a' w'->Q .normal a' w')->wpAnyIn F n E.P .any ops Q k listed a C.w
 |0,listed,C,hC,hI,s,a,hs,hd,hb,h,hQ=>by
  refine⟨?_,hQ _ _ ⟨C,s,rfl,rfl,hI,hs,hd,hb,Ext.refl C (by rw[hs.st];exact hb),h.2⟩⟩;rw[List.eq_nil_iff_forall_not_mem];intro i hi;obtain⟨o,ho⟩:=o9.1 hi;exact h.1 i o ho
 | k+1,listed,C,hC,hI,s,a,hs,hd,hb,h,hQ=>by
  refine⟨fun hn=>hQ _ _ ⟨C,s,rfl,rfl,hI,hs,hd,hb,Ext.refl C (by rw[hs.st];exact hb),h.1 fun i o ho=>?_⟩,fun i hi=>?_⟩
  ·have:=o9.2 ⟨o,ho⟩
   rw[hn] at this;simp at this
  ·obtain⟨o,ho⟩:=o9.1 hi
   have h1:=h.2 i o ho;rw[ef] at h1;have hn: ∀a' w',cH lo base C (fun s'=>nZ E rec ops.toList k (gH listed.toList i) s' K) a' w'->wpAnyIn F n E.P .any ops Q k (listed.setIfInBounds i true) a' w':=by
    rintro a' w' ⟨C',s',rfl,hP',hI',hs',hd',hb',he,hK⟩;refine wC hE hrec hF k _ (hP'.trans hC) hI' hs' hd' hb' ?_ (fun a2 w2 h2=>hQ _ _ (h2.trans hP' he))
    grind [gH,Dw]
   exact uE hI hs hd hb hF (i:=i) (o:=o) (by simpa using ho.1) (fun hp=>JJ hE hrec hC hI hs hd hb hF hp hn) hn h1
theorem EM{E}(j:aF E)(r:aj E){b}(d:gn E.P b)(u:eD b):KN E b:=by
 intro id ops s K h C a F n lo base v i k hd l p Q m;refine wpIn_region_any j.prog.mixed ?_;have o:ik C.w {C.w with drawn:=C.w.drawn+1}:=⟨Nat.le_refl _,rfl,rfl,rfl,fun _ _=>rfl⟩
 obtain⟨q,g⟩:=oQ i o;have t:=k.step i g;have e:({s with st:=C.st}:S)=s:=by rw[k.st]
 have f:dh {C with w:={C.w with drawn:=C.w.drawn+1}} s a:=by grind
 have c:=ow r u _ _ _ (DC.iJ _ _) h;have:=wC (C:={C with w:={C.w with drawn:=C.w.drawn+1}}) j d p (n:=n)     ops.size _ v q f (hd.ext g) l
  (by simpa[yV] using c) (fun z y x=>m _ _ (cH.trans  (C':={C with w:={C.w with drawn:=C.w.drawn+1}}) rfl (g.mono (by grind)) x))
 exact this
theorem MC{E}(e:aj E){a}(f:eD a){s d o K c}(b: ∀s,K s->c s)(h:Qw E a s d o K):Qw E a s d o c:=by
 unfold Qw at h⊢;split at h
 ·exact cj (b _) h
 ·split at h
  ·split at h<;>try grind
   rename_i t _;cases t<;>exact b _ h
  ·split at h
   ·grind [np]
   ·exact yi ⟨fun _ _=>rfl⟩ rfl (by grind) h
theorem tG{E}(hE:aj E){rec}(hr:eD rec){ops}: ∀l {s K K'},(∀s,K s->K' s)->oZ E rec ops l s K->oZ E rec ops l s K'
 |[],s,K,K',hK,h=>hK _ h
 |o::l,s,K,K',hK,h=>by
  rw[xk] at h⊢;exact iQ (fun _ _=>rfl) (MC hE hr fun s'=>tG hE hr l hK) (tG hE hr l hK) h
theorem kF{E}(hE:aj E){rec}(hr:eD rec){ops K K'}(hK: ∀s,K s->K' s): ∀n listed s,oe E rec ops n listed s K->oe E rec ops n listed s K'
 |0,listed,s,h=>by
  unfold oe at h⊢;split at h
  ·exact hK _ h
  ·exact h.elim
 | n +1,listed,s,h=>by
  unfold oe at h⊢;split at h
  ·exact hK _ h
  ·split at h
   ·exact dv hE hr (fun s'=>kF hE hr hK n _ s') h
   ·split at h
    ·exact dv hE hr (fun s'=>kF hE hr hK n _ s') h
    split at h
    ·exact dv hE hr (fun s'=>kF hE hr hK n _ s') h
    generalize ki listed ops 0=l at h⊢
    have: ∀l:List (Nat×Oper),(Lp (fun i o=>dI E rec ops o s fun s'=>oe E rec ops n (gH listed i) s' K) l)->Lp (fun i o=>dI E rec ops o s fun s'=>oe E rec ops n (gH listed i) s' K') l:=by
     intro l;induction l with
     |nil=>exact id
     |cons x l ih=>
      obtain⟨i,o⟩:=x;cases l with
      |nil=>exact fun h=>dv hE hr (fun s'=>kF hE hr hK n _ s') h
      |cons y l=>exact fun h=>⟨dv hE hr (fun s'=>kF hE hr hK n _ s') h.1,ih h.2⟩
    exact this _ h
theorem I1{E}(hE:aj E){rec}(hr:eD rec) f rd base: ∀c s K K',(∀e s,K e s->K' e s)->kn E rec f rd base c s K->kn E rec f rd base c s K':=by
 intro c;induction c with
 |skip=>intro s K K' hK h;exact hK _ _ h
 |label l=>intro s K K' hK h;exact hK _ _ h
 | region id ops d=>
  intro s K K' hK h;cases d with
  |false=>
   have h:oZ E rec ops.toList ops.toList s (yp (K .normal)):=h;show oZ E rec ops.toList ops.toList s (yp (K' .normal))
   rw[vn] at h⊢;exact tG hE hr _ (hK _) h
  |true=>
   have h:oe E rec ops.toList ops.toList.length (iJ ops.toList.length) s (yp (K .normal)):=h;show oe E rec ops.toList ops.toList.length (iJ ops.toList.length) s (yp (K' .normal))
   rw[vn] at h⊢;exact kF hE hr (hK _) _ _ _ h
 |seq x y ihx ihy=>
  intro s K K' hK h;refine ihx s _ _ ?_ h;intro e s' hh;cases e with
  |normal=>exact ihy s' _ _ hK hh
  |_=>exact hK _ _ hh
 |cond c x y ihx ihy=>
  intro s K K' hK h;unfold kn at h⊢;split at h<;>try exact h.elim
  rename_i t _;cases t with
  |true=>exact ihx _ _ _ hK h
  |false=>exact ihy _ _ _ hK h
 | block id c ih=>
  intro s K K' hK h;refine ih s _ _ ?_ h;intro e s' hh;cases e with
  |exit i=>
   simp only[Al] at hh⊢;cases hb:Nat.beq i id<;>rw[hb] at hh<;>exact hK _ _ hh
  |_=>exact hK _ _ hh
 |loop c ih=>
  intro s K K' hK h;unfold kn at h⊢;split at h<;>try exact h.elim
  exact cj (fun hh=>by rw[jO] at hh⊢;exact hE.loop _ _ _ _ _ _ _ _ hK hh) h
 | rangeFunc g ps asg body iha ihb=>
  intro s K K' hK h;unfold kn at h⊢;split at h<;>try exact h.elim
  have hrk: ∀st,rh s.st.length s K st->rh s.st.length s K' st:=by
   intro st hh;unfold rh at hh⊢;split at hh<;>try exact hh.elim
   grind
  refine cj (fun hh=>?_) h;split at hh
  ·exact hE.lB _ _ _ _ _ _ _ hrk hh
  ·exact uF hr (fun _ st=>hrk st) hh
 |exit id=>intro s K K' hK h;exact hK _ _ h
 |goto l=>intro s K K' hK h;exact h.elim
 |scope c ih=>
  intro s K K' hK h;refine ih s _ _ ?_ h;intro e s' hh;cases e with
  |goto l=>exact hh.elim
  |_=>exact hK _ _ hh
 |ret=>intro s K K' hK h;exact hK _ _ h
 |refuse r=>intro s K K' hK h;exact h.elim
theorem qf{E}(a:aj E): ∀n,eD (vc E n)
 |0=>fun _ _ _ _ _ _ _ _ h=>h.elim
 |n+1=>fun f d base c s K e b h=>I1 a (qf a n) f _ _ c s K _ b h
theorem zV{E}(b:aF E)(a:aj E): ∀n,gn E.P (vc E n)
 |0=>fun _ _ _ _ _ _ h=>h.elim
 |n+1=>fun f d base c s K h=>EH b (zV b a n) (EM b a (zV b a n) (qf a n)) f _ _ c s K h
#print axioms zV
end Go.Dn
