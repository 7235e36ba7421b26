import Derived.Test.YtioeffnadipbaaaGreatDoorDoB
namespace Go.Dn
open Go
theorem Ba: ∀l i j x y,i≠j->bP (bP l i x) j y=bP (bP l j y) i x
 |[],_,_,_,_,_=>rfl
 |a::l,0,0,_,_,h=>absurd rfl h
 |a::l,0,j+1,_,_,_=>rfl
 |a::l,i+1,0,_,_,_=>rfl
 |a::l,i+1,j+1,x,y,h=>by simp[bP];rw[Ba l i j x y (by omega)]
theorem yS{s d c a b} st(h:xr d c=true):put {put s d a with st:=st} c b=put (put {s with st:=st} c b) d a:=by
 cases d with
 |none=>rfl
 | some t=>
  cases c with
  |none=>rfl
  |some u=>
   have:t≠u:=by intro e;simp_all[xr]
   grind [put,Ba]
theorem lk{ops o s d a}(h:Ch ops o d=false):Looks ops o s (put s d a):=by
 intro t b;cases d<;>grind [Ch,put,jI]
theorem Looks.symm{ops o s1 s2}(h:Looks ops o s1 s2):Looks ops o s2 s1:=fun t a=>(h t a).symm
theorem Pj{quiet o}(h:EG o=true):fE quiet o=2/\∀s,ic s o=none:=by
 cases o with
 |alloc T=>exact⟨rfl,fun _=>rfl⟩
 |box T x=>exact⟨rfl,fun _=>rfl⟩
 |makeSlice T a b=>exact⟨rfl,fun _=>rfl⟩
 |makeMap T x=>cases x<;>exact⟨rfl,fun _=>rfl⟩
 |_=>cases h
theorem cz s d a:(put s d a).st=s.st:=by cases d<;>rfl
theorem Hv{P s dst o}(hg:EG o=true){K}(h:cy P s dst o K):cy P s dst o fun s'=>K s'/\Kept s.st s'.st:=by
 cases o with
 |alloc T=>
  grind [cy,cz,Kept.app]
 |box T x=>grind [cy,cH,cz,Kept.app]
 |makeSlice T a b=>grind [cy,cH,cz,Kept.app]
 |makeMap T x=>
  cases x<;>grind [cy,cz,Kept.app]
 |_=>cases hg
theorem MZ{E rec ops b s K}(hb:fE E.quiet b.op<2\/EG b.op=true)(h:eb E rec ops b s K):eb E rec ops b s fun s'=>K s'/\Kept s.st s'.st:=by
 rcases hb with hb|hb
 ·obtain⟨a,h1,h2⟩:=qJ hb h
  exact h2 s _ (fun _ _=>rfl) (fun _=> .refl _) ⟨h1,by rw[cz];exact .refl _⟩
 ·rw[eM] at h⊢
  refine jt (fun _ _=>rfl) (fun h=>?_) (fun h=>⟨h,by rw[cz];exact .refl _⟩) h;obtain⟨e1,e2⟩:=Pj (quiet:=E.quiet) hb
  simp_all[wk,Hv]
theorem M5{E}(hE:aj E){rec}(hr:eZ rec){ops i j}(hsw:zm E.quiet ops i j=true){s K}
  (h:eb E rec ops i s fun s1=>eb E rec ops j s1 K):eb E rec ops j s fun s2=>eb E rec ops i s2 K:=by
 simp only[zm,tO,aC6,Bool.not_eq_true'] at hsw;obtain⟨⟨⟨h1,h2⟩,h3⟩,h4⟩:=hsw;have hc:fE E.quiet i.op<2:=by
  split at h4
  ·omega
  ·omega
  ·cases h4
 have hj:fE E.quiet i.op=1->fE E.quiet j.op<2\/EG j.op=true:=by
  intro e;rw[e] at h4;simpa using h4
 obtain⟨a,g1,g2⟩:=qJ hc h;have hst:(put s i.dst a).st=s.st:=by cases i.dst<;>rfl
 have g3:eb E rec ops j (put s i.dst a) fun s'=>K s'/\(fE E.quiet i.op=1->Kept s.st s'.st):=by
  rcases Nat.eq_zero_or_pos (fE E.quiet i.op) with e|e
  ·simp_all
  ·grind [dz,MZ]
 refine oB hE hr (lk h1).symm hst ?_ g3;intro st b hs hk;refine g2 _ _ ?_ ?_ ?_
 ·have:Looks ops i s {s with st:=st}:=fun _ _=>rfl
  intro t ht;exact(this t ht).trans (lk h2 t ht)
 ·intro e
  have:=hk.2 e
  rw[cz] at this⊢;exact this
 ·rw[←yS st h3];exact hk.1
theorem pS: ∀l i,(hG l i).length=l.length
 |[],_=>rfl
 |_::_,0=>rfl
 |_::l,i+1=>by simp[hG,pS l i]
theorem fU: ∀l i,fN (hG l i) i=true
 |[],_=>rfl
 |_::_,0=>rfl
 |_::l,i+1=>by exact fU l i
theorem ea: ∀l i j,i≠j->fN (hG l i) j=fN l j
 |[],_,_,_=>rfl
 |_::_,0,j,h=>by cases j with|zero=>grind|succ j=>rfl
 |_::l,i+1,j,h=>by
  cases j with
  |zero=>rfl
  |succ j=>exact ea l i j (by omega)
theorem qC: ∀l i j,hG (hG l i) j=hG (hG l j) i
 |[],_,_=>rfl
 |_::_,0,0=>rfl
 |_::_,0,j+1=>rfl
 |_::_,i+1,0=>rfl
 |_::l,i+1,j+1=>by simp[hG];rw[qC l i j]
theorem pB a: ∀l,mq a l=true↔ ∀e,e∈l->Region.binds .any e=true->e.on<a.length/\fN a e.on=true
 |[]=>by simp[mq]
 |e::l=>by
  simp[mq,pB _ l]
  grind
theorem yV a: ∀l k i o,(i,o)∈kI a l k↔ ∃m,i=k+m/\l[m]? =some o/\fN a i=false/\mq a o.after.toList=true
 |[],k,i,o=>by simp[kI]
 | b::l,k,i,o=>by
  have e:=yV a l (k+1) i o;have c:(i,o)∈kI a l (k+1)↔ ∃m,i=k+(m+1)/\(b::l)[m+1]? =some o/\fN a i=false/\mq a o.after.toList=true:=by
   rw[e];constructor
   ·rintro⟨m,j,f,g⟩;exact⟨m,by omega,by simpa using f,g⟩
   grind
  simp only[kI];cases d:(!fN a k&&mq a b.after.toList) with
  | true=>
   simp only[aD2,aE5,c,aD4];simp only[aC6,Bool.not_eq_true'] at d;constructor
   ·rintro(⟨rfl,rfl⟩|⟨m,h⟩)
    ·exact⟨0,by omega,rfl,d.1,d.2⟩
    ·exact⟨m+1,h⟩
   ·grind
  |false=>grind
def l6(ops:List Oper) a i o:=ops[i]? =some o/\fN a i=false/\∀e,e∈o.after.toList->Region.binds .any e=true->e.on<a.length/\fN a e.on=true
theorem gP{ops a i o}:(i,o)∈kI a ops 0↔l6 ops a i o:=by
 rw[yV];constructor
 ·rintro⟨m,d,b,c,e⟩
  obtain rfl:i=m:=by omega
  exact⟨b,c,(pB _ _).1 e⟩
 ·rintro⟨d,b,c⟩
  grind [pB]
theorem l6.set{ops a i j o}(h:l6 ops a i o)(b:j≠i):l6 ops (hG a j) i o:=by
 refine⟨h.1,by rw[ea _ _ _ b];exact h.2.1,fun e c d=>?_⟩;obtain⟨g,f⟩:=h.2.2 e c d
 grind [pS,fU,ea]
inductive Bq (ops:List Oper) (i:Nat):Nat->Prop
 |base (j:Nat) (b:Oper) (e:Edge) (h1:ops[j]? =some b) (h2:e∈b.after.toList) (h3:Region.binds .any e=true) (h4:e.on=i):Bq ops i j
 |step (j:Nat) (b:Oper) (e:Edge) (h1:ops[j]? =some b) (h2:e∈b.after.toList) (h3:Region.binds .any e=true) (h4:Bq ops i e.on):Bq ops i j
def DC(ops:List Oper) a:=∀j b,ops[j]? =some b->j<a.length->fN a j=true->∀e,e∈b.after.toList->Region.binds .any e=true->e.on<a.length/\fN a e.on=true
theorem G3{ops a}(hd:DC ops a){i j}(h:Bq ops i j):j<a.length->fN a j=true->fN a i=true:=by
 induction h with
 |base j b e d f c l=>intro k g;rw[←l];exact(hd j b d k g e f c).2
 |step j b e d f c _ m=>intro k g;exact m (hd j b d k g e f c).1 (hd j b d k g e f c).2
theorem l6.dep{ops a}(hd:DC ops a){i j b}(h:l6 ops a j b)(k:Bq ops i j):fN a i=true:=by
 cases k with
 |base _ l e f d c g=>
  have:=Option.some.inj (f.symm.trans h.1)
  subst this;rw[←g];exact(h.2.2 e d c).2
 |step _ l e f d c g=>
  have:=Option.some.inj (f.symm.trans h.1)
  subst this;exact G3 hd g (h.2.2 e d c).1 (h.2.2 e d c).2
theorem DC.jm ops n:DC ops (jm n):=fun j b _ d c=>by
 have: ∀n j,j<(Go.Dn.jm n).length->fN (Go.Dn.jm n) j=false:=by
  intro n;induction n with
  |zero=>grind [Go.Dn.jm]
  |succ n a=>intro j h;cases j<;>grind [Go.Dn.jm,fN]
 grind
theorem DC.set{ops a}(hd:DC ops a){i o}(h:l6 ops a i o):DC ops (hG a i):=by
 intro j b k l f e g c;rw[pS] at l⊢;have m:e.on<a.length/\fN a e.on=true:=by
  by_cases d:i=j
  ·subst d
   have:=Option.some.inj (k.symm.trans h.1)
   subst this;exact h.2.2 e g c
  ·rw[ea _ _ _ d] at f
   exact hd j b k l f e g c
 grind [fU,ea]
theorem AR a: ∀l,AQ a l=true->∃e,e∈l/\Region.binds .any e=true/\e.on∈a
 |[],h=>by grind [AQ]
 | e::l,h=>by
  simp[AQ] at h;rcases h with⟨b,c⟩|h
  ·grind [lJ]
  ·obtain⟨d,b,c⟩:=AR _ l h
   grind
theorem po{ops i}: ∀l k a,(∀m b,l[m]? =some b->ops[k+m]? =some b)->(∀j,j∈a->j=i\/Bq ops i j)->∀j,j∈fwd l k a->j=i\/Bq ops i j
 |[],_,_,_,g,j,c=>g j c
 | o::l,k,a,h,g,j,c=>by
  simp only[fwd] at c;have f: ∀m b,l[m]? =some b->ops[k+1+m]? =some b:=fun m b s=>by
   have:=h (m+1) b (by simpa using s)
   grind
  cases n:AQ a o.after.toList with
  |false=>rw[n] at c;exact po l (k+1) a f g j c
  | true=>
   rw[n] at c;refine po l (k+1) (k::a) f (fun u d=>?_) j c;rcases List.mem_cons.1 d with rfl|d
   ·obtain⟨e,q,r,t⟩:=AR _ _ n
    rcases g _ t with p|p
    ·exact .inr (.base _ o e (h 0 o rfl) q r p)
    ·exact .inr (.step _ o e (h 0 o rfl) q r p)
   grind
def NU quiet ops a i o:=
 ∀j b,ops[j]? =some b->i≠j->fN a j=false-> ¬ Bq ops i j->zm quiet ops o b=true
theorem free_spec{quiet ops a i o d}(c: ∀j,j∈d->j=i\/Bq ops i j): ∀l k,iG quiet ops a i o d l k=true->∀m b,l[m]? =some b->i≠k+m->fN a (k+m)=false-> ¬ Bq ops i (k+m)->zm quiet ops o b=true
 |[],_,_,m,b,h,_,_,_=>by simp at h
 | x::l,k,h,m,b,e,n,f,g=>by
  simp only[iG,aC6] at h;cases m with
  |zero=>
   grind [Nat.eq_of_beq_eq_true,lJ]
  |succ m=>
   refine free_spec c l (k+1) h.2 m b (by grind) (by omega) ?_ ?_
   ·grind
   grind
theorem NU.set{quiet ops a i j o}(h:NU quiet ops a i o):NU quiet ops (hG a j) i o:=by
 intro k b d e f c;refine h k b d e ?_ c
 grind [fU,ea]
def oI(E:Env)(rec:Rec)(ops:List Oper):Nat->List Bool->S->(S->Prop)->Prop
 |0,listed,s,K=>(∀i o,¬ l6 ops listed i o)/\K s
 |n+1,listed,s,K=>((∀i o,¬ l6 ops listed i o)->K s)/\∀i o,l6 ops listed i o->eb E rec ops o s fun s'=>oI E rec ops n (hG listed i) s' K
theorem xH{E}(hE:aj E){rec}(hr:eZ rec){ops K}: ∀n listed s i o,DC ops listed->l6 ops listed i o->NU E.quiet ops listed i o->
  (eb E rec ops o s fun s'=>oI E rec ops n (hG listed i) s' K)->oI E rec ops (n+1) listed s K
 | n,listed,s,i,o,hdc,hi,hf,h=>by
  refine⟨fun hn=>absurd hi (hn i o),fun j b hj=>?_⟩;by_cases hij:i=j
  ·subst hij
   have:o=b:=Option.some.inj (hi.1.symm.trans hj.1)
   subst this;exact h
  ·have hsw:zm E.quiet ops o b=true:=hf j b hj.1 hij hj.2.1 (fun hp=>by
    have:=hj.dep hdc hp
    rw[hi.2.1] at this;cases this)
   cases n with
   | zero=>
    have hc:fE E.quiet o.op<2:=by
     simp only[zm,aC6] at hsw
     grind
    obtain⟨a,h1,_⟩:=qJ hc h;exact absurd (hj.set hij) (h1.1 j b)
   | succ n=>
    have h':=
     dz hE hr (fun s1 h1=>h1.2 j b (hj.set hij)) h
    refine dz hE hr (fun s2 h2=>?_) (M5 hE hr hsw h');rw[qC] at h2;exact xH hE hr n (hG listed j) s2 i o (hdc.set hj) (hi.set (Ne.symm hij)) hf.set h2
theorem Aa{p}: ∀l,N7 p l->∀i o,(i,o)∈l->p i o
 |[],_,i,o,h=>by grind
 |[(j,b)],h,i,o,a=>by
  simp   at a;obtain⟨rfl,rfl⟩:=a;exact h
 |(j,b)::x::l,h,i,o,a=>by
  rcases List.mem_cons.1 a with a|a
  ·cases a;exact h.1
  ·exact Aa _ h.2 i o a
theorem q9{quiet ops a}: ∀l {i o},pJ quiet ops a l=some (i,o)->(i,o)∈l/\iG quiet ops a i o (fwd ops 0 [i]) ops 0=true
 |[],i,o,h=>by grind [pJ]
 | (j,b)::l,i,o,h=>by
  simp[pJ] at h;cases c:iG quiet ops a j b (fwd ops 0 [j]) ops 0 with
  |true=>grind
  |false=>
   rw[c] at h;obtain⟨e,d⟩:=q9 l h
   grind
def cd st st':=(∀k,kE (ay st k)=true->ay st' k=ay st k)/\∀k T E ls pd,ay st k= .rows T E ls pd->∃ls' pd',ay st' k= .rows T E ls' pd'
theorem JH{st k}(h:ay st k≠ .dead):k<st.length:=by grind [fk]
theorem cd.refl st:cd st st:=⟨by simp,by grind⟩
theorem cd.trans{a b c}(d:cd a b)(f:cd b c):cd a c:=⟨fun k e=>by
 rw[f.1 k (by rw[d.1 k e];omega),d.1 k e],fun k T E i g h=>by
 obtain⟨_,_,h⟩:=d.2 k T E _ _ h;exact f.2 k T E _ _ h⟩
theorem cd.of{st st'}(h: ∀k,ay st k≠ .dead->kE (ay st k)=true\/B6 (ay st k)=true->ay st' k=ay st k):cd st st':=
 ⟨fun k hk=>h k (by intro e;rw[e] at hk;cases hk) (.inl hk),fun k T E ls pd hk=>⟨_,_,by rw[h k (by grind) (.inr (by rw[hk];rfl)),hk]⟩⟩
theorem cd.app st l:cd st (st++l):= .of fun _ a _=>et _ _ _ (JH a)
theorem cd.set{st i T xs o}(h:ay st i= .row T xs):cd st (dv st i o):= .of fun k _ a=>by
 refine bJ _ _ _ _ fun e=>?_
 subst e;rw[h] at a;rcases a with a|a<;>cases a
theorem cd.rows{st i T E d b f a}(h:ay st i= .rows T E d f):cd st (dv st i (.rows T E b a)):=by
 refine⟨fun k c=>bJ _ _ _ _ fun e=>?_,fun k j g l p c=>?_⟩
 ·subst e;rw[h] at c;cases c
 grind [bw,JH,bJ]
theorem cd.freeze: ∀b st,cd st (cV st b)
 |[],st=> .refl _
 | i::b,st=>by
  refine cd.trans (.of ?_) (cd.freeze b _);intro k hd a;by_cases e:i=k
  ·subst e
   rw[bw _ _ _ (JH hd)];cases c:ay _ i<;>rw[c] at a<;>first|rfl|(rcases a with a|a<;>cases a)
  grind [bJ]
theorem sj: ∀{st st'},si st st'->∀k,ay st k≠ .dead->kE (ay st k)=true\/B6 (ay st k)=true->ay st' k=ay st k
 |[],_,_,k,hd,_=>absurd rfl hd
 |a::l,[],h,_,_,_=>by cases a<;>exact h.elim
 |a::l,o::l',h,0,_,hk=>by
  cases a<;>first|exact h.1|(rcases hk with hk|hk<;>cases hk)
 |a::l,o::l',h,k+1,hd,hk=>sj   (by cases a<;>first|exact h.2|exact h) k hd hk
theorem ON{quiet o}(h:Ao o=true):fE quiet o=2/\∀s,ic s o=none:=by
 cases o with
 |call c=>
  obtain⟨d,e,f⟩:=c;cases d with
  |builtin b=>cases b<;>first|exact⟨rfl,fun _=>rfl⟩|cases h
  |value g=>cases h
  |invoke r m=>cases h
 |buildSlice T n ps=>exact⟨rfl,fun _=>rfl⟩
 |makeSlice T a b=>exact⟨rfl,fun _=>rfl⟩
 |alloc T=>exact⟨rfl,fun _=>rfl⟩
 |box T x=>exact⟨rfl,fun _=>rfl⟩
 |makeMap T x=>cases x<;>exact⟨rfl,fun _=>rfl⟩
 |_=>cases h
theorem Gd{P s dst o}(hg:Ao o=true){K}(h:cy P s dst o K):cy P s dst o fun s'=>K s'/\cd s.st s'.st:=by
 cases o with
 |alloc T=>
  simp only[cy] at h⊢;split at h<;>try exact h.elim
  exact⟨h,by rw[cz];exact cd.app _ _⟩
 | box T x=>
  simp only[cy] at h⊢;split at h<;>try exact h.elim
  rename_i h1;rw[if_pos h1];split at h
  ·rename_i hi
   first|simp only[hi]|skip
   exact cH (fun h=>⟨h,by rw[cz];exact cd.app _ _⟩) h
  ·rename_i hi
   first|simp only[hi]|skip
   exact⟨h,by rw[cz];exact cd.app _ _⟩
 | makeMap T x=>
  cases x with
  |some y=>cases hg
  |none=>
   simp only[cy] at h⊢;split at h<;>try exact h.elim
   exact⟨h,by rw[cz];exact cd.app _ _⟩
 |buildSlice T n ps=>
  simp only[cy] at h⊢;split at h<;>try exact h.elim
  split at h<;>try exact h.elim
  split at h<;>try exact h.elim
  split at h<;>try exact h.elim
  rename_i h4;rw[if_pos h4];exact⟨h,by rw[cz];exact(cd.freeze _ _).trans (cd.app _ _)⟩
 |makeSlice T a b=>
  simp only[cy] at h⊢;split at h<;>try exact h.elim
  split at h<;>try exact h.elim
  exact cH (fun h=>⟨h,by rw[cz];exact cd.app _ _⟩) h
 | call c=>
  obtain⟨callee,args,ats⟩:=c;cases callee with
  | builtin b=>
   cases b<;>try (cases hg;done)
   simp only[cy] at h⊢;split at h<;>try exact h.elim
   split at h<;>try exact h.elim
   rename_i h3;rw[if_pos h3];unfold qi at h⊢;split at h<;>try exact h.elim
   split at h<;>try exact h.elim
   split at h<;>try exact h.elim
   split at h<;>try exact h.elim
   ·exact cH (fun h=>⟨h,by rw[cz];exact cd.app _ _⟩) h
   ·split at h<;>try exact h.elim
    ·split at h<;>try exact h.elim
     rename_i k1 k2;rw[if_pos k2];exact cH (fun h=>⟨h,by rw[cz];exact(cd.set k1).trans (cd.app _ _)⟩) h
    ·rename_i k1
     split at h<;>try exact h.elim
     rename_i k2;simp only;split at h<;>try exact h.elim
     rename_i k3;rw[if_pos k3];exact cH (fun h=>⟨h,by rw[cz];exact cd.rows k1⟩) h
  |value g=>cases hg
  |invoke r m=>cases hg
 |_=>cases hg
theorem Lj{E}(hE:aj E){rec g args st K}(hl:LZ E g args st=true)(h:o9 E rec g args st K):o9 E rec g args st fun a st'=>K a st'/\cd st st':=by
 unfold LZ at hl;split at hl
 ·rename_i f caps
  simp only[aC6,Bool.not_eq_true'] at hl;obtain⟨⟨h1,h2⟩,h3⟩:=hl;unfold o9 at h⊢;simp only[h1,h2] at h⊢;split at h3
  ·rename_i as hle
   rw[hle] at h⊢;simp only[cV] at h⊢;have hr:df (sv E.P (nz E.P f) as)=[]:=by
    grind [Py]
   refine cH (fun h=>?_) h;rw[kW] at h⊢
   grind [nV,lF,df,sv,reach,fO,fO.go,cd.app]
  ·cases h3
 ·cases hl
theorem zi{E}(hE:aj E){rec}(hr:eZ rec){ops b s K}(hb:(fE E.quiet b.op<2\/Ao b.op=true)\/xj E.calm b.op=true)(h:eb E rec ops b s K):eb E rec ops b s fun s'=>K s'/\cd s.st s'.st:=by
 have small:fE E.quiet b.op<2->eb E rec ops b s fun s'=>K s'/\cd s.st s'.st:=fun hb=>by
  obtain⟨a,h1,h2⟩:=qJ hb h;exact h2 s _ (fun _ _=>rfl) (fun _=>Kept.refl _) ⟨h1,by rw[cz];exact .refl _⟩
 rcases hb with(hb|hb)|hb
 ·exact small hb
 ·rw[eM] at h⊢
  refine jt (fun _ _=>rfl) (fun h=>?_) (fun h=>⟨h,by rw[cz];exact .refl _⟩) h;obtain⟨e1,e2⟩:=ON (quiet:=E.quiet) hb;unfold wk at h⊢;rw[e1] at h⊢;simp only[e2] at h⊢;exact Gd hb h
 ·by_cases hlt:fE E.quiet b.op<2
  ·exact small hlt
  ·rw [eM] at h⊢
   refine jt (fun _ _=>rfl) (fun h=>?_) (fun h=>⟨h,by rw[cz];exact .refl _⟩) h;have e1:fE E.quiet b.op=2/\∃g args,∀s,ic s b.op=some (ev s g,pj s args):=by
    cases ho:b.op with
    | call c=>
     obtain⟨callee,args,ats⟩:=c;rw[ho] at hb hlt;cases callee with
     | value g=>
      cases g with
      | func f=>
       simp only[fE] at hlt⊢;cases hq:E.quiet f with
       |true=>
        rw[hq,aD2] at hlt
        exfalso;apply hlt
        cases N6 args.toList<;>decide
       |false=>exact⟨rfl,_,_,fun _=>rfl⟩
      |_=>cases hb
     |_=>cases hb
    |_=>rw[ho] at hb;cases hb
   obtain⟨e1,g,args,e2⟩:=e1;unfold wk at h⊢;rw[e1] at h⊢;simp only[e2] at h⊢;cases hL:LZ E (ev s g) (pj s args) s.st with
   |false=>
    refine nR hE hr (fun a st h=>?_) h;rw[hb] at h⊢
    try rw[hL] at h
    exact⟨h.1,h.2,by rw[cz];exact .of (sj h.1)⟩
   |true=>
    refine nR hE hr (fun a st h=>?_) (Lj hE hL h);rw[hb] at h⊢
    try rw[hL] at h
    exact⟨h.1,by rw[cz];exact h.2⟩
theorem L2{P st st' T k i p off}(h:ay st' i=ay st i):oK P st' T (.ptr i k p off)=oK P st T (.ptr i k p off):=by
 grind [oK]
theorem O8{P st st' T} U l:Cc P st' T (.ah U l)=Cc P st T (.ah U l):=by
 unfold Cc
 grind
theorem rY{E s s' o}(h:pX s o=true)(hs:vQ o.op s s')(hk:cd s.st s'.st):o.guard=none/\(fE E.quiet o.op=1/\∀c a b,o.op≠ .pick c a b)/\bM E s' o.op=bM E s o.op/\pX s' o=true:=by
 unfold pX at h⊢;split at h<;>try (cases h;done)
 ·rename_i T x hg ho
  have he:ev s x=ev s' x:=hs.ev x (by rw[ho];simp[opsOf]);refine⟨hg,⟨by rw[ho];rfl,fun c a b e=>by rw[ho] at e;cases e⟩,?_,?_⟩
  ·rw[ho];simp only[bM];rw[←he]
   split at h<;>try (cases h;done)
   ·rename_i hx;rw[hx,L2 (hk.1 _ h)]
   ·rename_i hx;rw[hx];rfl
   ·rename_i hx;rw[hx];rfl
  ·rw[←he]
   split at h<;>try (cases h;done)
   ·rw[hk.1 _ h];exact h
   ·rename_i hx;simp only
   ·rename_i hx;simp only
 ·rename_i args ats hg ho
  have he:pj s args.toList=pj s' args.toList:=ig (fun x hx=>hs.ev x (by rw[ho];simpa only[opsOf] using hx));refine⟨hg,⟨by rw[ho];rfl,fun c a b e=>by rw[ho] at e;cases e⟩,?_,?_⟩
  ·rw[ho];simp only[bM];rw[←he]
   split at h<;>try (cases h;done)
   rename_i hx;rw[hx]
   cases ats.toList with
   |nil=>rfl
   |cons T l=>simp only[O8 (st:=s.st) (st':=s'.st)]
  ·rw[←he];exact h
 ·rename_i x hg ho
  have he:ev s x=ev s' x:=hs.ev x (by rw[ho];simp[opsOf]);refine⟨hg,⟨by rw[ho];rfl,fun c a b e=>by rw[ho] at e;cases e⟩,?_,?_⟩
  ·rw[ho];simp only[bM];rw[←he]
   split at h<;>try (cases h;done)
   rename_i hx;rw[hx];simp only[ju,hk.1 _ h];rfl
  ·rw[←he]
   split at h<;>try (cases h;done)
   rw[hk.1 _ h];exact h
 ·rename_i T x f hg ho
  have he:ev s x=ev s' x:=hs.ev x (by rw[ho];simp[opsOf]);refine⟨hg,⟨by rw[ho];rfl,fun c a b e=>by rw[ho] at e;cases e⟩,?_,?_⟩
  ·rw[ho];simp only[bM];rw[←he]
   split at h<;>try (cases h;done)
   rename_i hx;rw[hx];simp only[ij,ju,hk.1 _ h];rfl
  ·rw[←he]
   split at h<;>try (cases h;done)
   rw[hk.1 _ h];exact h
 ·rename_i T x i hg ho
  have he:ev s x=ev s' x:=hs.ev x (by rw[ho];simp[opsOf]);have hi:ev s i=ev s' i:=hs.ev i (by rw[ho];simp[opsOf]);refine⟨hg,⟨by rw[ho];rfl,fun c a b e=>by rw[ho] at e;cases e⟩,?_,?_⟩
  ·rw[ho];simp only[bM];rw[←he,←hi]
   split at h<;>try (cases h;done)
   rename_i k n hx;cases ho':ay s.st k<;>rw[ho'] at h<;>try (cases h;done)
   obtain⟨ls',pd',e⟩:=hk.2 k _ _ _ _ ho';rw[hx];simp only[il,ho',e,iL]
  ·rw[←he]
   split at h<;>try (cases h;done)
   rename_i k n hx;cases ho':ay s.st k<;>rw[ho'] at h<;>try (cases h;done)
   obtain⟨ls',pd',e⟩:=hk.2 k _ _ _ _ ho';rw[e];rfl
theorem yi{E rec ops o s K}(hs:pX s o=true)(h:eb E rec ops o s K): ∃a,K (put s o.dst a)/\∀s' K',Looks ops o s s'->cd s.st s'.st->K' (put s' o.dst a)->eb E rec ops o s' K':=by
 obtain⟨hg,⟨hcl,hnp⟩,_,_⟩:=rY (E:=E) hs (Looks.same (ops:=ops) (s2:=s) (fun _ _=>rfl)) (.refl _);have h0:wk E rec s o.dst o.op K:=by
  grind [eb]
 have h1: ∃c a,bM E s o.op=some (c,a)/\c=true/\K (put s o.dst a):=by
  unfold wk at h0
  grind [ai.1]
 obtain⟨c,a,hr,hc,hk⟩:=h1;refine⟨a,hk,fun s' K' hl hb hk'=>?_⟩;obtain⟨_,_,hr',_⟩:=rY (E:=E) hs hl.same hb
 simp_all[eb,wk,ai]
def DR quiet c ops a i o:=
 ∀j b,ops[j]? =some b->i≠j->fN a j=false-> ¬ Bq ops i j->w9 quiet c ops o b=true
theorem xE{quiet c ops a i o e}(d: ∀j,j∈e->j=i\/Bq ops i j): ∀l k,An quiet c ops a i o e l k=true->∀m b,l[m]? =some b->i≠k+m->fN a (k+m)=false-> ¬ Bq ops i (k+m)->w9 quiet c ops o b=true
 |[],_,_,m,b,h,_,_,_=>by simp at h
 | x::l,k,h,m,b,f,p,g,n=>by
  simp only[An,aC6] at h;cases m with
  |zero=>
   grind [Nat.eq_of_beq_eq_true,lJ]
  |succ m=>
   refine xE d l _ h.2 m b (by grind) (by omega) ?_ ?_
   ·grind
   grind
theorem DR.set{quiet c ops a i j o}(h:DR quiet c ops a i o):DR quiet c ops (hG a j) i o:=by
 intro k b e f g d;refine h k b e f ?_ d
 grind [fU,ea]
theorem vm{E}(hE:aj E){rec}(hr:eZ rec){ops K}: ∀n listed s i o,DC ops listed->l6 ops listed i o->DR E.quiet E.calm ops listed i o->pX s o=true->
  (eb E rec ops o s fun s'=>oI E rec ops n (hG listed i) s' K)->oI E rec ops (n+1) listed s K
 | n,listed,s,i,o,hdc,hi,hf,hst,h=>by
  refine⟨fun hn=>absurd hi (hn i o),fun j b hj=>?_⟩;by_cases hij:i=j
  ·subst hij
   have:o=b:=Option.some.inj (hi.1.symm.trans hj.1)
   subst this;exact h
  ·have hsw:w9 E.quiet E.calm ops o b=true:=hf j b hj.1 hij hj.2.1 (fun hp=>by
    have:=hj.dep hdc hp
    rw[hi.2.1] at this;cases this)
   simp only[w9,tO,aC6,aD9,Bool.not_eq_true',Nat.blt_eq] at hsw;obtain⟨⟨⟨q1,q2⟩,q3⟩,q4⟩:=hsw;cases n with
   |zero=>
    obtain⟨a,h1,_⟩:=yi hst h;exact absurd (hj.set hij) (h1.1 j b)
   | succ n=>
    have h':=
     dz hE hr (fun s1 h1=>h1.2 j b (hj.set hij)) h
    obtain⟨a,g1,g2⟩:=yi hst h';have g3:=zi hE hr q4 g1;refine oB hE hr (lk q1).symm (cz s o.dst a) ?_ g3;intro st c _ hk;obtain⟨k1,k2⟩:=hk;rw[cz,cz] at k2;have hbk:cd s.st (put {s with st:=st} b.dst c).st:=by rw[cz];exact k2
    have hlk:Looks ops o s (put {s with st:=st} b.dst c):=by
     have:Looks ops o s {s with st:=st}:=fun _ _=>rfl
     intro t ht;exact(this t ht).trans (lk q2 t ht)
    have key:=g2 (put {s with st:=st} b.dst c) (fun s2=>oI E rec ops n (hG (hG listed j) i) s2 K) hlk hbk (by
     rw[←yS st q3,qC];exact k1)
    exact vm hE hr n (hG listed j) _ i o (hdc.set hj) (hi.set (Ne.symm hij)) hf.set (rY (E:=E) hst hlk.same hbk).2.2.2 key
def o3 P T st st':=∀k Tb a,ay st k= .box Tb a->∃a',ay st' k= .box Tb a'/\
 ∀T1,T=some T1->ec P T1=false->∀path,kG P Tb path=some T1->o5 a' path=o5 a path/\oU a' path=oU a path/\jJ a' path=jJ a path
theorem o3.refl P T st:o3 P T st st:=fun _ _ a h=>⟨a,h,by simp⟩
theorem o3.of{P T st st'}(h:cd st st'):o3 P T st st':=fun k Tb a hk=>⟨a,by rw[h.1 k (by rw[hk];rfl),hk],by simp⟩
theorem Ei{P T}(h:ec P T=false):fieldsOf P T=[]:=by
 grind [ec,fieldsOf]
theorem y9{P g k}(o:ec P g=false)(t:ec P k=false)(h:g≠k): ∀q p d a x,kG P d p=some g->kG P d q=some k->oU a q=true->wid x=wid (o5 a q)->
  o5 (jx a q x) p=o5 a p/\oU (jx a q x) p=oU a p/\jJ (jx a q x) p=jJ a p
 |[],p,d,a,x,c,b,_,_=>by
  simp only[kG,aC8] at b;subst b;cases p<;>grind [kG,Option.some.injEq,Ei,rI]
 |j::q,[],d,a,x,c,b,_,_=>by
  simp only[kG,aC8] at c;subst c;simp only[kG,Ei o,rI] at b;cases b
 | j ::q,i::p,d,a,x,c,b,f,n=>by
  cases a with
  | agg l=>
   simp only[oU,aC6,at3] at f;simp only[o5,af] at n;have m:wid (jx (nth l j) q x)=wid (nth l j):=qc q _ _ f.2 n;simp only[jx,o5,af,oU,jJ,gi];by_cases e:j=i
   ·subst e
    simp only[kG] at c b;cases r:rI (fieldsOf P d) j with
    |none=>rw[r] at c;cases c
    |some s=>
     rw[r] at c b;have:=y9 o t h q p s.type (nth l j) x c b f.2 n
     grind [mO,y6]
   ·rw[jI _ _ _ _ e,y6 _ _ _ _ m]
    exact⟨rfl,rfl,rfl⟩
  |_=>simp[oU] at f
theorem FZ{P T s dst o}(hb:CH P.toProgram T o=true){K}(h:cy P s dst o K):cy P s dst o fun s'=>K s'/\o3 P.toProgram T s.st s'.st:=by
 cases o with
 | store U p x=>
  simp only[cy] at h⊢;unfold rZ at h⊢;have rowT: ∀i (ob ob':Obj),ay s.st i=ob->kE ob=false->o3 P.toProgram T s.st (dv s.st i ob'):=fun i ob ob' h1 h2 k Tb a hk=>by
   refine⟨a,?_,fun _ _ _ _ _=>⟨rfl,rfl,rfl⟩⟩;rw[bJ _ _ _ _ (fun e=>by subst e;rw[h1] at hk;subst hk;cases h2)];exact hk
  have frzT: ∀is i (ob ob':Obj),ay (cV s.st is) i=ob->kE ob=false->o3 P.toProgram T s.st (dv (cV s.st is) i ob'):=fun is i ob ob' h1 h2 k Tb a hk=>by
   have hz:ay (cV s.st is) k= .box Tb a:=by rw[(cd.freeze is s.st).1 k (by rw[hk];rfl),hk]
   refine⟨a,?_,fun _ _ _ _ _=>⟨rfl,rfl,rfl⟩⟩;rw[bJ _ _ _ _ (fun e=>by subst e;rw[h1] at hz;subst hz;cases h2)];exact hz
  split at h<;>try exact h.elim
  rename_i i k path off hev;split at h<;>try exact h.elim
  ·rename_i Tb a hst
   split at h<;>try exact h.elim
   rename_i hc;rw[if_pos hc];refine⟨h,?_⟩;rw[cz];simp only[aC6,beq_iff_eq] at hc;obtain⟨⟨⟨⟨⟨⟨c1,c2⟩,c3⟩,c4⟩,_⟩,_⟩,c7⟩:=hc;intro k' Tb' a' hk';by_cases e:i=k'
   ·subst e
    rw[hst] at hk';cases hk'
    refine⟨_,bw _ _ _ (JH (by rw[hst];simp)),fun T1 hT hA p hp=>?_⟩;subst hT;simp only[CH,aC6,Bool.not_eq_true'] at hb;have hU:kG P.toProgram Tb path=some U:=by
     unfold yI at c7;split at c7
     ·rename_i V hV;rw[hV,Nat.eq_of_beq_eq_true c7]
     ·cases c7
    exact y9 hA hb.2 (fun e=>by subst e;rw[Nat.beq_refl] at hb;cases hb.1) path p Tb a (ev s x) hp hU c1 (by rw[c3,c4])
   ·exact⟨a',by rw[bJ _ _ _ _ e];exact hk',fun _ _ _ _ _=>⟨rfl,rfl,rfl⟩⟩
  ·split at h<;>try exact h.elim
   rename_i x' Tr xs hx' hst;split at h<;>try exact h.elim
   rename_i hc;simp only;rw[if_pos hc];exact⟨h,by rw[cz];exact frzT _ _ _ _ hst rfl⟩
  ·rename_i Tr E ls kp hst
   split at h<;>try exact h.elim
   split at h<;>try exact h.elim
   rename_i hc;rw[if_pos hc];exact cH (fun h=>⟨h,by rw[cz];exact rowT _ _ _ hst rfl⟩) h
 |_=>cases T<;>cases hb
theorem FW{E}(hE:aj E){rec}(hr:eZ rec){ops b s T K}(hb:((fE E.quiet b.op<2\/Ao b.op=true)\/xj E.calm b.op=true)\/CH E.P.toProgram T b.op=true)(h:eb E rec ops b s K):eb E rec ops b s fun s'=>K s'/\o3 E.P.toProgram T s.st s'.st:=by
 rcases hb with hb|hb
 ·exact dz hE hr (fun _ h=>⟨h.1, .of h.2⟩) (zi hE hr hb h)
 ·rw[eM] at h⊢
  refine jt (fun _ _=>rfl) (fun h=>?_) (fun h=>⟨h,by rw[cz];exact .refl _ _ _⟩) h;have e1:fE E.quiet b.op=2/\∀s,ic s b.op=none:=by
   cases ho:b.op with
   |store U p x=>exact⟨rfl,fun _=>rfl⟩
   |_=>rw[ho] at hb;cases T<;>cases hb
  simp_all[wk,FZ]
theorem r6{E s s' o T}(h:qa E.P.toProgram s o=some T)(hs:vQ o.op s s')(hk:o3 E.P.toProgram T s.st s'.st):o.guard=none/\(fE E.quiet o.op=1/\∀c a b,o.op≠ .pick c a b)/\bM E s' o.op=bM E s o.op/\qa E.P.toProgram s' o=some T:=by
 unfold qa at h⊢;split at h<;>try (cases h;done)
 ·rename_i U x hg ho
  have he:ev s x=ev s' x:=hs.ev x (by rw[ho];simp[opsOf]);rw[←he];split at h<;>try (cases h;done)
  rename_i k j path off hx;split at h<;>try (cases h;done)
  rename_i Tb a hst;cases hc:yI E.P.toProgram Tb path U&& !ec E.P.toProgram U with
  |false=>rw[hc] at h;cases h
  | true=>
   rw[hc] at h;simp only[aD2,aC8] at h;subst h;obtain⟨a',k1,k2⟩:=hk k Tb a hst;have hc':=hc;simp only[aC6,Bool.not_eq_true'] at hc';have hU:kG E.P.toProgram Tb path=some U:=by
    have c7:=hc'.1;unfold yI at c7;split at c7
    ·rename_i V hV;rw[hV,Nat.eq_of_beq_eq_true c7]
    ·cases c7
   obtain⟨r1,r2,r3⟩:=k2 U rfl hc'.2 path hU;refine⟨hg,⟨by rw[ho];rfl,fun c a b e=>by rw[ho] at e;cases e⟩,?_,?_⟩
   ·rw[ho];simp only[bM];rw[←he,hx]
    simp only[oK,hst,k1,r1,r2,r3]
   ·simp only[k1,hc,aD2]
 ·rename_i x hg ho
  have he:ev s x=ev s' x:=hs.ev x (by rw[ho];simp[opsOf]);rw[←he];split at h<;>try (cases h;done)
  rename_i k j path off hx;cases hc:kE (ay s.st k) with
  |false=>rw[hc] at h;cases h
  |true=>
   rw[hc] at h;cases h;cases hst:ay s.st k<;>rw[hst] at hc<;>try (cases hc;done)
   obtain⟨a',k1,_⟩:=hk k _ _ hst;refine⟨hg,⟨by rw[ho];rfl,fun c a b e=>by rw[ho] at e;cases e⟩,?_,?_⟩
   ·rw[ho];simp only[bM];rw[←he,hx];simp only[ju,k1,hst]
   ·simp only[k1];rfl
 ·rename_i U x f hg ho
  have he:ev s x=ev s' x:=hs.ev x (by rw[ho];simp[opsOf]);rw[←he];split at h<;>try (cases h;done)
  rename_i k j path off hx;cases hc:kE (ay s.st k) with
  |false=>rw[hc] at h;cases h
  |true=>
   rw[hc] at h;cases h;cases hst:ay s.st k<;>rw[hst] at hc<;>try (cases hc;done)
   obtain⟨a',k1,_⟩:=hk k _ _ hst;refine⟨hg,⟨by rw[ho];rfl,fun c a b e=>by rw[ho] at e;cases e⟩,?_,?_⟩
   ·rw[ho];simp only[bM];rw[←he,hx];simp only[ij,ju,k1,hst]
   ·simp only[k1];rfl
theorem yj{E rec ops o s T K}(hs:qa E.P.toProgram s o=some T)(h:eb E rec ops o s K): ∃a,K (put s o.dst a)/\∀s' K',Looks ops o s s'->o3 E.P.toProgram T s.st s'.st->K' (put s' o.dst a)->eb E rec ops o s' K':=by
 obtain⟨hg,⟨hcl,hnp⟩,_,_⟩:=r6 (E:=E) hs (Looks.same (ops:=ops) (s2:=s) (fun _ _=>rfl)) (.refl _ _ _);have h0:wk E rec s o.dst o.op K:=by
  grind [eb]
 have h1: ∃c a,bM E s o.op=some (c,a)/\c=true/\K (put s o.dst a):=by
  unfold wk at h0
  grind [ai.1]
 obtain⟨c,a,hr,hc,hk⟩:=h1;refine⟨a,hk,fun s' K' hl hb hk'=>?_⟩;obtain⟨_,_,hr',_⟩:=r6 (E:=E) hs hl.same hb
 simp_all[eb,wk,ai]
def DS P quiet c T ops a i o:=
 ∀j b,ops[j]? =some b->i≠j->fN a j=false-> ¬ Bq ops i j->xa P quiet c T ops o b=true
theorem xF{P quiet c T ops a i o e}(d: ∀j,j∈e->j=i\/Bq ops i j): ∀l k,dn P quiet c T ops a i o e l k=true->∀m b,l[m]? =some b->i≠k+m->fN a (k+m)=false-> ¬ Bq ops i (k+m)->xa P quiet c T ops o b=true
 |[],_,_,m,b,h,_,_,_=>by simp at h
 | x::l,k,h,m,b,f,p,g,n=>by
  simp only[dn,aC6] at h;cases m with
  |zero=>
   grind [Nat.eq_of_beq_eq_true,lJ]
  |succ m=>
   refine xF d l _ h.2 m b (by grind) (by omega) ?_ ?_
   ·grind
   grind
theorem DS.set{P quiet c T ops a i j o}(h:DS P quiet c T ops a i o):DS P quiet c T ops (hG a j) i o:=by
 intro k b e f g d;refine h k b e f ?_ d
 grind [fU,ea]
theorem vn{E}(hE:aj E){rec}(hr:eZ rec){ops T K}: ∀n listed s i o,DC ops listed->l6 ops listed i o->DS E.P.toProgram E.quiet E.calm T ops listed i o->qa E.P.toProgram s o=some T->
  (eb E rec ops o s fun s'=>oI E rec ops n (hG listed i) s' K)->oI E rec ops (n+1) listed s K
 | n,listed,s,i,o,hdc,hi,hf,hst,h=>by
  refine⟨fun hn=>absurd hi (hn i o),fun j b hj=>?_⟩;by_cases hij:i=j
  ·subst hij
   have:o=b:=Option.some.inj (hi.1.symm.trans hj.1)
   subst this;exact h
  ·have hsw:xa E.P.toProgram E.quiet E.calm T ops o b=true:=hf j b hj.1 hij hj.2.1 (fun hp=>by
    have:=hj.dep hdc hp
    rw[hi.2.1] at this;cases this)
   simp only[xa,tO,aC6,aD9,Bool.not_eq_true',Nat.blt_eq] at hsw;obtain⟨⟨⟨q1,q2⟩,q3⟩,q4⟩:=hsw;cases n with
   |zero=>
    obtain⟨a,h1,_⟩:=yj hst h;exact absurd (hj.set hij) (h1.1 j b)
   | succ n=>
    have h':=
     dz hE hr (fun s1 h1=>h1.2 j b (hj.set hij)) h
    obtain⟨a,g1,g2⟩:=yj hst h';have g3:=FW (T:=T) hE hr q4 g1;refine oB hE hr (lk q1).symm (cz s o.dst a) ?_ g3;intro st c _ hk;obtain⟨k1,k2⟩:=hk;rw[cz,cz] at k2;have hbk:o3 E.P.toProgram T s.st (put {s with st:=st} b.dst c).st:=by rw[cz];exact k2
    have hlk:Looks ops o s (put {s with st:=st} b.dst c):=by
     have:Looks ops o s {s with st:=st}:=fun _ _=>rfl
     intro t ht;exact(this t ht).trans (lk q2 t ht)
    have key:=g2 (put {s with st:=st} b.dst c) (fun s2=>oI E rec ops n (hG (hG listed j) i) s2 K) hlk hbk (by
     rw[←yS st q3,qC];exact k1)
    exact vn hE hr n (hG listed j) _ i o (hdc.set hj) (hi.set (Ne.symm hij)) hf.set (r6 (E:=E) hst hlk.same hbk).2.2.2 key
theorem yL{P quiet c ops a s}: ∀l {i o},vw P quiet c ops a s l=some (i,o)->∃T,(i,o)∈l/\qa P s o=some T/\dn P quiet c T ops a i o (fwd ops 0 [i]) ops 0=true
 |[],i,o,h=>by grind [vw]
 | (j,b)::l,i,o,h=>by
  simp[vw] at h;have d:vw P quiet c ops a s l=some (i,o)->∃T,(i,o)∈(j,b)::l/\qa P s o=some T/\dn P quiet c T ops a i o (fwd ops 0 [i]) ops 0=true:=fun h=>by
   obtain⟨T,f,e⟩:=yL l h
   grind
  grind
theorem yK{quiet c ops a s}: ∀l {i o},Fh quiet c ops a s l=some (i,o)->(i,o)∈l/\pX s o=true/\An quiet c ops a i o (fwd ops 0 [i]) ops 0=true
 |[],i,o,h=>by grind [Fh]
 | (j,b)::l,i,o,h=>by
  simp[Fh] at h;cases d:pX s b&&An quiet c ops a j b (fwd ops 0 [j]) ops 0 with
  |true=>
   grind
  |false=>
   rw[d] at h;obtain⟨f,e⟩:=yK l h
   grind
theorem o4{E}(hE:aj E){rec}(hr:eZ rec){ops K}: ∀n listed s,DC ops listed->oQ E rec ops n listed s K->oI E rec ops n listed s K
 | 0,listed,s,_,h=>by
  unfold oQ at h;split at h
  ·rename_i h0
   exact⟨fun i o hi=>by rw[←gP,h0] at hi;simp at hi,h⟩
  ·exact h.elim
 | n +1,listed,s,hdc,h=>by
  unfold oQ at h;split at h
  ·rename_i h0
   exact⟨fun _=>h,fun i o hi=>by rw[←gP,h0] at hi;simp at hi⟩
  ·rename_i h0
   split at h
   ·rename_i i o hp
    obtain⟨h1,h2⟩:=q9 _ hp;have hfs: ∀j,j∈fwd ops 0 [i]->j=i\/Bq ops i j:=po ops 0 [i] (fun m b hm=>by simpa using hm) (fun j hj=> .inl (by simpa using hj));have hfree:NU E.quiet ops listed i o:=fun j b hb hij hn he=>free_spec hfs ops 0 h2 j b hb (by omega) (by simpa using hn) (by simpa using he)
    exact xH hE hr n listed s i o hdc (gP.1 h1) hfree (dz hE hr (fun s'=>o4 hE hr n _ s' (hdc.set (gP.1 h1))) h)
   ·split at h
    ·rename_i i o hp
     obtain⟨h1,h2,h3⟩:=yK _ hp;have hfs: ∀j,j∈fwd ops 0 [i]->j=i\/Bq ops i j:=po ops 0 [i] (fun m b hm=>by simpa using hm) (fun j hj=> .inl (by simpa using hj));have hfree:DR E.quiet E.calm ops listed i o:=fun j b hb hij hn he=>xE hfs ops 0 h3 j b hb (by omega) (by simpa using hn) (by simpa using he)
     exact vm hE hr n listed s i o hdc (gP.1 h1) hfree h2 (dz hE hr (fun s'=>o4 hE hr n _ s' (hdc.set (gP.1 h1))) h)
    split at h
    ·rename_i i o hp
     have hp:vw E.P.toProgram E.quiet E.calm ops listed s (kI listed ops 0)=some (i,o):=by
      cases hc:E.calm 888888<;>rw[hc] at hp
      ·cases hp
      ·exact hp
     obtain⟨T,h1,h2,h3⟩:=yL _ hp;have hfs: ∀j,j∈fwd ops 0 [i]->j=i\/Bq ops i j:=po ops 0 [i] (fun m b hm=>by simpa using hm) (fun j hj=> .inl (by simpa using hj));have hfree:DS E.P.toProgram E.quiet E.calm T ops listed i o:=fun j b hb hij hn he=>xF hfs ops 0 h3 j b hb (by omega) (by simpa using hn) (by simpa using he)
     exact vn hE hr n listed s i o hdc (gP.1 h1) hfree h2 (dz hE hr (fun s'=>o4 hE hr n _ s' (hdc.set (gP.1 h1))) h)
    have:=Aa _ h
    refine⟨fun hn=>?_,fun i o hi=>dz hE hr (fun s'=>o4 hE hr n _ s' (hdc.set hi)) (this i o (gP.2 hi))⟩
    exfalso
    cases hrl:kI listed ops 0 with
    |nil=>exact h0 hrl
    |cons x l=>
     obtain⟨i,o⟩:=x;exact hn i o (gP.1 (by rw[hrl];simp))
theorem AO: ∀l i,fN l i=l.getD i true
 |[],_=>rfl
 |_::_,0=>rfl
 |_::l,i+1=>by simpa[fN] using AO l i
theorem Fz: ∀l i,hG l i=l.set i true
 |[],_=>rfl
 |_::_,0=>rfl
 |_::l,i+1=>by simp[hG,Fz l i]
theorem Ak: ∀n,jm n=List.replicate n false
 |0=>rfl
 |n+1=>by simp[jm,Ak n,List.replicate_succ]
theorem pN{ops a i}:i∈Region.ready .any ops a↔ ∃o,l6 ops.toList a.toList i o:=by
 rw[mem_ready];have f: ∀k,fN a.toList k=a.getD k true:=fun k=>by rw[AO];simp
 constructor
 ·rintro⟨b,o,c,d⟩
  refine⟨o,by grind,by grind,fun e h g=>?_⟩
  grind
 ·rintro⟨o,b,c,d⟩
  grind
theorem xI{E}(hE:aE E){rec}(hrec:gC E.P rec){F}(hF:F=Fence.wide\/ ∃B,F=Fence.wide.inRound B){n ops K lo base Q}:
  ∀k listed {C},C.P=E.P->Inv C->∀{s a},dr C s a->iP lo C a.defers->base<=s.st.length->oI E rec ops.toList k listed.toList s K->
   (∀a' w',cO lo base C K a' w'->Q .normal a' w')->wpAnyIn F n E.P .any ops Q k listed a C.w
 |0,listed,C,hC,hI,s,a,hs,hd,hb,h,hQ=>by
  refine⟨?_,hQ _ _ ⟨C,s,rfl,rfl,hI,hs,hd,hb,Ext.refl C (by rw[hs.st];exact hb),h.2⟩⟩;rw[List.eq_nil_iff_forall_not_mem];intro i hi;obtain⟨o,ho⟩:=pN.1 hi;exact h.1 i o ho
 | k+1,listed,C,hC,hI,s,a,hs,hd,hb,h,hQ=>by
  refine⟨fun hn=>hQ _ _ ⟨C,s,rfl,rfl,hI,hs,hd,hb,Ext.refl C (by rw[hs.st];exact hb),h.1 fun i o ho=>?_⟩,fun i hi=>?_⟩
  ·have:=pN.2 ⟨o,ho⟩
   rw[hn] at this;simp at this
  ·obtain⟨o,ho⟩:=pN.1 hi
   have h1:=h.2 i o ho;rw[eM] at h1;have hn: ∀a' w',cO lo base C (fun s'=>oI E rec ops.toList k (hG listed.toList i) s' K) a' w'->wpAnyIn F n E.P .any ops Q k (listed.setIfInBounds i true) a' w':=by
    rintro a' w' ⟨C',s',rfl,hP',hI',hs',hd',hb',he,hK⟩;refine xI hE hrec hF k _ (hP'.trans hC) hI' hs' hd' hb' ?_ (fun a2 w2 h2=>hQ _ _ (h2.trans hP' he))
    grind [hG,Fz]
   exact vo hI hs hd hb hF (i:=i) (o:=o) (by simpa using ho.1) (fun hp=>Mh hE hrec hC hI hs hd hb hF hp hn) hn h1
theorem G4{E}(j:aE E)(r:aj E){b}(d:gC E.P b)(u:eZ b):Ns E b:=by
 intro id ops s K h C a F n lo base v i k hd l p Q m;refine wpIn_region_any j.prog.mixed ?_;have o:iQ C.w {C.w with drawn:=C.w.drawn+1}:=⟨Nat.le_refl _,rfl,rfl,rfl,fun _ _=>rfl⟩
 obtain⟨q,g⟩:=pr i o;have t:=k.step i g;have e:({s with st:=C.st}:S)=s:=by rw[k.st]
 have f:dr {C with w:={C.w with drawn:=C.w.drawn+1}} s a:=by grind
 have c:=o4 r u _ _ _ (DC.jm _ _) h;have:=xI (C:={C with w:={C.w with drawn:=C.w.drawn+1}}) j d p (n:=n)     ops.size _ v q f (hd.ext g) l
  (by simpa[Ak] using c) (fun z y x=>m _ _ (cO.trans  (C':={C with w:={C.w with drawn:=C.w.drawn+1}}) rfl (g.mono (by grind)) x))
 exact this
theorem PD{E}(e:aj E){a}(f:eZ a){s d o K c}(b: ∀s,K s->c s)(h:T8 E a s d o K):T8 E a s d o c:=by
 unfold T8 at h⊢;split at h
 ·exact cH (b _) h
 ·split at h
  ·split at h<;>try grind
   rename_i t _;cases t<;>exact b _ h
  ·split at h
   ·grind [nR]
   ·exact zx ⟨fun _ _=>rfl⟩ rfl (by grind) h
theorem ux{E}(hE:aj E){rec}(hr:eZ rec){ops}: ∀l {s K K'},(∀s,K s->K' s)->pI E rec ops l s K->pI E rec ops l s K'
 |[],s,K,K',hK,h=>hK _ h
 |o::l,s,K,K',hK,h=>by
  rw[yx] at h⊢;exact jt (fun _ _=>rfl) (PD hE hr fun s'=>ux hE hr l hK) (ux hE hr l hK) h
theorem ld{E}(hE:aj E){rec}(hr:eZ rec){ops K K'}(hK: ∀s,K s->K' s): ∀n listed s,oQ E rec ops n listed s K->oQ E rec ops n listed s K'
 |0,listed,s,h=>by
  unfold oQ at h⊢;split at h
  ·exact hK _ h
  ·exact h.elim
 | n +1,listed,s,h=>by
  unfold oQ at h⊢;split at h
  ·exact hK _ h
  ·split at h
   ·exact dz hE hr (fun s'=>ld hE hr hK n _ s') h
   ·split at h
    ·exact dz hE hr (fun s'=>ld hE hr hK n _ s') h
    split at h
    ·exact dz hE hr (fun s'=>ld hE hr hK n _ s') h
    generalize kI listed ops 0=l at h⊢
    have: ∀l:List (Nat×Oper),(N7 (fun i o=>eb E rec ops o s fun s'=>oQ E rec ops n (hG listed i) s' K) l)->N7 (fun i o=>eb E rec ops o s fun s'=>oQ E rec ops n (hG listed i) s' K') l:=by
     intro l;induction l with
     |nil=>exact id
     |cons x l ih=>
      obtain⟨i,o⟩:=x;cases l with
      |nil=>exact fun h=>dz hE hr (fun s'=>ld hE hr hK n _ s') h
      |cons y l=>exact fun h=>⟨dz hE hr (fun s'=>ld hE hr hK n _ s') h.1,ih h.2⟩
    exact this _ h
theorem Lp{E}(hE:aj E){rec}(hr:eZ rec) f rd base: ∀c s K K',(∀e s,K e s->K' e s)->kM E rec f rd base c s K->kM E rec f rd base c s K':=by
 intro c;induction c with
 |skip=>intro s K K' hK h;exact hK _ _ h
 |label l=>intro s K K' hK h;exact hK _ _ h
 | region id ops d=>
  intro s K K' hK h;cases d with
  |false=>
   have h:pI E rec ops.toList ops.toList s (zD (K .normal)):=h;show pI E rec ops.toList ops.toList s (zD (K' .normal))
   rw[wG] at h⊢;exact ux hE hr _ (hK _) h
  |true=>
   have h:oQ E rec ops.toList ops.toList.length (jm ops.toList.length) s (zD (K .normal)):=h;show oQ E rec ops.toList ops.toList.length (jm ops.toList.length) s (zD (K' .normal))
   rw[wG] at h⊢;exact ld hE hr (hK _) _ _ _ h
 |seq x y ihx ihy=>
  intro s K K' hK h;refine ihx s _ _ ?_ h;intro e s' hh;cases e with
  |normal=>exact ihy s' _ _ hK hh
  |_=>exact hK _ _ hh
 |cond c x y ihx ihy=>
  intro s K K' hK h;unfold kM at h⊢;split at h<;>try exact h.elim
  rename_i t _;cases t with
  |true=>exact ihx _ _ _ hK h
  |false=>exact ihy _ _ _ hK h
 | block id c ih=>
  intro s K K' hK h;refine ih s _ _ ?_ h;intro e s' hh;cases e with
  |exit i=>
   simp only[BD] at hh⊢;cases hb:Nat.beq i id<;>rw[hb] at hh<;>exact hK _ _ hh
  |_=>exact hK _ _ hh
 |loop c ih=>
  intro s K K' hK h;unfold kM at h⊢;split at h<;>try exact h.elim
  exact cH (fun hh=>by rw[kW] at hh⊢;exact hE.loop _ _ _ _ _ _ _ _ hK hh) h
 | rangeFunc g ps asg body iha ihb=>
  intro s K K' hK h;unfold kM at h⊢;split at h<;>try exact h.elim
  have hrk: ∀st,rN s.st.length s K st->rN s.st.length s K' st:=by
   intro st hh;unfold rN at hh⊢;split at hh<;>try exact hh.elim
   grind
  refine cH (fun hh=>?_) h;split at hh
  ·exact hE.ll _ _ _ _ _ _ _ hrk hh
  ·exact vq hr (fun _ st=>hrk st) hh
 |exit id=>intro s K K' hK h;exact hK _ _ h
 |goto l=>intro s K K' hK h;exact h.elim
 |scope c ih=>
  intro s K K' hK h;refine ih s _ _ ?_ h;intro e s' hh;cases e with
  |goto l=>exact hh.elim
  |_=>exact hK _ _ hh
 |ret=>intro s K K' hK h;exact hK _ _ h
 |refuse r=>intro s K K' hK h;exact h.elim
theorem wU{E}(a:aj E): ∀n,eZ (vc E n)
 |0=>fun _ _ _ _ _ _ _ _ h=>h.elim
 |n+1=>fun f d base c s K e b h=>Lp a (wU a n) f _ _ c s K _ b h
theorem Bm{E}(b:aE E)(a:aj E): ∀n,gC E.P (vc E n)
 |0=>fun _ _ _ _ _ _ h=>h.elim
 |n+1=>fun f d base c s K h=>GZ b (Bm b a n) (G4 b a (Bm b a n) (wU a n)) f _ _ c s K h
#print axioms Bm
end Go.Dn
