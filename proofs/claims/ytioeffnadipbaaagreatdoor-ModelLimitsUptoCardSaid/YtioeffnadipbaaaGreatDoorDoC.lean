import Derived.Test.YtioeffnadipbaaaGreatDoorDoB
namespace Go.Dn
open Go
theorem yZ: ∀l i j x y,i≠j->bM (bM l i x) j y=bM (bM l j y) i x
 |[],_,_,_,_,_=>rfl
 |a::l,0,0,_,_,h=>absurd rfl h
 |a::l,0,j+1,_,_,_=>rfl
 |a::l,i+1,0,_,_,_=>rfl
 |a::l,i+1,j+1,x,y,h=>by simp[bM];rw[yZ l i j x y (by omega)]
theorem vQ{s d c a b} st(h:yr d c=true):put {put s d a with st:=st} c b=put (put {s with st:=st} c b) d a:=by
 cases d with
 |none=>rfl
 | some t=>
  cases c with
  |none=>rfl
  |some u=>
   have:t≠u:=by intro e;simp_all[yr]
   grind [put,yZ]
theorem kC{ops o s d a}(h:Bh ops o d=false):Looks ops o s (put s d a):=by
 intro t b;cases d<;>grind [Bh,put,jt]
theorem Looks.symm{ops o s1 s2}(h:Looks ops o s1 s2):Looks ops o s2 s1:=fun t a=>(h t a).symm
theorem MQ{quiet o}(h:Du o=true):fg quiet o=2/\∀s,gJ s o=none:=by
 cases o with
 |alloc T=>exact⟨rfl,fun _=>rfl⟩
 |box T x=>exact⟨rfl,fun _=>rfl⟩
 |makeSlice T a b=>exact⟨rfl,fun _=>rfl⟩
 |makeMap T x=>cases x<;>exact⟨rfl,fun _=>rfl⟩
 |_=>cases h
theorem cq s d a:(put s d a).st=s.st:=by cases d<;>rfl
theorem GU{P s dst o}(hg:Du o=true){K}(h:cn P s dst o K):cn P s dst o fun s'=>K s'/\Kept s.st s'.st:=by
 cases o with
 |alloc T=>
  grind [cn,cq,Kept.app]
 |box T x=>grind [cn,cx,cq,Kept.app]
 |makeSlice T a b=>grind [cn,cx,cq,Kept.app]
 |makeMap T x=>
  cases x<;>grind [cn,cq,Kept.app]
 |_=>cases hg
theorem Ku{E rec ops b s K}(hb:fg E.quiet b.op<2\/Du b.op=true)(h:dC E rec ops b s K):dC E rec ops b s fun s'=>K s'/\Kept s.st s'.st:=by
 rcases hb with hb|hb
 ·obtain⟨a,h1,h2⟩:=pR hb h
  exact h2 s _ (fun _ _=>rfl) (fun _=> .refl _) ⟨h1,by rw[cq];exact .refl _⟩
 ·rw[dZ] at h⊢
  refine iN (fun _ _=>rfl) (fun h=>?_) (fun h=>⟨h,by rw[cq];exact .refl _⟩) h;obtain⟨e1,e2⟩:=MQ (quiet:=E.quiet) hb
  simp_all[u7,GU]
theorem KQ{E}(hE:aj E){rec}(hr:eo rec){ops i j}(hsw:xa E.quiet ops i j=true){s K}
  (h:dC E rec ops i s fun s1=>dC E rec ops j s1 K):dC E rec ops j s fun s2=>dC E rec ops i s2 K:=by
 simp only[xa,uc,an3,Bool.not_eq_true'] at hsw;obtain⟨⟨⟨h1,h2⟩,h3⟩,h4⟩:=hsw;have hc:fg E.quiet i.op<2:=by
  split at h4
  ·omega
  ·omega
  ·cases h4
 have hj:fg E.quiet i.op=1->fg E.quiet j.op<2\/Du j.op=true:=by
  intro e;rw[e] at h4;simpa using h4
 obtain⟨a,g1,g2⟩:=pR hc h;have hst:(put s i.dst a).st=s.st:=by cases i.dst<;>rfl
 have g3:dC E rec ops j (put s i.dst a) fun s'=>K s'/\(fg E.quiet i.op=1->Kept s.st s'.st):=by
  rcases Nat.eq_zero_or_pos (fg E.quiet i.op) with e|e
  ·simp_all
  ·grind [dk,Ku]
 refine nD hE hr (kC h1).symm hst ?_ g3;intro st b hs hk;refine g2 _ _ ?_ ?_ ?_
 ·have:Looks ops i s {s with st:=st}:=fun _ _=>rfl
  intro t ht;exact(this t ht).trans (kC h2 t ht)
 ·intro e
  have:=hk.2 e
  rw[cq] at this⊢;exact this
 ·rw[←vQ st h3];exact hk.1
theorem po: ∀l i,(gC l i).length=l.length
 |[],_=>rfl
 |_::_,0=>rfl
 |_::l,i+1=>by simp[gC,po l i]
theorem fA: ∀l i,fy (gC l i) i=true
 |[],_=>rfl
 |_::_,0=>rfl
 |_::l,i+1=>by exact fA l i
theorem dD: ∀l i j,i≠j->fy (gC l i) j=fy l j
 |[],_,_,_=>rfl
 |_::_,0,j,h=>by cases j with|zero=>grind|succ j=>rfl
 |_::l,i+1,j,h=>by
  cases j with
  |zero=>rfl
  |succ j=>exact dD l i j (by omega)
theorem pQ: ∀l i j,gC (gC l i) j=gC (gC l j) i
 |[],_,_=>rfl
 |_::_,0,0=>rfl
 |_::_,0,j+1=>rfl
 |_::_,i+1,0=>rfl
 |_::l,i+1,j+1=>by simp[gC];rw[pQ l i j]
theorem oA a: ∀l,lA a l=true↔ ∀e,e∈l->Region.binds .any e=true->e.on<a.length/\fy a e.on=true
 |[]=>by simp[lA]
 |e::l=>by
  simp[lA,oA _ l]
  grind
theorem vW a: ∀l k i o,(i,o)∈kc a l k↔ ∃m,i=k+m/\l[m]? =some o/\fy a i=false/\lA a o.after.toList=true
 |[],k,i,o=>by simp[kc]
 | b::l,k,i,o=>by
  have e:=vW a l (k+1) i o;have c:(i,o)∈kc a l (k+1)↔ ∃m,i=k+(m+1)/\(b::l)[m+1]? =some o/\fy a i=false/\lA a o.after.toList=true:=by
   rw[e];constructor
   ·rintro⟨m,j,f,g⟩;exact⟨m,by omega,by simpa using f,g⟩
   grind
  simp only[kc];cases d:(!fy a k&&lA a b.after.toList) with
  | true=>
   simp only[an9,ap0,c,ao1];simp only[an3,Bool.not_eq_true'] at d;constructor
   ·rintro(⟨rfl,rfl⟩|⟨m,h⟩)
    ·exact⟨0,by omega,rfl,d.1,d.2⟩
    ·exact⟨m+1,h⟩
   ·grind
  |false=>grind
def lN(ops:List Oper) a i o:=ops[i]? =some o/\fy a i=false/\∀e,e∈o.after.toList->Region.binds .any e=true->e.on<a.length/\fy a e.on=true
theorem gn{ops a i o}:(i,o)∈kc a ops 0↔lN ops a i o:=by
 rw[vW];constructor
 ·rintro⟨m,d,b,c,e⟩
  obtain rfl:i=m:=by omega
  exact⟨b,c,(oA _ _).1 e⟩
 ·rintro⟨d,b,c⟩
  grind [oA]
theorem lN.set{ops a i j o}(h:lN ops a i o)(b:j≠i):lN ops (gC a j) i o:=by
 refine⟨h.1,by rw[dD _ _ _ b];exact h.2.1,fun e c d=>?_⟩;obtain⟨g,f⟩:=h.2.2 e c d
 grind [po,fA,dD]
inductive As (ops:List Oper) (i:Nat):Nat->Prop
 |base (j:Nat) (b:Oper) (e:Edge) (h1:ops[j]? =some b) (h2:e∈b.after.toList) (h3:Region.binds .any e=true) (h4:e.on=i):As ops i j
 |step (j:Nat) (b:Oper) (e:Edge) (h1:ops[j]? =some b) (h2:e∈b.after.toList) (h3:Region.binds .any e=true) (h4:As ops i e.on):As ops i j
def DC(ops:List Oper) a:=∀j b,ops[j]? =some b->j<a.length->fy a j=true->∀e,e∈b.after.toList->Region.binds .any e=true->e.on<a.length/\fy a e.on=true
theorem Fj{ops a}(hd:DC ops a){i j}(h:As ops i j):j<a.length->fy a j=true->fy a i=true:=by
 induction h with
 |base j b e d f c l=>intro k g;rw[←l];exact(hd j b d k g e f c).2
 |step j b e d f c _ m=>intro k g;exact m (hd j b d k g e f c).1 (hd j b d k g e f c).2
theorem lN.dep{ops a}(hd:DC ops a){i j b}(h:lN ops a j b)(k:As ops i j):fy a i=true:=by
 cases k with
 |base _ l e f d c g=>
  have:=Option.some.inj (f.symm.trans h.1)
  subst this;rw[←g];exact(h.2.2 e d c).2
 |step _ l e f d c g=>
  have:=Option.some.inj (f.symm.trans h.1)
  subst this;exact Fj hd g (h.2.2 e d c).1 (h.2.2 e d c).2
theorem DC.iH ops n:DC ops (iH n):=fun j b _ d c=>by
 have: ∀n j,j<(Go.Dn.iH n).length->fy (Go.Dn.iH n) j=false:=by
  intro n;induction n with
  |zero=>grind [Go.Dn.iH]
  |succ n a=>intro j h;cases j<;>grind [Go.Dn.iH,fy]
 grind
theorem DC.set{ops a}(hd:DC ops a){i o}(h:lN ops a i o):DC ops (gC a i):=by
 intro j b k l f e g c;rw[po] at l⊢;have m:e.on<a.length/\fy a e.on=true:=by
  by_cases d:i=j
  ·subst d
   have:=Option.some.inj (k.symm.trans h.1)
   subst this;exact h.2.2 e g c
  ·rw[dD _ _ _ d] at f
   exact hd j b k l f e g c
 grind [fA,dD]
theorem zy a: ∀l,zl a l=true->∃e,e∈l/\Region.binds .any e=true/\e.on∈a
 |[],h=>by grind [zl]
 | e::l,h=>by
  simp[zl] at h;rcases h with⟨b,c⟩|h
  ·grind [lr]
  ·obtain⟨d,b,c⟩:=zy _ l h
   grind
theorem pj{ops i}: ∀l k a,(∀m b,l[m]? =some b->ops[k+m]? =some b)->(∀j,j∈a->j=i\/As ops i j)->∀j,j∈fwd l k a->j=i\/As ops i j
 |[],_,_,_,g,j,c=>g j c
 | o::l,k,a,h,g,j,c=>by
  simp only[fwd] at c;have f: ∀m b,l[m]? =some b->ops[k+1+m]? =some b:=fun m b s=>by
   have:=h (m+1) b (by simpa using s)
   grind
  cases n:zl a o.after.toList with
  |false=>rw[n] at c;exact pj l (k+1) a f g j c
  | true=>
   rw[n] at c;refine pj l (k+1) (k::a) f (fun u d=>?_) j c;rcases List.mem_cons.1 d with rfl|d
   ·obtain⟨e,q,r,t⟩:=zy _ _ n
    rcases g _ t with p|p
    ·exact .inr (.base _ o e (h 0 o rfl) q r p)
    ·exact .inr (.step _ o e (h 0 o rfl) q r p)
   grind
def M5 quiet ops a i o:=
 ∀j b,ops[j]? =some b->i≠j->fy a j=false-> ¬ As ops i j->xa quiet ops o b=true
theorem free_spec{quiet ops a i o d}(c: ∀j,j∈d->j=i\/As ops i j): ∀l k,kk quiet ops a i o d l k=true->∀m b,l[m]? =some b->i≠k+m->fy a (k+m)=false-> ¬ As ops i (k+m)->xa quiet ops o b=true
 |[],_,_,m,b,h,_,_,_=>by simp at h
 | x::l,k,h,m,b,e,n,f,g=>by
  simp only[kk,an3] at h;cases m with
  |zero=>
   grind [Nat.eq_of_beq_eq_true,lr]
  |succ m=>
   refine free_spec c l (k+1) h.2 m b (by grind) (by omega) ?_ ?_
   ·grind
   grind
theorem M5.set{quiet ops a i j o}(h:M5 quiet ops a i o):M5 quiet ops (gC a j) i o:=by
 intro k b d e f c;refine h k b d e ?_ c
 grind [fA,dD]
def nX(E:Env)(rec:Rec)(ops:List Oper):Nat->List Bool->S->(S->Prop)->Prop
 |0,listed,s,K=>(∀i o,¬ lN ops listed i o)/\K s
 |n+1,listed,s,K=>((∀i o,¬ lN ops listed i o)->K s)/\∀i o,lN ops listed i o->dC E rec ops o s fun s'=>nX E rec ops n (gC listed i) s' K
theorem xy{E}(hE:aj E){rec}(hr:eo rec){ops K}: ∀n listed s i o,DC ops listed->lN ops listed i o->M5 E.quiet ops listed i o->
  (dC E rec ops o s fun s'=>nX E rec ops n (gC listed i) s' K)->nX E rec ops (n+1) listed s K
 | n,listed,s,i,o,hdc,hi,hf,h=>by
  refine⟨fun hn=>absurd hi (hn i o),fun j b hj=>?_⟩;by_cases hij:i=j
  ·subst hij
   have:o=b:=Option.some.inj (hi.1.symm.trans hj.1)
   subst this;exact h
  ·have hsw:xa E.quiet ops o b=true:=hf j b hj.1 hij hj.2.1 (fun hp=>by
    have:=hj.dep hdc hp
    rw[hi.2.1] at this;cases this)
   cases n with
   | zero=>
    have hc:fg E.quiet o.op<2:=by
     simp only[xa,an3] at hsw
     grind
    obtain⟨a,h1,_⟩:=pR hc h;exact absurd (hj.set hij) (h1.1 j b)
   | succ n=>
    have h':=
     dk hE hr (fun s1 h1=>h1.2 j b (hj.set hij)) h
    refine dk hE hr (fun s2 h2=>?_) (KQ hE hr hsw h');rw[pQ] at h2;exact xy hE hr n (gC listed j) s2 i o (hdc.set hj) (hi.set (Ne.symm hij)) hf.set h2
theorem zj{p}: ∀l,Ns p l->∀i o,(i,o)∈l->p i o
 |[],_,i,o,h=>by grind
 |[(j,b)],h,i,o,a=>by
  simp   at a;obtain⟨rfl,rfl⟩:=a;exact h
 |(j,b)::x::l,h,i,o,a=>by
  rcases List.mem_cons.1 a with a|a
  ·cases a;exact h.1
  ·exact zj _ h.2 i o a
theorem qj{quiet ops a}: ∀l {i o},pn quiet ops a l=some (i,o)->(i,o)∈l/\kk quiet ops a i o (fwd ops 0 [i]) ops 0=true
 |[],i,o,h=>by grind [pn]
 | (j,b)::l,i,o,h=>by
  simp[pn] at h;cases c:kk quiet ops a j b (fwd ops 0 [j]) ops 0 with
  |true=>grind
  |false=>
   rw[c] at h;obtain⟨e,d⟩:=qj l h
   grind
def bX st st':=(∀k,kh (ay st k)=true->ay st' k=ay st k)/\∀k T E ls pd,ay st k= .rows T E ls pd->∃ls' pd',ay st' k= .rows T E ls' pd'
theorem H5{st k}(h:ay st k≠ .dead):k<st.length:=by grind [eS]
theorem bX.refl st:bX st st:=⟨by simp,by grind⟩
theorem bX.trans{a b c}(d:bX a b)(f:bX b c):bX a c:=⟨fun k e=>by
 rw[f.1 k (by rw[d.1 k e];omega),d.1 k e],fun k T E i g h=>by
 obtain⟨_,_,h⟩:=d.2 k T E _ _ h;exact f.2 k T E _ _ h⟩
theorem bX.of{st st'}(h: ∀k,ay st k≠ .dead->kh (ay st k)=true\/Bj (ay st k)=true->ay st' k=ay st k):bX st st':=
 ⟨fun k hk=>h k (by intro e;rw[e] at hk;cases hk) (.inl hk),fun k T E ls pd hk=>⟨_,_,by rw[h k (by grind) (.inr (by rw[hk];rfl)),hk]⟩⟩
theorem bX.app st l:bX st (st++l):= .of fun _ a _=>dM _ _ _ (H5 a)
theorem bX.set{st i T xs o}(h:ay st i= .row T xs):bX st (db st i o):= .of fun k _ a=>by
 refine bG _ _ _ _ fun e=>?_
 subst e;rw[h] at a;rcases a with a|a<;>cases a
theorem bX.rows{st i T E d b f a}(h:ay st i= .rows T E d f):bX st (db st i (.rows T E b a)):=by
 refine⟨fun k c=>bG _ _ _ _ fun e=>?_,fun k j g l p c=>?_⟩
 ·subst e;rw[h] at c;cases c
 grind [bt,H5,bG]
theorem bX.freeze: ∀b st,bX st (cG st b)
 |[],st=> .refl _
 | i::b,st=>by
  refine bX.trans (.of ?_) (bX.freeze b _);intro k hd a;by_cases e:i=k
  ·subst e
   rw[bt _ _ _ (H5 hd)];cases c:ay _ i<;>rw[c] at a<;>first|rfl|(rcases a with a|a<;>cases a)
  grind [bG]
theorem sP: ∀{st st'},rU st st'->∀k,ay st k≠ .dead->kh (ay st k)=true\/Bj (ay st k)=true->ay st' k=ay st k
 |[],_,_,k,hd,_=>absurd rfl hd
 |a::l,[],h,_,_,_=>by cases a<;>exact h.elim
 |a::l,o::l',h,0,_,hk=>by
  cases a<;>first|exact h.1|(rcases hk with hk|hk<;>cases hk)
 |a::l,o::l',h,k+1,hd,hk=>sP   (by cases a<;>first|exact h.2|exact h) k hd hk
theorem Oc{quiet o}(h:zY o=true):fg quiet o=2/\∀s,gJ s o=none:=by
 cases o with
 |call c=>
  obtain⟨d,e,f⟩:=c;cases d with
  |builtin b=>cases b<;>first|exact⟨rfl,fun _=>rfl⟩|cases h
  |value g=>cases h
  |invoke r m=>cases h
 |buildSlice T n ps=>exact⟨rfl,fun _=>rfl⟩
 |makeSlice T a b=>exact⟨rfl,fun _=>rfl⟩
 |alloc T=>exact⟨rfl,fun _=>rfl⟩
 |box T x=>exact⟨rfl,fun _=>rfl⟩
 |makeMap T x=>cases x<;>exact⟨rfl,fun _=>rfl⟩
 |_=>cases h
theorem Cy{P s dst o}(hg:zY o=true){K}(h:cn P s dst o K):cn P s dst o fun s'=>K s'/\bX s.st s'.st:=by
 cases o with
 |alloc T=>
  simp only[cn] at h⊢;split at h<;>try exact h.elim
  exact⟨h,by rw[cq];exact bX.app _ _⟩
 | box T x=>
  simp only[cn] at h⊢;split at h<;>try exact h.elim
  rename_i h1;rw[if_pos h1];split at h
  ·rename_i hi
   first|simp only[hi]|skip
   exact cx (fun h=>⟨h,by rw[cq];exact bX.app _ _⟩) h
  ·rename_i hi
   first|simp only[hi]|skip
   exact⟨h,by rw[cq];exact bX.app _ _⟩
 | makeMap T x=>
  cases x with
  |some y=>cases hg
  |none=>
   simp only[cn] at h⊢;split at h<;>try exact h.elim
   exact⟨h,by rw[cq];exact bX.app _ _⟩
 |buildSlice T n ps=>
  simp only[cn] at h⊢;split at h<;>try exact h.elim
  split at h<;>try exact h.elim
  split at h<;>try exact h.elim
  split at h<;>try exact h.elim
  rename_i h4;rw[if_pos h4];exact⟨h,by rw[cq];exact(bX.freeze _ _).trans (bX.app _ _)⟩
 |makeSlice T a b=>
  simp only[cn] at h⊢;split at h<;>try exact h.elim
  split at h<;>try exact h.elim
  exact cx (fun h=>⟨h,by rw[cq];exact bX.app _ _⟩) h
 | call c=>
  obtain⟨callee,args,ats⟩:=c;cases callee with
  | builtin b=>
   cases b<;>try (cases hg;done)
   simp only[cn] at h⊢;split at h<;>try exact h.elim
   split at h<;>try exact h.elim
   rename_i h3;rw[if_pos h3];unfold pX at h⊢;split at h<;>try exact h.elim
   split at h<;>try exact h.elim
   split at h<;>try exact h.elim
   split at h<;>try exact h.elim
   ·exact cx (fun h=>⟨h,by rw[cq];exact bX.app _ _⟩) h
   ·split at h<;>try exact h.elim
    ·split at h<;>try exact h.elim
     rename_i k1 k2;rw[if_pos k2];exact cx (fun h=>⟨h,by rw[cq];exact(bX.set k1).trans (bX.app _ _)⟩) h
    ·rename_i k1
     split at h<;>try exact h.elim
     rename_i k2;simp only;split at h<;>try exact h.elim
     rename_i k3;rw[if_pos k3];exact cx (fun h=>⟨h,by rw[cq];exact bX.rows k1⟩) h
  |value g=>cases hg
  |invoke r m=>cases hg
 |_=>cases hg
theorem KE{E}(_hE:aj E){rec g args st K}(hl:JF E g args st=true)(h:oO E rec g args st K):oO E rec g args st fun a st'=>K a st'/\bX st st':=by
 unfold JF at hl;split at hl
 ·rename_i f caps
  simp only[an3,Bool.not_eq_true'] at hl;obtain⟨⟨h1,h2⟩,h3⟩:=hl;unfold oO at h⊢;simp only[h1,h2] at h⊢;split at h3
  ·rename_i as hle
   rw[hle] at h⊢;simp only[cG] at h⊢;have hr:cU (rV E.P (mw E.P f) as)=[]:=by
    grind [Mg]
   refine cx (fun h=>?_) h;rw[kz] at h⊢
   grind [nF,lu,cU,rV,reach,fz,fz.go,bX.app]
  ·cases h3
 ·cases hl
theorem vK{E}(hE:aj E){rec}(hr:eo rec){ops b s K}(hb:(fg E.quiet b.op<2\/zY b.op=true)\/yf E.calm b.op=true)(h:dC E rec ops b s K):dC E rec ops b s fun s'=>K s'/\bX s.st s'.st:=by
 have small:fg E.quiet b.op<2->dC E rec ops b s fun s'=>K s'/\bX s.st s'.st:=fun hb=>by
  obtain⟨a,h1,h2⟩:=pR hb h;exact h2 s _ (fun _ _=>rfl) (fun _=>Kept.refl _) ⟨h1,by rw[cq];exact .refl _⟩
 rcases hb with(hb|hb)|hb
 ·exact small hb
 ·rw[dZ] at h⊢
  refine iN (fun _ _=>rfl) (fun h=>?_) (fun h=>⟨h,by rw[cq];exact .refl _⟩) h;obtain⟨e1,e2⟩:=Oc (quiet:=E.quiet) hb;unfold u7 at h⊢;rw[e1] at h⊢;simp only[e2] at h⊢;exact Cy hb h
 ·by_cases hlt:fg E.quiet b.op<2
  ·exact small hlt
  ·rw [dZ] at h⊢
   refine iN (fun _ _=>rfl) (fun h=>?_) (fun h=>⟨h,by rw[cq];exact .refl _⟩) h;have e1:fg E.quiet b.op=2/\∃g args,∀s,gJ s b.op=some (ev s g,pe s args):=by
    cases ho:b.op with
    | call c=>
     obtain⟨callee,args,ats⟩:=c;rw[ho] at hb hlt;cases callee with
     | value g=>
      cases g with
      | func f=>
       simp only[fg] at hlt⊢;cases hq:E.quiet f with
       |true=>
        rw[hq,an9] at hlt
        exfalso;apply hlt
        cases L1 args.toList<;>decide
       |false=>exact⟨rfl,_,_,fun _=>rfl⟩
      |_=>cases hb
     |_=>cases hb
    |_=>rw[ho] at hb;cases hb
   obtain⟨e1,g,args,e2⟩:=e1;unfold u7 at h⊢;rw[e1] at h⊢;simp only[e2] at h⊢;cases hL:JF E (ev s g) (pe s args) s.st with
   |false=>
    refine nz hE hr (fun a st h=>?_) h;rw[hb] at h⊢
    try rw[hL] at h
    exact⟨h.1,h.2,by rw[cq];exact .of (sP h.1)⟩
   |true=>
    refine nz hE hr (fun a st h=>?_) (KE hE hL h);rw[hb] at h⊢
    try rw[hL] at h
    exact⟨h.1,by rw[cq];exact h.2⟩
theorem KM{P st st' T k i p off}(h:ay st' i=ay st i):nS P st' T (.ptr i k p off)=nS P st T (.ptr i k p off):=by
 grind [nS]
theorem MP{P st st' T} U l:Bc P st' T (.ah U l)=Bc P st T (.ah U l):=by
 unfold Bc
 grind
theorem qT{E s s' o}(h:pg s o=true)(hs:uP o.op s s')(hk:bX s.st s'.st):o.guard=none/\(fg E.quiet o.op=1/\∀c a b,o.op≠ .pick c a b)/\bI E s' o.op=bI E s o.op/\pg s' o=true:=by
 unfold pg at h⊢;split at h<;>try (cases h;done)
 ·rename_i T x hg ho
  have he:ev s x=ev s' x:=hs.ev x (by rw[ho];simp[opsOf]);refine⟨hg,⟨by rw[ho];rfl,fun c a b e=>by rw[ho] at e;cases e⟩,?_,?_⟩
  ·rw[ho];simp only[bI];rw[←he]
   split at h<;>try (cases h;done)
   ·rename_i hx;rw[hx,KM (hk.1 _ h)]
   ·rename_i hx;rw[hx];rfl
   ·rename_i hx;rw[hx];rfl
  ·rw[←he]
   split at h<;>try (cases h;done)
   ·rw[hk.1 _ h];exact h
   ·rename_i hx;simp only
   ·rename_i hx;simp only
 ·rename_i args ats hg ho
  have he:pe s args.toList=pe s' args.toList:=gS (fun x hx=>hs.ev x (by rw[ho];simpa only[opsOf] using hx));refine⟨hg,⟨by rw[ho];rfl,fun c a b e=>by rw[ho] at e;cases e⟩,?_,?_⟩
  ·rw[ho];simp only[bI];rw[←he]
   split at h<;>try (cases h;done)
   rename_i hx;rw[hx]
   cases ats.toList with
   |nil=>rfl
   |cons T l=>simp only[MP (st:=s.st) (st':=s'.st)]
  ·rw[←he];exact h
 ·rename_i x hg ho
  have he:ev s x=ev s' x:=hs.ev x (by rw[ho];simp[opsOf]);refine⟨hg,⟨by rw[ho];rfl,fun c a b e=>by rw[ho] at e;cases e⟩,?_,?_⟩
  ·rw[ho];simp only[bI];rw[←he]
   split at h<;>try (cases h;done)
   rename_i hx;rw[hx];simp only[iQ,hk.1 _ h];rfl
  ·rw[←he]
   split at h<;>try (cases h;done)
   rw[hk.1 _ h];exact h
 ·rename_i T x f hg ho
  have he:ev s x=ev s' x:=hs.ev x (by rw[ho];simp[opsOf]);refine⟨hg,⟨by rw[ho];rfl,fun c a b e=>by rw[ho] at e;cases e⟩,?_,?_⟩
  ·rw[ho];simp only[bI];rw[←he]
   split at h<;>try (cases h;done)
   rename_i hx;rw[hx];simp only[gL,iQ,hk.1 _ h];rfl
  ·rw[←he]
   split at h<;>try (cases h;done)
   rw[hk.1 _ h];exact h
 ·rename_i T x i hg ho
  have he:ev s x=ev s' x:=hs.ev x (by rw[ho];simp[opsOf]);have hi:ev s i=ev s' i:=hs.ev i (by rw[ho];simp[opsOf]);refine⟨hg,⟨by rw[ho];rfl,fun c a b e=>by rw[ho] at e;cases e⟩,?_,?_⟩
  ·rw[ho];simp only[bI];rw[←he,←hi]
   split at h<;>try (cases h;done)
   rename_i k n hx;cases ho':ay s.st k<;>rw[ho'] at h<;>try (cases h;done)
   obtain⟨ls',pd',e⟩:=hk.2 k _ _ _ _ ho';rw[hx];simp only[gN,ho',e,ij]
  ·rw[←he]
   split at h<;>try (cases h;done)
   rename_i k n hx;cases ho':ay s.st k<;>rw[ho'] at h<;>try (cases h;done)
   obtain⟨ls',pd',e⟩:=hk.2 k _ _ _ _ ho';rw[e];rfl
theorem xz{E rec ops o s K}(hs:pg s o=true)(h:dC E rec ops o s K): ∃a,K (put s o.dst a)/\∀s' K',Looks ops o s s'->bX s.st s'.st->K' (put s' o.dst a)->dC E rec ops o s' K':=by
 obtain⟨hg,⟨hcl,hnp⟩,_,_⟩:=qT (E:=E) hs (Looks.same (ops:=ops) (s2:=s) (fun _ _=>rfl)) (.refl _);have h0:u7 E rec s o.dst o.op K:=by
  grind [dC]
 have h1: ∃c a,bI E s o.op=some (c,a)/\c=true/\K (put s o.dst a):=by
  unfold u7 at h0
  grind [ai.1]
 obtain⟨c,a,hr,hc,hk⟩:=h1;refine⟨a,hk,fun s' K' hl hb hk'=>?_⟩;obtain⟨_,_,hr',_⟩:=qT (E:=E) hs hl.same hb
 simp_all[dC,u7,ai]
def DM quiet c ops a i o:=
 ∀j b,ops[j]? =some b->i≠j->fy a j=false-> ¬ As ops i j->vO quiet c ops o b=true
theorem ym{quiet c ops a i o e}(d: ∀j,j∈e->j=i\/As ops i j): ∀l k,zd quiet c ops a i o e l k=true->∀m b,l[m]? =some b->i≠k+m->fy a (k+m)=false-> ¬ As ops i (k+m)->vO quiet c ops o b=true
 |[],_,_,m,b,h,_,_,_=>by simp at h
 | x::l,k,h,m,b,f,p,g,n=>by
  simp only[zd,an3] at h;cases m with
  |zero=>
   grind [Nat.eq_of_beq_eq_true,lr]
  |succ m=>
   refine ym d l _ h.2 m b (by grind) (by omega) ?_ ?_
   ·grind
   grind
theorem DM.set{quiet c ops a i j o}(h:DM quiet c ops a i o):DM quiet c ops (gC a j) i o:=by
 intro k b e f g d;refine h k b e f ?_ d
 grind [fA,dD]
theorem uD{E}(hE:aj E){rec}(hr:eo rec){ops K}: ∀n listed s i o,DC ops listed->lN ops listed i o->DM E.quiet E.calm ops listed i o->pg s o=true->
  (dC E rec ops o s fun s'=>nX E rec ops n (gC listed i) s' K)->nX E rec ops (n+1) listed s K
 | n,listed,s,i,o,hdc,hi,hf,hst,h=>by
  refine⟨fun hn=>absurd hi (hn i o),fun j b hj=>?_⟩;by_cases hij:i=j
  ·subst hij
   have:o=b:=Option.some.inj (hi.1.symm.trans hj.1)
   subst this;exact h
  ·have hsw:vO E.quiet E.calm ops o b=true:=hf j b hj.1 hij hj.2.1 (fun hp=>by
    have:=hj.dep hdc hp
    rw[hi.2.1] at this;cases this)
   simp only[vO,uc,an3,ao5,Bool.not_eq_true',Nat.blt_eq] at hsw;obtain⟨⟨⟨q1,q2⟩,q3⟩,q4⟩:=hsw;cases n with
   |zero=>
    obtain⟨a,h1,_⟩:=xz hst h;exact absurd (hj.set hij) (h1.1 j b)
   | succ n=>
    have h':=
     dk hE hr (fun s1 h1=>h1.2 j b (hj.set hij)) h
    obtain⟨a,g1,g2⟩:=xz hst h';have g3:=vK hE hr q4 g1;refine nD hE hr (kC q1).symm (cq s o.dst a) ?_ g3;intro st c _ hk;obtain⟨k1,k2⟩:=hk;rw[cq,cq] at k2;have hbk:bX s.st (put {s with st:=st} b.dst c).st:=by rw[cq];exact k2
    have hlk:Looks ops o s (put {s with st:=st} b.dst c):=by
     have:Looks ops o s {s with st:=st}:=fun _ _=>rfl
     intro t ht;exact(this t ht).trans (kC q2 t ht)
    have key:=g2 (put {s with st:=st} b.dst c) (fun s2=>nX E rec ops n (gC (gC listed j) i) s2 K) hlk hbk (by
     rw[←vQ st q3,pQ];exact k1)
    exact uD hE hr n (gC listed j) _ i o (hdc.set hj) (hi.set (Ne.symm hij)) hf.set (qT (E:=E) hst hlk.same hbk).2.2.2 key
def o9 P T st st':=∀k Tb a,ay st k= .box Tb a->∃a',ay st' k= .box Tb a'/\
 ∀T1,T=some T1->dG P T1=false->∀path,j7 P Tb path=some T1->oJ a' path=oJ a path/\oa a' path=oa a path/\jv a' path=jv a path
theorem o9.refl P T st:o9 P T st st:=fun _ _ a h=>⟨a,h,by simp⟩
theorem o9.of{P T st st'}(h:bX st st'):o9 P T st st':=fun k Tb a hk=>⟨a,by rw[h.1 k (by rw[hk];rfl),hk],by simp⟩
theorem DG{P T}(h:dG P T=false):fieldsOf P T=[]:=by
 grind [dG,fieldsOf]
theorem xk{P g k}(o:dG P g=false)(t:dG P k=false)(h:g≠k): ∀q p d a x,j7 P d p=some g->j7 P d q=some k->oa a q=true->wid x=wid (oJ a q)->
  oJ (iU a q x) p=oJ a p/\oa (iU a q x) p=oa a p/\jv (iU a q x) p=jv a p
 |[],p,d,a,x,c,b,_,_=>by
  simp only[j7,an5] at b;subst b;cases p<;>grind [j7,Option.some.injEq,DG,qY]
 |j::q,[],d,a,x,c,b,_,_=>by
  simp only[j7,an5] at c;subst c;simp only[j7,DG o,qY] at b;cases b
 | j ::q,i::p,d,a,x,c,b,f,n=>by
  cases a with
  | agg l=>
   simp only[oa,an3,an2] at f;simp only[oJ,af] at n;have m:wid (iU (nth l j) q x)=wid (nth l j):=ow q _ _ f.2 n;simp only[iU,oJ,af,oa,jv,fN];by_cases e:j=i
   ·subst e
    simp only[j7] at c b;cases r:qY (fieldsOf P d) j with
    |none=>rw[r] at c;cases c
    |some s=>
     rw[r] at c b;have:=xk o t h q p s.type (nth l j) x c b f.2 n
     grind [mc,xK]
   ·rw[jt _ _ _ _ e,xK _ _ _ _ m]
    exact⟨rfl,rfl,rfl⟩
  |_=>simp[oa] at f
theorem CK{P T s dst o}(hb:AD P.toProgram T o=true){K}(h:cn P s dst o K):cn P s dst o fun s'=>K s'/\o9 P.toProgram T s.st s'.st:=by
 cases o with
 | store U p x=>
  simp only[cn] at h⊢;unfold qE at h⊢;have rowT: ∀i (ob ob':Obj),ay s.st i=ob->kh ob=false->o9 P.toProgram T s.st (db s.st i ob'):=fun i ob ob' h1 h2 k Tb a hk=>by
   refine⟨a,?_,fun _ _ _ _ _=>⟨rfl,rfl,rfl⟩⟩;rw[bG _ _ _ _ (fun e=>by subst e;rw[h1] at hk;subst hk;cases h2)];exact hk
  have frzT: ∀is i (ob ob':Obj),ay (cG s.st is) i=ob->kh ob=false->o9 P.toProgram T s.st (db (cG s.st is) i ob'):=fun is i ob ob' h1 h2 k Tb a hk=>by
   have hz:ay (cG s.st is) k= .box Tb a:=by rw[(bX.freeze is s.st).1 k (by rw[hk];rfl),hk]
   refine⟨a,?_,fun _ _ _ _ _=>⟨rfl,rfl,rfl⟩⟩;rw[bG _ _ _ _ (fun e=>by subst e;rw[h1] at hz;subst hz;cases h2)];exact hz
  split at h<;>try exact h.elim
  rename_i i k path off hev;split at h<;>try exact h.elim
  ·rename_i Tb a hst
   split at h<;>try exact h.elim
   rename_i hc;rw[if_pos hc];refine⟨h,?_⟩;rw[cq];simp only[an3,beq_iff_eq] at hc;obtain⟨⟨⟨⟨⟨⟨c1,c2⟩,c3⟩,c4⟩,_⟩,_⟩,c7⟩:=hc;intro k' Tb' a' hk';by_cases e:i=k'
   ·subst e
    rw[hst] at hk';cases hk'
    refine⟨_,bt _ _ _ (H5 (by rw[hst];simp)),fun T1 hT hA p hp=>?_⟩;subst hT;simp only[AD,an3,Bool.not_eq_true'] at hb;have hU:j7 P.toProgram Tb path=some U:=by
     unfold wv at c7;split at c7
     ·rename_i V hV;rw[hV,Nat.eq_of_beq_eq_true c7]
     ·cases c7
    exact xk hA hb.2 (fun e=>by subst e;rw[Nat.beq_refl] at hb;cases hb.1) path p Tb a (ev s x) hp hU c1 (by rw[c3,c4])
   ·exact⟨a',by rw[bG _ _ _ _ e];exact hk',fun _ _ _ _ _=>⟨rfl,rfl,rfl⟩⟩
  ·split at h<;>try exact h.elim
   rename_i x' Tr xs hx' hst;split at h<;>try exact h.elim
   rename_i hc;simp only;rw[if_pos hc];exact⟨h,by rw[cq];exact frzT _ _ _ _ hst rfl⟩
  ·rename_i Tr E ls kp hst
   split at h<;>try exact h.elim
   split at h<;>try exact h.elim
   rename_i hc;rw[if_pos hc];exact cx (fun h=>⟨h,by rw[cq];exact rowT _ _ _ hst rfl⟩) h
 |_=>cases T<;>cases hb
theorem Ef{E}(hE:aj E){rec}(hr:eo rec){ops b s T K}(hb:((fg E.quiet b.op<2\/zY b.op=true)\/yf E.calm b.op=true)\/AD E.P.toProgram T b.op=true)(h:dC E rec ops b s K):dC E rec ops b s fun s'=>K s'/\o9 E.P.toProgram T s.st s'.st:=by
 rcases hb with hb|hb
 ·exact dk hE hr (fun _ h=>⟨h.1, .of h.2⟩) (vK hE hr hb h)
 ·rw[dZ] at h⊢
  refine iN (fun _ _=>rfl) (fun h=>?_) (fun h=>⟨h,by rw[cq];exact .refl _ _ _⟩) h;have e1:fg E.quiet b.op=2/\∀s,gJ s b.op=none:=by
   cases ho:b.op with
   |store U p x=>exact⟨rfl,fun _=>rfl⟩
   |_=>rw[ho] at hb;cases T<;>cases hb
  simp_all[u7,CK]
theorem qN{E s s' o T}(h:o8 E.P.toProgram s o=some T)(hs:uP o.op s s')(hk:o9 E.P.toProgram T s.st s'.st):o.guard=none/\(fg E.quiet o.op=1/\∀c a b,o.op≠ .pick c a b)/\bI E s' o.op=bI E s o.op/\o8 E.P.toProgram s' o=some T:=by
 unfold o8 at h⊢;split at h<;>try (cases h;done)
 ·rename_i U x hg ho
  have he:ev s x=ev s' x:=hs.ev x (by rw[ho];simp[opsOf]);rw[←he];split at h<;>try (cases h;done)
  rename_i k j path off hx;split at h<;>try (cases h;done)
  rename_i Tb a hst;cases hc:wv E.P.toProgram Tb path U&& !dG E.P.toProgram U with
  |false=>rw[hc] at h;cases h
  | true=>
   rw[hc] at h;simp only[an9,an5] at h;subst h;obtain⟨a',k1,k2⟩:=hk k Tb a hst;have hc':=hc;simp only[an3,Bool.not_eq_true'] at hc';have hU:j7 E.P.toProgram Tb path=some U:=by
    have c7:=hc'.1;unfold wv at c7;split at c7
    ·rename_i V hV;rw[hV,Nat.eq_of_beq_eq_true c7]
    ·cases c7
   obtain⟨r1,r2,r3⟩:=k2 U rfl hc'.2 path hU;refine⟨hg,⟨by rw[ho];rfl,fun c a b e=>by rw[ho] at e;cases e⟩,?_,?_⟩
   ·rw[ho];simp only[bI];rw[←he,hx]
    simp only[nS,hst,k1,r1,r2,r3]
   ·simp only[k1,hc,an9]
 ·rename_i x hg ho
  have he:ev s x=ev s' x:=hs.ev x (by rw[ho];simp[opsOf]);rw[←he];split at h<;>try (cases h;done)
  rename_i k j path off hx;cases hc:kh (ay s.st k) with
  |false=>rw[hc] at h;cases h
  |true=>
   rw[hc] at h;cases h;cases hst:ay s.st k<;>rw[hst] at hc<;>try (cases hc;done)
   obtain⟨a',k1,_⟩:=hk k _ _ hst;refine⟨hg,⟨by rw[ho];rfl,fun c a b e=>by rw[ho] at e;cases e⟩,?_,?_⟩
   ·rw[ho];simp only[bI];rw[←he,hx];simp only[iQ,k1,hst]
   ·simp only[k1];rfl
 ·rename_i U x f hg ho
  have he:ev s x=ev s' x:=hs.ev x (by rw[ho];simp[opsOf]);rw[←he];split at h<;>try (cases h;done)
  rename_i k j path off hx;cases hc:kh (ay s.st k) with
  |false=>rw[hc] at h;cases h
  |true=>
   rw[hc] at h;cases h;cases hst:ay s.st k<;>rw[hst] at hc<;>try (cases hc;done)
   obtain⟨a',k1,_⟩:=hk k _ _ hst;refine⟨hg,⟨by rw[ho];rfl,fun c a b e=>by rw[ho] at e;cases e⟩,?_,?_⟩
   ·rw[ho];simp only[bI];rw[←he,hx];simp only[gL,iQ,k1,hst]
   ·simp only[k1];rfl
theorem xH{E rec ops o s T K}(hs:o8 E.P.toProgram s o=some T)(h:dC E rec ops o s K): ∃a,K (put s o.dst a)/\∀s' K',Looks ops o s s'->o9 E.P.toProgram T s.st s'.st->K' (put s' o.dst a)->dC E rec ops o s' K':=by
 obtain⟨hg,⟨hcl,hnp⟩,_,_⟩:=qN (E:=E) hs (Looks.same (ops:=ops) (s2:=s) (fun _ _=>rfl)) (.refl _ _ _);have h0:u7 E rec s o.dst o.op K:=by
  grind [dC]
 have h1: ∃c a,bI E s o.op=some (c,a)/\c=true/\K (put s o.dst a):=by
  unfold u7 at h0
  grind [ai.1]
 obtain⟨c,a,hr,hc,hk⟩:=h1;refine⟨a,hk,fun s' K' hl hb hk'=>?_⟩;obtain⟨_,_,hr',_⟩:=qN (E:=E) hs hl.same hb
 simp_all[dC,u7,ai]
def Cj P quiet c T ops a i o:=
 ∀j b,ops[j]? =some b->i≠j->fy a j=false-> ¬ As ops i j->wa P quiet c T ops o b=true
theorem wP{P quiet c T ops a i o e}(d: ∀j,j∈e->j=i\/As ops i j): ∀l k,eO P quiet c T ops a i o e l k=true->∀m b,l[m]? =some b->i≠k+m->fy a (k+m)=false-> ¬ As ops i (k+m)->wa P quiet c T ops o b=true
 |[],_,_,m,b,h,_,_,_=>by simp at h
 | x::l,k,h,m,b,f,p,g,n=>by
  simp only[eO,an3] at h;cases m with
  |zero=>
   grind [Nat.eq_of_beq_eq_true,lr]
  |succ m=>
   refine wP d l _ h.2 m b (by grind) (by omega) ?_ ?_
   ·grind
   grind
theorem Cj.set{P quiet c T ops a i j o}(h:Cj P quiet c T ops a i o):Cj P quiet c T ops (gC a j) i o:=by
 intro k b e f g d;refine h k b e f ?_ d
 grind [fA,dD]
theorem uJ{E}(hE:aj E){rec}(hr:eo rec){ops T K}: ∀n listed s i o,DC ops listed->lN ops listed i o->Cj E.P.toProgram E.quiet E.calm T ops listed i o->o8 E.P.toProgram s o=some T->
  (dC E rec ops o s fun s'=>nX E rec ops n (gC listed i) s' K)->nX E rec ops (n+1) listed s K
 | n,listed,s,i,o,hdc,hi,hf,hst,h=>by
  refine⟨fun hn=>absurd hi (hn i o),fun j b hj=>?_⟩;by_cases hij:i=j
  ·subst hij
   have:o=b:=Option.some.inj (hi.1.symm.trans hj.1)
   subst this;exact h
  ·have hsw:wa E.P.toProgram E.quiet E.calm T ops o b=true:=hf j b hj.1 hij hj.2.1 (fun hp=>by
    have:=hj.dep hdc hp
    rw[hi.2.1] at this;cases this)
   simp only[wa,uc,an3,ao5,Bool.not_eq_true',Nat.blt_eq] at hsw;obtain⟨⟨⟨q1,q2⟩,q3⟩,q4⟩:=hsw;cases n with
   |zero=>
    obtain⟨a,h1,_⟩:=xH hst h;exact absurd (hj.set hij) (h1.1 j b)
   | succ n=>
    have h':=
     dk hE hr (fun s1 h1=>h1.2 j b (hj.set hij)) h
    obtain⟨a,g1,g2⟩:=xH hst h';have g3:=Ef (T:=T) hE hr q4 g1;refine nD hE hr (kC q1).symm (cq s o.dst a) ?_ g3;intro st c _ hk;obtain⟨k1,k2⟩:=hk;rw[cq,cq] at k2;have hbk:o9 E.P.toProgram T s.st (put {s with st:=st} b.dst c).st:=by rw[cq];exact k2
    have hlk:Looks ops o s (put {s with st:=st} b.dst c):=by
     have:Looks ops o s {s with st:=st}:=fun _ _=>rfl
     intro t ht;exact(this t ht).trans (kC q2 t ht)
    have key:=g2 (put {s with st:=st} b.dst c) (fun s2=>nX E rec ops n (gC (gC listed j) i) s2 K) hlk hbk (by
     rw[←vQ st q3,pQ];exact k1)
    exact uJ hE hr n (gC listed j) _ i o (hdc.set hj) (hi.set (Ne.symm hij)) hf.set (qN (E:=E) hst hlk.same hbk).2.2.2 key
theorem wB{P quiet c ops a s}: ∀l {i o},uG P quiet c ops a s l=some (i,o)->∃T,(i,o)∈l/\o8 P s o=some T/\eO P quiet c T ops a i o (fwd ops 0 [i]) ops 0=true
 |[],i,o,h=>by grind [uG]
 | (j,b)::l,i,o,h=>by
  simp[uG] at h;have d:uG P quiet c ops a s l=some (i,o)->∃T,(i,o)∈(j,b)::l/\o8 P s o=some T/\eO P quiet c T ops a i o (fwd ops 0 [i]) ops 0=true:=fun h=>by
   obtain⟨T,f,e⟩:=wB l h
   grind
  grind
theorem wV{quiet c ops a s}: ∀l {i o},DR quiet c ops a s l=some (i,o)->(i,o)∈l/\pg s o=true/\zd quiet c ops a i o (fwd ops 0 [i]) ops 0=true
 |[],i,o,h=>by grind [DR]
 | (j,b)::l,i,o,h=>by
  simp[DR] at h;cases d:pg s b&&zd quiet c ops a j b (fwd ops 0 [j]) ops 0 with
  |true=>
   grind
  |false=>
   rw[d] at h;obtain⟨f,e⟩:=wV l h
   grind
theorem o4{E}(hE:aj E){rec}(hr:eo rec){ops K}: ∀n listed s,DC ops listed->n6 E rec ops n listed s K->nX E rec ops n listed s K
 | 0,listed,s,_,h=>by
  unfold n6 at h;split at h
  ·rename_i h0
   exact⟨fun i o hi=>by rw[←gn,h0] at hi;simp at hi,h⟩
  ·exact h.elim
 | n +1,listed,s,hdc,h=>by
  unfold n6 at h;split at h
  ·rename_i h0
   exact⟨fun _=>h,fun i o hi=>by rw[←gn,h0] at hi;simp at hi⟩
  ·rename_i h0
   split at h
   ·rename_i i o hp
    obtain⟨h1,h2⟩:=qj _ hp;have hfs: ∀j,j∈fwd ops 0 [i]->j=i\/As ops i j:=pj ops 0 [i] (fun m b hm=>by simpa using hm) (fun j hj=> .inl (by simpa using hj));have hfree:M5 E.quiet ops listed i o:=fun j b hb hij hn he=>free_spec hfs ops 0 h2 j b hb (by omega) (by simpa using hn) (by simpa using he)
    exact xy hE hr n listed s i o hdc (gn.1 h1) hfree (dk hE hr (fun s'=>o4 hE hr n _ s' (hdc.set (gn.1 h1))) h)
   ·split at h
    ·rename_i i o hp
     obtain⟨h1,h2,h3⟩:=wV _ hp;have hfs: ∀j,j∈fwd ops 0 [i]->j=i\/As ops i j:=pj ops 0 [i] (fun m b hm=>by simpa using hm) (fun j hj=> .inl (by simpa using hj));have hfree:DM E.quiet E.calm ops listed i o:=fun j b hb hij hn he=>ym hfs ops 0 h3 j b hb (by omega) (by simpa using hn) (by simpa using he)
     exact uD hE hr n listed s i o hdc (gn.1 h1) hfree h2 (dk hE hr (fun s'=>o4 hE hr n _ s' (hdc.set (gn.1 h1))) h)
    split at h
    ·rename_i i o hp
     have hp:uG E.P.toProgram E.quiet E.calm ops listed s (kc listed ops 0)=some (i,o):=by
      cases hc:E.calm 888888<;>rw[hc] at hp
      ·cases hp
      ·exact hp
     obtain⟨T,h1,h2,h3⟩:=wB _ hp;have hfs: ∀j,j∈fwd ops 0 [i]->j=i\/As ops i j:=pj ops 0 [i] (fun m b hm=>by simpa using hm) (fun j hj=> .inl (by simpa using hj));have hfree:Cj E.P.toProgram E.quiet E.calm T ops listed i o:=fun j b hb hij hn he=>wP hfs ops 0 h3 j b hb (by omega) (by simpa using hn) (by simpa using he)
     exact uJ hE hr n listed s i o hdc (gn.1 h1) hfree h2 (dk hE hr (fun s'=>o4 hE hr n _ s' (hdc.set (gn.1 h1))) h)
    have:=zj _ h
    refine⟨fun hn=>?_,fun i o hi=>dk hE hr (fun s'=>o4 hE hr n _ s' (hdc.set hi)) (this i o (gn.2 hi))⟩
    exfalso
    cases hrl:kc listed ops 0 with
    |nil=>exact h0 hrl
    |cons x l=>
     obtain⟨i,o⟩:=x;exact hn i o (gn.1 (by rw[hrl];simp))
theorem zL: ∀l i,fy l i=l.getD i true
 |[],_=>rfl
 |_::_,0=>rfl
 |_::l,i+1=>by simpa[fy] using zL l i
theorem Cp: ∀l i,gC l i=l.set i true
 |[],_=>rfl
 |_::_,0=>rfl
 |_::l,i+1=>by simp[gC,Cp l i]
theorem zG: ∀n,iH n=List.replicate n false
 |0=>rfl
 |n+1=>by simp[iH,zG n,List.replicate_succ]
theorem pf{ops a i}:i∈Region.ready .any ops a↔ ∃o,lN ops.toList a.toList i o:=by
 rw[mem_ready];have f: ∀k,fy a.toList k=a.getD k true:=fun k=>by rw[zL];simp
 constructor
 ·rintro⟨b,o,c,d⟩
  refine⟨o,by grind,by grind,fun e h g=>?_⟩
  grind
 ·rintro⟨o,b,c,d⟩
  grind
theorem wQ{E}(hE:aE E){rec}(hrec:gl E.P rec){F}(hF:F=Fence.wide\/ ∃B,F=Fence.wide.inRound B){n ops K lo base Q}:
  ∀k listed {C},C.P=E.P->Inv C->∀{s a},cZ C s a->iw lo C a.defers->base<=s.st.length->nX E rec ops.toList k listed.toList s K->
   (∀a' w',cz lo base C K a' w'->Q .normal a' w')->wpAnyIn F n E.P .any ops Q k listed a C.w
 |0,listed,C,hC,hI,s,a,hs,hd,hb,h,hQ=>by
  refine⟨?_,hQ _ _ ⟨C,s,rfl,rfl,hI,hs,hd,hb,Ext.refl C (by rw[hs.st];exact hb),h.2⟩⟩;rw[List.eq_nil_iff_forall_not_mem];intro i hi;obtain⟨o,ho⟩:=pf.1 hi;exact h.1 i o ho
 | k+1,listed,C,hC,hI,s,a,hs,hd,hb,h,hQ=>by
  refine⟨fun hn=>hQ _ _ ⟨C,s,rfl,rfl,hI,hs,hd,hb,Ext.refl C (by rw[hs.st];exact hb),h.1 fun i o ho=>?_⟩,fun i hi=>?_⟩
  ·have:=pf.2 ⟨o,ho⟩
   rw[hn] at this;simp at this
  ·obtain⟨o,ho⟩:=pf.1 hi
   have h1:=h.2 i o ho;rw[dZ] at h1;have hn: ∀a' w',cz lo base C (fun s'=>nX E rec ops.toList k (gC listed.toList i) s' K) a' w'->wpAnyIn F n E.P .any ops Q k (listed.setIfInBounds i true) a' w':=by
    rintro a' w' ⟨C',s',rfl,hP',hI',hs',hd',hb',he,hK⟩;refine wQ hE hrec hF k _ (hP'.trans hC) hI' hs' hd' hb' ?_ (fun a2 w2 h2=>hQ _ _ (h2.trans hP' he))
    grind [gC,Cp]
   exact uy hI hs hd hb hF (i:=i) (o:=o) (by simpa using ho.1) (fun hp=>Kv hE hrec hC hI hs hd hb hF hp hn) hn h1
theorem FZ{E}(j:aE E)(r:aj E){b}(d:gl E.P b)(u:eo b):MO E b:=by
 intro id ops s K h C a F n lo base v i k hd l p Q m;refine wpIn_region_any j.prog.mixed ?_;have o:ir C.w {C.w with drawn:=C.w.drawn+1}:=⟨Nat.le_refl _,rfl,rfl,rfl,fun _ _=>rfl⟩
 obtain⟨q,g⟩:=oE i o;have t:=k.step i g;have e:({s with st:=C.st}:S)=s:=by rw[k.st]
 have f:cZ {C with w:={C.w with drawn:=C.w.drawn+1}} s a:=by grind
 have c:=o4 r u _ _ _ (DC.iH _ _) h;have:=wQ (C:={C with w:={C.w with drawn:=C.w.drawn+1}}) j d p (n:=n)     ops.size _ v q f (hd.ext g) l
  (by simpa[zG] using c) (fun z y x=>m _ _ (cz.trans  (C':={C with w:={C.w with drawn:=C.w.drawn+1}}) rfl (g.mono (by grind)) x))
 exact this
theorem Nv{E}(e:aj E){a}(f:eo a){s d o K c}(b: ∀s,K s->c s)(h:Sj E a s d o K):Sj E a s d o c:=by
 unfold Sj at h⊢;split at h
 ·exact cx (b _) h
 ·split at h
  ·split at h<;>try grind
   rename_i t _;cases t<;>exact b _ h
  ·split at h
   ·grind [nz]
   ·exact yj ⟨fun _ _=>rfl⟩ rfl (by grind) h
theorem tB{E}(hE:aj E){rec}(hr:eo rec){ops}: ∀l {s K K'},(∀s,K s->K' s)->pD E rec ops l s K->pD E rec ops l s K'
 |[],s,K,K',hK,h=>hK _ h
 |o::l,s,K,K',hK,h=>by
  rw[wx] at h⊢;exact iN (fun _ _=>rfl) (Nv hE hr fun s'=>tB hE hr l hK) (tB hE hr l hK) h
theorem kG{E}(hE:aj E){rec}(hr:eo rec){ops K K'}(hK: ∀s,K s->K' s): ∀n listed s,n6 E rec ops n listed s K->n6 E rec ops n listed s K'
 |0,listed,s,h=>by
  unfold n6 at h⊢;split at h
  ·exact hK _ h
  ·exact h.elim
 | n +1,listed,s,h=>by
  unfold n6 at h⊢;split at h
  ·exact hK _ h
  ·split at h
   ·exact dk hE hr (fun s'=>kG hE hr hK n _ s') h
   ·split at h
    ·exact dk hE hr (fun s'=>kG hE hr hK n _ s') h
    split at h
    ·exact dk hE hr (fun s'=>kG hE hr hK n _ s') h
    generalize kc listed ops 0=l at h⊢
    have: ∀l:List (Nat×Oper),(Ns (fun i o=>dC E rec ops o s fun s'=>n6 E rec ops n (gC listed i) s' K) l)->Ns (fun i o=>dC E rec ops o s fun s'=>n6 E rec ops n (gC listed i) s' K') l:=by
     intro l;induction l with
     |nil=>exact id
     |cons x l ih=>
      obtain⟨i,o⟩:=x;cases l with
      |nil=>exact fun h=>dk hE hr (fun s'=>kG hE hr hK n _ s') h
      |cons y l=>exact fun h=>⟨dk hE hr (fun s'=>kG hE hr hK n _ s') h.1,ih h.2⟩
    exact this _ h
theorem JO{E}(hE:aj E){rec}(hr:eo rec) f rd base: ∀c s K K',(∀e s,K e s->K' e s)->ko E rec f rd base c s K->ko E rec f rd base c s K':=by
 intro c;induction c with
 |skip=>intro s K K' hK h;exact hK _ _ h
 |label l=>intro s K K' hK h;exact hK _ _ h
 | region id ops d=>
  intro s K K' hK h;cases d with
  |false=>
   have h:pD E rec ops.toList ops.toList s (yC (K .normal)):=h;show pD E rec ops.toList ops.toList s (yC (K' .normal))
   rw[vw] at h⊢;exact tB hE hr _ (hK _) h
  |true=>
   have h:n6 E rec ops.toList ops.toList.length (iH ops.toList.length) s (yC (K .normal)):=h;show n6 E rec ops.toList ops.toList.length (iH ops.toList.length) s (yC (K' .normal))
   rw[vw] at h⊢;exact kG hE hr (hK _) _ _ _ h
 |seq x y ihx ihy=>
  intro s K K' hK h;refine ihx s _ _ ?_ h;intro e s' hh;cases e with
  |normal=>exact ihy s' _ _ hK hh
  |_=>exact hK _ _ hh
 |cond c x y ihx ihy=>
  intro s K K' hK h;unfold ko at h⊢;split at h<;>try exact h.elim
  rename_i t _;cases t with
  |true=>exact ihx _ _ _ hK h
  |false=>exact ihy _ _ _ hK h
 | block id c ih=>
  intro s K K' hK h;refine ih s _ _ ?_ h;intro e s' hh;cases e with
  |exit i=>
   simp only[AX] at hh⊢;cases hb:Nat.beq i id<;>rw[hb] at hh<;>exact hK _ _ hh
  |_=>exact hK _ _ hh
 |loop c ih=>
  intro s K K' hK h;unfold ko at h⊢;split at h<;>try exact h.elim
  exact cx (fun hh=>by rw[kz] at hh⊢;exact hE.loop _ _ _ _ _ _ _ _ hK hh) h
 | rangeFunc g ps asg body iha ihb=>
  intro s K K' hK h;unfold ko at h⊢;split at h<;>try exact h.elim
  have hrk: ∀st,qO s.st.length s K st->qO s.st.length s K' st:=by
   intro st hh;unfold qO at hh⊢;split at hh<;>try exact hh.elim
   grind
  refine cx (fun hh=>?_) h;split at hh
  ·exact hE.lF _ _ _ _ _ _ _ hrk hh
  ·exact uv hr (fun _ st=>hrk st) hh
 |exit id=>intro s K K' hK h;exact hK _ _ h
 |goto l=>intro s K K' hK h;exact h.elim
 |scope c ih=>
  intro s K K' hK h;refine ih s _ _ ?_ h;intro e s' hh;cases e with
  |goto l=>exact hh.elim
  |_=>exact hK _ _ hh
 |ret=>intro s K K' hK h;exact hK _ _ h
 |refuse r=>intro s K K' hK h;exact h.elim
theorem vB{E}(a:aj E): ∀n,eo (vc E n)
 |0=>fun _ _ _ _ _ _ _ _ h=>h.elim
 |n+1=>fun f _d _base c s K _e b h=>JO a (vB a n) f _ _ c s K _ b h
theorem zZ{E}(b:aE E)(a:aj E): ∀n,gl E.P (vc E n)
 |0=>fun _ _ _ _ _ _ h=>h.elim
 |n+1=>fun f _d _base c s K h=>GK b (zZ b a n) (FZ b a (zZ b a n) (vB a n)) f _ _ c s K h
#print axioms zZ
end Go.Dn
