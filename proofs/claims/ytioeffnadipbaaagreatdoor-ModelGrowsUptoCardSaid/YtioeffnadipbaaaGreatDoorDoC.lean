import Derived.Test.YtioeffnadipbaaaGreatDoorDoB
namespace Go.Dn
open Go
theorem zH: ∀l i j x y,i≠j->bH (bH l i x) j y=bH (bH l j y) i x
 |[],_,_,_,_,_=>rfl
 |a::l,0,0,_,_,h=>absurd rfl h
 |a::l,0,j+1,_,_,_=>rfl
 |a::l,i+1,0,_,_,_=>rfl
 |a::l,i+1,j+1,x,y,h=>by simp[bH];rw[zH l i j x y (by omega)]
theorem xC{s d c a b} st(h:v5 d c=true):put {put s d a with st:=st} c b=put (put {s with st:=st} c b) d a:=by
 cases d with
 |none=>rfl
 | some t=>
  cases c with
  |none=>rfl
  |some u=>
   have:t≠u:=by intro e;simp_all[v5]
   grind [put,zH]
theorem kC{ops o s d a}(h:AP ops o d=false):Looks ops o s (put s d a):=by
 intro t b;cases d<;>grind [AP,put,jh]
theorem Looks.symm{ops o s1 s2}(h:Looks ops o s1 s2):Looks ops o s2 s1:=fun t a=>(h t a).symm
theorem Nt{quiet o}(h:C5 o=true):fc quiet o=2/\∀s,gB s o=none:=by
 cases o with
 |alloc T=>exact⟨rfl,fun _=>rfl⟩
 |box T x=>exact⟨rfl,fun _=>rfl⟩
 |makeSlice T a b=>exact⟨rfl,fun _=>rfl⟩
 |makeMap T x=>cases x<;>exact⟨rfl,fun _=>rfl⟩
 |_=>cases h
theorem cn s d a:(put s d a).st=s.st:=by cases d<;>rfl
theorem FP{P s dst o}(hg:C5 o=true){K}(h:cm P s dst o K):cm P s dst o fun s'=>K s'/\Kept s.st s'.st:=by
 cases o with
 |alloc T=>
  grind [cm,cn,Kept.app]
 |box T x=>grind [cm,cx,cn,Kept.app]
 |makeSlice T a b=>grind [cm,cx,cn,Kept.app]
 |makeMap T x=>
  cases x<;>grind [cm,cn,Kept.app]
 |_=>cases hg
theorem K8{E rec ops b s K}(hb:fc E.quiet b.op<2\/C5 b.op=true)(h:dF E rec ops b s K):dF E rec ops b s fun s'=>K s'/\Kept s.st s'.st:=by
 rcases hb with hb|hb
 ·obtain⟨a,h1,h2⟩:=pL hb h
  exact h2 s _ (fun _ _=>rfl) (fun _=> .refl _) ⟨h1,by rw[cn];exact .refl _⟩
 ·rw[ec] at h⊢
  refine iK (fun _ _=>rfl) (fun h=>?_) (fun h=>⟨h,by rw[cn];exact .refl _⟩) h;obtain⟨e1,e2⟩:=Nt (quiet:=E.quiet) hb
  simp_all[uK,FP]
theorem Lc{E}(hE:aj E){rec}(hr:eu rec){ops i j}(hsw:x6 E.quiet ops i j=true){s K}
  (h:dF E rec ops i s fun s1=>dF E rec ops j s1 K):dF E rec ops j s fun s2=>dF E rec ops i s2 K:=by
 simp only[x6,sv,ar5,Bool.not_eq_true'] at hsw;obtain⟨⟨⟨h1,h2⟩,h3⟩,h4⟩:=hsw;have hc:fc E.quiet i.op<2:=by
  split at h4
  ·omega
  ·omega
  ·cases h4
 have hj:fc E.quiet i.op=1->fc E.quiet j.op<2\/C5 j.op=true:=by
  intro e;rw[e] at h4;simpa using h4
 obtain⟨a,g1,g2⟩:=pL hc h;have hst:(put s i.dst a).st=s.st:=by cases i.dst<;>rfl
 have g3:dF E rec ops j (put s i.dst a) fun s'=>K s'/\(fc E.quiet i.op=1->Kept s.st s'.st):=by
  rcases Nat.eq_zero_or_pos (fc E.quiet i.op) with e|e
  ·simp_all
  ·grind [dm,K8]
 refine ny hE hr (kC h1).symm hst ?_ g3;intro st b hs hk;refine g2 _ _ ?_ ?_ ?_
 ·have:Looks ops i s {s with st:=st}:=fun _ _=>rfl
  intro t ht;exact(this t ht).trans (kC h2 t ht)
 ·intro e
  have:=hk.2 e
  rw[cn] at this⊢;exact this
 ·rw[←xC st h3];exact hk.1
theorem oX: ∀l i,(gw l i).length=l.length
 |[],_=>rfl
 |_::_,0=>rfl
 |_::l,i+1=>by simp[gw,oX l i]
theorem fx: ∀l i,fu (gw l i) i=true
 |[],_=>rfl
 |_::_,0=>rfl
 |_::l,i+1=>by exact fx l i
theorem dD: ∀l i j,i≠j->fu (gw l i) j=fu l j
 |[],_,_,_=>rfl
 |_::_,0,j,h=>by cases j with|zero=>grind|succ j=>rfl
 |_::l,i+1,j,h=>by
  cases j with
  |zero=>rfl
  |succ j=>exact dD l i j (by omega)
theorem pG: ∀l i j,gw (gw l i) j=gw (gw l j) i
 |[],_,_=>rfl
 |_::_,0,0=>rfl
 |_::_,0,j+1=>rfl
 |_::_,i+1,0=>rfl
 |_::l,i+1,j+1=>by simp[gw];rw[pG l i j]
theorem oD a: ∀l,lJ a l=true↔ ∀e,e∈l->Region.binds .any e=true->e.on<a.length/\fu a e.on=true
 |[]=>by simp[lJ]
 |e::l=>by
  simp[lJ,oD _ l]
  grind
theorem xE a: ∀l k i o,(i,o)∈j9 a l k↔ ∃m,i=k+m/\l[m]? =some o/\fu a i=false/\lJ a o.after.toList=true
 |[],k,i,o=>by simp[j9]
 | b::l,k,i,o=>by
  have e:=xE a l (k+1) i o;have c:(i,o)∈j9 a l (k+1)↔ ∃m,i=k+(m+1)/\(b::l)[m+1]? =some o/\fu a i=false/\lJ a o.after.toList=true:=by
   rw[e];constructor
   ·rintro⟨m,j,f,g⟩;exact⟨m,by omega,by simpa using f,g⟩
   grind
  simp only[j9];cases d:(!fu a k&&lJ a b.after.toList) with
  | true=>
   simp only[as1,at4,c,as3];simp only[ar5,Bool.not_eq_true'] at d;constructor
   ·rintro(⟨rfl,rfl⟩|⟨m,h⟩)
    ·exact⟨0,by omega,rfl,d.1,d.2⟩
    ·exact⟨m+1,h⟩
   ·grind
  |false=>grind
def lu(ops:List Oper) a i o:=ops[i]? =some o/\fu a i=false/\∀e,e∈o.after.toList->Region.binds .any e=true->e.on<a.length/\fu a e.on=true
theorem gl{ops a i o}:(i,o)∈j9 a ops 0↔lu ops a i o:=by
 rw[xE];constructor
 ·rintro⟨m,d,b,c,e⟩
  obtain rfl:i=m:=by omega
  exact⟨b,c,(oD _ _).1 e⟩
 ·rintro⟨d,b,c⟩
  grind [oD]
theorem lu.set{ops a i j o}(h:lu ops a i o)(b:j≠i):lu ops (gw a j) i o:=by
 refine⟨h.1,by rw[dD _ _ _ b];exact h.2.1,fun e c d=>?_⟩;obtain⟨g,f⟩:=h.2.2 e c d
 grind [oX,fx,dD]
inductive zV (ops:List Oper) (i:Nat):Nat->Prop
 |base (j:Nat) (b:Oper) (e:Edge) (h1:ops[j]? =some b) (h2:e∈b.after.toList) (h3:Region.binds .any e=true) (h4:e.on=i):zV ops i j
 |step (j:Nat) (b:Oper) (e:Edge) (h1:ops[j]? =some b) (h2:e∈b.after.toList) (h3:Region.binds .any e=true) (h4:zV ops i e.on):zV ops i j
def DC(ops:List Oper) a:=∀j b,ops[j]? =some b->j<a.length->fu a j=true->∀e,e∈b.after.toList->Region.binds .any e=true->e.on<a.length/\fu a e.on=true
theorem Fh{ops a}(hd:DC ops a){i j}(h:zV ops i j):j<a.length->fu a j=true->fu a i=true:=by
 induction h with
 |base j b e d f c l=>intro k g;rw[←l];exact(hd j b d k g e f c).2
 |step j b e d f c _ m=>intro k g;exact m (hd j b d k g e f c).1 (hd j b d k g e f c).2
theorem lu.dep{ops a}(hd:DC ops a){i j b}(h:lu ops a j b)(k:zV ops i j):fu a i=true:=by
 cases k with
 |base _ l e f d c g=>
  have:=Option.some.inj (f.symm.trans h.1)
  subst this;rw[←g];exact(h.2.2 e d c).2
 |step _ l e f d c g=>
  have:=Option.some.inj (f.symm.trans h.1)
  subst this;exact Fh hd g (h.2.2 e d c).1 (h.2.2 e d c).2
theorem DC.iE ops n:DC ops (iE n):=fun j b _ d c=>by
 have: ∀n j,j<(Go.Dn.iE n).length->fu (Go.Dn.iE n) j=false:=by
  intro n;induction n with
  |zero=>grind [Go.Dn.iE]
  |succ n a=>intro j h;cases j<;>grind [Go.Dn.iE,fu]
 grind
theorem DC.set{ops a}(hd:DC ops a){i o}(h:lu ops a i o):DC ops (gw a i):=by
 intro j b k l f e g c;rw[oX] at l⊢;have m:e.on<a.length/\fu a e.on=true:=by
  by_cases d:i=j
  ·subst d
   have:=Option.some.inj (k.symm.trans h.1)
   subst this;exact h.2.2 e g c
  ·rw[dD _ _ _ d] at f
   exact hd j b k l f e g c
 grind [fx,dD]
theorem zn a: ∀l,zm a l=true->∃e,e∈l/\Region.binds .any e=true/\e.on∈a
 |[],h=>by grind [zm]
 | e::l,h=>by
  simp[zm] at h;rcases h with⟨b,c⟩|h
  ·grind [kV]
  ·obtain⟨d,b,c⟩:=zn _ l h
   grind
theorem ot{ops i}: ∀l k a,(∀m b,l[m]? =some b->ops[k+m]? =some b)->(∀j,j∈a->j=i\/zV ops i j)->∀j,j∈fwd l k a->j=i\/zV ops i j
 |[],_,_,_,g,j,c=>g j c
 | o::l,k,a,h,g,j,c=>by
  simp only[fwd] at c;have f: ∀m b,l[m]? =some b->ops[k+1+m]? =some b:=fun m b s=>by
   have:=h (m+1) b (by simpa using s)
   grind
  cases n:zm a o.after.toList with
  |false=>rw[n] at c;exact ot l (k+1) a f g j c
  | true=>
   rw[n] at c;refine ot l (k+1) (k::a) f (fun u d=>?_) j c;rcases List.mem_cons.1 d with rfl|d
   ·obtain⟨e,q,r,t⟩:=zn _ _ n
    rcases g _ t with p|p
    ·exact .inr (.base _ o e (h 0 o rfl) q r p)
    ·exact .inr (.step _ o e (h 0 o rfl) q r p)
   grind
def L8 quiet ops a i o:=
 ∀j b,ops[j]? =some b->i≠j->fu a j=false-> ¬ zV ops i j->x6 quiet ops o b=true
theorem free_spec{quiet ops a i o d}(c: ∀j,j∈d->j=i\/zV ops i j): ∀l k,kP quiet ops a i o d l k=true->∀m b,l[m]? =some b->i≠k+m->fu a (k+m)=false-> ¬ zV ops i (k+m)->x6 quiet ops o b=true
 |[],_,_,m,b,h,_,_,_=>by simp at h
 | x::l,k,h,m,b,e,n,f,g=>by
  simp only[kP,ar5] at h;cases m with
  |zero=>
   grind [Nat.eq_of_beq_eq_true,kV]
  |succ m=>
   refine free_spec c l (k+1) h.2 m b (by grind) (by omega) ?_ ?_
   ·grind
   grind
theorem L8.set{quiet ops a i j o}(h:L8 quiet ops a i o):L8 quiet ops (gw a j) i o:=by
 intro k b d e f c;refine h k b d e ?_ c
 grind [fx,dD]
def nE(E:Env)(rec:Rec)(ops:List Oper):Nat->List Bool->S->(S->Prop)->Prop
 |0,listed,s,K=>(∀i o,¬ lu ops listed i o)/\K s
 |n+1,listed,s,K=>((∀i o,¬ lu ops listed i o)->K s)/\∀i o,lu ops listed i o->dF E rec ops o s fun s'=>nE E rec ops n (gw listed i) s' K
theorem wq{E}(hE:aj E){rec}(hr:eu rec){ops K}: ∀n listed s i o,DC ops listed->lu ops listed i o->L8 E.quiet ops listed i o->
  (dF E rec ops o s fun s'=>nE E rec ops n (gw listed i) s' K)->nE E rec ops (n+1) listed s K
 | n,listed,s,i,o,hdc,hi,hf,h=>by
  refine⟨fun hn=>absurd hi (hn i o),fun j b hj=>?_⟩;by_cases hij:i=j
  ·subst hij
   have:o=b:=Option.some.inj (hi.1.symm.trans hj.1)
   subst this;exact h
  ·have hsw:x6 E.quiet ops o b=true:=hf j b hj.1 hij hj.2.1 (fun hp=>by
    have:=hj.dep hdc hp
    rw[hi.2.1] at this;cases this)
   cases n with
   | zero=>
    have hc:fc E.quiet o.op<2:=by
     simp only[x6,ar5] at hsw
     grind
    obtain⟨a,h1,_⟩:=pL hc h;exact absurd (hj.set hij) (h1.1 j b)
   | succ n=>
    have h':=
     dm hE hr (fun s1 h1=>h1.2 j b (hj.set hij)) h
    refine dm hE hr (fun s2 h2=>?_) (Lc hE hr hsw h');rw[pG] at h2;exact wq hE hr n (gw listed j) s2 i o (hdc.set hj) (hi.set (Ne.symm hij)) hf.set h2
theorem yH{p}: ∀l,Mj p l->∀i o,(i,o)∈l->p i o
 |[],_,i,o,h=>by grind
 |[(j,b)],h,i,o,a=>by
  simp   at a;obtain⟨rfl,rfl⟩:=a;exact h
 |(j,b)::x::l,h,i,o,a=>by
  rcases List.mem_cons.1 a with a|a
  ·cases a;exact h.1
  ·exact yH _ h.2 i o a
theorem p9{quiet ops a}: ∀l {i o},oM quiet ops a l=some (i,o)->(i,o)∈l/\kP quiet ops a i o (fwd ops 0 [i]) ops 0=true
 |[],i,o,h=>by grind [oM]
 | (j,b)::l,i,o,h=>by
  simp[oM] at h;cases c:kP quiet ops a j b (fwd ops 0 [j]) ops 0 with
  |true=>grind
  |false=>
   rw[c] at h;obtain⟨e,d⟩:=p9 l h
   grind
def bZ st st':=(∀k,j4 (ay st k)=true->ay st' k=ay st k)/\∀k T E ls pd,ay st k= .rows T E ls pd->∃ls' pd',ay st' k= .rows T E ls' pd'
theorem H4{st k}(h:ay st k≠ .dead):k<st.length:=by grind [eR]
theorem bZ.refl st:bZ st st:=⟨by simp,by grind⟩
theorem bZ.trans{a b c}(d:bZ a b)(f:bZ b c):bZ a c:=⟨fun k e=>by
 rw[f.1 k (by rw[d.1 k e];omega),d.1 k e],fun k T E i g h=>by
 obtain⟨_,_,h⟩:=d.2 k T E _ _ h;exact f.2 k T E _ _ h⟩
theorem bZ.of{st st'}(h: ∀k,ay st k≠ .dead->j4 (ay st k)=true\/AE (ay st k)=true->ay st' k=ay st k):bZ st st':=
 ⟨fun k hk=>h k (by intro e;rw[e] at hk;cases hk) (.inl hk),fun k T E ls pd hk=>⟨_,_,by rw[h k (by grind) (.inr (by rw[hk];rfl)),hk]⟩⟩
theorem bZ.app st l:bZ st (st++l):= .of fun _ a _=>dQ _ _ _ (H4 a)
theorem bZ.set{st i T xs o}(h:ay st i= .row T xs):bZ st (df st i o):= .of fun k _ a=>by
 refine bG _ _ _ _ fun e=>?_
 subst e;rw[h] at a;rcases a with a|a<;>cases a
theorem bZ.rows{st i T E d b f a}(h:ay st i= .rows T E d f):bZ st (df st i (.rows T E b a)):=by
 refine⟨fun k c=>bG _ _ _ _ fun e=>?_,fun k j g l p c=>?_⟩
 ·subst e;rw[h] at c;cases c
 grind [br,H4,bG]
theorem bZ.freeze: ∀b st,bZ st (cF st b)
 |[],st=> .refl _
 | i::b,st=>by
  refine bZ.trans (.of ?_) (bZ.freeze b _);intro k hd a;by_cases e:i=k
  ·subst e
   rw[br _ _ _ (H4 hd)];cases c:ay _ i<;>rw[c] at a<;>first|rfl|(rcases a with a|a<;>cases a)
  grind [bG]
theorem re: ∀{st st'},q9 st st'->∀k,ay st k≠ .dead->j4 (ay st k)=true\/AE (ay st k)=true->ay st' k=ay st k
 |[],_,_,k,hd,_=>absurd rfl hd
 |a::l,[],h,_,_,_=>by cases a<;>exact h.elim
 |a::l,o::l',h,0,_,hk=>by
  cases a<;>first|exact h.1|(rcases hk with hk|hk<;>cases hk)
 |a::l,o::l',h,k+1,hd,hk=>re   (by cases a<;>first|exact h.2|exact h) k hd hk
theorem MX{quiet o}(h:yW o=true):fc quiet o=2/\∀s,gB s o=none:=by
 cases o with
 |call c=>
  obtain⟨d,e,f⟩:=c;cases d with
  |builtin b=>cases b<;>first|exact⟨rfl,fun _=>rfl⟩|cases h
  |value g=>cases h
  |invoke r m=>cases h
 |buildSlice T n ps=>exact⟨rfl,fun _=>rfl⟩
 |makeSlice T a b=>exact⟨rfl,fun _=>rfl⟩
 |alloc T=>exact⟨rfl,fun _=>rfl⟩
 |box T x=>exact⟨rfl,fun _=>rfl⟩
 |makeMap T x=>cases x<;>exact⟨rfl,fun _=>rfl⟩
 |_=>cases h
theorem Er{P s dst o}(hg:yW o=true){K}(h:cm P s dst o K):cm P s dst o fun s'=>K s'/\bZ s.st s'.st:=by
 cases o with
 |alloc T=>
  simp only[cm] at h⊢;split at h<;>try exact h.elim
  exact⟨h,by rw[cn];exact bZ.app _ _⟩
 | box T x=>
  simp only[cm] at h⊢;split at h<;>try exact h.elim
  rename_i h1;rw[if_pos h1];split at h
  ·rename_i hi
   first|simp only[hi]|skip
   exact cx (fun h=>⟨h,by rw[cn];exact bZ.app _ _⟩) h
  ·rename_i hi
   first|simp only[hi]|skip
   exact⟨h,by rw[cn];exact bZ.app _ _⟩
 | makeMap T x=>
  cases x with
  |some y=>cases hg
  |none=>
   simp only[cm] at h⊢;split at h<;>try exact h.elim
   exact⟨h,by rw[cn];exact bZ.app _ _⟩
 |buildSlice T n ps=>
  simp only[cm] at h⊢;split at h<;>try exact h.elim
  split at h<;>try exact h.elim
  split at h<;>try exact h.elim
  split at h<;>try exact h.elim
  rename_i h4;rw[if_pos h4];exact⟨h,by rw[cn];exact(bZ.freeze _ _).trans (bZ.app _ _)⟩
 |makeSlice T a b=>
  simp only[cm] at h⊢;split at h<;>try exact h.elim
  split at h<;>try exact h.elim
  exact cx (fun h=>⟨h,by rw[cn];exact bZ.app _ _⟩) h
 | call c=>
  obtain⟨callee,args,ats⟩:=c;cases callee with
  | builtin b=>
   cases b<;>try (cases hg;done)
   simp only[cm] at h⊢;split at h<;>try exact h.elim
   split at h<;>try exact h.elim
   rename_i h3;rw[if_pos h3];unfold pk at h⊢;split at h<;>try exact h.elim
   split at h<;>try exact h.elim
   split at h<;>try exact h.elim
   split at h<;>try exact h.elim
   ·exact cx (fun h=>⟨h,by rw[cn];exact bZ.app _ _⟩) h
   ·split at h<;>try exact h.elim
    ·split at h<;>try exact h.elim
     rename_i k1 k2;rw[if_pos k2];exact cx (fun h=>⟨h,by rw[cn];exact(bZ.set k1).trans (bZ.app _ _)⟩) h
    ·rename_i k1
     split at h<;>try exact h.elim
     rename_i k2;simp only;split at h<;>try exact h.elim
     rename_i k3;rw[if_pos k3];exact cx (fun h=>⟨h,by rw[cn];exact bZ.rows k1⟩) h
  |value g=>cases hg
  |invoke r m=>cases hg
 |_=>cases hg
theorem JC{E}(hE:aj E){rec g args st K}(hl:Kf E g args st=true)(h:n8 E rec g args st K):n8 E rec g args st fun a st'=>K a st'/\bZ st st':=by
 unfold Kf at hl;split at hl
 ·rename_i f caps
  simp only[ar5,Bool.not_eq_true'] at hl;obtain⟨⟨h1,h2⟩,h3⟩:=hl;unfold n8 at h⊢;simp only[h1,h2] at h⊢;split at h3
  ·rename_i as hle
   rw[hle] at h⊢;simp only[cF] at h⊢;have hr:cX (rm E.P (mA E.P f) as)=[]:=by
    grind [NI]
   refine cx (fun h=>?_) h;rw[kn] at h⊢
   grind [mZ,kO,cX,rm,reach,fv,fv.go,bZ.app]
  ·cases h3
 ·cases hl
theorem x2{E}(hE:aj E){rec}(hr:eu rec){ops b s K}(hb:(fc E.quiet b.op<2\/yW b.op=true)\/vQ E.calm b.op=true)(h:dF E rec ops b s K):dF E rec ops b s fun s'=>K s'/\bZ s.st s'.st:=by
 have small:fc E.quiet b.op<2->dF E rec ops b s fun s'=>K s'/\bZ s.st s'.st:=fun hb=>by
  obtain⟨a,h1,h2⟩:=pL hb h;exact h2 s _ (fun _ _=>rfl) (fun _=>Kept.refl _) ⟨h1,by rw[cn];exact .refl _⟩
 rcases hb with(hb|hb)|hb
 ·exact small hb
 ·rw[ec] at h⊢
  refine iK (fun _ _=>rfl) (fun h=>?_) (fun h=>⟨h,by rw[cn];exact .refl _⟩) h;obtain⟨e1,e2⟩:=MX (quiet:=E.quiet) hb;unfold uK at h⊢;rw[e1] at h⊢;simp only[e2] at h⊢;exact Er hb h
 ·by_cases hlt:fc E.quiet b.op<2
  ·exact small hlt
  ·rw [ec] at h⊢
   refine iK (fun _ _=>rfl) (fun h=>?_) (fun h=>⟨h,by rw[cn];exact .refl _⟩) h;have e1:fc E.quiet b.op=2/\∃g args,∀s,gB s b.op=some (ev s g,oi s args):=by
    cases ho:b.op with
    | call c=>
     obtain⟨callee,args,ats⟩:=c;rw[ho] at hb hlt;cases callee with
     | value g=>
      cases g with
      | func f=>
       simp only[fc] at hlt⊢;cases hq:E.quiet f with
       |true=>
        rw[hq,as1] at hlt
        exfalso;apply hlt
        cases Mi args.toList<;>decide
       |false=>exact⟨rfl,_,_,fun _=>rfl⟩
      |_=>cases hb
     |_=>cases hb
    |_=>rw[ho] at hb;cases hb
   obtain⟨e1,g,args,e2⟩:=e1;unfold uK at h⊢;rw[e1] at h⊢;simp only[e2] at h⊢;cases hL:Kf E (ev s g) (oi s args) s.st with
   |false=>
    refine mV hE hr (fun a st h=>?_) h;rw[hb] at h⊢
    try rw[hL] at h
    exact⟨h.1,h.2,by rw[cn];exact .of (re h.1)⟩
   |true=>
    refine mV hE hr (fun a st h=>?_) (JC hE hL h);rw[hb] at h⊢
    try rw[hL] at h
    exact⟨h.1,by rw[cn];exact h.2⟩
theorem Kh{P st st' T k i p off}(h:ay st' i=ay st i):nG P st' T (.ptr i k p off)=nG P st T (.ptr i k p off):=by
 grind [nG]
theorem Nl{P st st' T} U l:AK P st' T (.ah U l)=AK P st T (.ah U l):=by
 unfold AK
 grind
theorem qP{E s s' o}(h:o4 s o=true)(hs:uw o.op s s')(hk:bZ s.st s'.st):o.guard=none/\(fc E.quiet o.op=1/\∀c a b,o.op≠ .pick c a b)/\bJ E s' o.op=bJ E s o.op/\o4 s' o=true:=by
 unfold o4 at h⊢;split at h<;>try (cases h;done)
 ·rename_i T x hg ho
  have he:ev s x=ev s' x:=hs.ev x (by rw[ho];simp[opsOf]);refine⟨hg,⟨by rw[ho];rfl,fun c a b e=>by rw[ho] at e;cases e⟩,?_,?_⟩
  ·rw[ho];simp only[bJ];rw[←he]
   split at h<;>try (cases h;done)
   ·rename_i hx;rw[hx,Kh (hk.1 _ h)]
   ·rename_i hx;rw[hx];rfl
   ·rename_i hx;rw[hx];rfl
  ·rw[←he]
   split at h<;>try (cases h;done)
   ·rw[hk.1 _ h];exact h
   ·rename_i hx;simp only
   ·rename_i hx;simp only
 ·rename_i args ats hg ho
  have he:oi s args.toList=oi s' args.toList:=gD (fun x hx=>hs.ev x (by rw[ho];simpa only[opsOf] using hx));refine⟨hg,⟨by rw[ho];rfl,fun c a b e=>by rw[ho] at e;cases e⟩,?_,?_⟩
  ·rw[ho];simp only[bJ];rw[←he]
   split at h<;>try (cases h;done)
   rename_i hx;rw[hx]
   cases ats.toList with
   |nil=>rfl
   |cons T l=>simp only[Nl (st:=s.st) (st':=s'.st)]
  ·rw[←he];exact h
 ·rename_i x hg ho
  have he:ev s x=ev s' x:=hs.ev x (by rw[ho];simp[opsOf]);refine⟨hg,⟨by rw[ho];rfl,fun c a b e=>by rw[ho] at e;cases e⟩,?_,?_⟩
  ·rw[ho];simp only[bJ];rw[←he]
   split at h<;>try (cases h;done)
   rename_i hx;rw[hx];simp only[iL,hk.1 _ h];rfl
  ·rw[←he]
   split at h<;>try (cases h;done)
   rw[hk.1 _ h];exact h
 ·rename_i T x f hg ho
  have he:ev s x=ev s' x:=hs.ev x (by rw[ho];simp[opsOf]);refine⟨hg,⟨by rw[ho];rfl,fun c a b e=>by rw[ho] at e;cases e⟩,?_,?_⟩
  ·rw[ho];simp only[bJ];rw[←he]
   split at h<;>try (cases h;done)
   rename_i hx;rw[hx];simp only[gE,iL,hk.1 _ h];rfl
  ·rw[←he]
   split at h<;>try (cases h;done)
   rw[hk.1 _ h];exact h
 ·rename_i T x i hg ho
  have he:ev s x=ev s' x:=hs.ev x (by rw[ho];simp[opsOf]);have hi:ev s i=ev s' i:=hs.ev i (by rw[ho];simp[opsOf]);refine⟨hg,⟨by rw[ho];rfl,fun c a b e=>by rw[ho] at e;cases e⟩,?_,?_⟩
  ·rw[ho];simp only[bJ];rw[←he,←hi]
   split at h<;>try (cases h;done)
   rename_i k n hx;cases ho':ay s.st k<;>rw[ho'] at h<;>try (cases h;done)
   obtain⟨ls',pd',e⟩:=hk.2 k _ _ _ _ ho';rw[hx];simp only[gF,ho',e,gX]
  ·rw[←he]
   split at h<;>try (cases h;done)
   rename_i k n hx;cases ho':ay s.st k<;>rw[ho'] at h<;>try (cases h;done)
   obtain⟨ls',pd',e⟩:=hk.2 k _ _ _ _ ho';rw[e];rfl
theorem wV{E rec ops o s K}(hs:o4 s o=true)(h:dF E rec ops o s K): ∃a,K (put s o.dst a)/\∀s' K',Looks ops o s s'->bZ s.st s'.st->K' (put s' o.dst a)->dF E rec ops o s' K':=by
 obtain⟨hg,⟨hcl,hnp⟩,_,_⟩:=qP (E:=E) hs (Looks.same (ops:=ops) (s2:=s) (fun _ _=>rfl)) (.refl _);have h0:uK E rec s o.dst o.op K:=by
  grind [dF]
 have h1: ∃c a,bJ E s o.op=some (c,a)/\c=true/\K (put s o.dst a):=by
  unfold uK at h0
  grind [ai.1]
 obtain⟨c,a,hr,hc,hk⟩:=h1;refine⟨a,hk,fun s' K' hl hb hk'=>?_⟩;obtain⟨_,_,hr',_⟩:=qP (E:=E) hs hl.same hb
 simp_all[dF,uK,ai]
def Cd quiet c ops a i o:=
 ∀j b,ops[j]? =some b->i≠j->fu a j=false-> ¬ zV ops i j->vE quiet c ops o b=true
theorem wk{quiet c ops a i o e}(d: ∀j,j∈e->j=i\/zV ops i j): ∀l k,yV quiet c ops a i o e l k=true->∀m b,l[m]? =some b->i≠k+m->fu a (k+m)=false-> ¬ zV ops i (k+m)->vE quiet c ops o b=true
 |[],_,_,m,b,h,_,_,_=>by simp at h
 | x::l,k,h,m,b,f,p,g,n=>by
  simp only[yV,ar5] at h;cases m with
  |zero=>
   grind [Nat.eq_of_beq_eq_true,kV]
  |succ m=>
   refine wk d l _ h.2 m b (by grind) (by omega) ?_ ?_
   ·grind
   grind
theorem Cd.set{quiet c ops a i j o}(h:Cd quiet c ops a i o):Cd quiet c ops (gw a j) i o:=by
 intro k b e f g d;refine h k b e f ?_ d
 grind [fx,dD]
theorem tZ{E}(hE:aj E){rec}(hr:eu rec){ops K}: ∀n listed s i o,DC ops listed->lu ops listed i o->Cd E.quiet E.calm ops listed i o->o4 s o=true->
  (dF E rec ops o s fun s'=>nE E rec ops n (gw listed i) s' K)->nE E rec ops (n+1) listed s K
 | n,listed,s,i,o,hdc,hi,hf,hst,h=>by
  refine⟨fun hn=>absurd hi (hn i o),fun j b hj=>?_⟩;by_cases hij:i=j
  ·subst hij
   have:o=b:=Option.some.inj (hi.1.symm.trans hj.1)
   subst this;exact h
  ·have hsw:vE E.quiet E.calm ops o b=true:=hf j b hj.1 hij hj.2.1 (fun hp=>by
    have:=hj.dep hdc hp
    rw[hi.2.1] at this;cases this)
   simp only[vE,sv,ar5,as7,Bool.not_eq_true',Nat.blt_eq] at hsw;obtain⟨⟨⟨q1,q2⟩,q3⟩,q4⟩:=hsw;cases n with
   |zero=>
    obtain⟨a,h1,_⟩:=wV hst h;exact absurd (hj.set hij) (h1.1 j b)
   | succ n=>
    have h':=
     dm hE hr (fun s1 h1=>h1.2 j b (hj.set hij)) h
    obtain⟨a,g1,g2⟩:=wV hst h';have g3:=x2 hE hr q4 g1;refine ny hE hr (kC q1).symm (cn s o.dst a) ?_ g3;intro st c _ hk;obtain⟨k1,k2⟩:=hk;rw[cn,cn] at k2;have hbk:bZ s.st (put {s with st:=st} b.dst c).st:=by rw[cn];exact k2
    have hlk:Looks ops o s (put {s with st:=st} b.dst c):=by
     have:Looks ops o s {s with st:=st}:=fun _ _=>rfl
     intro t ht;exact(this t ht).trans (kC q2 t ht)
    have key:=g2 (put {s with st:=st} b.dst c) (fun s2=>nE E rec ops n (gw (gw listed j) i) s2 K) hlk hbk (by
     rw[←xC st q3,pG];exact k1)
    exact tZ hE hr n (gw listed j) _ i o (hdc.set hj) (hi.set (Ne.symm hij)) hf.set (qP (E:=E) hst hlk.same hbk).2.2.2 key
def nV P T st st':=∀k Tb a,ay st k= .box Tb a->∃a',ay st' k= .box Tb a'/\
 ∀T1,T=some T1->dH P T1=false->∀path,j7 P Tb path=some T1->nX a' path=nX a path/\nP a' path=nP a path/\ji a' path=ji a path
theorem nV.refl P T st:nV P T st st:=fun _ _ a h=>⟨a,h,by simp⟩
theorem nV.of{P T st st'}(h:bZ st st'):nV P T st st':=fun k Tb a hk=>⟨a,by rw[h.1 k (by rw[hk];rfl),hk],by simp⟩
theorem CD{P T}(h:dH P T=false):fieldsOf P T=[]:=by
 grind [dH,fieldsOf]
theorem xR{P g k}(o:dH P g=false)(t:dH P k=false)(h:g≠k): ∀q p d a x,j7 P d p=some g->j7 P d q=some k->nP a q=true->wid x=wid (nX a q)->
  nX (iS a q x) p=nX a p/\nP (iS a q x) p=nP a p/\ji (iS a q x) p=ji a p
 |[],p,d,a,x,c,b,_,_=>by
  simp only[j7,ar7] at b;subst b;cases p<;>grind [j7,Option.some.injEq,CD,qz]
 |j::q,[],d,a,x,c,b,_,_=>by
  simp only[j7,ar7] at c;subst c;simp only[j7,CD o,qz] at b;cases b
 | j ::q,i::p,d,a,x,c,b,f,n=>by
  cases a with
  | agg l=>
   simp only[nP,ar5,ar4] at f;simp only[nX,ag] at n;have m:wid (iS (nth l j) q x)=wid (nth l j):=pc q _ _ f.2 n;simp only[iS,nX,ag,nP,ji,fH];by_cases e:j=i
   ·subst e
    simp only[j7] at c b;cases r:qz (fieldsOf P d) j with
    |none=>rw[r] at c;cases c
    |some s=>
     rw[r] at c b;have:=xR o t h q p s.type (nth l j) x c b f.2 n
     grind [l5,xQ]
   ·rw[jh _ _ _ _ e,xQ _ _ _ _ m]
    exact⟨rfl,rfl,rfl⟩
  |_=>simp[nP] at f
theorem Ed{P T s dst o}(hb:Bh P.toProgram T o=true){K}(h:cm P s dst o K):cm P s dst o fun s'=>K s'/\nV P.toProgram T s.st s'.st:=by
 cases o with
 | store U p x=>
  simp only[cm] at h⊢;unfold qQ at h⊢;have rowT: ∀i (ob ob':Obj),ay s.st i=ob->j4 ob=false->nV P.toProgram T s.st (df s.st i ob'):=fun i ob ob' h1 h2 k Tb a hk=>by
   refine⟨a,?_,fun _ _ _ _ _=>⟨rfl,rfl,rfl⟩⟩;rw[bG _ _ _ _ (fun e=>by subst e;rw[h1] at hk;subst hk;cases h2)];exact hk
  have frzT: ∀is i (ob ob':Obj),ay (cF s.st is) i=ob->j4 ob=false->nV P.toProgram T s.st (df (cF s.st is) i ob'):=fun is i ob ob' h1 h2 k Tb a hk=>by
   have hz:ay (cF s.st is) k= .box Tb a:=by rw[(bZ.freeze is s.st).1 k (by rw[hk];rfl),hk]
   refine⟨a,?_,fun _ _ _ _ _=>⟨rfl,rfl,rfl⟩⟩;rw[bG _ _ _ _ (fun e=>by subst e;rw[h1] at hz;subst hz;cases h2)];exact hz
  split at h<;>try exact h.elim
  rename_i i k path off hev;split at h<;>try exact h.elim
  ·rename_i Tb a hst
   split at h<;>try exact h.elim
   rename_i hc;rw[if_pos hc];refine⟨h,?_⟩;rw[cn];simp only[ar5,beq_iff_eq] at hc;obtain⟨⟨⟨⟨⟨⟨c1,c2⟩,c3⟩,c4⟩,_⟩,_⟩,c7⟩:=hc;intro k' Tb' a' hk';by_cases e:i=k'
   ·subst e
    rw[hst] at hk';cases hk'
    refine⟨_,br _ _ _ (H4 (by rw[hst];simp)),fun T1 hT hA p hp=>?_⟩;subst hT;simp only[Bh,ar5,Bool.not_eq_true'] at hb;have hU:j7 P.toProgram Tb path=some U:=by
     unfold xr at c7;split at c7
     ·rename_i V hV;rw[hV,Nat.eq_of_beq_eq_true c7]
     ·cases c7
    exact xR hA hb.2 (fun e=>by subst e;rw[Nat.beq_refl] at hb;cases hb.1) path p Tb a (ev s x) hp hU c1 (by rw[c3,c4])
   ·exact⟨a',by rw[bG _ _ _ _ e];exact hk',fun _ _ _ _ _=>⟨rfl,rfl,rfl⟩⟩
  ·split at h<;>try exact h.elim
   rename_i x' Tr xs hx' hst;split at h<;>try exact h.elim
   rename_i hc;simp only;rw[if_pos hc];exact⟨h,by rw[cn];exact frzT _ _ _ _ hst rfl⟩
  ·rename_i Tr E ls kp hst
   split at h<;>try exact h.elim
   split at h<;>try exact h.elim
   rename_i hc;rw[if_pos hc];exact cx (fun h=>⟨h,by rw[cn];exact rowT _ _ _ hst rfl⟩) h
 |_=>cases T<;>cases hb
theorem D9{E}(hE:aj E){rec}(hr:eu rec){ops b s T K}(hb:((fc E.quiet b.op<2\/yW b.op=true)\/vQ E.calm b.op=true)\/Bh E.P.toProgram T b.op=true)(h:dF E rec ops b s K):dF E rec ops b s fun s'=>K s'/\nV E.P.toProgram T s.st s'.st:=by
 rcases hb with hb|hb
 ·exact dm hE hr (fun _ h=>⟨h.1, .of h.2⟩) (x2 hE hr hb h)
 ·rw[ec] at h⊢
  refine iK (fun _ _=>rfl) (fun h=>?_) (fun h=>⟨h,by rw[cn];exact .refl _ _ _⟩) h;have e1:fc E.quiet b.op=2/\∀s,gB s b.op=none:=by
   cases ho:b.op with
   |store U p x=>exact⟨rfl,fun _=>rfl⟩
   |_=>rw[ho] at hb;cases T<;>cases hb
  simp_all[uK,Ed]
theorem qS{E s s' o T}(h:o9 E.P.toProgram s o=some T)(hs:uw o.op s s')(hk:nV E.P.toProgram T s.st s'.st):o.guard=none/\(fc E.quiet o.op=1/\∀c a b,o.op≠ .pick c a b)/\bJ E s' o.op=bJ E s o.op/\o9 E.P.toProgram s' o=some T:=by
 unfold o9 at h⊢;split at h<;>try (cases h;done)
 ·rename_i U x hg ho
  have he:ev s x=ev s' x:=hs.ev x (by rw[ho];simp[opsOf]);rw[←he];split at h<;>try (cases h;done)
  rename_i k j path off hx;split at h<;>try (cases h;done)
  rename_i Tb a hst;cases hc:xr E.P.toProgram Tb path U&& !dH E.P.toProgram U with
  |false=>rw[hc] at h;cases h
  | true=>
   rw[hc] at h;simp only[as1,ar7] at h;subst h;obtain⟨a',k1,k2⟩:=hk k Tb a hst;have hc':=hc;simp only[ar5,Bool.not_eq_true'] at hc';have hU:j7 E.P.toProgram Tb path=some U:=by
    have c7:=hc'.1;unfold xr at c7;split at c7
    ·rename_i V hV;rw[hV,Nat.eq_of_beq_eq_true c7]
    ·cases c7
   obtain⟨r1,r2,r3⟩:=k2 U rfl hc'.2 path hU;refine⟨hg,⟨by rw[ho];rfl,fun c a b e=>by rw[ho] at e;cases e⟩,?_,?_⟩
   ·rw[ho];simp only[bJ];rw[←he,hx]
    simp only[nG,hst,k1,r1,r2,r3]
   ·simp only[k1,hc,as1]
 ·rename_i x hg ho
  have he:ev s x=ev s' x:=hs.ev x (by rw[ho];simp[opsOf]);rw[←he];split at h<;>try (cases h;done)
  rename_i k j path off hx;cases hc:j4 (ay s.st k) with
  |false=>rw[hc] at h;cases h
  |true=>
   rw[hc] at h;cases h;cases hst:ay s.st k<;>rw[hst] at hc<;>try (cases hc;done)
   obtain⟨a',k1,_⟩:=hk k _ _ hst;refine⟨hg,⟨by rw[ho];rfl,fun c a b e=>by rw[ho] at e;cases e⟩,?_,?_⟩
   ·rw[ho];simp only[bJ];rw[←he,hx];simp only[iL,k1,hst]
   ·simp only[k1];rfl
 ·rename_i U x f hg ho
  have he:ev s x=ev s' x:=hs.ev x (by rw[ho];simp[opsOf]);rw[←he];split at h<;>try (cases h;done)
  rename_i k j path off hx;cases hc:j4 (ay s.st k) with
  |false=>rw[hc] at h;cases h
  |true=>
   rw[hc] at h;cases h;cases hst:ay s.st k<;>rw[hst] at hc<;>try (cases hc;done)
   obtain⟨a',k1,_⟩:=hk k _ _ hst;refine⟨hg,⟨by rw[ho];rfl,fun c a b e=>by rw[ho] at e;cases e⟩,?_,?_⟩
   ·rw[ho];simp only[bJ];rw[←he,hx];simp only[gE,iL,k1,hst]
   ·simp only[k1];rfl
theorem wW{E rec ops o s T K}(hs:o9 E.P.toProgram s o=some T)(h:dF E rec ops o s K): ∃a,K (put s o.dst a)/\∀s' K',Looks ops o s s'->nV E.P.toProgram T s.st s'.st->K' (put s' o.dst a)->dF E rec ops o s' K':=by
 obtain⟨hg,⟨hcl,hnp⟩,_,_⟩:=qS (E:=E) hs (Looks.same (ops:=ops) (s2:=s) (fun _ _=>rfl)) (.refl _ _ _);have h0:uK E rec s o.dst o.op K:=by
  grind [dF]
 have h1: ∃c a,bJ E s o.op=some (c,a)/\c=true/\K (put s o.dst a):=by
  unfold uK at h0
  grind [ai.1]
 obtain⟨c,a,hr,hc,hk⟩:=h1;refine⟨a,hk,fun s' K' hl hb hk'=>?_⟩;obtain⟨_,_,hr',_⟩:=qS (E:=E) hs hl.same hb
 simp_all[dF,uK,ai]
def Ce P quiet c T ops a i o:=
 ∀j b,ops[j]? =some b->i≠j->fu a j=false-> ¬ zV ops i j->vF P quiet c T ops o b=true
theorem wm{P quiet c T ops a i o e}(d: ∀j,j∈e->j=i\/zV ops i j): ∀l k,eP P quiet c T ops a i o e l k=true->∀m b,l[m]? =some b->i≠k+m->fu a (k+m)=false-> ¬ zV ops i (k+m)->vF P quiet c T ops o b=true
 |[],_,_,m,b,h,_,_,_=>by simp at h
 | x::l,k,h,m,b,f,p,g,n=>by
  simp only[eP,ar5] at h;cases m with
  |zero=>
   grind [Nat.eq_of_beq_eq_true,kV]
  |succ m=>
   refine wm d l _ h.2 m b (by grind) (by omega) ?_ ?_
   ·grind
   grind
theorem Ce.set{P quiet c T ops a i j o}(h:Ce P quiet c T ops a i o):Ce P quiet c T ops (gw a j) i o:=by
 intro k b e f g d;refine h k b e f ?_ d
 grind [fx,dD]
theorem ua{E}(hE:aj E){rec}(hr:eu rec){ops T K}: ∀n listed s i o,DC ops listed->lu ops listed i o->Ce E.P.toProgram E.quiet E.calm T ops listed i o->o9 E.P.toProgram s o=some T->
  (dF E rec ops o s fun s'=>nE E rec ops n (gw listed i) s' K)->nE E rec ops (n+1) listed s K
 | n,listed,s,i,o,hdc,hi,hf,hst,h=>by
  refine⟨fun hn=>absurd hi (hn i o),fun j b hj=>?_⟩;by_cases hij:i=j
  ·subst hij
   have:o=b:=Option.some.inj (hi.1.symm.trans hj.1)
   subst this;exact h
  ·have hsw:vF E.P.toProgram E.quiet E.calm T ops o b=true:=hf j b hj.1 hij hj.2.1 (fun hp=>by
    have:=hj.dep hdc hp
    rw[hi.2.1] at this;cases this)
   simp only[vF,sv,ar5,as7,Bool.not_eq_true',Nat.blt_eq] at hsw;obtain⟨⟨⟨q1,q2⟩,q3⟩,q4⟩:=hsw;cases n with
   |zero=>
    obtain⟨a,h1,_⟩:=wW hst h;exact absurd (hj.set hij) (h1.1 j b)
   | succ n=>
    have h':=
     dm hE hr (fun s1 h1=>h1.2 j b (hj.set hij)) h
    obtain⟨a,g1,g2⟩:=wW hst h';have g3:=D9 (T:=T) hE hr q4 g1;refine ny hE hr (kC q1).symm (cn s o.dst a) ?_ g3;intro st c _ hk;obtain⟨k1,k2⟩:=hk;rw[cn,cn] at k2;have hbk:nV E.P.toProgram T s.st (put {s with st:=st} b.dst c).st:=by rw[cn];exact k2
    have hlk:Looks ops o s (put {s with st:=st} b.dst c):=by
     have:Looks ops o s {s with st:=st}:=fun _ _=>rfl
     intro t ht;exact(this t ht).trans (kC q2 t ht)
    have key:=g2 (put {s with st:=st} b.dst c) (fun s2=>nE E rec ops n (gw (gw listed j) i) s2 K) hlk hbk (by
     rw[←xC st q3,pG];exact k1)
    exact ua hE hr n (gw listed j) _ i o (hdc.set hj) (hi.set (Ne.symm hij)) hf.set (qS (E:=E) hst hlk.same hbk).2.2.2 key
theorem xu{P quiet c ops a s}: ∀l {i o},uh P quiet c ops a s l=some (i,o)->∃T,(i,o)∈l/\o9 P s o=some T/\eP P quiet c T ops a i o (fwd ops 0 [i]) ops 0=true
 |[],i,o,h=>by grind [uh]
 | (j,b)::l,i,o,h=>by
  simp[uh] at h;have d:uh P quiet c ops a s l=some (i,o)->∃T,(i,o)∈(j,b)::l/\o9 P s o=some T/\eP P quiet c T ops a i o (fwd ops 0 [i]) ops 0=true:=fun h=>by
   obtain⟨T,f,e⟩:=xu l h
   grind
  grind
theorem xt{quiet c ops a s}: ∀l {i o},Dy quiet c ops a s l=some (i,o)->(i,o)∈l/\o4 s o=true/\yV quiet c ops a i o (fwd ops 0 [i]) ops 0=true
 |[],i,o,h=>by grind [Dy]
 | (j,b)::l,i,o,h=>by
  simp[Dy] at h;cases d:o4 s b&&yV quiet c ops a j b (fwd ops 0 [j]) ops 0 with
  |true=>
   grind
  |false=>
   rw[d] at h;obtain⟨f,e⟩:=xt l h
   grind
theorem nW{E}(hE:aj E){rec}(hr:eu rec){ops K}: ∀n listed s,DC ops listed->nM E rec ops n listed s K->nE E rec ops n listed s K
 | 0,listed,s,_,h=>by
  unfold nM at h;split at h
  ·rename_i h0
   exact⟨fun i o hi=>by rw[←gl,h0] at hi;simp at hi,h⟩
  ·exact h.elim
 | n +1,listed,s,hdc,h=>by
  unfold nM at h;split at h
  ·rename_i h0
   exact⟨fun _=>h,fun i o hi=>by rw[←gl,h0] at hi;simp at hi⟩
  ·rename_i h0
   split at h
   ·rename_i i o hp
    obtain⟨h1,h2⟩:=p9 _ hp;have hfs: ∀j,j∈fwd ops 0 [i]->j=i\/zV ops i j:=ot ops 0 [i] (fun m b hm=>by simpa using hm) (fun j hj=> .inl (by simpa using hj));have hfree:L8 E.quiet ops listed i o:=fun j b hb hij hn he=>free_spec hfs ops 0 h2 j b hb (by omega) (by simpa using hn) (by simpa using he)
    exact wq hE hr n listed s i o hdc (gl.1 h1) hfree (dm hE hr (fun s'=>nW hE hr n _ s' (hdc.set (gl.1 h1))) h)
   ·split at h
    ·rename_i i o hp
     obtain⟨h1,h2,h3⟩:=xt _ hp;have hfs: ∀j,j∈fwd ops 0 [i]->j=i\/zV ops i j:=ot ops 0 [i] (fun m b hm=>by simpa using hm) (fun j hj=> .inl (by simpa using hj));have hfree:Cd E.quiet E.calm ops listed i o:=fun j b hb hij hn he=>wk hfs ops 0 h3 j b hb (by omega) (by simpa using hn) (by simpa using he)
     exact tZ hE hr n listed s i o hdc (gl.1 h1) hfree h2 (dm hE hr (fun s'=>nW hE hr n _ s' (hdc.set (gl.1 h1))) h)
    split at h
    ·rename_i i o hp
     have hp:uh E.P.toProgram E.quiet E.calm ops listed s (j9 listed ops 0)=some (i,o):=by
      cases hc:E.calm 888888<;>rw[hc] at hp
      ·cases hp
      ·exact hp
     obtain⟨T,h1,h2,h3⟩:=xu _ hp;have hfs: ∀j,j∈fwd ops 0 [i]->j=i\/zV ops i j:=ot ops 0 [i] (fun m b hm=>by simpa using hm) (fun j hj=> .inl (by simpa using hj));have hfree:Ce E.P.toProgram E.quiet E.calm T ops listed i o:=fun j b hb hij hn he=>wm hfs ops 0 h3 j b hb (by omega) (by simpa using hn) (by simpa using he)
     exact ua hE hr n listed s i o hdc (gl.1 h1) hfree h2 (dm hE hr (fun s'=>nW hE hr n _ s' (hdc.set (gl.1 h1))) h)
    have:=yH _ h
    refine⟨fun hn=>?_,fun i o hi=>dm hE hr (fun s'=>nW hE hr n _ s' (hdc.set hi)) (this i o (gl.2 hi))⟩
    exfalso
    cases hrl:j9 listed ops 0 with
    |nil=>exact h0 hrl
    |cons x l=>
     obtain⟨i,o⟩:=x;exact hn i o (gl.1 (by rw[hrl];simp))
theorem zk: ∀l i,fu l i=l.getD i true
 |[],_=>rfl
 |_::_,0=>rfl
 |_::l,i+1=>by simpa[fu] using zk l i
theorem DP: ∀l i,gw l i=l.set i true
 |[],_=>rfl
 |_::_,0=>rfl
 |_::l,i+1=>by simp[gw,DP l i]
theorem yR: ∀n,iE n=List.replicate n false
 |0=>rfl
 |n+1=>by simp[iE,yR n,List.replicate_succ]
theorem oR{ops a i}:i∈Region.ready .any ops a↔ ∃o,lu ops.toList a.toList i o:=by
 rw[mem_ready];have f: ∀k,fu a.toList k=a.getD k true:=fun k=>by rw[zk];simp
 constructor
 ·rintro⟨b,o,c,d⟩
  refine⟨o,by grind,by grind,fun e h g=>?_⟩
  grind
 ·rintro⟨o,b,c,d⟩
  grind
theorem wu{E}(hE:aE E){rec}(hrec:fV E.P rec){F}(hF:F=Fence.wide\/ ∃B,F=Fence.wide.inRound B){n ops K lo base Q}:
  ∀k listed {C},C.P=E.P->Inv C->∀{s a},db C s a->hH lo C a.defers->base<=s.st.length->nE E rec ops.toList k listed.toList s K->
   (∀a' w',cz lo base C K a' w'->Q .normal a' w')->wpAnyIn F n E.P .any ops Q k listed a C.w
 |0,listed,C,hC,hI,s,a,hs,hd,hb,h,hQ=>by
  refine⟨?_,hQ _ _ ⟨C,s,rfl,rfl,hI,hs,hd,hb,Ext.refl C (by rw[hs.st];exact hb),h.2⟩⟩;rw[List.eq_nil_iff_forall_not_mem];intro i hi;obtain⟨o,ho⟩:=oR.1 hi;exact h.1 i o ho
 | k+1,listed,C,hC,hI,s,a,hs,hd,hb,h,hQ=>by
  refine⟨fun hn=>hQ _ _ ⟨C,s,rfl,rfl,hI,hs,hd,hb,Ext.refl C (by rw[hs.st];exact hb),h.1 fun i o ho=>?_⟩,fun i hi=>?_⟩
  ·have:=oR.2 ⟨o,ho⟩
   rw[hn] at this;simp at this
  ·obtain⟨o,ho⟩:=oR.1 hi
   have h1:=h.2 i o ho;rw[ec] at h1;have hn: ∀a' w',cz lo base C (fun s'=>nE E rec ops.toList k (gw listed.toList i) s' K) a' w'->wpAnyIn F n E.P .any ops Q k (listed.setIfInBounds i true) a' w':=by
    rintro a' w' ⟨C',s',rfl,hP',hI',hs',hd',hb',he,hK⟩;refine wu hE hrec hF k _ (hP'.trans hC) hI' hs' hd' hb' ?_ (fun a2 w2 h2=>hQ _ _ (h2.trans hP' he))
    grind [gw,DP]
   exact uc hI hs hd hb hF (i:=i) (o:=o) (by simpa using ho.1) (fun hp=>Kw hE hrec hC hI hs hd hb hF hp hn) hn h1
theorem Fi{E}(j:aE E)(r:aj E){b}(d:fV E.P b)(u:eu b):LF E b:=by
 intro id ops s K h C a F n lo base v i k hd l p Q m;refine wpIn_region_any j.prog.mixed ?_;have o:hJ C.w {C.w with drawn:=C.w.drawn+1}:=⟨Nat.le_refl _,rfl,rfl,rfl,fun _ _=>rfl⟩
 obtain⟨q,g⟩:=ow i o;have t:=k.step i g;have e:({s with st:=C.st}:S)=s:=by rw[k.st]
 have f:db {C with w:={C.w with drawn:=C.w.drawn+1}} s a:=by grind
 have c:=nW r u _ _ _ (DC.iE _ _) h;have:=wu (C:={C with w:={C.w with drawn:=C.w.drawn+1}}) j d p (n:=n)     ops.size _ v q f (hd.ext g) l
  (by simpa[yR] using c) (fun z y x=>m _ _ (cz.trans  (C':={C with w:={C.w with drawn:=C.w.drawn+1}}) rfl (g.mono (by grind)) x))
 exact this
theorem NL{E}(e:aj E){a}(f:eu a){s d o K c}(b: ∀s,K s->c s)(h:RR E a s d o K):RR E a s d o c:=by
 unfold RR at h⊢;split at h
 ·exact cx (b _) h
 ·split at h
  ·split at h<;>try grind
   rename_i t _;cases t<;>exact b _ h
  ·split at h
   ·grind [mV]
   ·exact yf ⟨fun _ _=>rfl⟩ rfl (by grind) h
theorem s9{E}(hE:aj E){rec}(hr:eu rec){ops}: ∀l {s K K'},(∀s,K s->K' s)->oL E rec ops l s K->oL E rec ops l s K'
 |[],s,K,K',hK,h=>hK _ h
 |o::l,s,K,K',hK,h=>by
  rw[xg] at h⊢;exact iK (fun _ _=>rfl) (NL hE hr fun s'=>s9 hE hr l hK) (s9 hE hr l hK) h
theorem ku{E}(hE:aj E){rec}(hr:eu rec){ops K K'}(hK: ∀s,K s->K' s): ∀n listed s,nM E rec ops n listed s K->nM E rec ops n listed s K'
 |0,listed,s,h=>by
  unfold nM at h⊢;split at h
  ·exact hK _ h
  ·exact h.elim
 | n +1,listed,s,h=>by
  unfold nM at h⊢;split at h
  ·exact hK _ h
  ·split at h
   ·exact dm hE hr (fun s'=>ku hE hr hK n _ s') h
   ·split at h
    ·exact dm hE hr (fun s'=>ku hE hr hK n _ s') h
    split at h
    ·exact dm hE hr (fun s'=>ku hE hr hK n _ s') h
    generalize j9 listed ops 0=l at h⊢
    have: ∀l:List (Nat×Oper),(Mj (fun i o=>dF E rec ops o s fun s'=>nM E rec ops n (gw listed i) s' K) l)->Mj (fun i o=>dF E rec ops o s fun s'=>nM E rec ops n (gw listed i) s' K') l:=by
     intro l;induction l with
     |nil=>exact id
     |cons x l ih=>
      obtain⟨i,o⟩:=x;cases l with
      |nil=>exact fun h=>dm hE hr (fun s'=>ku hE hr hK n _ s') h
      |cons y l=>exact fun h=>⟨dm hE hr (fun s'=>ku hE hr hK n _ s') h.1,ih h.2⟩
    exact this _ h
theorem JI{E}(hE:aj E){rec}(hr:eu rec) f rd base: ∀c s K K',(∀e s,K e s->K' e s)->kg E rec f rd base c s K->kg E rec f rd base c s K':=by
 intro c;induction c with
 |skip=>intro s K K' hK h;exact hK _ _ h
 |label l=>intro s K K' hK h;exact hK _ _ h
 | region id ops d=>
  intro s K K' hK h;cases d with
  |false=>
   have h:oL E rec ops.toList ops.toList s (ym (K .normal)):=h;show oL E rec ops.toList ops.toList s (ym (K' .normal))
   rw[uZ] at h⊢;exact s9 hE hr _ (hK _) h
  |true=>
   have h:nM E rec ops.toList ops.toList.length (iE ops.toList.length) s (ym (K .normal)):=h;show nM E rec ops.toList ops.toList.length (iE ops.toList.length) s (ym (K' .normal))
   rw[uZ] at h⊢;exact ku hE hr (hK _) _ _ _ h
 |seq x y ihx ihy=>
  intro s K K' hK h;refine ihx s _ _ ?_ h;intro e s' hh;cases e with
  |normal=>exact ihy s' _ _ hK hh
  |_=>exact hK _ _ hh
 |cond c x y ihx ihy=>
  intro s K K' hK h;unfold kg at h⊢;split at h<;>try exact h.elim
  rename_i t _;cases t with
  |true=>exact ihx _ _ _ hK h
  |false=>exact ihy _ _ _ hK h
 | block id c ih=>
  intro s K K' hK h;refine ih s _ _ ?_ h;intro e s' hh;cases e with
  |exit i=>
   simp only[Ag] at hh⊢;cases hb:Nat.beq i id<;>rw[hb] at hh<;>exact hK _ _ hh
  |_=>exact hK _ _ hh
 |loop c ih=>
  intro s K K' hK h;unfold kg at h⊢;split at h<;>try exact h.elim
  exact cx (fun hh=>by rw[kn] at hh⊢;exact hE.loop _ _ _ _ _ _ _ _ hK hh) h
 | rangeFunc g ps asg body iha ihb=>
  intro s K K' hK h;unfold kg at h⊢;split at h<;>try exact h.elim
  have hrk: ∀st,qE s.st.length s K st->qE s.st.length s K' st:=by
   intro st hh;unfold qE at hh⊢;split at hh<;>try exact hh.elim
   grind
  refine cx (fun hh=>?_) h;split at hh
  ·exact hE.lp _ _ _ _ _ _ _ hrk hh
  ·exact ud hr (fun _ st=>hrk st) hh
 |exit id=>intro s K K' hK h;exact hK _ _ h
 |goto l=>intro s K K' hK h;exact h.elim
 |scope c ih=>
  intro s K K' hK h;refine ih s _ _ ?_ h;intro e s' hh;cases e with
  |goto l=>exact hh.elim
  |_=>exact hK _ _ hh
 |ret=>intro s K K' hK h;exact hK _ _ h
 |refuse r=>intro s K K' hK h;exact h.elim
theorem vm{E}(a:aj E): ∀n,eu (vc E n)
 |0=>fun _ _ _ _ _ _ _ _ h=>h.elim
 |n+1=>fun f d base c s K e b h=>JI a (vm a n) f _ _ c s K _ b h
theorem zR{E}(b:aE E)(a:aj E): ∀n,fV E.P (vc E n)
 |0=>fun _ _ _ _ _ _ h=>h.elim
 |n+1=>fun f d base c s K h=>Ff b (zR b a n) (Fi b a (zR b a n) (vm a n)) f _ _ c s K h
#print axioms zR
end Go.Dn
