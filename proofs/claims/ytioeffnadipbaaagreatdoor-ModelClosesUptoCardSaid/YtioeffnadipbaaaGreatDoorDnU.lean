import Derived.Test.YtioeffnadipbaaaGreatDoorDnT3
namespace Go.Dn
open Go
theorem y5{P w a x}(h:x.run P w= .ok () a):(do x;pure Next.skip:Sem _).run P w= .ok .skip a:=by
 simp[h]
theorem di{P w a x v}(h:x.run P w= .ok v a):(do pure (Next.value (←x)):Sem _).run P w= .ok (.value v) a:=by
 simp[h]
theorem Ext.P{n C C'}(h:Ext n C C'):C'.P=C.P:=h.keeps.P
theorem yq{P c d e b p q}(h:EO P c d e b p q){k a}(j:(k,a)∈e)(i:k8 b k=false)(f:plainKey P c k=true):p k (expand P cr d a):=by
 have g:=h.1;unfold plainKey at f
 grind
theorem qy{P K k}(h:plainKey P K k=true):bj k=true:=by
 unfold plainKey at h;cases k<;>simp at h<;>rfl
theorem qt{C}(b:Inv C){x c v}(j:cq C.st x=some c)(h:Rel C x v): ∃a,a.st=cV C.st (rowsOf x)/\a.w=C.w/\a.ι=C.ι/\Inv a/\Ext C.st.length C a/\Rel a c v/\a.st.length=C.st.length:=by
 obtain⟨a,f,d,i,g,e,k⟩:=nq _ b;exact⟨_,f,d,i,g,e,pM b e.keeps d j (by omega) h,by grind [jg]⟩
theorem Stepped.skip{C C'}(hI:Inv C){s act}(hs:dr C s act){dst r K}(hr:r= .ok .skip C'.w)(hI':Inv C')(he:Ext C.st.length C C'){st}(hst:C'.st=st)(hK:K (put {s with st:=st} dst .cP)):Stepped C act dst r K:=by
 subst hst;exact Stepped.mk' hI hs (.inr ⟨hr,rfl⟩) hI' he (nE _) hK
theorem Du{C}(l:Inv C){s c}(r:dr C s c){z T p x K}
  (h:rZ C.P s T (ev s p) (ev s x) fun st=>K (put {s with st} z .cP)) {o} (ho:o.op= .store T p x):Stepped C c z ((execOp c.eval o).run C.P C.w) K:=by
 have y:=bz r p;have e:=bz r x;have n: ∀g,(Instr.storeAt T (c.eval p) (c.eval x)).run C.P C.w= .ok () g->(execOp c.eval o).run C.P C.w= .ok .skip g:=fun g h=>by
  simp only[execOp,ho];exact y5 h
 unfold rZ at h;split at h
 ·rename_i i k Y off O
  rw[O] at y;obtain⟨L,I⟩:=mw y;rw[←r.st] at h;split at h
  ·rename_i Tb a b
   split at h
   ·rename_i f
    simp only[aC6,beq_iff_eq] at f;obtain⟨⟨⟨⟨⟨⟨N,F⟩,H⟩,J⟩,q⟩,u⟩,_⟩:=f;obtain⟨d,hd⟩:=Option.isSome_iff_exists.1 u;obtain⟨rfl,_⟩:=I.2.1 Tb a b;have q:=tn _ _ _ q e.2.2;obtain⟨g,t,v,B⟩:=M3 l L b e I N F H J q hd;exact Stepped.skip l r (n g t) v B (by simp only[Ctx.eD]) h
   ·exact h.elim
  ·split at h
   ·rename_i x' Tr xs U b
    split at h
    ·rename_i f
     simp only[aC6,beq_iff_eq] at f;obtain⟨⟨⟨⟨⟨⟨N,F⟩,H⟩,J⟩,q⟩,u⟩,h7⟩:=f;obtain⟨d,hd⟩:=Option.isSome_iff_exists.1 h7;obtain⟨C1,W,f2,f3,f4,A,X,f7⟩:=qt l U e;rw[←W] at b;rw[←A.P] at N F H J q hd h;have u:=tn _ _ _ u X.2.2;have R:qS C1 i k off (c.eval p):=I.move A.keeps (A.refs i L);obtain⟨g,t,v,B⟩:=M4 f4 (by omega) b X R N F H J u q hd;rw[f2,A.P] at t;exact Stepped.skip l r (n g t) v (A.trans B (by omega)) (by simp only[Ctx.eD,W]) h
    ·exact h.elim
   ·exact h.elim
  ·rename_i Tr E ls kp b
   split at h
   ·rename_i j k' m Q
    split at h
    ·rename_i f
     obtain⟨rfl,rfl⟩:=f;obtain⟨f,hK⟩:=ai.1 h;simp only[aC6,at3] at f;obtain⟨⟨rfl,rfl⟩,hm⟩:=f;rw[Q] at e;have D:=l.obj j L;rw[b] at D;obtain⟨_,Z,_⟩:=D;have V:=l.lay T;simp only[tL,Z] at V;obtain⟨g,t,v,B⟩:=zS l L b I e hm Z V;exact Stepped.skip l r (n g t) v B (by simp only[Ctx.eD]) hK
    ·exact h.elim
   ·exact h.elim
  ·exact h.elim
 ·exact h.elim
theorem I7{b p q}(h:aq b p q):(b=true->p)/\(b=false->q):=by
 grind [aq]
theorem Px{l}(h:l=[]):Pw l=true:=by subst h;rfl
theorem sW{C T oy a d K}(h:oi C.P C.st T oy a K)(f:Rel C a d):
  oy= .const (.slice none 0 0)/\∃e p n c,C.P.underlying T=some (.slice e)/\d= .slice p n c/\K p.isNone:=by
 unfold oi at h;split at h
 ·rename_i e b
  refine⟨rfl,e,?_⟩;split at h
  ·grind [a0]
  ·rename_i k l
   obtain⟨_,p,cap,j,m,o⟩:=ou f;refine⟨p,_,cap,b,j,?_⟩;cases p<;>grind [Px]
  ·rename_i i lo n
   split at h
   ·rename_i g
    rcases KD (gw f).2 g with⟨rfl,rfl⟩|⟨q,cap,rfl⟩
    ·exact⟨none,0,0,b,rfl,h.1 rfl⟩
    ·exact⟨some q,_,_,b,rfl,h.2⟩
   ·exact h.elim
  ·exact h.elim
 ·exact h.elim
theorem vI{P} w{t e} p n c(a:P.underlying t=some (.slice e)) x y:
  (do eqGuard .eql t x y (.slice p n c) (.slice none 0 0);binOp .eql t (.slice p n c) (.slice none 0 0)).run P w= .ok (.bool p.isNone) w/\
  (do eqGuard .neq t x y (.slice p n c) (.slice none 0 0);binOp .neq t (.slice p n c) (.slice none 0 0)).run P w= .ok (.bool (!p.isNone)) w:=by
 have h: ∀d:Nat,(Op.equalIn (d+1) t (.slice p n c) (.slice none 0 0)).run P w= .ok p.isNone w:=fun d=>by
  cases p<;>simp[Op.equalIn,run_underlying a]
 simp_all[eqGuard,binOp,Op.equal,Op.maxDepth]
theorem DL {C}(f:Inv C){s X}(d:dr C s X){dst K o}(h:cy C.P s dst o.op K):Stepped C X dst ((execOp X.eval o).run C.P C.w) K:=by
 unfold cy at h;split at h
 ·
  rename_i T u;split at h
  ·rename_i z Z;exact D1 f d Z h u
  ·exact h.elim
 ·
  rename_i T x u;split at h
  ·rename_i hsol
   split at h
   ·exact LN f d (ai.1 h).1 (ai.1 h).2 u
   ·exact Li f d (tn _ _ _ hsol (bz d x).2.2) h u
  ·exact h.elim
 ·
  rename_i T p x u;exact Du f d h u
 ·
  rename_i T len parts u;split at h
  ·rename_i Te J
   split at h
   ·rename_i z Z
    split at h
    ·rename_i l is hp
     split at h
     ·rename_i R
      simp only[aC6,at3] at R;rw[←d.st] at hp h;obtain⟨C',v,A,B,F,L,g5⟩:=xh f d J Z R.2 hp R.1;refine Stepped.mk' f d (.inl ?_) F L g5 (by rw[B];exact h);simp only[execOp,u];exact di A
     ·exact h.elim
    ·exact h.elim
   ·exact h.elim
  ·exact h.elim
 ·
  rename_i T ln cp u;split at h
  ·rename_i Te n c J hn R
   split at h
   ·rename_i z Z
    obtain⟨h1,h2⟩:=ai.1 h;simp only[aC6,at3] at h1;obtain⟨⟨⟨h3,h4⟩,h5⟩,h6⟩:=h1;have e1:=l9 hn (bz d ln);have e2:=l9 R (bz d cp);have row:K (put {s with st:=s.st++[.row Te (gA z n.toNat)]} dst (.ak s.st.length 0 n.toNat))->Stepped C X dst ((execOp X.eval o).run C.P C.w) K:=fun h2=>by
     obtain⟨Q,g,A,B,F,L⟩:=zK f J Z h6 h3 h4 h5;refine Stepped.mk' f d (.inl ?_) B F L (by simpa[Ctx.add,d.st] using h2);simp only[execOp,u,e1,e2];exact di A
    unfold JI at h2;split at h2
    ·rename_i E hTe
     split at h2
     ·rename_i hc2
      obtain⟨v,Q,g,A,_,B,F,L⟩:=Cn f J hTe hc2.1 hc2.2 Z h3 h4 h5;refine Stepped.mk' f d (.inl ?_) B F L (by simpa[Ctx.add,d.st] using h2);simp only[execOp,u,e1,e2];exact di A
     ·exact row h2
    ·exact row h2
   ·exact h.elim
  ·exact h.elim
 ·
  rename_i T u;split at h
  ·rename_i Kt Vt J;exact zJ f d J h u
  ·exact h.elim
 ·
  rename_i T m k x u;split at h
  ·rename_i Kt Vt i kv v J hm hk O
   split at h
   ·rename_i K' V' es t
    split at h
    ·rename_i R
     obtain⟨rfl,rfl,h3,h4⟩:=R;have V:=bz d m;rw[hm] at V
     have U:=bz d k;rw[hk] at U
     have ek:=a0 U;obtain⟨hi,hmp⟩:=uG V;rw[←d.st] at O t h;obtain⟨C1,f1,f2,f3,f4,f5,f6,f7⟩:=qt f O (bz d x);have W:ay C1.st i= .map K' V' es:=by rw[f1];exact t
     have N:=(hmp.move (f5.refs i hi)) _ _ _ W;rw[f3] at N;rw[←f5.P] at J h3 h4;obtain⟨Q,A,B,F⟩:=zL f4 (by omega) J W h3 (iT _ _ _ _ h4 f6.2.2) f6;rw[f2,f5.P,f3] at A;refine Stepped.skip f d ?_ B (f5.trans F (by omega)) (by simp only[Ctx.eD,f1]) h;simp only[execOp,u,ek,N];exact y5 A
    ·exact h.elim
   ·exact h.elim
  ·exact h.elim
 ·
  rename_i T m k u;split at h
  ·rename_i Kt Vt i kv J hm hk
   split at h
   ·rename_i K' V' es z t Z
    split at h
    ·rename_i R
     obtain⟨rfl,rfl,h3⟩:=R;have V:=bz d m;rw[hm] at V
     have U:=bz d k;rw[hk] at U
     have ek:=a0 U;obtain⟨hi,hmp⟩:=uG V;rw[←d.st] at t h;have N:=hmp _ _ _ t;obtain⟨Q,v,A,B,F,L⟩:=Co f hi J t h3 Z;refine Stepped.mk' f d (.inl ?_) B F L (by simpa only[Ctx.eD] using h);simp only[execOp,u,ek,N];exact di A
    ·exact h.elim
   ·exact h.elim
  ·exact h.elim
 ·
  rename_i T m lZ x u;split at h
  ·rename_i Kt Vt i j kv v J hm hk O
   split at h
   ·rename_i K' V' es t
    split at h
    ·rename_i R
     obtain⟨rfl,rfl,rfl,h3,h4⟩:=R;have V:=bz d m;rw[hm] at V
     have U:=bz d lZ;rw[hk] at U
     obtain⟨hi,hmp⟩:=uG V;obtain⟨_,hsp⟩:=Uf U;rw[←d.st] at O t h;obtain⟨C1,f1,f2,f3,f4,f5,f6,f7⟩:=qt f O (bz d x);have W:ay C1.st i= .map K' V' es:=by rw[f1];exact t
     have N:=(hmp.move (f5.refs i hi)) _ _ _ W;rw[f3] at N;rw[←f5.P] at h3 h4;obtain⟨Q,A,B,F⟩:=xu (T:=T) f4 (by omega) W h3 (iT _ _ _ _ h4 f6.2.2) f6 (hsp.move (f5.refs i hi));rw[f2,f5.P,f3] at A;refine Stepped.skip f d ?_ B (f5.trans F (by omega)) (by simp only[Ctx.eD,f1]) h;simp only[execOp,u,N];exact y5 A
    ·exact h.elim
   ·exact h.elim
  ·exact h.elim
 ·
  rename_i T x u;split at h
  ·rename_i Kt Vt i J O
   split at h
   ·rename_i K' V' es t
    have r:=bz d x;rw[O] at r
    obtain⟨hi,hmp⟩:=uG r;rw[←d.st] at t h;have N:=hmp _ _ _ t;obtain⟨Q,A,B,F,L⟩:=Ms f hi t J;refine Stepped.mk' f d (.inl ?_) B F L h;simp only[execOp,u,N];exact di A
   ·exact h.elim
  ·rename_i Kt' Vt' Kt Vt ks vs J O
   have r:=bz d x;rw[O] at r
   rw[←d.st] at h;obtain⟨Q,A,B,F,L⟩:=Mq f r J;refine Stepped.mk' f d (.inl ?_) B F L h;simp only[execOp,u];exact di A
  ·rename_i Kt Vt J O
   have r:=bz d x;rw[O] at r
   have N:=a0 r;rw[←d.st] at h;obtain⟨Q,A,B,F,L⟩:=Mr f J;refine Stepped.mk' f d (.inl ?_) B F L h;simp only[execOp,u,N];exact di A
  ·rename_i b J O
   have r:=bz d x;rw[O] at r
   have N:=a0 r;rw[←d.st] at h;obtain⟨Q,A,B,F,L⟩:=Mt f J b;refine Stepped.mk' f d (.inl ?_) B F L h;simp only[execOp,u,N];exact di A
  ·exact h.elim
 ·
  rename_i it u;split at h
  ·rename_i j p O
   have r:=bz d it;rw[O] at r
   obtain⟨hj,hp⟩:=mw r;split at h
   ·rename_i i n ks D
    rw[←d.st] at D;have N:=hp.2.2.1 _ _ _ D;split at h
    ·rename_i Kt Vt es t
     rw[←d.st] at t;obtain⟨hn,hN⟩:=ai.1 h;have hn:=Nat.eq_of_beq_eq_true hn;rcases Pu f hj D t hn o.type with⟨A,B⟩|⟨k,a,v,Q,A,B,F,L,g5,g6,g7,g8⟩
     ·refine Stepped.mk' f d (.inl ?_) f (Ext.refl C (Nat.le_refl _)) (x:= .aH [.lit (.bool false)]) (v:= .tuple #[.bool false]) ?_ ?_
      ·simp only[execOp,u,N];exact di B
      ·refine cU ?_
       simp only[MT];exact⟨.inl rfl, .inl rfl,(a9 rfl).2.2,trivial⟩
      ·have:=hN.2 A
       rw[d.st];exact this
     ·obtain⟨I,hpe⟩:=fm g5 g7 g8
      refine Stepped.mk' f d (.inl ?_) g5 g6 (x:= .aH [.lit (.bool true), .lit k,expand C.P cr Vt a]) (v:= .tuple #[.bool true,k,v]) ?_ ?_
      ·simp only[execOp,u,N];exact di L
      ·have H:Rel (C.eD j (.iter i n (k::ks)) Q) (.lit k) k:=a9 (qy F)
       refine cU ?_;simp only[MT];exact⟨.inl rfl, .inl rfl,(a9 rfl).2.2,H.1,H.2.1,H.2.2,I.1,I.2.1,I.2.2,trivial⟩
      ·have:=yq hN A B F
       rw[←d.st] at this;simpa only[Ctx.eD] using this
    ·split at h
     ·refine Stepped.mk' f d (.inl ?_) f (Ext.refl C (Nat.le_refl _)) (x:= .aH [.lit (.bool false)]) (v:= .tuple #[.bool false]) ?_ ?_
      ·simp only[execOp,u,N];exact di (Pt f hj D o.type)
      ·refine cU ?_
       simp only[MT];exact⟨.inl rfl, .inl rfl,(a9 rfl).2.2,trivial⟩
      ·rw[d.st];exact h
     ·exact h.elim
   ·rename_i Kt Vt ks vs met D
    rw[←d.st] at D;have N:=hp.2.2.2.2.1 _ _ _ _ _ D;rcases Ps f hj D o.type with⟨A,B⟩|⟨k,a,v,Q,A,B,F,L,g5,g6,g7,g8⟩
    ·refine Stepped.mk' f d (.inl ?_) f (Ext.refl C (Nat.le_refl _)) (x:= .aH [.lit (.bool false)]) (v:= .tuple #[.bool false]) ?_ ?_
     ·simp only[execOp,u,N];exact di B
     ·refine cU ?_
      simp only[MT];exact⟨.inl rfl, .inl rfl,(a9 rfl).2.2,trivial⟩
     ·have:=h.2 A
      rw[d.st];exact this
    ·obtain⟨I,hpe⟩:=fm g5 g7 g8
     refine Stepped.mk' f d (.inl ?_) g5 g6 (x:= .aH [.lit (.bool true), .lit k,expand C.P cr Vt a]) (v:= .tuple #[.bool true,k,v]) ?_ ?_
     ·simp only[execOp,u,N];exact di L
     ·have H:Rel (C.eD j (.fit Kt Vt ks vs (k::met)) Q) (.lit k) k:=a9 (qy F)
      refine cU ?_;simp only[MT];exact⟨.inl rfl, .inl rfl,(a9 rfl).2.2,H.1,H.2.1,H.2.2,I.1,I.2.1,I.2.2,trivial⟩
     ·have:=yq h A B F
      rw[←d.st] at this;simpa only[Ctx.eD] using this
   ·exact h.elim
  ·exact h.elim
 ·
  rename_i it u;split at h
  ·rename_i j p O
   have r:=bz d it;rw[O] at r
   obtain⟨hj,hp⟩:=mw r;split at h
   ·rename_i b q D
    rw[←d.st] at D;have N:=hp.2.2.2.1 _ _ D;obtain⟨h1,h2⟩:=(show _/\_ from I7 h)
    obtain⟨f1,f2⟩:=Pv f hj D o.type;by_cases hq:q<b.size
    ·obtain⟨Q,A,B,F⟩:=f1 hq
     refine Stepped.mk' f d (.inl ?_) B F (x:= .aH [.lit (.bool true), .lit (.int .i64 q), .lit (.int .i32 (Utf8.decode b q).1)]) (v:= .tuple #[.bool true, .int .i64 q, .int .i32 (Utf8.decode b q).1]) ?_ ?_
     ·simp only[execOp,u,N];exact di A
     ·refine cU ?_
      simp only[MT];exact⟨.inl rfl, .inl rfl,(a9 rfl).2.2, .inl rfl, .inl rfl,(a9 rfl).2.2, .inl rfl, .inl rfl,(a9 rfl).2.2,trivial⟩
     ·have:=h1 (by simpa using hq)
      simpa only[Ctx.eD,d.st] using this
    ·refine Stepped.mk' f d (.inl ?_) f (Ext.refl C (Nat.le_refl _)) (x:= .aH [.lit (.bool false)]) (v:= .tuple #[.bool false]) ?_ ?_
     ·simp only[execOp,u,N];exact di (f2 hq)
     ·refine cU ?_
      simp only[MT];exact⟨.inl rfl, .inl rfl,(a9 rfl).2.2,trivial⟩
     ·rw[d.st];exact h2 (by cases hb':Nat.blt q b.size with|false=>rfl|true=>exact absurd (by simpa[Nat.blt_eq] using hb') hq)
   ·exact h.elim
  ·exact h.elim
 ·
  rename_i T x y yT u;rw[←d.st] at h;obtain⟨ey,e,p,n,c,J,ev,hK⟩:=sW h (bz d x);refine Stepped.mk' f d (.inl ?_) f (Ext.refl C (Nat.le_refl _)) (a9 rfl) (by rw[d.st];exact hK);have:=(vI C.w p n c J x y).1
  subst ey;simp only[execOp,u,ev];exact cB this
 ·
  rename_i T x y yT u;rw[←d.st] at h;obtain⟨ey,e,p,n,c,J,ev,hK⟩:=sW h (bz d x);refine Stepped.mk' f d (.inl ?_) f (Ext.refl C (Nat.le_refl _)) (a9 rfl) (by rw[d.st];exact hK);have:=(vI C.w p n c J x y).2
  subst ey;simp only[execOp,u,ev];exact cB this
 ·
  rename_i Y ts u;split at h
  ·rename_i i lo n T hev hts
   split at h
   ·rename_i Te Tr xs J t
    split at h
    ·rename_i z Z
     split at h
     ·rename_i R
      obtain⟨rfl,hpos⟩:=R;rw[←d.st] at t h;obtain⟨ox,O,ex⟩:=Jd hev;have ha:Y= #[ox]:=by rw[←Array.toArray_toList (xs:=Y),O]
      have hts':ts= #[T]:=by rw[←Array.toArray_toList (xs:=ts),hts]
      subst ha;subst hts'
      have r:=bz d ox;rw[ex] at r;obtain⟨hi,hsl⟩:=gw r;obtain⟨Q,A,B,F⟩:=Lm (ty:=o.type) f hi J t Z hpos hsl;refine Stepped.mk' f d (.inl ?_) B F (x:= .aH []) (v:= .tuple #[]) (cU (by simp only[MT])) (by simpa only[Ctx.eD] using h);simp[execOp,u,resolve,invoke,builtin,A,Ctx.eD]
     ·exact h.elim
    ·exact h.elim
   ·exact h.elim
  ·exact h.elim
 ·
  rename_i it u;split at h
  ·rename_i j p O
   have r:=bz d it;rw[O] at r
   obtain⟨hj,hp⟩:=mw r;split at h
   ·rename_i i n k ks D
    rw[←d.st] at D;have N:=hp.2.2.1 _ _ _ D;split at h
    ·rename_i Kt Vt es t
     rw[←d.st] at t;split at h
     ·rename_i z Z
      obtain⟨hn,h1⟩:=ai.1 h;have hn:=Nat.eq_of_beq_eq_true hn;obtain⟨v,A,B,F,L⟩:=Lu f hj D t hn z;obtain⟨I,hpe⟩:=fm f F L;refine Stepped.mk' f d (.inl ?_) f (Ext.refl C (Nat.le_refl _)) (x:= .aH [.lit k,expand C.P cr Vt (dj es k z)]) (v:= .tuple #[k,v]) ?_ ?_
      ·simp only[execOp,u,N];exact di A
      ·have H:Rel C (.lit k) k:=a9 (qy B)
       refine cU ?_;simp only[MT];exact⟨H.1,H.2.1,H.2.2,I.1,I.2.1,I.2.2,trivial⟩
      ·rw[d.st];exact h1
     ·exact h.elim
    ·exact h.elim
   ·rename_i Kt Vt ks vs k met D
    rw[←d.st] at D;have N:=hp.2.2.2.2.1 _ _ _ _ _ D;split at h
    ·rename_i z Z
     obtain⟨v,A,B,F,L⟩:=Ls f hj D z;obtain⟨I,hpe⟩:=fm f F L;refine Stepped.mk' f d (.inl ?_) f (Ext.refl C (Nat.le_refl _)) (x:= .aH [.lit k,expand C.P cr Vt (dj (ks.zip vs) k z)]) (v:= .tuple #[k,v]) ?_ ?_
     ·simp only[execOp,u,N];exact di A
     ·have H:Rel C (.lit k) k:=a9 (qy B)
      refine cU ?_;simp only[MT];exact⟨H.1,H.2.1,H.2.2,I.1,I.2.1,I.2.2,trivial⟩
     ·rw[d.st];exact h
    ·exact h.elim
   ·exact h.elim
  ·exact h.elim
 ·
  rename_i Y ts u;split at h
  ·rename_i x y T T' hev hts
   split at h
   ·rename_i hTT
    subst hTT;obtain⟨ox,oy,hxy,rfl,rfl⟩:=BO hev;have ha:Y= #[ox,oy]:=by rw[←Array.toArray_toList (xs:=Y),hxy]
    have hts':ts= #[T,T]:=by rw[←Array.toArray_toList (xs:=ts),hts]
    subst ha;subst hts'
    have r:=bz d ox;have hry:=bz d oy;have fin: ∀v Q,(Builtin.append_ #[T,T] o.type #[X.eval ox,X.eval oy]).run C.P C.w= .ok v Q->(execOp X.eval o).run C.P C.w= .ok (.value v) Q:=fun v Q h=>by
     simp[execOp,u,resolve,invoke,builtin,h]
    unfold qi at h;rw[←d.st] at h;split at h
    ·rename_i Te J
     split at h
     ·rename_i Ty ys z hy Z
      split at h
      ·exact h.elim
      ·rename_i R
       simp only[aC6,at3] at R;split at h
       ·rename_i hex
        rw[hex] at r;have ex:=a0 r;obtain⟨hb,hK⟩:=ai.1 h;simp only[at3] at hb;obtain⟨v',Q,g,A,B,F,L⟩:=xd (ty:=o.type) f J hy R.1 hry Z hb;exact Stepped.mk' f d (.inl (fin _ _ (by rw[ex];exact A))) B F L (by simpa[Ctx.add] using hK)
       ·rename_i i lo n hex
        rw[hex] at r;split at h
        ·rename_i Tr xs t
         split at h
         ·rename_i hc2
          obtain⟨rfl,rfl⟩:=hc2;obtain⟨hb,hK⟩:=ai.1 h;simp only[at3] at hb;obtain⟨v',Q,g,A,B,F,L⟩:=xe (ty:=o.type) f J t r hy R.1 hry Z hb;exact Stepped.mk' f d (.inl (fin _ _ A)) B F L (by simpa only[Ctx.app] using hK)
         ·exact h.elim
        ·rename_i Tr E ls t
         split at h
         ·rename_i k vs hvs
          split at h
          ·rename_i hc2
           obtain⟨rfl,_⟩:=hc2;obtain⟨hb,hK⟩:=ai.1 h;simp only[aC6,at3] at hb;obtain⟨v',C',A,B,F,L,g5⟩:=xf (ty:=o.type) f J t r hy R.1 hry hvs Z hb.1 hb.2;exact Stepped.mk' f d (.inl (fin _ _ A)) F L g5 (by rw[B];exact hK)
          ·exact h.elim
         ·exact h.elim
        ·exact h.elim
       ·exact h.elim
     ·exact h.elim
    ·exact h.elim
   ·exact h.elim
  ·exact h.elim
 ·exact h.elim
end Go.Dn
