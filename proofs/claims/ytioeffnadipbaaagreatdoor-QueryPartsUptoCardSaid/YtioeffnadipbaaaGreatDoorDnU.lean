import Derived.Test.YtioeffnadipbaaaGreatDoorDnT3
namespace Go.Dn
open Go
theorem xU{P w a x}(h:x.run P w= .ok () a):(do x;pure Next.skip:Sem _).run P w= .ok .skip a:=by
 simp[h]
theorem dg{P w a x v}(h:x.run P w= .ok v a):(do pure (Next.value (←x)):Sem _).run P w= .ok (.value v) a:=by
 simp[h]
theorem Ext.P{n C C'}(h:Ext n C C'):C'.P=C.P:=h.keeps.P
theorem xe{P c d e b p q}(h:uI P c d e b p q){k a}(j:(k,a)∈e)(i:r8 b k=false)(f:plainKey P c k=true):p k (expand P cd d a):=by
 have g:=h.1;unfold plainKey at f
 grind
theorem pV{P K k}(h:plainKey P K k=true):bg k=true:=by
 unfold plainKey at h;cases k<;>simp at h<;>rfl
theorem pT{C}(b:Inv C){x c v}(j:b9 C.st x=some c)(h:Rel C x v): ∃a,a.st=cQ C.st (rowsOf x)/\a.w=C.w/\a.ι=C.ι/\Inv a/\Ext C.st.length C a/\Rel a c v/\a.st.length=C.st.length:=by
 obtain⟨a,f,d,i,g,e,k⟩:=mI _ b;exact⟨_,f,d,i,g,e,o7 b e.keeps d j (by omega) h,by grind [iD]⟩
theorem Stepped.skip{C C'}(hI:Inv C){s act}(hs:dh C s act){dst r K}(hr:r= .ok .skip C'.w)(hI':Inv C')(he:Ext C.st.length C C'){st}(hst:C'.st=st)(hK:K (put {s with st:=st} dst .cK)):Stepped C act dst r K:=by
 subst hst;exact Stepped.mk' hI hs (.inr ⟨hr,rfl⟩) hI' he (mQ _) hK
theorem BT{C}(l:Inv C){s c}(r:dh C s c){z T p x K}
  (h:rC C.P s T (ev s p) (ev s x) fun st=>K (put {s with st} z .cK)) {o} (ho:o.op= .store T p x):Stepped C c z ((execOp c.eval o).run C.P C.w) K:=by
 have y:=bo r p;have e:=bo r x;have n: ∀g,(Instr.storeAt T (c.eval p) (c.eval x)).run C.P C.w= .ok () g->(execOp c.eval o).run C.P C.w= .ok .skip g:=fun g h=>by
  simp only[execOp,ho];exact xU h
 unfold rC at h;split at h
 ·rename_i i k Y off O
  rw[O] at y;obtain⟨L,I⟩:=lW y;rw[←r.st] at h;split at h
  ·rename_i Tb a b
   split at h
   ·rename_i f
    simp only[an3,beq_iff_eq] at f;obtain⟨⟨⟨⟨⟨⟨N,F⟩,H⟩,J⟩,q⟩,u⟩,_⟩:=f;obtain⟨d,hd⟩:=Option.isSome_iff_exists.1 u;obtain⟨rfl,_⟩:=I.2.1 Tb a b;have q:=sL _ _ _ q e.2.2;obtain⟨g,t,v,B⟩:=Kr l L b e I N F H J q hd;exact Stepped.skip l r (n g t) v B (by simp only[Ctx.dR]) h
   ·exact h.elim
  ·split at h
   ·rename_i x' Tr xs U b
    split at h
    ·rename_i f
     simp only[an3,beq_iff_eq] at f;obtain⟨⟨⟨⟨⟨⟨N,F⟩,H⟩,J⟩,q⟩,u⟩,h7⟩:=f;obtain⟨d,hd⟩:=Option.isSome_iff_exists.1 h7;obtain⟨C1,W,f2,f3,f4,A,X,f7⟩:=pT l U e;rw[←W] at b;rw[←A.P] at N F H J q hd h;have u:=sL _ _ _ u X.2.2;have R:ql C1 i k off (c.eval p):=I.move A.keeps (A.refs i L);obtain⟨g,t,v,B⟩:=Ks f4 (by omega) b X R N F H J u q hd;rw[f2,A.P] at t;exact Stepped.skip l r (n g t) v (A.trans B (by omega)) (by simp only[Ctx.dR,W]) h
    ·exact h.elim
   ·exact h.elim
  ·rename_i Tr E ls kp b
   split at h
   ·rename_i j k' m Q
    split at h
    ·rename_i f
     obtain⟨rfl,rfl⟩:=f;obtain⟨f,hK⟩:=ai.1 h;simp only[an3,an2] at f;obtain⟨⟨rfl,rfl⟩,hm⟩:=f;rw[Q] at e;have D:=l.obj j L;rw[b] at D;obtain⟨_,Z,_⟩:=D;have V:=l.lay T;simp only[s7,Z] at V;obtain⟨g,t,v,B⟩:=yE l L b I e hm Z V;exact Stepped.skip l r (n g t) v B (by simp only[Ctx.dR]) hK
    ·exact h.elim
   ·exact h.elim
  ·exact h.elim
 ·exact h.elim
theorem GC{b p q}(h:an b p q):(b=true->p)/\(b=false->q):=by
 grind [an]
theorem Mz{l}(h:l=[]):My l=true:=by subst h;rfl
theorem sn{C T oy a d K}(h:nI C.P C.st T oy a K)(f:Rel C a d):
  oy= .const (.slice none 0 0)/\∃e p n c,C.P.underlying T=some (.slice e)/\d= .slice p n c/\K p.isNone:=by
 unfold nI at h;split at h
 ·rename_i e b
  refine⟨rfl,e,?_⟩;split at h
  ·grind [aL]
  ·rename_i k l
   obtain⟨_,p,cap,j,m,o⟩:=nM f;refine⟨p,_,cap,b,j,?_⟩;cases p<;>grind [Mz]
  ·rename_i i lo n
   split at h
   ·rename_i g
    rcases HV (gj f).2 g with⟨rfl,rfl⟩|⟨q,cap,rfl⟩
    ·exact⟨none,0,0,b,rfl,h.1 rfl⟩
    ·exact⟨some q,_,_,b,rfl,h.2⟩
   ·exact h.elim
  ·exact h.elim
 ·exact h.elim
theorem uQ{P} w{t e} p n c(a:P.underlying t=some (.slice e)) x y:
  (do eqGuard .eql t x y (.slice p n c) (.slice none 0 0);binOp .eql t (.slice p n c) (.slice none 0 0)).run P w= .ok (.bool p.isNone) w/\
  (do eqGuard .neq t x y (.slice p n c) (.slice none 0 0);binOp .neq t (.slice p n c) (.slice none 0 0)).run P w= .ok (.bool (!p.isNone)) w:=by
 have h: ∀d:Nat,(Op.equalIn (d+1) t (.slice p n c) (.slice none 0 0)).run P w= .ok p.isNone w:=fun d=>by
  cases p<;>simp[Op.equalIn,run_underlying a]
 simp_all[eqGuard,binOp,Op.equal,Op.maxDepth]
theorem B5 {C}(f:Inv C){s X}(d:dh C s X){dst K o}(h:cm C.P s dst o.op K):Stepped C X dst ((execOp X.eval o).run C.P C.w) K:=by
 unfold cm at h;split at h
 ·
  rename_i T u;split at h
  ·rename_i z Z;exact Ch f d Z h u
  ·exact h.elim
 ·
  rename_i T x u;split at h
  ·rename_i hsol
   split at h
   ·exact Jj f d (ai.1 h).1 (ai.1 h).2 u
   ·exact IT f d (sL _ _ _ hsol (bo d x).2.2) h u
  ·exact h.elim
 ·
  rename_i T p x u;exact BT f d h u
 ·
  rename_i T len parts u;split at h
  ·rename_i Te J
   split at h
   ·rename_i z Z
    split at h
    ·rename_i l is hp
     split at h
     ·rename_i R
      simp only[an3,an2] at R;rw[←d.st] at hp h;obtain⟨C',v,A,B,F,L,g5⟩:=v5 f d J Z R.2 hp R.1;refine Stepped.mk' f d (.inl ?_) F L g5 (by rw[B];exact h);simp only[execOp,u];exact dg A
     ·exact h.elim
    ·exact h.elim
   ·exact h.elim
  ·exact h.elim
 ·
  rename_i T ln cp u;split at h
  ·rename_i Te n c J hn R
   split at h
   ·rename_i z Z
    obtain⟨h1,h2⟩:=ai.1 h;simp only[an3,an2] at h1;obtain⟨⟨⟨h3,h4⟩,h5⟩,h6⟩:=h1;have e1:=lI hn (bo d ln);have e2:=lI R (bo d cp);have row:K (put {s with st:=s.st++[.row Te (gm z n.toNat)]} dst (.ax s.st.length 0 n.toNat))->Stepped C X dst ((execOp X.eval o).run C.P C.w) K:=fun h2=>by
     obtain⟨Q,g,A,B,F,L⟩:=yw f J Z h6 h3 h4 h5;refine Stepped.mk' f d (.inl ?_) B F L (by simpa[Ctx.add,d.st] using h2);simp only[execOp,u,e1,e2];exact dg A
    unfold He at h2;split at h2
    ·rename_i E hTe
     split at h2
     ·rename_i hc2
      obtain⟨v,Q,g,A,_,B,F,L⟩:=A1 f J hTe hc2.1 hc2.2 Z h3 h4 h5;refine Stepped.mk' f d (.inl ?_) B F L (by simpa[Ctx.add,d.st] using h2);simp only[execOp,u,e1,e2];exact dg A
     ·exact row h2
    ·exact row h2
   ·exact h.elim
  ·exact h.elim
 ·
  rename_i T u;split at h
  ·rename_i Kt Vt J;exact yt f d J h u
  ·exact h.elim
 ·
  rename_i T m k x u;split at h
  ·rename_i Kt Vt i kv v J hm hk O
   split at h
   ·rename_i K' V' es t
    split at h
    ·rename_i R
     obtain⟨rfl,rfl,h3,h4⟩:=R;have V:=bo d m;rw[hm] at V
     have U:=bo d k;rw[hk] at U
     have ek:=aL U;obtain⟨hi,hmp⟩:=tP V;rw[←d.st] at O t h;obtain⟨C1,f1,f2,f3,f4,f5,f6,f7⟩:=pT f O (bo d x);have W:au C1.st i= .map K' V' es:=by rw[f1];exact t
     have N:=(hmp.move (f5.refs i hi)) _ _ _ W;rw[f3] at N;rw[←f5.P] at J h3 h4;obtain⟨Q,A,B,F⟩:=yx f4 (by omega) J W h3 (iq _ _ _ _ h4 f6.2.2) f6;rw[f2,f5.P,f3] at A;refine Stepped.skip f d ?_ B (f5.trans F (by omega)) (by simp only[Ctx.dR,f1]) h;simp only[execOp,u,ek,N];exact xU A
    ·exact h.elim
   ·exact h.elim
  ·exact h.elim
 ·
  rename_i T m k u;split at h
  ·rename_i Kt Vt i kv J hm hk
   split at h
   ·rename_i K' V' es z t Z
    split at h
    ·rename_i R
     obtain⟨rfl,rfl,h3⟩:=R;have V:=bo d m;rw[hm] at V
     have U:=bo d k;rw[hk] at U
     have ek:=aL U;obtain⟨hi,hmp⟩:=tP V;rw[←d.st] at t h;have N:=hmp _ _ _ t;obtain⟨Q,v,A,B,F,L⟩:=A2 f hi J t h3 Z;refine Stepped.mk' f d (.inl ?_) B F L (by simpa only[Ctx.dR] using h);simp only[execOp,u,ek,N];exact dg A
    ·exact h.elim
   ·exact h.elim
  ·exact h.elim
 ·
  rename_i T m lC x u;split at h
  ·rename_i Kt Vt i j kv v J hm hk O
   split at h
   ·rename_i K' V' es t
    split at h
    ·rename_i R
     obtain⟨rfl,rfl,rfl,h3,h4⟩:=R;have V:=bo d m;rw[hm] at V
     have U:=bo d lC;rw[hk] at U
     obtain⟨hi,hmp⟩:=tP V;obtain⟨_,hsp⟩:=QB U;rw[←d.st] at O t h;obtain⟨C1,f1,f2,f3,f4,f5,f6,f7⟩:=pT f O (bo d x);have W:au C1.st i= .map K' V' es:=by rw[f1];exact t
     have N:=(hmp.move (f5.refs i hi)) _ _ _ W;rw[f3] at N;rw[←f5.P] at h3 h4;obtain⟨Q,A,B,F⟩:=wi (T:=T) f4 (by omega) W h3 (iq _ _ _ _ h4 f6.2.2) f6 (hsp.move (f5.refs i hi));rw[f2,f5.P,f3] at A;refine Stepped.skip f d ?_ B (f5.trans F (by omega)) (by simp only[Ctx.dR,f1]) h;simp only[execOp,u,N];exact xU A
    ·exact h.elim
   ·exact h.elim
  ·exact h.elim
 ·
  rename_i T x u;split at h
  ·rename_i Kt Vt i J O
   split at h
   ·rename_i K' V' es t
    have r:=bo d x;rw[O] at r
    obtain⟨hi,hmp⟩:=tP r;rw[←d.st] at t h;have N:=hmp _ _ _ t;obtain⟨Q,A,B,F,L⟩:=JV f hi t J;refine Stepped.mk' f d (.inl ?_) B F L h;simp only[execOp,u,N];exact dg A
   ·exact h.elim
  ·rename_i Kt' Vt' Kt Vt ks vs J O
   have r:=bo d x;rw[O] at r
   rw[←d.st] at h;obtain⟨Q,A,B,F,L⟩:=JT f r J;refine Stepped.mk' f d (.inl ?_) B F L h;simp only[execOp,u];exact dg A
  ·rename_i Kt Vt J O
   have r:=bo d x;rw[O] at r
   have N:=aL r;rw[←d.st] at h;obtain⟨Q,A,B,F,L⟩:=JU f J;refine Stepped.mk' f d (.inl ?_) B F L h;simp only[execOp,u,N];exact dg A
  ·rename_i b J O
   have r:=bo d x;rw[O] at r
   have N:=aL r;rw[←d.st] at h;obtain⟨Q,A,B,F,L⟩:=JW f J b;refine Stepped.mk' f d (.inl ?_) B F L h;simp only[execOp,u,N];exact dg A
  ·exact h.elim
 ·
  rename_i it u;split at h
  ·rename_i j p O
   have r:=bo d it;rw[O] at r
   obtain⟨hj,hp⟩:=lW r;split at h
   ·rename_i i n ks D
    rw[←d.st] at D;have N:=hp.2.2.1 _ _ _ D;split at h
    ·rename_i Kt Vt es t
     rw[←d.st] at t;obtain⟨hn,hN⟩:=ai.1 h;have hn:=Nat.eq_of_beq_eq_true hn;rcases Mw f hj D t hn o.type with⟨A,B⟩|⟨k,a,v,Q,A,B,F,L,g5,g6,g7,g8⟩
     ·refine Stepped.mk' f d (.inl ?_) f (Ext.refl C (Nat.le_refl _)) (x:= .aK [.lit (.bool false)]) (v:= .tuple #[.bool false]) ?_ ?_
      ·simp only[execOp,u,N];exact dg B
      ·refine cM ?_
       simp only[MT];exact⟨.inl rfl, .inl rfl,(aW rfl).2.2,trivial⟩
      ·have:=hN.2 A
       rw[d.st];exact this
     ·obtain⟨I,hpe⟩:=eR g5 g7 g8
      refine Stepped.mk' f d (.inl ?_) g5 g6 (x:= .aK [.lit (.bool true), .lit k,expand C.P cd Vt a]) (v:= .tuple #[.bool true,k,v]) ?_ ?_
      ·simp only[execOp,u,N];exact dg L
      ·have H:Rel (C.dR j (.iter i n (k::ks)) Q) (.lit k) k:=aW (pV F)
       refine cM ?_;simp only[MT];exact⟨.inl rfl, .inl rfl,(aW rfl).2.2,H.1,H.2.1,H.2.2,I.1,I.2.1,I.2.2,trivial⟩
      ·have:=xe hN A B F
       rw[←d.st] at this;simpa only[Ctx.dR] using this
    ·split at h
     ·refine Stepped.mk' f d (.inl ?_) f (Ext.refl C (Nat.le_refl _)) (x:= .aK [.lit (.bool false)]) (v:= .tuple #[.bool false]) ?_ ?_
      ·simp only[execOp,u,N];exact dg (Mv f hj D o.type)
      ·refine cM ?_
       simp only[MT];exact⟨.inl rfl, .inl rfl,(aW rfl).2.2,trivial⟩
      ·rw[d.st];exact h
     ·exact h.elim
   ·rename_i Kt Vt ks vs met D
    rw[←d.st] at D;have N:=hp.2.2.2.2.1 _ _ _ _ _ D;rcases Mu f hj D o.type with⟨A,B⟩|⟨k,a,v,Q,A,B,F,L,g5,g6,g7,g8⟩
    ·refine Stepped.mk' f d (.inl ?_) f (Ext.refl C (Nat.le_refl _)) (x:= .aK [.lit (.bool false)]) (v:= .tuple #[.bool false]) ?_ ?_
     ·simp only[execOp,u,N];exact dg B
     ·refine cM ?_
      simp only[MT];exact⟨.inl rfl, .inl rfl,(aW rfl).2.2,trivial⟩
     ·have:=h.2 A
      rw[d.st];exact this
    ·obtain⟨I,hpe⟩:=eR g5 g7 g8
     refine Stepped.mk' f d (.inl ?_) g5 g6 (x:= .aK [.lit (.bool true), .lit k,expand C.P cd Vt a]) (v:= .tuple #[.bool true,k,v]) ?_ ?_
     ·simp only[execOp,u,N];exact dg L
     ·have H:Rel (C.dR j (.fit Kt Vt ks vs (k::met)) Q) (.lit k) k:=aW (pV F)
      refine cM ?_;simp only[MT];exact⟨.inl rfl, .inl rfl,(aW rfl).2.2,H.1,H.2.1,H.2.2,I.1,I.2.1,I.2.2,trivial⟩
     ·have:=xe h A B F
      rw[←d.st] at this;simpa only[Ctx.dR] using this
   ·exact h.elim
  ·exact h.elim
 ·
  rename_i it u;split at h
  ·rename_i j p O
   have r:=bo d it;rw[O] at r
   obtain⟨hj,hp⟩:=lW r;split at h
   ·rename_i b q D
    rw[←d.st] at D;have N:=hp.2.2.2.1 _ _ D;obtain⟨h1,h2⟩:=(show _/\_ from GC h)
    obtain⟨f1,f2⟩:=Mx f hj D o.type;by_cases hq:q<b.size
    ·obtain⟨Q,A,B,F⟩:=f1 hq
     refine Stepped.mk' f d (.inl ?_) B F (x:= .aK [.lit (.bool true), .lit (.int .i64 q), .lit (.int .i32 (Utf8.decode b q).1)]) (v:= .tuple #[.bool true, .int .i64 q, .int .i32 (Utf8.decode b q).1]) ?_ ?_
     ·simp only[execOp,u,N];exact dg A
     ·refine cM ?_
      simp only[MT];exact⟨.inl rfl, .inl rfl,(aW rfl).2.2, .inl rfl, .inl rfl,(aW rfl).2.2, .inl rfl, .inl rfl,(aW rfl).2.2,trivial⟩
     ·have:=h1 (by simpa using hq)
      simpa only[Ctx.dR,d.st] using this
    ·refine Stepped.mk' f d (.inl ?_) f (Ext.refl C (Nat.le_refl _)) (x:= .aK [.lit (.bool false)]) (v:= .tuple #[.bool false]) ?_ ?_
     ·simp only[execOp,u,N];exact dg (f2 hq)
     ·refine cM ?_
      simp only[MT];exact⟨.inl rfl, .inl rfl,(aW rfl).2.2,trivial⟩
     ·rw[d.st];exact h2 (by cases hb':Nat.blt q b.size with|false=>rfl|true=>exact absurd (by simpa[Nat.blt_eq] using hb') hq)
   ·exact h.elim
  ·exact h.elim
 ·
  rename_i T x y yT u;rw[←d.st] at h;obtain⟨ey,e,p,n,c,J,ev,hK⟩:=sn h (bo d x);refine Stepped.mk' f d (.inl ?_) f (Ext.refl C (Nat.le_refl _)) (aW rfl) (by rw[d.st];exact hK);have:=(uQ C.w p n c J x y).1
  subst ey;simp only[execOp,u,ev];exact ct this
 ·
  rename_i T x y yT u;rw[←d.st] at h;obtain⟨ey,e,p,n,c,J,ev,hK⟩:=sn h (bo d x);refine Stepped.mk' f d (.inl ?_) f (Ext.refl C (Nat.le_refl _)) (aW rfl) (by rw[d.st];exact hK);have:=(uQ C.w p n c J x y).2
  subst ey;simp only[execOp,u,ev];exact ct this
 ·
  rename_i Y ts u;split at h
  ·rename_i i lo n T hev hts
   split at h
   ·rename_i Te Tr xs J t
    split at h
    ·rename_i z Z
     split at h
     ·rename_i R
      obtain⟨rfl,hpos⟩:=R;rw[←d.st] at t h;obtain⟨ox,O,ex⟩:=GK hev;have ha:Y= #[ox]:=by rw[←Array.toArray_toList (xs:=Y),O]
      have hts':ts= #[T]:=by rw[←Array.toArray_toList (xs:=ts),hts]
      subst ha;subst hts'
      have r:=bo d ox;rw[ex] at r;obtain⟨hi,hsl⟩:=gj r;obtain⟨Q,A,B,F⟩:=IX (ty:=o.type) f hi J t Z hpos hsl;refine Stepped.mk' f d (.inl ?_) B F (x:= .aK []) (v:= .tuple #[]) (cM (by simp only[MT])) (by simpa only[Ctx.dR] using h);simp[execOp,u,resolve,invoke,builtin,A,Ctx.dR]
     ·exact h.elim
    ·exact h.elim
   ·exact h.elim
  ·exact h.elim
 ·
  rename_i it u;split at h
  ·rename_i j p O
   have r:=bo d it;rw[O] at r
   obtain⟨hj,hp⟩:=lW r;split at h
   ·rename_i i n k ks D
    rw[←d.st] at D;have N:=hp.2.2.1 _ _ _ D;split at h
    ·rename_i Kt Vt es t
     rw[←d.st] at t;split at h
     ·rename_i z Z
      obtain⟨hn,h1⟩:=ai.1 h;have hn:=Nat.eq_of_beq_eq_true hn;obtain⟨v,A,B,F,L⟩:=I6 f hj D t hn z;obtain⟨I,hpe⟩:=eR f F L;refine Stepped.mk' f d (.inl ?_) f (Ext.refl C (Nat.le_refl _)) (x:= .aK [.lit k,expand C.P cd Vt (de es k z)]) (v:= .tuple #[k,v]) ?_ ?_
      ·simp only[execOp,u,N];exact dg A
      ·have H:Rel C (.lit k) k:=aW (pV B)
       refine cM ?_;simp only[MT];exact⟨H.1,H.2.1,H.2.2,I.1,I.2.1,I.2.2,trivial⟩
      ·rw[d.st];exact h1
     ·exact h.elim
    ·exact h.elim
   ·rename_i Kt Vt ks vs k met D
    rw[←d.st] at D;have N:=hp.2.2.2.2.1 _ _ _ _ _ D;split at h
    ·rename_i z Z
     obtain⟨v,A,B,F,L⟩:=I5 f hj D z;obtain⟨I,hpe⟩:=eR f F L;refine Stepped.mk' f d (.inl ?_) f (Ext.refl C (Nat.le_refl _)) (x:= .aK [.lit k,expand C.P cd Vt (de (ks.zip vs) k z)]) (v:= .tuple #[k,v]) ?_ ?_
     ·simp only[execOp,u,N];exact dg A
     ·have H:Rel C (.lit k) k:=aW (pV B)
      refine cM ?_;simp only[MT];exact⟨H.1,H.2.1,H.2.2,I.1,I.2.1,I.2.2,trivial⟩
     ·rw[d.st];exact h
    ·exact h.elim
   ·exact h.elim
  ·exact h.elim
 ·
  rename_i Y ts u;split at h
  ·rename_i x y T T' hev hts
   split at h
   ·rename_i hTT
    subst hTT;obtain⟨ox,oy,hxy,rfl,rfl⟩:=AA hev;have ha:Y= #[ox,oy]:=by rw[←Array.toArray_toList (xs:=Y),hxy]
    have hts':ts= #[T,T]:=by rw[←Array.toArray_toList (xs:=ts),hts]
    subst ha;subst hts'
    have r:=bo d ox;have hry:=bo d oy;have fin: ∀v Q,(Builtin.append_ #[T,T] o.type #[X.eval ox,X.eval oy]).run C.P C.w= .ok v Q->(execOp X.eval o).run C.P C.w= .ok (.value v) Q:=fun v Q h=>by
     simp[execOp,u,resolve,invoke,builtin,h]
    unfold pL at h;rw[←d.st] at h;split at h
    ·rename_i Te J
     split at h
     ·rename_i Ty ys z hy Z
      split at h
      ·exact h.elim
      ·rename_i R
       simp only[an3,an2] at R;split at h
       ·rename_i hex
        rw[hex] at r;have ex:=aL r;obtain⟨hb,hK⟩:=ai.1 h;simp only[an2] at hb;obtain⟨v',Q,g,A,B,F,L⟩:=vU (ty:=o.type) f J hy R.1 hry Z hb;exact Stepped.mk' f d (.inl (fin _ _ (by rw[ex];exact A))) B F L (by simpa[Ctx.add] using hK)
       ·rename_i i lo n hex
        rw[hex] at r;split at h
        ·rename_i Tr xs t
         split at h
         ·rename_i hc2
          obtain⟨rfl,rfl⟩:=hc2;obtain⟨hb,hK⟩:=ai.1 h;simp only[an2] at hb;obtain⟨v',Q,g,A,B,F,L⟩:=vV (ty:=o.type) f J t r hy R.1 hry Z hb;exact Stepped.mk' f d (.inl (fin _ _ A)) B F L (by simpa only[Ctx.app] using hK)
         ·exact h.elim
        ·rename_i Tr E ls t
         split at h
         ·rename_i k vs hvs
          split at h
          ·rename_i hc2
           obtain⟨rfl,_⟩:=hc2;obtain⟨hb,hK⟩:=ai.1 h;simp only[an3,an2] at hb;obtain⟨v',C',A,B,F,L,g5⟩:=vW (ty:=o.type) f J t r hy R.1 hry hvs Z hb.1 hb.2;exact Stepped.mk' f d (.inl (fin _ _ A)) F L g5 (by rw[B];exact hK)
          ·exact h.elim
         ·exact h.elim
        ·exact h.elim
       ·exact h.elim
     ·exact h.elim
    ·exact h.elim
   ·exact h.elim
  ·exact h.elim
 ·exact h.elim
end Go.Dn
