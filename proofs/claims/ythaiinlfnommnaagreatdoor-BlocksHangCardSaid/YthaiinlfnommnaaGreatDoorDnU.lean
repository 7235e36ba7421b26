import Derived.Test.YthaiinlfnommnaaGreatDoorDnT3
namespace Go.Dn
open Go
theorem u0{P:Program}{w w':World}{x:Sem Unit}(h:x.run P w= .ok () w'):(do x;pure Next.skip:Sem Next).run P w= .ok .skip w':=by
 simp[h]
theorem dc{P:Program}{w w':World}{x:Sem Value}{v:Value}(h:x.run P w= .ok v w'):(do pure (Next.value (←x)):Sem Next).run P w= .ok (.value v) w':=by
 simp[h]
theorem Ext.P{n:Nat}{C C':Ctx}(h:Ext n C C'):C'.P=C.P:=h.keeps.P
theorem uR{P:Program}{Kt Vt:TypeId}{es:List (Value×AV)}{ks:List Value}{p:Value->AV->Prop}{q:Prop}(h:BO P Kt Vt es ks p q){k:Value}{a:AV}(g1:(k,a)∈es)(g2:j2 ks k=false)(g3:plainKey P Kt k=true):p k (expand P cj Vt a):=by
 have h1:=h.1
 unfold plainKey at g3
 cases k with
 | int κ n0=>
  simp only at g3
  split at g3
  ·rename_i k' hu
   rw[hu] at h1
   obtain rfl:κ=k':=by simpa using g3
   exact h1 _ _ g1 g2
  ·cases g3
 |string t0=>
  simp only at g3
  split at g3
  ·rename_i hu;rw[hu] at h1;exact h1 _ _ g1 g2
  ·cases g3
 |bool b0=>
  simp only at g3
  split at g3
  ·rename_i hu;rw[hu] at h1;exact h1.elim
  ·cases g3
 |_=>simp at g3
theorem oN{P:Program}{K:TypeId}{k:Value}(h:plainKey P K k=true):bg k=true:=by
 unfold plainKey at h;cases k<;>simp at h<;>rfl
theorem oM{C:Ctx}(hI:Inv C){x x':AV}{v:Value}(hx:ck C.st x=some x')(hr:Rel C x v): ∃C1,C1.st=cP C.st (rowsOf x)/\C1.w=C.w/\C1.ι=C.ι/\Inv C1/\Ext C.st.length C C1/\Rel C1 x' v/\C1.st.length=C.st.length:=by
 obtain⟨C1,f1,f2,f3,f4,f5,f6⟩:=nF (rowsOf x) hI
 exact⟨C1,f1,f2,f3,f4,f5,qx hI f5.keeps f2 hx (fun i hi hlt hl=>f6 i hi hlt hl) hr,by rw[f1,jU]⟩
theorem Stepped.skip{C C':Ctx}(hI:Inv C){s:S}{act:Act}(hs:dt C s act){dst:Option Tmp}{r:Result Next}{K:S->Prop}(hr:r= .ok .skip C'.w)(hI':Inv C')(he:Ext C.st.length C C'){st:List Obj}(hst:C'.st=st)(hK:K (put {s with st:=st} dst .cG)):Stepped C act dst r K:=by
 subst hst
 exact Stepped.mk' hI hs (.inr ⟨hr,rfl⟩) hI' he (l6 _) hK
theorem zD{C:Ctx}(hI:Inv C){s:S}{act:Act}(hs:dt C s act){dst:Option Tmp}{T:TypeId}{p x:Operand}{K:S->Prop}
  (h:qa C.P s T (ev s p) (ev s x) fun st=>K (put {s with st} dst .cG)) {o:Oper} (ho:o.op= .store T p x):Stepped C act dst ((execOp act.eval o).run C.P C.w) K:=by
 have hrp:=bu hs p
 have hrx:=bu hs x
 have fin: ∀w',(Instr.storeAt T (act.eval p) (act.eval x)).run C.P C.w= .ok () w'->(execOp act.eval o).run C.P C.w= .ok .skip w':=fun w' h=>by
  simp only[execOp,ho];exact u0 h
 unfold qa at h
 split at h
 ·rename_i i k path off hev
  rw[hev] at hrp
  obtain⟨hi,hp⟩:=mM hrp
  rw[←hs.st] at h
  split at h
  ·rename_i Tb a hst
   split at h
   ·rename_i hc
    simp only[aa2,beq_iff_eq] at hc
    obtain⟨⟨⟨⟨⟨⟨h1,h2⟩,h3⟩,h4⟩,h5⟩,h6⟩,_⟩:=hc
    obtain⟨d,hd⟩:=Option.isSome_iff_exists.1 h6
    obtain⟨rfl,_⟩:=hp.2.1 Tb a hst
    have h5:=rq _ _ _ h5 hrx.2.2
    obtain⟨w',g1,g2,g3⟩:=HS hI hi hst hrx hp h1 h2 h3 h4 h5 hd
    exact Stepped.skip hI hs (fin w' g1) g2 g3 (by simp only[Ctx.dA]) h
   ·exact h.elim
  ·split at h
   ·rename_i x' Tr xs hx' hst
    split at h
    ·rename_i hc
     simp only[aa2,beq_iff_eq] at hc
     obtain⟨⟨⟨⟨⟨⟨h1,h2⟩,h3⟩,h4⟩,h5⟩,h6⟩,h7⟩:=hc
     obtain⟨d,hd⟩:=Option.isSome_iff_exists.1 h7
     obtain⟨C1,f1,f2,f3,f4,f5,f6,f7⟩:=oM hI hx' hrx
     rw[←f1] at hst
     rw[←f5.P] at h1 h2 h3 h4 h5 hd h
     have h6:=rq _ _ _ h6 f6.2.2
     have hp1:pH C1 i k off (act.eval p):=hp.move f5.keeps (f5.refs i hi)
     obtain⟨w',g1,g2,g3⟩:=Iv f4 (by omega) hst f6 hp1 h1 h2 h3 h4 h6 h5 hd
     rw[f2,f5.P] at g1
     exact Stepped.skip hI hs (fin w' g1) g2 (f5.trans g3 (by omega)) (by simp only[Ctx.dA,f1]) h
    ·exact h.elim
   ·exact h.elim
  ·rename_i Tr E ls kp hst
   split at h
   ·rename_i j k' m hex
    split at h
    ·rename_i hc
     obtain⟨rfl,rfl⟩:=hc
     obtain⟨hc,hK⟩:=aq.1 h
     simp only[aa2,aa1] at hc
     obtain⟨⟨rfl,rfl⟩,hm⟩:=hc
     rw[hex] at hrx
     have hob:=hI.obj j hi
     rw[hst] at hob
     obtain⟨_,hU,_⟩:=hob
     have hz:=hI.lay T
     simp only[rS,hU] at hz
     obtain⟨w',g1,g2,g3⟩:=xD hI hi hst hp hrx hm hU hz
     exact Stepped.skip hI hs (fin w' g1) g2 g3 (by simp only[Ctx.dA]) hK
    ·exact h.elim
   ·exact h.elim
  ·exact h.elim
 ·exact h.elim
theorem Hy{b:Bool}{p q:Prop}(h:aD b p q):(b=true->p)/\(b=false->q):=by
 cases b<;>simp_all[aD]
theorem JK{l:List AV}(h:l=[]):Ra l=true:=by subst h;rfl
theorem rr{C:Ctx}{T:TypeId}{oy:Operand}{a:AV}{va:Value}{K:Bool->Prop}(h:mB C.P C.st T oy a K)(ha:Rel C a va):
  oy= .const (.slice none 0 0)/\∃e p n c,C.P.underlying T=some (.slice e)/\va= .slice p n c/\K p.isNone:=by
 unfold mB at h
 split at h
 ·rename_i e hT
  refine⟨rfl,e,?_⟩
  split at h
  ·have:=aQ ha
   exact⟨none,0,0,hT,this,h⟩
  ·rename_i Te l
   obtain⟨_,p,cap,e1,h2,h3⟩:=q9 ha
   refine⟨p,_,cap,hT,e1,?_⟩
   cases p with
   |some q=>exact h.2
   |none=>
    refine h.1 (JK ?_)
    by_cases hl:l=[]
    ·exact hl
    ·obtain⟨_,_,h4,_⟩:=h3 hl;cases h4
  ·rename_i i lo n
   split at h
   ·rename_i hx
    rcases GI (gL ha).2 hx with⟨rfl,rfl⟩|⟨q,cap,rfl⟩
    ·exact⟨none,0,0,hT,rfl,h.1 rfl⟩
    ·exact⟨some q,_,_,hT,rfl,h.2⟩
   ·exact h.elim
  ·exact h.elim
 ·exact h.elim
theorem sU{P:Program}(w:World){t e:TypeId}(p:Option Addr)(n c:Nat)(ht:P.underlying t=some (.slice e))(x y:Operand):
  (do eqGuard .eql t x y (.slice p n c) (.slice none 0 0);binOp .eql t (.slice p n c) (.slice none 0 0)).run P w= .ok (.bool p.isNone) w/\
  (do eqGuard .neq t x y (.slice p n c) (.slice none 0 0);binOp .neq t (.slice p n c) (.slice none 0 0)).run P w= .ok (.bool (!p.isNone)) w:=by
 have h: ∀d:Nat,(Op.equalIn (d+1) t (.slice p n c) (.slice none 0 0)).run P w= .ok p.isNone w:=fun d=>by
  cases p<;>simp[Op.equalIn,run_underlying ht]
 constructor
 ·simp only[eqGuard,binOp]
  simp[Op.equal,Op.maxDepth,h 9999]
 ·simp only[eqGuard,binOp]
  simp[Op.equal,Op.maxDepth,h 9999]
theorem Am {C:Ctx}(hI:Inv C){s:S}{act:Act}(hs:dt C s act){dst:Option Tmp}{K:S->Prop}{o:Oper}(h:cr C.P s dst o.op K):Stepped C act dst ((execOp act.eval o).run C.P C.w) K:=by
 unfold cr at h
 split at h
 ·
  rename_i T ho
  split at h
  ·rename_i z hz;exact Bc hI hs hz h ho
  ·exact h.elim
 ·
  rename_i T x ho
  split at h
  ·rename_i hsol;exact Ir hI hs (rq _ _ _ hsol (bu hs x).2.2) h ho
  ·exact h.elim
 ·
  rename_i T p x ho
  exact zD hI hs h ho
 ·
  rename_i T len parts ho
  split at h
  ·rename_i Te hT
   split at h
   ·rename_i z hz
    split at h
    ·rename_i l is hp
     split at h
     ·rename_i hc
      simp only[aa2,aa1] at hc
      rw[←hs.st] at hp h
      obtain⟨C',v,g1,g2,g3,g4,g5⟩:=wa hI hs hT hz hc.2 hp hc.1
      refine Stepped.mk' hI hs (.inl ?_) g3 g4 g5 (by rw[g2];exact h)
      simp only[execOp,ho];exact dc g1
     ·exact h.elim
    ·exact h.elim
   ·exact h.elim
  ·exact h.elim
 ·
  rename_i T ln cp ho
  split at h
  ·rename_i Te n c hT hn hc
   split at h
   ·rename_i z hz
    obtain⟨h1,h2⟩:=aq.1 h
    simp only[aa2,aa1] at h1
    obtain⟨⟨⟨h3,h4⟩,h5⟩,h6⟩:=h1
    have e1:=oU hn (bu hs ln)
    have e2:=oU hc (bu hs cp)
    have row:K (put {s with st:=s.st++[.row Te (fN z n.toNat)]} dst (.an s.st.length 0 n.toNat))->Stepped C act dst ((execOp act.eval o).run C.P C.w) K:=fun h2=>by
     obtain⟨w',g,g1,g2,g3,g4⟩:=xu hI hT hz h6 h3 h4 h5
     refine Stepped.mk' hI hs (.inl ?_) g2 g3 g4 (by simpa[Ctx.add,hs.st] using h2)
     simp only[execOp,ho,e1,e2];exact dc g1
    unfold FM at h2
    split at h2
    ·rename_i E hTe
     split at h2
     ·rename_i hc2
      obtain⟨v,w',g,g1,_,g2,g3,g4⟩:=zl hI hT hTe hc2.1 hc2.2 hz h3 h4 h5
      refine Stepped.mk' hI hs (.inl ?_) g2 g3 g4 (by simpa[Ctx.add,hs.st] using h2)
      simp only[execOp,ho,e1,e2];exact dc g1
     ·exact row h2
    ·exact row h2
   ·exact h.elim
  ·exact h.elim
 ·
  rename_i T ho
  split at h
  ·rename_i Kt Vt hT;exact xE hI hs hT h ho
  ·exact h.elim
 ·
  rename_i T m k x ho
  split at h
  ·rename_i Kt Vt i kv v hT hm hk hx
   split at h
   ·rename_i K' V' es hst
    split at h
    ·rename_i hc
     obtain⟨rfl,rfl,h3,h4⟩:=hc
     have hrm:=bu hs m;rw[hm] at hrm
     have hrk:=bu hs k;rw[hk] at hrk
     have ek:=aQ hrk
     obtain⟨hi,hmp⟩:=sm hrm
     rw[←hs.st] at hx hst h
     obtain⟨C1,f1,f2,f3,f4,f5,f6,f7⟩:=oM hI hx (bu hs x)
     have hst1:aw C1.st i= .map K' V' es:=by rw[f1];exact hst
     have em:=(hmp.move (f5.refs i hi)) _ _ _ hst1
     rw[f3] at em
     rw[←f5.P] at hT h3 h4
     obtain⟨w',g1,g2,g3⟩:=xw f4 (by omega) hT hst1 h3 (iN _ _ _ _ h4 f6.2.2) f6
     rw[f2,f5.P,f3] at g1
     refine Stepped.skip hI hs ?_ g2 (f5.trans g3 (by omega)) (by simp only[Ctx.dA,f1]) h
     simp only[execOp,ho,ek,em];exact u0 g1
    ·exact h.elim
   ·exact h.elim
  ·exact h.elim
 ·
  rename_i T m k ho
  split at h
  ·rename_i Kt Vt i kv hT hm hk
   split at h
   ·rename_i K' V' es z hst hz
    split at h
    ·rename_i hc
     obtain⟨rfl,rfl,h3⟩:=hc
     have hrm:=bu hs m;rw[hm] at hrm
     have hrk:=bu hs k;rw[hk] at hrk
     have ek:=aQ hrk
     obtain⟨hi,hmp⟩:=sm hrm
     rw[←hs.st] at hst h
     have em:=hmp _ _ _ hst
     obtain⟨w',v,g1,g2,g3,g4⟩:=Ao hI hi hT hst h3 hz
     refine Stepped.mk' hI hs (.inl ?_) g2 g3 g4 (by simpa only[Ctx.dA] using h)
     simp only[execOp,ho,ek,em];exact dc g1
    ·exact h.elim
   ·exact h.elim
  ·exact h.elim
 ·
  rename_i T m ku x ho
  split at h
  ·rename_i Kt Vt i j kv v hT hm hk hx
   split at h
   ·rename_i K' V' es hst
    split at h
    ·rename_i hc
     obtain⟨rfl,rfl,rfl,h3,h4⟩:=hc
     have hrm:=bu hs m;rw[hm] at hrm
     have hrk:=bu hs ku;rw[hk] at hrk
     obtain⟨hi,hmp⟩:=sm hrm
     obtain⟨_,hsp⟩:=OB hrk
     rw[←hs.st] at hx hst h
     obtain⟨C1,f1,f2,f3,f4,f5,f6,f7⟩:=oM hI hx (bu hs x)
     have hst1:aw C1.st i= .map K' V' es:=by rw[f1];exact hst
     have em:=(hmp.move (f5.refs i hi)) _ _ _ hst1
     rw[f3] at em
     rw[←f5.P] at h3 h4
     obtain⟨w',g1,g2,g3⟩:=vg (T:=T) f4 (by omega) hst1 h3 (iN _ _ _ _ h4 f6.2.2) f6 (hsp.move (f5.refs i hi))
     rw[f2,f5.P,f3] at g1
     refine Stepped.skip hI hs ?_ g2 (f5.trans g3 (by omega)) (by simp only[Ctx.dA,f1]) h
     simp only[execOp,ho,em];exact u0 g1
    ·exact h.elim
   ·exact h.elim
  ·exact h.elim
 ·
  rename_i T x ho
  split at h
  ·rename_i Kt Vt i hT hx
   split at h
   ·rename_i K' V' es hst
    have hrx:=bu hs x;rw[hx] at hrx
    obtain⟨hi,hmp⟩:=sm hrx
    rw[←hs.st] at hst h
    have em:=hmp _ _ _ hst
    obtain⟨w',g1,g2,g3,g4⟩:=HP hI hi hst hT
    refine Stepped.mk' hI hs (.inl ?_) g2 g3 g4 h
    simp only[execOp,ho,em];exact dc g1
   ·exact h.elim
  ·rename_i Kt' Vt' Kt Vt ks vs hT hx
   have hrx:=bu hs x;rw[hx] at hrx
   rw[←hs.st] at h
   obtain⟨w',g1,g2,g3,g4⟩:=It hI hrx hT
   refine Stepped.mk' hI hs (.inl ?_) g2 g3 g4 h
   simp only[execOp,ho];exact dc g1
  ·rename_i Kt Vt hT hx
   have hrx:=bu hs x;rw[hx] at hrx
   have em:=aQ hrx
   rw[←hs.st] at h
   obtain⟨w',g1,g2,g3,g4⟩:=IP hI hT
   refine Stepped.mk' hI hs (.inl ?_) g2 g3 g4 h
   simp only[execOp,ho,em];exact dc g1
  ·rename_i b hT hx
   have hrx:=bu hs x;rw[hx] at hrx
   have em:=aQ hrx
   rw[←hs.st] at h
   obtain⟨w',g1,g2,g3,g4⟩:=HG hI hT b
   refine Stepped.mk' hI hs (.inl ?_) g2 g3 g4 h
   simp only[execOp,ho,em];exact dc g1
  ·exact h.elim
 ·
  rename_i it ho
  split at h
  ·rename_i j p hx
   have hrx:=bu hs it;rw[hx] at hrx
   obtain⟨hj,hp⟩:=mM hrx
   split at h
   ·rename_i i n ks hsj
    rw[←hs.st] at hsj
    have em:=hp.2.2.1 _ _ _ hsj
    split at h
    ·rename_i Kt Vt es hst
     rw[←hs.st] at hst
     obtain⟨hn,hN⟩:=aq.1 h
     have hn:=Nat.eq_of_beq_eq_true hn
     rcases MG hI hj hsj hst hn o.type with⟨g1,g2⟩|⟨k,a,v,w',g1,g2,g3,g4,g5,g6,g7,g8⟩
     ·refine Stepped.mk' hI hs (.inl ?_) hI (Ext.refl C (Nat.le_refl _)) (x:= .bh [.lit (.bool false)]) (v:= .tuple #[.bool false]) ?_ ?_
      ·simp only[execOp,ho,em];exact dc g2
      ·refine cu ?_
       simp only[MT]
       exact⟨.inl rfl, .inl rfl,(a7 rfl).2.2,trivial⟩
      ·have:=hN.2 g1
       rw[hs.st];exact this
     ·obtain⟨hre,hpe⟩:=eG g5 g7 g8
      refine Stepped.mk' hI hs (.inl ?_) g5 g6 (x:= .bh [.lit (.bool true), .lit k,expand C.P cj Vt a]) (v:= .tuple #[.bool true,k,v]) ?_ ?_
      ·simp only[execOp,ho,em];exact dc g4
      ·have hk1:Rel (C.dA j (.iter i n (k::ks)) w') (.lit k) k:=a7 (oN g3)
       refine cu ?_
       simp only[MT]
       exact⟨.inl rfl, .inl rfl,(a7 rfl).2.2,hk1.1,hk1.2.1,hk1.2.2,hre.1,hre.2.1,hre.2.2,trivial⟩
      ·have:=uR hN g1 g2 g3
       rw[←hs.st] at this
       simpa only[Ctx.dA] using this
    ·split at h
     ·refine Stepped.mk' hI hs (.inl ?_) hI (Ext.refl C (Nat.le_refl _)) (x:= .bh [.lit (.bool false)]) (v:= .tuple #[.bool false]) ?_ ?_
      ·simp only[execOp,ho,em];exact dc (J2 hI hj hsj o.type)
      ·refine cu ?_
       simp only[MT]
       exact⟨.inl rfl, .inl rfl,(a7 rfl).2.2,trivial⟩
      ·rw[hs.st];exact h
     ·exact h.elim
   ·rename_i Kt Vt ks vs met hsj
    rw[←hs.st] at hsj
    have em:=hp.2.2.2.2.1 _ _ _ _ _ hsj
    rcases Ju hI hj hsj o.type with⟨g1,g2⟩|⟨k,a,v,w',g1,g2,g3,g4,g5,g6,g7,g8⟩
    ·refine Stepped.mk' hI hs (.inl ?_) hI (Ext.refl C (Nat.le_refl _)) (x:= .bh [.lit (.bool false)]) (v:= .tuple #[.bool false]) ?_ ?_
     ·simp only[execOp,ho,em];exact dc g2
     ·refine cu ?_
      simp only[MT]
      exact⟨.inl rfl, .inl rfl,(a7 rfl).2.2,trivial⟩
     ·have:=h.2 g1
      rw[hs.st];exact this
    ·obtain⟨hre,hpe⟩:=eG g5 g7 g8
     refine Stepped.mk' hI hs (.inl ?_) g5 g6 (x:= .bh [.lit (.bool true), .lit k,expand C.P cj Vt a]) (v:= .tuple #[.bool true,k,v]) ?_ ?_
     ·simp only[execOp,ho,em];exact dc g4
     ·have hk1:Rel (C.dA j (.fit Kt Vt ks vs (k::met)) w') (.lit k) k:=a7 (oN g3)
      refine cu ?_
      simp only[MT]
      exact⟨.inl rfl, .inl rfl,(a7 rfl).2.2,hk1.1,hk1.2.1,hk1.2.2,hre.1,hre.2.1,hre.2.2,trivial⟩
     ·have:=uR h g1 g2 g3
      rw[←hs.st] at this
      simpa only[Ctx.dA] using this
   ·exact h.elim
  ·exact h.elim
 ·
  rename_i it ho
  split at h
  ·rename_i j p hx
   have hrx:=bu hs it;rw[hx] at hrx
   obtain⟨hj,hp⟩:=mM hrx
   split at h
   ·rename_i b q hsj
    rw[←hs.st] at hsj
    have em:=hp.2.2.2.1 _ _ hsj
    obtain⟨h1,h2⟩:=(show _/\_ from Hy h)
    obtain⟨f1,f2⟩:=MN hI hj hsj o.type
    by_cases hq:q<b.size
    ·obtain⟨w',g1,g2,g3⟩:=f1 hq
     refine Stepped.mk' hI hs (.inl ?_) g2 g3 (x:= .bh [.lit (.bool true), .lit (.int .i64 q), .lit (.int .i32 (Utf8.decode b q).1)]) (v:= .tuple #[.bool true, .int .i64 q, .int .i32 (Utf8.decode b q).1]) ?_ ?_
     ·simp only[execOp,ho,em];exact dc g1
     ·refine cu ?_
      simp only[MT]
      exact⟨.inl rfl, .inl rfl,(a7 rfl).2.2, .inl rfl, .inl rfl,(a7 rfl).2.2, .inl rfl, .inl rfl,(a7 rfl).2.2,trivial⟩
     ·have:=h1 (by simpa using hq)
      simpa only[Ctx.dA,hs.st] using this
    ·refine Stepped.mk' hI hs (.inl ?_) hI (Ext.refl C (Nat.le_refl _)) (x:= .bh [.lit (.bool false)]) (v:= .tuple #[.bool false]) ?_ ?_
     ·simp only[execOp,ho,em];exact dc (f2 hq)
     ·refine cu ?_
      simp only[MT]
      exact⟨.inl rfl, .inl rfl,(a7 rfl).2.2,trivial⟩
     ·rw[hs.st];exact h2 (by cases hb':Nat.blt q b.size with|false=>rfl|true=>exact absurd (by simpa[Nat.blt_eq] using hb') hq)
   ·exact h.elim
  ·exact h.elim
 ·
  rename_i T x y yT ho
  rw[←hs.st] at h
  obtain⟨ey,e,p,n,c,hT,ev,hK⟩:=rr h (bu hs x)
  refine Stepped.mk' hI hs (.inl ?_) hI (Ext.refl C (Nat.le_refl _)) (a7 rfl) (by rw[hs.st];exact hK)
  have:=(sU C.w p n c hT x y).1
  subst ey
  simp only[execOp,ho,ev]
  exact dq this
 ·
  rename_i T x y yT ho
  rw[←hs.st] at h
  obtain⟨ey,e,p,n,c,hT,ev,hK⟩:=rr h (bu hs x)
  refine Stepped.mk' hI hs (.inl ?_) hI (Ext.refl C (Nat.le_refl _)) (a7 rfl) (by rw[hs.st];exact hK)
  have:=(sU C.w p n c hT x y).2
  subst ey
  simp only[execOp,ho,ev]
  exact dq this
 ·
  rename_i args ts ho
  split at h
  ·rename_i i lo n T hev hts
   split at h
   ·rename_i Te Tr xs hT hst
    split at h
    ·rename_i z hz
     split at h
     ·rename_i hc
      obtain⟨rfl,hpos⟩:=hc
      rw[←hs.st] at hst h
      obtain⟨ox,hx,ex⟩:=Gc hev
      have ha:args= #[ox]:=by rw[←Array.toArray_toList (xs:=args),hx]
      have hts':ts= #[T]:=by rw[←Array.toArray_toList (xs:=ts),hts]
      subst ha;subst hts'
      have hrx:=bu hs ox
      rw[ex] at hrx
      obtain⟨hi,hsl⟩:=gL hrx
      obtain⟨w',g1,g2,g3⟩:=Iq (ty:=o.type) hI hi hT hst hz hpos hsl
      refine Stepped.mk' hI hs (.inl ?_) g2 g3 (x:= .bh []) (v:= .tuple #[]) (cu (by simp only[MT])) (by simpa only[Ctx.dA] using h)
      simp[execOp,ho,resolve,invoke,builtin,g1,Ctx.dA]
     ·exact h.elim
    ·exact h.elim
   ·exact h.elim
  ·exact h.elim
 ·
  rename_i it ho
  split at h
  ·rename_i j p hx
   have hrx:=bu hs it;rw[hx] at hrx
   obtain⟨hj,hp⟩:=mM hrx
   split at h
   ·rename_i i n k ks hsj
    rw[←hs.st] at hsj
    have em:=hp.2.2.1 _ _ _ hsj
    split at h
    ·rename_i Kt Vt es hst
     rw[←hs.st] at hst
     split at h
     ·rename_i z hz
      obtain⟨hn,h1⟩:=aq.1 h
      have hn:=Nat.eq_of_beq_eq_true hn
      obtain⟨v,g1,g2,g3,g4⟩:=Iy hI hj hsj hst hn z
      obtain⟨hre,hpe⟩:=eG hI g3 g4
      refine Stepped.mk' hI hs (.inl ?_) hI (Ext.refl C (Nat.le_refl _)) (x:= .bh [.lit k,expand C.P cj Vt (dp es k z)]) (v:= .tuple #[k,v]) ?_ ?_
      ·simp only[execOp,ho,em];exact dc g1
      ·have hk1:Rel C (.lit k) k:=a7 (oN g2)
       refine cu ?_
       simp only[MT]
       exact⟨hk1.1,hk1.2.1,hk1.2.2,hre.1,hre.2.1,hre.2.2,trivial⟩
      ·rw[hs.st];exact h1
     ·exact h.elim
    ·exact h.elim
   ·rename_i Kt Vt ks vs k met hsj
    rw[←hs.st] at hsj
    have em:=hp.2.2.2.2.1 _ _ _ _ _ hsj
    split at h
    ·rename_i z hz
     obtain⟨v,g1,g2,g3,g4⟩:=Ik hI hj hsj z
     obtain⟨hre,hpe⟩:=eG hI g3 g4
     refine Stepped.mk' hI hs (.inl ?_) hI (Ext.refl C (Nat.le_refl _)) (x:= .bh [.lit k,expand C.P cj Vt (dp (ks.zip vs) k z)]) (v:= .tuple #[k,v]) ?_ ?_
     ·simp only[execOp,ho,em];exact dc g1
     ·have hk1:Rel C (.lit k) k:=a7 (oN g2)
      refine cu ?_
      simp only[MT]
      exact⟨hk1.1,hk1.2.1,hk1.2.2,hre.1,hre.2.1,hre.2.2,trivial⟩
     ·rw[hs.st];exact h
    ·exact h.elim
   ·exact h.elim
  ·exact h.elim
 ·
  rename_i args ts ho
  split at h
  ·rename_i x y T T' hev hts
   split at h
   ·rename_i hTT
    subst hTT
    obtain⟨ox,oy,hxy,rfl,rfl⟩:=AY hev
    have ha:args= #[ox,oy]:=by rw[←Array.toArray_toList (xs:=args),hxy]
    have hts':ts= #[T,T]:=by rw[←Array.toArray_toList (xs:=ts),hts]
    subst ha;subst hts'
    have hrx:=bu hs ox
    have hry:=bu hs oy
    have fin: ∀v w',(Builtin.append_ #[T,T] o.type #[act.eval ox,act.eval oy]).run C.P C.w= .ok v w'->(execOp act.eval o).run C.P C.w= .ok (.value v) w':=fun v w' h=>by
     simp[execOp,ho,resolve,invoke,builtin,h]
    unfold oT at h
    rw[←hs.st] at h
    split at h
    ·rename_i Te hT
     split at h
     ·rename_i Ty ys z hy hz
      split at h
      ·exact h.elim
      ·rename_i hc
       simp only[aa2,aa1] at hc
       split at h
       ·rename_i hex
        rw[hex] at hrx
        have ex:=aQ hrx
        obtain⟨hb,hK⟩:=aq.1 h
        simp only[aa1] at hb
        obtain⟨v',w',g,g1,g2,g3,g4⟩:=wH (ty:=o.type) hI hT hy hc.1 hry hz hb
        exact Stepped.mk' hI hs (.inl (fin _ _ (by rw[ex];exact g1))) g2 g3 g4 (by simpa[Ctx.add] using hK)
       ·rename_i i lo n hex
        rw[hex] at hrx
        split at h
        ·rename_i Tr xs hst
         split at h
         ·rename_i hc2
          obtain⟨rfl,rfl⟩:=hc2
          obtain⟨hb,hK⟩:=aq.1 h
          simp only[aa1] at hb
          obtain⟨v',w',g,g1,g2,g3,g4⟩:=wJ (ty:=o.type) hI hT hst hrx hy hc.1 hry hz hb
          exact Stepped.mk' hI hs (.inl (fin _ _ g1)) g2 g3 g4 (by simpa only[Ctx.app] using hK)
         ·exact h.elim
        ·rename_i Tr E ls hst
         split at h
         ·rename_i k vs hvs
          split at h
          ·rename_i hc2
           obtain⟨rfl,_⟩:=hc2
           obtain⟨hb,hK⟩:=aq.1 h
           simp only[aa2,aa1] at hb
           obtain⟨v',C',g1,g2,g3,g4,g5⟩:=uF (ty:=o.type) hI hT hst hrx hy hc.1 hry hvs hz hb.1 hb.2
           exact Stepped.mk' hI hs (.inl (fin _ _ g1)) g3 g4 g5 (by rw[g2];exact hK)
          ·exact h.elim
         ·exact h.elim
        ·exact h.elim
       ·exact h.elim
     ·exact h.elim
    ·exact h.elim
   ·exact h.elim
  ·exact h.elim
 ·exact h.elim
end Go.Dn
