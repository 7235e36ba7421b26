import Derived.Test.YtioeffnadipbaaaGreatDoorDnT3
namespace Go.Dn
open Go
theorem tH{P:Program}{w w':World}{x:Sem Unit}(h:x.run P w= .ok () w'):(do x;pure Next.skip:Sem Next).run P w= .ok .skip w':=by
 simp[h]
theorem c6{P:Program}{w w':World}{x:Sem Value}{v:Value}(h:x.run P w= .ok v w'):(do pure (Next.value (←x)):Sem Next).run P w= .ok (.value v) w':=by
 simp[h]
theorem Ext.P{n:Nat}{C C':Ctx}(h:Ext n C C'):C'.P=C.P:=h.keeps.P
theorem vC{P:Program}{Kt Vt:TypeId}{es:List (Value×AV)}{ks:List Value}{p:Value->AV->Prop}{q:Prop}(h:A4 P Kt Vt es ks p q){k:Value}{a:AV}(g1:(k,a)∈es)(g2:qH ks k=false)(g3:plainKey P Kt k=true):p k (expand P bX Vt a):=by
 have h1:=h.1
 unfold plainKey at g3
 cases k with
 |int κ n0=>grind
 |string t0=>grind
 |bool b0=>grind
 |_=>simp at g3
theorem oI{P:Program}{K:TypeId}{k:Value}(h:plainKey P K k=true):a9 k=true:=by
 unfold plainKey at h;cases k<;>simp at h<;>rfl
theorem oz{C:Ctx}(hI:Inv C){x x':AV}{v:Value}(hx:bW C.st x=some x')(hr:Rel C x v): ∃C1,C1.st=cD C.st (rowsOf x)/\C1.w=C.w/\C1.ι=C.ι/\Inv C1/\Ext C.st.length C C1/\Rel C1 x' v/\C1.st.length=C.st.length:=by
 obtain⟨C1,f1,f2,f3,f4,f5,f6⟩:=lu (rowsOf x) hI
 exact⟨C1,f1,f2,f3,f4,f5,nk hI f5.keeps f2 hx (fun i hi hlt hl=>f6 i hi hlt hl) hr,by rw[f1,hH]⟩
theorem Stepped.skip{C C':Ctx}(hI:Inv C){s:S}{act:Act}(hs:db C s act){dst:Option Tmp}{r:Result Next}{K:S->Prop}(hr:r= .ok .skip C'.w)(hI':Inv C')(he:Ext C.st.length C C'){st:List Obj}(hst:C'.st=st)(hK:K (put {s with st:=st} dst .cK)):Stepped C act dst r K:=by
 subst hst
 exact Stepped.mk' hI hs (.inr ⟨hr,rfl⟩) hI' he (lv _) hK
theorem y6{C:Ctx}(hI:Inv C){s:S}{act:Act}(hs:db C s act){dst:Option Tmp}{T:TypeId}{p x:Operand}{K:S->Prop}
  (h:pD C.P s T (ev s p) (ev s x) fun st=>K (put {s with st} dst .cK)) {o:Oper} (ho:o.op= .store T p x):Stepped C act dst ((execOp act.eval o).run C.P C.w) K:=by
 have hrp:=bm hs p
 have hrx:=bm hs x
 have fin: ∀w',(Instr.storeAt T (act.eval p) (act.eval x)).run C.P C.w= .ok () w'->(execOp act.eval o).run C.P C.w= .ok .skip w':=fun w' h=>by
  simp only[execOp,ho];exact tH h
 unfold pD at h
 split at h
 ·rename_i i k path off hev
  rw[hev] at hrp
  obtain⟨hi,hp⟩:=mz hrp
  rw[←hs.st] at h
  split at h
  ·rename_i Tb a hst
   split at h
   ·rename_i hc
    simp only[aa1,beq_iff_eq] at hc
    obtain⟨⟨⟨⟨⟨⟨h1,h2⟩,h3⟩,h4⟩,h5⟩,h6⟩,_⟩:=hc
    obtain⟨d,hd⟩:=Option.isSome_iff_exists.1 h6
    obtain⟨rfl,_⟩:=hp.2.1 Tb a hst
    have h5:=qQ _ _ _ h5 hrx.2.2
    obtain⟨w',g1,g2,g3⟩:=GD hI hi hst hrx hp h1 h2 h3 h4 h5 hd
    exact Stepped.skip hI hs (fin w' g1) g2 g3 (by simp only[Ctx.dC]) h
   ·exact h.elim
  ·split at h
   ·rename_i x' Tr xs hx' hst
    split at h
    ·rename_i hc
     simp only[aa1,beq_iff_eq] at hc
     obtain⟨⟨⟨⟨⟨⟨h1,h2⟩,h3⟩,h4⟩,h5⟩,h6⟩,h7⟩:=hc
     obtain⟨d,hd⟩:=Option.isSome_iff_exists.1 h7
     obtain⟨C1,f1,f2,f3,f4,f5,f6,f7⟩:=oz hI hx' hrx
     rw[←f1] at hst
     rw[←f5.P] at h1 h2 h3 h4 h5 hd h
     have h6:=qQ _ _ _ h6 f6.2.2
     have hp1:oZ C1 i k off (act.eval p):=hp.move f5.keeps (f5.refs i hi)
     obtain⟨w',g1,g2,g3⟩:=Hr f4 (by omega) hst f6 hp1 h1 h2 h3 h4 h6 h5 hd
     rw[f2,f5.P] at g1
     exact Stepped.skip hI hs (fin w' g1) g2 (f5.trans g3 (by omega)) (by simp only[Ctx.dC,f1]) h
    ·exact h.elim
   ·exact h.elim
  ·rename_i Tr E ls kp hst
   split at h
   ·rename_i j k' m hex
    split at h
    ·rename_i hc
     obtain⟨rfl,rfl⟩:=hc
     obtain⟨hc,hK⟩:=ai.1 h
     simp only[aa1,aa0] at hc
     obtain⟨⟨rfl,rfl⟩,hm⟩:=hc
     rw[hex] at hrx
     have hob:=hI.obj j hi
     rw[hst] at hob
     obtain⟨_,hU,_⟩:=hob
     have hz:=hI.lay T
     simp only[rE,hU] at hz
     obtain⟨w',g1,g2,g3⟩:=wF hI hi hst hp hrx hm hU hz
     exact Stepped.skip hI hs (fin w' g1) g2 g3 (by simp only[Ctx.dC]) hK
    ·exact h.elim
   ·exact h.elim
  ·exact h.elim
 ·exact h.elim
theorem FE{b:Bool}{p q:Prop}(h:aw b p q):(b=true->p)/\(b=false->q):=by
 cases b<;>simp_all[aw]
theorem Ip{l:List AV}(h:l=[]):Kd l=true:=by subst h;rfl
theorem q8{C:Ctx}{T:TypeId}{oy:Operand}{a:AV}{va:Value}{K:Bool->Prop}(h:mh C.P C.st T oy a K)(ha:Rel C a va):
  oy= .const (.slice none 0 0)/\∃e p n c,C.P.underlying T=some (.slice e)/\va= .slice p n c/\K p.isNone:=by
 unfold mh at h
 split at h
 ·rename_i e hT
  refine⟨rfl,e,?_⟩
  split at h
  ·have:=aH ha
   exact⟨none,0,0,hT,this,h⟩
  ·rename_i Te l
   obtain⟨_,p,cap,e1,h2,h3⟩:=mm ha
   refine⟨p,_,cap,hT,e1,?_⟩
   cases p with
   |some q=>exact h.2
   |none=>
    refine h.1 (Ip ?_)
    by_cases hl:l=[]
    ·exact hl
    ·obtain⟨_,_,h4,_⟩:=h3 hl;cases h4
  ·rename_i i lo n
   split at h
   ·rename_i hx
    rcases Ec (fy ha).2 hx with⟨rfl,rfl⟩|⟨q,cap,rfl⟩
    ·exact⟨none,0,0,hT,rfl,h.1 rfl⟩
    ·exact⟨some q,_,_,hT,rfl,h.2⟩
   ·exact h.elim
  ·exact h.elim
 ·exact h.elim
theorem sr{P:Program}(w:World){t e:TypeId}(p:Option Addr)(n c:Nat)(ht:P.underlying t=some (.slice e))(x y:Operand):
  (do eqGuard .eql t x y (.slice p n c) (.slice none 0 0);binOp .eql t (.slice p n c) (.slice none 0 0)).run P w= .ok (.bool p.isNone) w/\
  (do eqGuard .neq t x y (.slice p n c) (.slice none 0 0);binOp .neq t (.slice p n c) (.slice none 0 0)).run P w= .ok (.bool (!p.isNone)) w:=by
 have h: ∀d:Nat,(Op.equalIn (d+1) t (.slice p n c) (.slice none 0 0)).run P w= .ok p.isNone w:=fun d=>by
  cases p<;>simp[Op.equalIn,run_underlying ht]
 constructor
 ·simp only[eqGuard,binOp]
  simp[Op.equal,Op.maxDepth,h 9999]
 ·simp only[eqGuard,binOp]
  simp[Op.equal,Op.maxDepth,h 9999]
theorem zU {C:Ctx}(hI:Inv C){s:S}{act:Act}(hs:db C s act){dst:Option Tmp}{K:S->Prop}{o:Oper}(h:b8 C.P s dst o.op K):Stepped C act dst ((execOp act.eval o).run C.P C.w) K:=by
 unfold b8 at h
 split at h
 ·
  rename_i T ho
  split at h
  ·rename_i z hz;exact Bv hI hs hz h ho
  ·exact h.elim
 ·
  rename_i T x ho
  split at h
  ·rename_i hsol
   split at h
   ·exact Gu hI hs (ai.1 h).1 (ai.1 h).2 ho
   ·exact G9 hI hs (qQ _ _ _ hsol (bm hs x).2.2) h ho
  ·exact h.elim
 ·
  rename_i T p x ho
  exact y6 hI hs h ho
 ·
  rename_i T len parts ho
  split at h
  ·rename_i Te hT
   split at h
   ·rename_i z hz
    split at h
    ·rename_i l is hp
     split at h
     ·rename_i hc
      simp only[aa1,aa0] at hc
      rw[←hs.st] at hp h
      obtain⟨C',v,g1,g2,g3,g4,g5⟩:=wa hI hs hT hz hc.2 hp hc.1
      refine Stepped.mk' hI hs (.inl ?_) g3 g4 g5 (by rw[g2];exact h)
      simp only[execOp,ho];exact c6 g1
     ·exact h.elim
    ·exact h.elim
   ·exact h.elim
  ·exact h.elim
 ·
  rename_i T ln cp ho
  split at h
  ·rename_i Te n c hT hn hc
   split at h
   ·rename_i z hz
    obtain⟨h1,h2⟩:=ai.1 h
    simp only[aa1,aa0] at h1
    obtain⟨⟨⟨h3,h4⟩,h5⟩,h6⟩:=h1
    have e1:=l7 hn (bm hs ln)
    have e2:=l7 hc (bm hs cp)
    have row:K (put {s with st:=s.st++[.row Te (eM z n.toNat)]} dst (.aB s.st.length 0 n.toNat))->Stepped C act dst ((execOp act.eval o).run C.P C.w) K:=fun h2=>by
     obtain⟨w',g,g1,g2,g3,g4⟩:=wO hI hT hz h6 h3 h4 h5
     refine Stepped.mk' hI hs (.inl ?_) g2 g3 g4 (by simpa[Ctx.add,hs.st] using h2)
     simp only[execOp,ho,e1,e2];exact c6 g1
    unfold D3 at h2
    split at h2
    ·rename_i E hTe
     split at h2
     ·rename_i hc2
      obtain⟨v,w',g,g1,_,g2,g3,g4⟩:=Ac hI hT hTe hc2.1 hc2.2 hz h3 h4 h5
      refine Stepped.mk' hI hs (.inl ?_) g2 g3 g4 (by simpa[Ctx.add,hs.st] using h2)
      simp only[execOp,ho,e1,e2];exact c6 g1
     ·exact row h2
    ·exact row h2
   ·exact h.elim
  ·exact h.elim
 ·
  rename_i T ho
  split at h
  ·rename_i Kt Vt hT;exact wA hI hs hT h ho
  ·exact h.elim
 ·
  rename_i T m k x ho
  split at h
  ·rename_i Kt Vt i kv v hT hm hk hx
   split at h
   ·rename_i K' V' es hst
    split at h
    ·rename_i hc
     obtain⟨rfl,rfl,h3,h4⟩:=hc
     have hrm:=bm hs m;rw[hm] at hrm
     have hrk:=bm hs k;rw[hk] at hrk
     have ek:=aH hrk
     obtain⟨hi,hmp⟩:=sg hrm
     rw[←hs.st] at hx hst h
     obtain⟨C1,f1,f2,f3,f4,f5,f6,f7⟩:=oz hI hx (bm hs x)
     have hst1:an C1.st i= .map K' V' es:=by rw[f1];exact hst
     have em:=(hmp.move (f5.refs i hi)) _ _ _ hst1
     rw[f3] at em
     rw[←f5.P] at hT h3 h4
     obtain⟨w',g1,g2,g3⟩:=wE f4 (by omega) hT hst1 h3 (gn _ _ _ _ h4 f6.2.2) f6
     rw[f2,f5.P,f3] at g1
     refine Stepped.skip hI hs ?_ g2 (f5.trans g3 (by omega)) (by simp only[Ctx.dC,f1]) h
     simp only[execOp,ho,ek,em];exact tH g1
    ·exact h.elim
   ·exact h.elim
  ·exact h.elim
 ·
  rename_i T m k ho
  split at h
  ·rename_i Kt Vt i kv hT hm hk
   split at h
   ·rename_i K' V' es z hst hz
    split at h
    ·rename_i hc
     obtain⟨rfl,rfl,h3⟩:=hc
     have hrm:=bm hs m;rw[hm] at hrm
     have hrk:=bm hs k;rw[hk] at hrk
     have ek:=aH hrk
     obtain⟨hi,hmp⟩:=sg hrm
     rw[←hs.st] at hst h
     have em:=hmp _ _ _ hst
     obtain⟨w',v,g1,g2,g3,g4⟩:=z6 hI hi hT hst h3 hz
     refine Stepped.mk' hI hs (.inl ?_) g2 g3 g4 (by simpa only[Ctx.dC] using h)
     simp only[execOp,ho,ek,em];exact c6 g1
    ·exact h.elim
   ·exact h.elim
  ·exact h.elim
 ·
  rename_i T m jV x ho
  split at h
  ·rename_i Kt Vt i j kv v hT hm hk hx
   split at h
   ·rename_i K' V' es hst
    split at h
    ·rename_i hc
     obtain⟨rfl,rfl,rfl,h3,h4⟩:=hc
     have hrm:=bm hs m;rw[hm] at hrm
     have hrk:=bm hs jV;rw[hk] at hrk
     obtain⟨hi,hmp⟩:=sg hrm
     obtain⟨_,hsp⟩:=Nu hrk
     rw[←hs.st] at hx hst h
     obtain⟨C1,f1,f2,f3,f4,f5,f6,f7⟩:=oz hI hx (bm hs x)
     have hst1:an C1.st i= .map K' V' es:=by rw[f1];exact hst
     have em:=(hmp.move (f5.refs i hi)) _ _ _ hst1
     rw[f3] at em
     rw[←f5.P] at h3 h4
     obtain⟨w',g1,g2,g3⟩:=ub (T:=T) f4 (by omega) hst1 h3 (gn _ _ _ _ h4 f6.2.2) f6 (hsp.move (f5.refs i hi))
     rw[f2,f5.P,f3] at g1
     refine Stepped.skip hI hs ?_ g2 (f5.trans g3 (by omega)) (by simp only[Ctx.dC,f1]) h
     simp only[execOp,ho,em];exact tH g1
    ·exact h.elim
   ·exact h.elim
  ·exact h.elim
 ·
  rename_i T x ho
  split at h
  ·rename_i Kt Vt i hT hx
   split at h
   ·rename_i K' V' es hst
    have hrx:=bm hs x;rw[hx] at hrx
    obtain⟨hi,hmp⟩:=sg hrx
    rw[←hs.st] at hst h
    have em:=hmp _ _ _ hst
    obtain⟨w',g1,g2,g3,g4⟩:=GG hI hi hst hT
    refine Stepped.mk' hI hs (.inl ?_) g2 g3 g4 h
    simp only[execOp,ho,em];exact c6 g1
   ·exact h.elim
  ·rename_i Kt' Vt' Kt Vt ks vs hT hx
   have hrx:=bm hs x;rw[hx] at hrx
   rw[←hs.st] at h
   obtain⟨w',g1,g2,g3,g4⟩:=Gv hI hrx hT
   refine Stepped.mk' hI hs (.inl ?_) g2 g3 g4 h
   simp only[execOp,ho];exact c6 g1
  ·rename_i Kt Vt hT hx
   have hrx:=bm hs x;rw[hx] at hrx
   have em:=aH hrx
   rw[←hs.st] at h
   obtain⟨w',g1,g2,g3,g4⟩:=F5 hI hT
   refine Stepped.mk' hI hs (.inl ?_) g2 g3 g4 h
   simp only[execOp,ho,em];exact c6 g1
  ·rename_i b hT hx
   have hrx:=bm hs x;rw[hx] at hrx
   have em:=aH hrx
   rw[←hs.st] at h
   obtain⟨w',g1,g2,g3,g4⟩:=Gz hI hT b
   refine Stepped.mk' hI hs (.inl ?_) g2 g3 g4 h
   simp only[execOp,ho,em];exact c6 g1
  ·exact h.elim
 ·
  rename_i it ho
  split at h
  ·rename_i j p hx
   have hrx:=bm hs it;rw[hx] at hrx
   obtain⟨hj,hp⟩:=mz hrx
   split at h
   ·rename_i i n ks hsj
    rw[←hs.st] at hsj
    have em:=hp.2.2.1 _ _ _ hsj
    split at h
    ·rename_i Kt Vt es hst
     rw[←hs.st] at hst
     obtain⟨hn,hN⟩:=ai.1 h
     have hn:=Nat.eq_of_beq_eq_true hn
     rcases I8 hI hj hsj hst hn o.type with⟨g1,g2⟩|⟨k,a,v,w',g1,g2,g3,g4,g5,g6,g7,g8⟩
     ·refine Stepped.mk' hI hs (.inl ?_) hI (Ext.refl C (Nat.le_refl _)) (x:= .aX [.lit (.bool false)]) (v:= .tuple #[.bool false]) ?_ ?_
      ·simp only[execOp,ho,em];exact c6 g2
      ·refine cL ?_
       simp only[MT]
       exact⟨.inl rfl, .inl rfl,(aQ rfl).2.2,trivial⟩
      ·have:=hN.2 g1
       rw[hs.st];exact this
     ·obtain⟨hre,hpe⟩:=fc g5 g7 g8
      refine Stepped.mk' hI hs (.inl ?_) g5 g6 (x:= .aX [.lit (.bool true), .lit k,expand C.P bX Vt a]) (v:= .tuple #[.bool true,k,v]) ?_ ?_
      ·simp only[execOp,ho,em];exact c6 g4
      ·have hk1:Rel (C.dC j (.iter i n (k::ks)) w') (.lit k) k:=aQ (oI g3)
       refine cL ?_
       simp only[MT]
       exact⟨.inl rfl, .inl rfl,(aQ rfl).2.2,hk1.1,hk1.2.1,hk1.2.2,hre.1,hre.2.1,hre.2.2,trivial⟩
      ·have:=vC hN g1 g2 g3
       rw[←hs.st] at this
       simpa only[Ctx.dC] using this
    ·split at h
     ·refine Stepped.mk' hI hs (.inl ?_) hI (Ext.refl C (Nat.le_refl _)) (x:= .aX [.lit (.bool false)]) (v:= .tuple #[.bool false]) ?_ ?_
      ·simp only[execOp,ho,em];exact c6 (K3 hI hj hsj o.type)
      ·refine cL ?_
       simp only[MT]
       exact⟨.inl rfl, .inl rfl,(aQ rfl).2.2,trivial⟩
      ·rw[hs.st];exact h
     ·exact h.elim
   ·rename_i Kt Vt ks vs met hsj
    rw[←hs.st] at hsj
    have em:=hp.2.2.2.2.1 _ _ _ _ _ hsj
    rcases Lj hI hj hsj o.type with⟨g1,g2⟩|⟨k,a,v,w',g1,g2,g3,g4,g5,g6,g7,g8⟩
    ·refine Stepped.mk' hI hs (.inl ?_) hI (Ext.refl C (Nat.le_refl _)) (x:= .aX [.lit (.bool false)]) (v:= .tuple #[.bool false]) ?_ ?_
     ·simp only[execOp,ho,em];exact c6 g2
     ·refine cL ?_
      simp only[MT]
      exact⟨.inl rfl, .inl rfl,(aQ rfl).2.2,trivial⟩
     ·have:=h.2 g1
      rw[hs.st];exact this
    ·obtain⟨hre,hpe⟩:=fc g5 g7 g8
     refine Stepped.mk' hI hs (.inl ?_) g5 g6 (x:= .aX [.lit (.bool true), .lit k,expand C.P bX Vt a]) (v:= .tuple #[.bool true,k,v]) ?_ ?_
     ·simp only[execOp,ho,em];exact c6 g4
     ·have hk1:Rel (C.dC j (.fit Kt Vt ks vs (k::met)) w') (.lit k) k:=aQ (oI g3)
      refine cL ?_
      simp only[MT]
      exact⟨.inl rfl, .inl rfl,(aQ rfl).2.2,hk1.1,hk1.2.1,hk1.2.2,hre.1,hre.2.1,hre.2.2,trivial⟩
     ·have:=vC h g1 g2 g3
      rw[←hs.st] at this
      simpa only[Ctx.dC] using this
   ·exact h.elim
  ·exact h.elim
 ·
  rename_i it ho
  split at h
  ·rename_i j p hx
   have hrx:=bm hs it;rw[hx] at hrx
   obtain⟨hj,hp⟩:=mz hrx
   split at h
   ·rename_i b q hsj
    rw[←hs.st] at hsj
    have em:=hp.2.2.2.1 _ _ hsj
    obtain⟨h1,h2⟩:=(show _/\_ from FE h)
    obtain⟨f1,f2⟩:=JE hI hj hsj o.type
    by_cases hq:q<b.size
    ·obtain⟨w',g1,g2,g3⟩:=f1 hq
     refine Stepped.mk' hI hs (.inl ?_) g2 g3 (x:= .aX [.lit (.bool true), .lit (.int .i64 q), .lit (.int .i32 (Utf8.decode b q).1)]) (v:= .tuple #[.bool true, .int .i64 q, .int .i32 (Utf8.decode b q).1]) ?_ ?_
     ·simp only[execOp,ho,em];exact c6 g1
     ·refine cL ?_
      simp only[MT]
      exact⟨.inl rfl, .inl rfl,(aQ rfl).2.2, .inl rfl, .inl rfl,(aQ rfl).2.2, .inl rfl, .inl rfl,(aQ rfl).2.2,trivial⟩
     ·have:=h1 (by simpa using hq)
      simpa only[Ctx.dC,hs.st] using this
    ·refine Stepped.mk' hI hs (.inl ?_) hI (Ext.refl C (Nat.le_refl _)) (x:= .aX [.lit (.bool false)]) (v:= .tuple #[.bool false]) ?_ ?_
     ·simp only[execOp,ho,em];exact c6 (f2 hq)
     ·refine cL ?_
      simp only[MT]
      exact⟨.inl rfl, .inl rfl,(aQ rfl).2.2,trivial⟩
     ·rw[hs.st];exact h2 (by cases hb':Nat.blt q b.size with|false=>rfl|true=>exact absurd (by simpa[Nat.blt_eq] using hb') hq)
   ·exact h.elim
  ·exact h.elim
 ·
  rename_i T x y yT ho
  rw[←hs.st] at h
  obtain⟨ey,e,p,n,c,hT,ev,hK⟩:=q8 h (bm hs x)
  refine Stepped.mk' hI hs (.inl ?_) hI (Ext.refl C (Nat.le_refl _)) (aQ rfl) (by rw[hs.st];exact hK)
  have:=(sr C.w p n c hT x y).1
  subst ey
  simp only[execOp,ho,ev]
  exact cF this
 ·
  rename_i T x y yT ho
  rw[←hs.st] at h
  obtain⟨ey,e,p,n,c,hT,ev,hK⟩:=q8 h (bm hs x)
  refine Stepped.mk' hI hs (.inl ?_) hI (Ext.refl C (Nat.le_refl _)) (aQ rfl) (by rw[hs.st];exact hK)
  have:=(sr C.w p n c hT x y).2
  subst ey
  simp only[execOp,ho,ev]
  exact cF this
 ·
  rename_i args ts ho
  split at h
  ·rename_i i lo n T hev hts
   split at h
   ·rename_i Te Tr xs hT hst
    split at h
    ·rename_i z hz
     split at h
     ·rename_i hc
      obtain⟨rfl,hpos⟩:=hc
      rw[←hs.st] at hst h
      obtain⟨ox,hx,ex⟩:=Fo hev
      have ha:args= #[ox]:=by rw[←Array.toArray_toList (xs:=args),hx]
      have hts':ts= #[T]:=by rw[←Array.toArray_toList (xs:=ts),hts]
      subst ha;subst hts'
      have hrx:=bm hs ox
      rw[ex] at hrx
      obtain⟨hi,hsl⟩:=fy hrx
      obtain⟨w',g1,g2,g3⟩:=GA (ty:=o.type) hI hi hT hst hz hpos hsl
      refine Stepped.mk' hI hs (.inl ?_) g2 g3 (x:= .aX []) (v:= .tuple #[]) (cL (by simp only[MT])) (by simpa only[Ctx.dC] using h)
      simp[execOp,ho,resolve,invoke,builtin,g1,Ctx.dC]
     ·exact h.elim
    ·exact h.elim
   ·exact h.elim
  ·exact h.elim
 ·
  rename_i it ho
  split at h
  ·rename_i j p hx
   have hrx:=bm hs it;rw[hx] at hrx
   obtain⟨hj,hp⟩:=mz hrx
   split at h
   ·rename_i i n k ks hsj
    rw[←hs.st] at hsj
    have em:=hp.2.2.1 _ _ _ hsj
    split at h
    ·rename_i Kt Vt es hst
     rw[←hs.st] at hst
     split at h
     ·rename_i z hz
      obtain⟨hn,h1⟩:=ai.1 h
      have hn:=Nat.eq_of_beq_eq_true hn
      obtain⟨v,g1,g2,g3,g4⟩:=Hm hI hj hsj hst hn z
      obtain⟨hre,hpe⟩:=fc hI g3 g4
      refine Stepped.mk' hI hs (.inl ?_) hI (Ext.refl C (Nat.le_refl _)) (x:= .aX [.lit k,expand C.P bX Vt (dO es k z)]) (v:= .tuple #[k,v]) ?_ ?_
      ·simp only[execOp,ho,em];exact c6 g1
      ·have hk1:Rel C (.lit k) k:=aQ (oI g2)
       refine cL ?_
       simp only[MT]
       exact⟨hk1.1,hk1.2.1,hk1.2.2,hre.1,hre.2.1,hre.2.2,trivial⟩
      ·rw[hs.st];exact h1
     ·exact h.elim
    ·exact h.elim
   ·rename_i Kt Vt ks vs k met hsj
    rw[←hs.st] at hsj
    have em:=hp.2.2.2.2.1 _ _ _ _ _ hsj
    split at h
    ·rename_i z hz
     obtain⟨v,g1,g2,g3,g4⟩:=Hb hI hj hsj z
     obtain⟨hre,hpe⟩:=fc hI g3 g4
     refine Stepped.mk' hI hs (.inl ?_) hI (Ext.refl C (Nat.le_refl _)) (x:= .aX [.lit k,expand C.P bX Vt (dO (ks.zip vs) k z)]) (v:= .tuple #[k,v]) ?_ ?_
     ·simp only[execOp,ho,em];exact c6 g1
     ·have hk1:Rel C (.lit k) k:=aQ (oI g2)
      refine cL ?_
      simp only[MT]
      exact⟨hk1.1,hk1.2.1,hk1.2.2,hre.1,hre.2.1,hre.2.2,trivial⟩
     ·rw[hs.st];exact h
    ·exact h.elim
   ·exact h.elim
  ·exact h.elim
 ·
  rename_i args ts ho
  split at h
  ·rename_i x y T T' hev hts
   split at h
   ·rename_i hTT
    subst hTT
    obtain⟨ox,oy,hxy,rfl,rfl⟩:=yN hev
    have ha:args= #[ox,oy]:=by rw[←Array.toArray_toList (xs:=args),hxy]
    have hts':ts= #[T,T]:=by rw[←Array.toArray_toList (xs:=ts),hts]
    subst ha;subst hts'
    have hrx:=bm hs ox
    have hry:=bm hs oy
    have fin: ∀v w',(Builtin.append_ #[T,T] o.type #[act.eval ox,act.eval oy]).run C.P C.w= .ok v w'->(execOp act.eval o).run C.P C.w= .ok (.value v) w':=fun v w' h=>by
     simp[execOp,ho,resolve,invoke,builtin,h]
    unfold oE at h
    rw[←hs.st] at h
    split at h
    ·rename_i Te hT
     split at h
     ·rename_i Ty ys z hy hz
      split at h
      ·exact h.elim
      ·rename_i hc
       simp only[aa1,aa0] at hc
       split at h
       ·rename_i hex
        rw[hex] at hrx
        have ex:=aH hrx
        obtain⟨hb,hK⟩:=ai.1 h
        simp only[aa0] at hb
        obtain⟨v',w',g,g1,g2,g3,g4⟩:=vd (ty:=o.type) hI hT hy hc.1 hry hz hb
        exact Stepped.mk' hI hs (.inl (fin _ _ (by rw[ex];exact g1))) g2 g3 g4 (by simpa[Ctx.add] using hK)
       ·rename_i i lo n hex
        rw[hex] at hrx
        split at h
        ·rename_i Tr xs hst
         split at h
         ·rename_i hc2
          obtain⟨rfl,rfl⟩:=hc2
          obtain⟨hb,hK⟩:=ai.1 h
          simp only[aa0] at hb
          obtain⟨v',w',g,g1,g2,g3,g4⟩:=uT (ty:=o.type) hI hT hst hrx hy hc.1 hry hz hb
          exact Stepped.mk' hI hs (.inl (fin _ _ g1)) g2 g3 g4 (by simpa only[Ctx.app] using hK)
         ·exact h.elim
        ·rename_i Tr E ls hst
         split at h
         ·rename_i k vs hvs
          split at h
          ·rename_i hc2
           obtain⟨rfl,_⟩:=hc2
           obtain⟨hb,hK⟩:=ai.1 h
           simp only[aa1,aa0] at hb
           obtain⟨v',C',g1,g2,g3,g4,g5⟩:=vO (ty:=o.type) hI hT hst hrx hy hc.1 hry hvs hz hb.1 hb.2
           exact Stepped.mk' hI hs (.inl (fin _ _ g1)) g3 g4 g5 (by rw[g2];exact hK)
          ·exact h.elim
         ·exact h.elim
        ·exact h.elim
       ·exact h.elim
     ·exact h.elim
    ·exact h.elim
   ·exact h.elim
  ·exact h.elim
 ·exact h.elim
end Go.Dn
