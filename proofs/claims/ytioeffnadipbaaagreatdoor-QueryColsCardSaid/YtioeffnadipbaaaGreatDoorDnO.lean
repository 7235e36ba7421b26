import Derived.Test.YtioeffnadipbaaaGreatDoorDnN
namespace Go.Dn
open Go
def Pu:Obj->Bool
 | .row _ _| .map _ _ _=>true
 |_=>false
def Ctx.kC(C:Ctx)(i:Nat):Ctx:=
 {C with X:=fun b=>C.X b\/(i<C.st.length/\Pu (an C.st i)=true/\cr (C.ι i) (an C.st i)=true/\b=(C.ι i).block),st:=c9 C.st i (jg (an C.st i))}
theorem CB(o:Obj):gC (jg o)=gC o:=by cases o<;>rfl
theorem qM{C:Ctx}{i j:Nat}:(i≠j/\an (C.kC i).st j=an C.st j)\/(i=j/\an (C.kC i).st j=jg (an C.st j)):=by
 by_cases h:i=j
 ·subst h
  rcases Nat.lt_or_ge i C.st.length with hl|hl
  ·exact .inr ⟨rfl,bn _ _ _ hl⟩
  ·right
   have e1:an (C.kC i).st i= .dead:=eh _ _ (by simp only[Ctx.kC,aU];exact hl)
   rw[e1,eh _ _ hl];exact⟨rfl,rfl⟩
 ·exact .inl ⟨h,bt _ _ _ _ h⟩
theorem o3(o:Obj):(jg o=o/\Pu o=false)\/(Pu o=true/\((∃T xs,o= .row T xs/\jg o= .kC T xs)\/ ∃K V es,o= .map K V es/\jg o= .dead)):=by
 cases o<;>simp[jg,Pu]
theorem zH(g:G)(o:Obj):cr g (jg o)=true->cr g o=true/\Pu o=false:=by
 cases o<;>simp[jg,Pu,cr]
theorem Nb{C:Ctx}(hI:Inv C)(i:Nat):Inv (C.kC i)/\Ext C.st.length C (C.kC i):=by
 have hk:bH C (C.kC i):=⟨rfl,fun _ h=> .inl h,fun _ _=>rfl⟩
 have hlen:(C.kC i).st.length=C.st.length:=aU _ _ _
 have hel: ∀j,gC (an (C.kC i).st j)=gC (an C.st j):=fun j=>by
  rcases qM (C:=C) (i:=i) (j:=j) with⟨_,h⟩|⟨_,h⟩
  ·rw[h]
  ·rw[h,CB]
 have hbox: ∀j o,gC o=none->o≠Obj.dead->an (C.kC i).st j=o->an C.st j=o:=fun j o ho hd h=>by
  rcases qM (C:=C) (i:=i) (j:=j) with⟨_,h'⟩|⟨_,h'⟩
  ·rw[←h',h]
  ·rw[h'] at h
   rcases o3 (an C.st j) with⟨h1,_⟩|⟨_,⟨T,xs,_,h2⟩|⟨K,V,es,_,h2⟩⟩
   ·rw[←h1,h]
   ·rw[h2] at h;rw[←h] at ho;cases ho
   ·rw[h2] at h;exact absurd h.symm hd
 have hrefs: ∀j,j<C.st.length->bU C (C.kC i) j j:=fun j hj=>
  ⟨by omega,fun T xs hx=>⟨xs,by rw[←hel];exact hx,rfl,Nat.le_refl _⟩,fun T a hx=>⟨a,hbox j _ rfl (by simp) hx,rfl⟩,
   fun K V es hx=>⟨es,hbox j _ rfl (by simp) hx,rfl,fun ents clock hh=>⟨ents,clock,hh,dW.refl _ _⟩⟩,fun r hx=>⟨r,hbox j _ rfl (by simp) hx,rfl⟩,fun m n ks hx=>⟨m,ks,hbox j _ rfl (by simp) hx,rfl⟩,fun t hx=>⟨t,hbox j _ rfl (by simp) hx,rfl⟩,fun s p hx=>⟨p,hbox j _ rfl (by simp) hx,rfl⟩,
   fun K V ks vs met hx=>⟨met,hbox j _ rfl (by simp) hx,rfl⟩,fun T E ls pd hx=>⟨ls,pd,hbox j _ rfl (by simp) hx,rfl,rfl,fun _ _ _ h=>h⟩⟩
 have hownd: ∀j,cr ((C.kC i).ι j) (an (C.kC i).st j)=true->cr (C.ι j) (an C.st j)=true/\(i=j->Pu (an C.st j)=false):=fun j h=>by
  rcases qM (C:=C) (i:=i) (j:=j) with⟨e,h'⟩|⟨_,h'⟩
  ·rw[h'] at h;exact⟨h,fun e'=>absurd e' e⟩
  ·rw[h'] at h
   have:=zH _ _ h
   exact⟨this.1,fun _=>this.2⟩
 have hXold: ∀j b,j<C.st.length->cr ((C.kC i).ι j) (an (C.kC i).st j)=true->C.cls b=(C.ι j).block-> ¬ (C.kC i).X b:=fun j b hj h hcb hX=>by
  obtain⟨h1,h2⟩:=hownd j h
  rcases hX with hX|⟨hi,hrow,hoi,hb⟩
  ·exact(hI.dv ⟨j,hj,h1,hcb.symm⟩).2 hX
  ·by_cases e:i=j
   ·subst e;rw[h2 rfl] at hrow;cases hrow
   ·rw[hb,hI.eQ i hi hoi] at hcb
    exact hI.s8 j i hj hi (fun h=>e h.symm) h1 hoi hcb.symm
 refine⟨⟨hI.lay,fun j hj=>?_,fun j k hj hk' hjk hoj hok=>?_,fun b hb=>?_,fun j hj hoj=>hI.eQ j (by rw[hlen] at hj;exact hj) (hownd j hoj).1,fun b hb=>⟨(hI.mT b hb).1,fun hX=>?_,(hI.mT b hb).2.2⟩,hI.kJ hk⟩,⟨hk,Nat.le_refl _,rfl,rfl,rfl,fun _ _ _=>rfl,fun b hb=>?_,fun b hb=>?_,hrefs,fun _=> .inl ⟨rfl,rfl⟩,rfl⟩⟩
 ·rw [hlen] at hj
  have hold:=hI.obj j hj
  have same:an (C.kC i).st j=an C.st j->jF (C.kC i) ((C.kC i).ι j) (an (C.kC i).st j):=fun h=>by
   rw[h]
   exact hold.eu hk hI.lay (fun j hj _=>hrefs j hj) (hI.eQ j hj) ⟨fun b ho hb=>⟨hXold j b hj (by rw[h];exact ho) hb,rfl⟩,fun _ _=>⟨Iff.rfl,fun _=>rfl⟩,dN.refl _,Nat.le_refl _,fun _ _=>rfl⟩
  rcases qM (C:=C) (i:=i) (j:=j) with⟨_,h⟩|⟨hij,h⟩
  ·exact same h
  ·rcases o3 (an C.st j) with⟨h1,_⟩|⟨hf,⟨T,xs,h1,h2⟩|⟨K,V,es,_,h2⟩⟩
   ·exact same (h.trans h1)
   ·rw[h,h2]
    rw[h1] at hold
    obtain⟨g1,g2|⟨g2,g3,c,g4,g5,g6,g7,g8⟩⟩:=hold
    ·exact⟨g1, .inl g2⟩
    ·refine⟨g1, .inr ⟨g2, .inr ⟨hij▸hj,hij▸hf,?_,by rw[hij];rfl⟩,?_⟩⟩
     ·rw[hij,h1];simp only[cr,Bool.not_eq_true'];exact g2
     ·exact fI hk hI.lay xs T _ _ _ _ g1 (fun _ _=>rfl) g8
   ·rw[h,h2];trivial
 ·rw[hlen] at hj hk'
  exact hI.s8 j k hj hk' hjk (hownd j hoj).1 (hownd k hok).1
 ·rcases hb with hb|⟨hi,hf,ho,rfl⟩
  ·exact hI.xs b hb
  ·exact((hI.obj i hi).lt ho).1
 ·rcases hX with hX|⟨hi,hf,ho,rfl⟩
  ·exact(hI.mT b hb).2.1 hX
  ·exact hb (hI.eQ i hi ho)
 ·rcases hb with hb|⟨hi,hf,ho,rfl⟩
  ·exact .inl hb
  ·exact .inr (.inl (hI.rM hi ho))
 ·obtain⟨j,hj,ho,hb'⟩:=hb
  rw[hlen] at hj
  exact .inl ⟨j,hj,(hownd j ho).1,hb'⟩
theorem lu: ∀(is:List Nat) {C:Ctx},Inv C->∃C',C'.st=cD C.st is/\C'.w=C.w/\C'.ι=C.ι/\Inv C'/\Ext C.st.length C C'/\
  (∀i,i∈is->i<C.st.length->wz C i->C'.X (C.ι i).block)
 |[],C,hI=>⟨C,rfl,rfl,rfl,hI,Ext.refl C (Nat.le_refl _),fun i hi=>by simp at hi⟩
 | i ::is,C,hI=>by
  obtain⟨h1,h2⟩:=Nb hI i
  obtain⟨C',g1,g2,g3,g4,g5,g6⟩:=lu is h1
  have hlen:(C.kC i).st.length=C.st.length:=aU _ _ _
  refine⟨C',g1,g2,g3,g4,h2.trans g5 (by omega),fun j hj hlt hl=>?_⟩
  by_cases hij:i=j
  ·subst hij
   refine g5.keeps.X _ ?_
   rcases hl with⟨⟨⟨T,xs⟩,hy⟩,hn⟩|⟨K,V,es,hx⟩
   ·cases hx:an C.st i<;>rw[hx] at hy<;>simp[gC] at hy
    ·exact .inr ⟨hlt,by rw[hx];rfl,by rw[hx];simp[cr,hn],rfl⟩
    ·have:=hI.obj i hlt
     rw[hx] at this
     obtain⟨_,⟨h0,_⟩|⟨_,h3,_⟩⟩:=this
     ·rw[hn] at h0;cases h0
     ·exact .inl h3
   ·exact .inr ⟨hlt,by rw[hx];rfl,by rw[hx];rfl,rfl⟩
  ·have hj:=(List.mem_cons.1 hj).resolve_left (Ne.symm hij)
   refine g6 j hj (by omega) ?_
   have e:=(qM (C:=C) (i:=i) (j:=j)).resolve_right fun h=>hij h.1
   unfold wz
   rw[e.2];exact hl
theorem hH: ∀(is:List Nat) (st:List Obj),(cD st is).length=st.length
 |[],_=>rfl
 |i::is,st=>by simp only[cD];rw[hH is,aU]
theorem nk{C C':Ctx}(hI:Inv C)(hk:bH C C')(hw:C'.w=C.w){a b:AV}{v:Value}(h:bW C.st a=some b)(hX: ∀i,i∈rowsOf a->i<C.st.length->wz C i->C'.X (C.ι i).block)(hr:Rel C a v):Rel C' b v:=by
 obtain⟨g1,g2,g3,g4⟩:=ij a b h
 have hj:a≠ .cK:=by intro e;subst e;simp[bW] at h
 exact⟨.inl (by rw[g1];exact hr.1.resolve_right hj), .inl (by rw[g2];exact hr.2.1.resolve_right hj),tC hI hk hw a b _ _ h hX hr.2.2⟩
theorem PS{C:Ctx}(hI:Inv C){x:AV}{l:List AV}{i off:Nat}{s s':Src}{o:Nat}(hoff:gW l i=off)(hi:i<l.length)(hw:wid x=wid (nth l i))(h:ML C l s o)(hx:M C x s' (o+off))
  (hs: ∀j,j<eH l-> ¬ (off<=j/\j<off+wid x)->s' (o+j)=s (o+j)):ML C (bJ l i x) s' o:=
 Ck hI hx l i off s s' o hoff hi hw h (fun j hj=>by
  by_cases hc:off<=j/\j<off+wid x
  ·rw[if_pos hc];congr 1;omega
  ·rw[if_neg hc];exact hs j hj hc)
theorem lJ: ∀(p:List Nat) (a x:AV),mL a p=true->wid x=wid (lT a p)->wid (fF a p x)=wid a
 |[],a,x,_,h=>by cases a<;>simpa[fF,lT] using h
 |j::p, .agg l,x,hp,h=>by
  simp only[mL,aa1,aa0] at hp
  simp only[lT,af] at h
  simp only[fF,wid]
  exact rP l j _ (lJ p (nth l j) x hp.2 h)
 |_::_, .cK,_,hp,_|_::_, .lit _,_,hp,_|_::_, .ad _ _,_,hp,_|_::_, .aX _,_,hp,_|_::_, .aB _ _ _,_,hp,_
 |_::_, .ptr _ _ _ _,_,hp,_|_::_, .iY _ _,_,hp,_|_::_, .mp _,_,hp,_|_::_, .de _,_,hp,_|_::_, .jV _ _,_,hp,_
 |_::_, .bq _ _,_,hp,_|_::_, .iN _ _,_,hp,_|_::_, .fJ _ _ _ _,_,hp,_=>by simp[mL] at hp
theorem zV{C:Ctx}(hI:Inv C){x:AV}: ∀(p:List Nat) (a:AV) (s s':Src) (o:Nat),mL a p=true->wid x=wid (lT a p)->M C a s o->M C x s' (o+gH a p)->
  (∀j,j<wid a-> ¬ (gH a p<=j/\j<gH a p+wid x)->s' (o+j)=s (o+j))->M C (fF a p x) s' o
 |[],a,s,s',o,_,_,_,hx,_=>by cases a<;>simpa[fF,gH] using hx
 |j::p, .agg l,s,s',o,hp,hw,h,hx,hs=>by
  simp only[mL,aa1,aa0] at hp
  simp only[lT,af] at hw
  simp only[gH] at hx hs
  simp only[M] at h
  simp only[wid] at hs
  simp only[fF,M]
  have hw2:=lJ p (nth l j) x hp.2 hw
  have hle:=qq l j hp.1
  have hle2:=oH p (nth l j) hp.2
  refine PS hI rfl hp.1 hw2 h ?_ (fun k hk hnk=>hs k hk (by omega))
  refine zV hI p (nth l j) s s' (o+gW l j) hp.2 hw (BI l j s o hp.1 h) (by rwa [show o+gW l j+gH (nth l j) p=o+(gW l j+gH (nth l j) p) by omega]) (fun k hk hnk=>?_)
  have:=hs (gW l j+k) (by omega) (by omega)
  rwa [show o+gW l j+k=o+(gW l j+k) by omega]
 |_::_, .cK,_,_,_,hp,_,_,_,_|_::_, .lit _,_,_,_,hp,_,_,_,_|_::_, .ad _ _,_,_,_,hp,_,_,_,_|_::_, .aX _,_,_,_,hp,_,_,_,_|_::_, .aB _ _ _,_,_,_,hp,_,_,_,_
 |_::_, .ptr _ _ _ _,_,_,_,hp,_,_,_,_|_::_, .iY _ _,_,_,_,hp,_,_,_,_|_::_, .mp _,_,_,_,hp,_,_,_,_|_::_, .de _,_,_,_,hp,_,_,_,_|_::_, .jV _ _,_,_,_,hp,_,_,_,_
 |_::_, .bq _ _,_,_,_,hp,_,_,_,_|_::_, .iN _ _,_,_,_,hp,_,_,_,_|_::_, .fJ _ _ _ _,_,_,_,hp,_,_,_,_=>by simp[mL] at hp
theorem ve: ∀(l:List AV) (i:Nat) (x:AV),dA l=true->cQ x=true->dA (bJ l i x)=true
 |[],_,_,_,_=>by simp[bJ,dA]
 |a::l,0,x,h,hx=>by simp only[dA,aa1] at h;simp[bJ,dA,hx,h.2]
 |a::l,i+1,x,h,hx=>by simp only[dA,aa1] at h;simp[bJ,dA,h.1,ve l i x h.2 hx]
theorem pS: ∀(p:List Nat) (a x:AV),mL a p=true->cQ a=true->cQ x=true->cQ (fF a p x)=true
 |[],a,x,_,_,hx=>by cases a<;>simpa[fF] using hx
 |j::p, .agg l,x,hp,h,hx=>by
  simp only[mL,aa1,aa0] at hp
  simp only[cQ] at h
  simp only[fF,cQ]
  exact ve l j _ h (pS p (nth l j) x hp.2 (uZ l j hp.1 h) hx)
 |_::_, .cK,_,hp,_,_|_::_, .lit _,_,hp,_,_|_::_, .ad _ _,_,hp,_,_|_::_, .aX _,_,hp,_,_|_::_, .aB _ _ _,_,hp,_,_
 |_::_, .ptr _ _ _ _,_,hp,_,_|_::_, .iY _ _,_,hp,_,_|_::_, .mp _,_,hp,_,_|_::_, .de _,_,hp,_,_|_::_, .jV _ _,_,hp,_,_
 |_::_, .bq _ _,_,hp,_,_|_::_, .iN _ _,_,hp,_,_|_::_, .fJ _ _ _ _,_,hp,_,_=>by simp[mL] at hp
theorem spliced(cur:Array Value)(o:Nat)(vs:List Value)(h:o+vs.length<=cur.size)(j:Nat):
  ((cur.toList.take o++vs++cur.toList.drop (o+vs.length)).toArray)[j]? =if o<=j/\j<o+vs.length then vs[j - o]? else cur[j]? :=by grind
end Go.Dn
