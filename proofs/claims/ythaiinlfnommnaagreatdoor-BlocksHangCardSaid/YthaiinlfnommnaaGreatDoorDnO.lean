import Derived.Test.YthaiinlfnommnaaGreatDoorDnN
namespace Go.Dn
open Go
def QW:Obj->Bool
 | .row _ _| .map _ _ _=>true
 |_=>false
def Ctx.mq(C:Ctx)(i:Nat):Ctx:=
 {C with X:=fun b=>C.X b\/(i<C.st.length/\QW (aw C.st i)=true/\cv (C.ι i) (aw C.st i)=true/\b=(C.ι i).block),st:=db C.st i (jB (aw C.st i))}
theorem DM(o:Obj):hJ (jB o)=hJ o:=by cases o<;>rfl
theorem qz{C:Ctx}{i j:Nat}:(i≠j/\aw (C.mq i).st j=aw C.st j)\/(i=j/\aw (C.mq i).st j=jB (aw C.st j)):=by
 by_cases h:i=j
 ·subst h
  rcases Nat.lt_or_ge i C.st.length with hl|hl
  ·exact .inr ⟨rfl,bp _ _ _ hl⟩
  ·right
   have e1:aw (C.mq i).st i= .dead:=eo _ _ (by simp only[Ctx.mq,aU];exact hl)
   rw[e1,eo _ _ hl];exact⟨rfl,rfl⟩
 ·exact .inl ⟨h,bz _ _ _ _ h⟩
theorem pj(o:Obj):(jB o=o/\QW o=false)\/(QW o=true/\((∃T xs,o= .row T xs/\jB o= .mq T xs)\/ ∃K V es,o= .map K V es/\jB o= .dead)):=by
 cases o<;>simp[jB,QW]
theorem ze(g:G)(o:Obj):cv g (jB o)=true->cv g o=true/\QW o=false:=by
 cases o<;>simp[jB,QW,cv]
theorem OU{C:Ctx}(hI:Inv C)(i:Nat):Inv (C.mq i)/\Ext C.st.length C (C.mq i):=by
 have hk:bQ C (C.mq i):=⟨rfl,fun _ h=> .inl h,fun _ _=>rfl⟩
 have hlen:(C.mq i).st.length=C.st.length:=aU _ _ _
 have hel: ∀j,hJ (aw (C.mq i).st j)=hJ (aw C.st j):=fun j=>by
  rcases qz (C:=C) (i:=i) (j:=j) with⟨_,h⟩|⟨_,h⟩
  ·rw[h]
  ·rw[h,DM]
 have hbox: ∀j o,hJ o=none->o≠Obj.dead->aw (C.mq i).st j=o->aw C.st j=o:=fun j o ho hd h=>by
  rcases qz (C:=C) (i:=i) (j:=j) with⟨_,h'⟩|⟨_,h'⟩
  ·rw[←h',h]
  ·rw[h'] at h
   rcases pj (aw C.st j) with⟨h1,_⟩|⟨_,⟨T,xs,_,h2⟩|⟨K,V,es,_,h2⟩⟩
   ·rw[←h1,h]
   ·rw[h2] at h;rw[←h] at ho;cases ho
   ·rw[h2] at h;exact absurd h.symm hd
 have hrefs: ∀j,j<C.st.length->cd C (C.mq i) j j:=fun j hj=>
  ⟨by omega,fun T xs hx=>⟨xs,by rw[←hel];exact hx,rfl,Nat.le_refl _⟩,fun T a hx=>⟨a,hbox j _ rfl (by simp) hx,rfl⟩,
   fun K V es hx=>⟨es,hbox j _ rfl (by simp) hx,rfl,fun ents clock hh=>⟨ents,clock,hh,dX.refl _ _⟩⟩,fun r hx=>⟨r,hbox j _ rfl (by simp) hx,rfl⟩,fun m n ks hx=>⟨m,ks,hbox j _ rfl (by simp) hx,rfl⟩,fun t hx=>⟨t,hbox j _ rfl (by simp) hx,rfl⟩,fun s p hx=>⟨p,hbox j _ rfl (by simp) hx,rfl⟩,
   fun K V ks vs met hx=>⟨met,hbox j _ rfl (by simp) hx,rfl⟩,fun T E ls pd hx=>⟨ls,pd,hbox j _ rfl (by simp) hx,rfl,rfl,fun _ _ _ h=>h⟩⟩
 have hownd: ∀j,cv ((C.mq i).ι j) (aw (C.mq i).st j)=true->cv (C.ι j) (aw C.st j)=true/\(i=j->QW (aw C.st j)=false):=fun j h=>by
  rcases qz (C:=C) (i:=i) (j:=j) with⟨e,h'⟩|⟨_,h'⟩
  ·rw[h'] at h;exact⟨h,fun e'=>absurd e' e⟩
  ·rw[h'] at h
   have:=ze _ _ h
   exact⟨this.1,fun _=>this.2⟩
 have hXold: ∀j b,j<C.st.length->cv ((C.mq i).ι j) (aw (C.mq i).st j)=true->C.cls b=(C.ι j).block-> ¬ (C.mq i).X b:=fun j b hj h hcb hX=>by
  obtain⟨h1,h2⟩:=hownd j h
  rcases hX with hX|⟨hi,hrow,hoi,hb⟩
  ·exact(hI.dJ ⟨j,hj,h1,hcb.symm⟩).2 hX
  ·by_cases e:i=j
   ·subst e;rw[h2 rfl] at hrow;cases hrow
   ·rw[hb,hI.fm i hi hoi] at hcb
    exact hI.rH j i hj hi (fun h=>e h.symm) h1 hoi hcb.symm
 refine⟨⟨hI.lay,fun j hj=>?_,fun j k hj hk' hjk hoj hok=>?_,fun b hb=>?_,fun j hj hoj=>hI.fm j (by rw[hlen] at hj;exact hj) (hownd j hoj).1,fun b hb=>⟨(hI.pg b hb).1,fun hX=>?_,(hI.pg b hb).2.2⟩,hI.mm hk⟩,⟨hk,Nat.le_refl _,rfl,rfl,rfl,fun _ _ _=>rfl,fun b hb=>?_,fun b hb=>?_,hrefs,fun _=> .inl ⟨rfl,rfl⟩,rfl⟩⟩
 ·rw [hlen] at hj
  have hold:=hI.obj j hj
  have same:aw (C.mq i).st j=aw C.st j->j4 (C.mq i) ((C.mq i).ι j) (aw (C.mq i).st j):=fun h=>by
   rw[h]
   exact hold.keep hk hI.lay (fun j hj _=>hrefs j hj) (hI.fm j hj) ⟨fun b ho hb=>⟨hXold j b hj (by rw[h];exact ho) hb,rfl⟩,fun _ _=>⟨Iff.rfl,fun _=>rfl⟩,dY.refl _,Nat.le_refl _,fun _ _=>rfl⟩
  rcases qz (C:=C) (i:=i) (j:=j) with⟨_,h⟩|⟨hij,h⟩
  ·exact same h
  ·rcases pj (aw C.st j) with⟨h1,_⟩|⟨hf,⟨T,xs,h1,h2⟩|⟨K,V,es,_,h2⟩⟩
   ·exact same (h.trans h1)
   ·rw[h,h2]
    rw[h1] at hold
    obtain⟨g1,g2|⟨g2,g3,c,g4,g5,g6,g7,g8⟩⟩:=hold
    ·exact⟨g1, .inl g2⟩
    ·refine⟨g1, .inr ⟨g2, .inr ⟨hij▸hj,hij▸hf,?_,by rw[hij];rfl⟩,?_⟩⟩
     ·rw[hij,h1];simp only[cv,Bool.not_eq_true'];exact g2
     ·exact fQ hk hI.lay xs T _ _ _ _ g1 (fun _ _=>rfl) g8
   ·rw[h,h2];trivial
 ·rw[hlen] at hj hk'
  exact hI.rH j k hj hk' hjk (hownd j hoj).1 (hownd k hok).1
 ·rcases hb with hb|⟨hi,hf,ho,rfl⟩
  ·exact hI.xs b hb
  ·exact((hI.obj i hi).lt ho).1
 ·rcases hX with hX|⟨hi,hf,ho,rfl⟩
  ·exact(hI.pg b hb).2.1 hX
  ·exact hb (hI.fm i hi ho)
 ·rcases hb with hb|⟨hi,hf,ho,rfl⟩
  ·exact .inl hb
  ·exact .inr (.inl (hI.rY hi ho))
 ·obtain⟨j,hj,ho,hb'⟩:=hb
  rw[hlen] at hj
  exact .inl ⟨j,hj,(hownd j ho).1,hb'⟩
theorem nF: ∀(is:List Nat) {C:Ctx},Inv C->∃C',C'.st=cP C.st is/\C'.w=C.w/\C'.ι=C.ι/\Inv C'/\Ext C.st.length C C'/\
  (∀i,i∈is->i<C.st.length->zR C i->C'.X (C.ι i).block)
 |[],C,hI=>⟨C,rfl,rfl,rfl,hI,Ext.refl C (Nat.le_refl _),fun i hi=>by simp at hi⟩
 | i ::is,C,hI=>by
  obtain⟨h1,h2⟩:=OU hI i
  obtain⟨C',g1,g2,g3,g4,g5,g6⟩:=nF is h1
  have hlen:(C.mq i).st.length=C.st.length:=aU _ _ _
  refine⟨C',g1,g2,g3,g4,h2.trans g5 (by omega),fun j hj hlt hl=>?_⟩
  by_cases hij:i=j
  ·subst hij
   refine g5.keeps.X _ ?_
   rcases hl with⟨⟨⟨T,xs⟩,hy⟩,hn⟩|⟨K,V,es,hx⟩
   ·cases hx:aw C.st i<;>rw[hx] at hy<;>simp[hJ] at hy
    ·exact .inr ⟨hlt,by rw[hx];rfl,by rw[hx];simp[cv,hn],rfl⟩
    ·have:=hI.obj i hlt
     rw[hx] at this
     obtain⟨_,⟨h0,_⟩|⟨_,h3,_⟩⟩:=this
     ·rw[hn] at h0;cases h0
     ·exact .inl h3
   ·exact .inr ⟨hlt,by rw[hx];rfl,by rw[hx];rfl,rfl⟩
  ·have hj:=(List.mem_cons.1 hj).resolve_left (Ne.symm hij)
   refine g6 j hj (by omega) ?_
   have e:=(qz (C:=C) (i:=i) (j:=j)).resolve_right fun h=>hij h.1
   unfold zR
   rw[e.2];exact hl
theorem jU: ∀(is:List Nat) (st:List Obj),(cP st is).length=st.length
 |[],_=>rfl
 |i::is,st=>by simp only[cP];rw[jU is,aU]
theorem qx{C C':Ctx}(hI:Inv C)(hk:bQ C C')(hw:C'.w=C.w){a b:AV}{v:Value}(h:ck C.st a=some b)(hX: ∀i,i∈rowsOf a->i<C.st.length->zR C i->C'.X (C.ι i).block)(hr:Rel C a v):Rel C' b v:=by
 obtain⟨g1,g2,g3,g4⟩:=iL a b h
 have hj:a≠ .cG:=by intro e;subst e;simp[ck] at h
 exact⟨.inl (by rw[g1];exact hr.1.resolve_right hj), .inl (by rw[g2];exact hr.2.1.resolve_right hj),tO hI hk hw a b _ _ h hX hr.2.2⟩
theorem Qw{C:Ctx}(hI:Inv C){x:AV}{l:List AV}{i off:Nat}{s s':Src}{o:Nat}(hoff:ib l i=off)(hi:i<l.length)(hw:wid x=wid (nth l i))(h:ML C l s o)(hx:M C x s' (o+off))
  (hs: ∀j,j<eQ l-> ¬ (off<=j/\j<off+wid x)->s' (o+j)=s (o+j)):ML C (cg l i x) s' o:=
 DL hI hx l i off s s' o hoff hi hw h (fun j hj=>by
  by_cases hc:off<=j/\j<off+wid x
  ·rw[if_pos hc];congr 1;omega
  ·rw[if_neg hc];exact hs j hj hc)
theorem lX: ∀(p:List Nat) (a x:AV),nk a p=true->wid x=wid (mC a p)->wid (fS a p x)=wid a
 |[],a,x,_,h=>by cases a<;>simpa[fS,mC] using h
 |j::p, .agg l,x,hp,h=>by
  simp only[nk,aa2,aa1] at hp
  simp only[mC,ae] at h
  simp only[fS,wid]
  exact rO l j _ (lX p (nth l j) x hp.2 h)
 |_::_, .cG,_,hp,_|_::_, .lit _,_,hp,_|_::_, .ad _ _,_,hp,_|_::_, .bh _,_,hp,_|_::_, .an _ _ _,_,hp,_
 |_::_, .ptr _ _ _ _,_,hp,_|_::_, .jS _ _,_,hp,_|_::_, .mp _,_,hp,_|_::_, .cD _,_,hp,_|_::_, .ku _ _,_,hp,_
 |_::_, .bL _ _,_,hp,_|_::_, .jj _ _,_,hp,_|_::_, .jE _ _ _ _,_,hp,_=>by simp[nk] at hp
theorem AS{C:Ctx}(hI:Inv C){x:AV}: ∀(p:List Nat) (a:AV) (s s':Src) (o:Nat),nk a p=true->wid x=wid (mC a p)->M C a s o->M C x s' (o+gV a p)->
  (∀j,j<wid a-> ¬ (gV a p<=j/\j<gV a p+wid x)->s' (o+j)=s (o+j))->M C (fS a p x) s' o
 |[],a,s,s',o,_,_,_,hx,_=>by cases a<;>simpa[fS,gV] using hx
 |j::p, .agg l,s,s',o,hp,hw,h,hx,hs=>by
  simp only[nk,aa2,aa1] at hp
  simp only[mC,ae] at hw
  simp only[gV] at hx hs
  simp only[M] at h
  simp only[wid] at hs
  simp only[fS,M]
  have hw2:=lX p (nth l j) x hp.2 hw
  have hle:=qv l j hp.1
  have hle2:=o8 p (nth l j) hp.2
  refine Qw hI rfl hp.1 hw2 h ?_ (fun k hk hnk=>hs k hk (by omega))
  refine AS hI p (nth l j) s s' (o+ib l j) hp.2 hw (Bv l j s o hp.1 h) (by rwa [show o+ib l j+gV (nth l j) p=o+(ib l j+gV (nth l j) p) by omega]) (fun k hk hnk=>?_)
  have:=hs (ib l j+k) (by omega) (by omega)
  rwa [show o+ib l j+k=o+(ib l j+k) by omega]
 |_::_, .cG,_,_,_,hp,_,_,_,_|_::_, .lit _,_,_,_,hp,_,_,_,_|_::_, .ad _ _,_,_,_,hp,_,_,_,_|_::_, .bh _,_,_,_,hp,_,_,_,_|_::_, .an _ _ _,_,_,_,hp,_,_,_,_
 |_::_, .ptr _ _ _ _,_,_,_,hp,_,_,_,_|_::_, .jS _ _,_,_,_,hp,_,_,_,_|_::_, .mp _,_,_,_,hp,_,_,_,_|_::_, .cD _,_,_,_,hp,_,_,_,_|_::_, .ku _ _,_,_,_,hp,_,_,_,_
 |_::_, .bL _ _,_,_,_,hp,_,_,_,_|_::_, .jj _ _,_,_,_,hp,_,_,_,_|_::_, .jE _ _ _ _,_,_,_,hp,_,_,_,_=>by simp[nk] at hp
theorem xk: ∀(l:List AV) (i:Nat) (x:AV),dI l=true->cO x=true->dI (cg l i x)=true
 |[],_,_,_,_=>by simp[cg,dI]
 |a::l,0,x,h,hx=>by simp only[dI,aa2] at h;simp[cg,dI,hx,h.2]
 |a::l,i+1,x,h,hx=>by simp only[dI,aa2] at h;simp[cg,dI,h.1,xk l i x h.2 hx]
theorem qm: ∀(p:List Nat) (a x:AV),nk a p=true->cO a=true->cO x=true->cO (fS a p x)=true
 |[],a,x,_,_,hx=>by cases a<;>simpa[fS] using hx
 |j::p, .agg l,x,hp,h,hx=>by
  simp only[nk,aa2,aa1] at hp
  simp only[cO] at h
  simp only[fS,cO]
  exact xk l j _ h (qm p (nth l j) x hp.2 (wz l j hp.1 h) hx)
 |_::_, .cG,_,hp,_,_|_::_, .lit _,_,hp,_,_|_::_, .ad _ _,_,hp,_,_|_::_, .bh _,_,hp,_,_|_::_, .an _ _ _,_,hp,_,_
 |_::_, .ptr _ _ _ _,_,hp,_,_|_::_, .jS _ _,_,hp,_,_|_::_, .mp _,_,hp,_,_|_::_, .cD _,_,hp,_,_|_::_, .ku _ _,_,hp,_,_
 |_::_, .bL _ _,_,hp,_,_|_::_, .jj _ _,_,hp,_,_|_::_, .jE _ _ _ _,_,hp,_,_=>by simp[nk] at hp
theorem spliced(cur:Array Value)(o:Nat)(vs:List Value)(h:o+vs.length<=cur.size)(j:Nat):
  ((cur.toList.take o++vs++cur.toList.drop (o+vs.length)).toArray)[j]? =if o<=j/\j<o+vs.length then vs[j - o]? else cur[j]? :=by
 rw[List.getElem?_toArray]
 have hlt:(cur.toList.take o).length=o:=by simp;omega
 by_cases h1:j<o
 ·rw[List.append_assoc,List.getElem?_append_left (by omega),if_neg (by omega)]
  simp[h1]
 ·by_cases h2:j<o+vs.length
  ·rw[List.append_assoc,List.getElem?_append_right (by omega),hlt,List.getElem?_append_left (by omega),if_pos (by omega)]
  ·rw[List.getElem?_append_right (by simp;omega),if_neg (by omega)]
   simp only[ab9,hlt,List.getElem?_drop]
   rw[show o+vs.length+(j - (o+vs.length))=j by omega]
   simp
end Go.Dn
