import Derived.Test.YtdpmikfheebicaaGreatDoorDnN
namespace Go.Dn
open Go
def Nw:Obj->Bool
 | .row _ _| .map _ _ _=>true
 |_=>false
def Ctx.mo(C:Ctx)(i:Nat):Ctx:=
 {C with X:=fun b=>C.X b\/(i<C.st.length/\Nw (ar C.st i)=true/\b6 (C.ι i) (ar C.st i)=true/\b=(C.ι i).block),st:=da C.st i (iM (ar C.st i))}
theorem B6(o:Obj):gb (iM o)=gb o:=by cases o<;>rfl
theorem pZ{C:Ctx}{i j:Nat}:(i≠j/\ar (C.mo i).st j=ar C.st j)\/(i=j/\ar (C.mo i).st j=iM (ar C.st j)):=by
 by_cases h:i=j
 ·subst h
  rcases Nat.lt_or_ge i C.st.length with hl|hl
  ·exact .inr ⟨rfl,bk _ _ _ hl⟩
  ·right
   have e1:ar (C.mo i).st i= .dead:=eD _ _ (by simp only[Ctx.mo,aV];exact hl)
   rw[e1,eD _ _ hl];exact⟨rfl,rfl⟩
 ·exact .inl ⟨h,bO _ _ _ _ h⟩
theorem oB(o:Obj):(iM o=o/\Nw o=false)\/(Nw o=true/\((∃T xs,o= .row T xs/\iM o= .mo T xs)\/ ∃K V es,o= .map K V es/\iM o= .dead)):=by
 cases o<;>simp[iM,Nw]
theorem yw(g:G)(o:Obj):b6 g (iM o)=true->b6 g o=true/\Nw o=false:=by
 cases o<;>simp[iM,Nw,b6]
theorem J3{C:Ctx}(hI:Inv C)(i:Nat):Inv (C.mo i)/\Ext C.st.length C (C.mo i):=by
 have hk:bG C (C.mo i):=⟨rfl,fun _ h=> .inl h,fun _ _=>rfl⟩
 have hlen:(C.mo i).st.length=C.st.length:=aV _ _ _
 have hel: ∀j,gb (ar (C.mo i).st j)=gb (ar C.st j):=fun j=>by
  rcases pZ (C:=C) (i:=i) (j:=j) with⟨_,h⟩|⟨_,h⟩
  ·rw[h]
  ·rw[h,B6]
 have hbox: ∀j o,gb o=none->o≠Obj.dead->ar (C.mo i).st j=o->ar C.st j=o:=fun j o ho hd h=>by
  rcases pZ (C:=C) (i:=i) (j:=j) with⟨_,h'⟩|⟨_,h'⟩
  ·rw[←h',h]
  ·rw[h'] at h
   rcases oB (ar C.st j) with⟨h1,_⟩|⟨_,⟨T,xs,_,h2⟩|⟨K,V,es,_,h2⟩⟩
   ·rw[←h1,h]
   ·rw[h2] at h;rw[←h] at ho;cases ho
   ·rw[h2] at h;exact absurd h.symm hd
 have hrefs: ∀j,j<C.st.length->bW C (C.mo i) j j:=fun j hj=>
  ⟨by omega,fun T xs hx=>⟨xs,by rw[←hel];exact hx,rfl,Nat.le_refl _⟩,fun T a hx=>⟨a,hbox j _ rfl (by simp) hx,rfl⟩,
   fun K V es hx=>⟨es,hbox j _ rfl (by simp) hx,rfl,fun ents clock hh=>⟨ents,clock,hh,dx.refl _ _⟩⟩,fun r hx=>⟨r,hbox j _ rfl (by simp) hx,rfl⟩,fun m n ks hx=>⟨m,ks,hbox j _ rfl (by simp) hx,rfl⟩,fun t hx=>⟨t,hbox j _ rfl (by simp) hx,rfl⟩,fun s p hx=>⟨p,hbox j _ rfl (by simp) hx,rfl⟩,
   fun K V ks vs met hx=>⟨met,hbox j _ rfl (by simp) hx,rfl⟩,fun T E ls pd hx=>⟨ls,pd,hbox j _ rfl (by simp) hx,rfl,rfl,fun _ _ _ h=>h⟩⟩
 have hownd: ∀j,b6 ((C.mo i).ι j) (ar (C.mo i).st j)=true->b6 (C.ι j) (ar C.st j)=true/\(i=j->Nw (ar C.st j)=false):=fun j h=>by
  rcases pZ (C:=C) (i:=i) (j:=j) with⟨e,h'⟩|⟨_,h'⟩
  ·rw[h'] at h;exact⟨h,fun e'=>absurd e' e⟩
  ·rw[h'] at h
   have:=yw _ _ h
   exact⟨this.1,fun _=>this.2⟩
 have hXold: ∀j b,j<C.st.length->b6 ((C.mo i).ι j) (ar (C.mo i).st j)=true->C.cls b=(C.ι j).block-> ¬ (C.mo i).X b:=fun j b hj h hcb hX=>by
  obtain⟨h1,h2⟩:=hownd j h
  rcases hX with hX|⟨hi,hrow,hoi,hb⟩
  ·exact(hI.df ⟨j,hj,h1,hcb.symm⟩).2 hX
  ·by_cases e:i=j
   ·subst e;rw[h2 rfl] at hrow;cases hrow
   ·rw[hb,hI.eG i hi hoi] at hcb
    exact hI.pg j i hj hi (fun h=>e h.symm) h1 hoi hcb.symm
 refine⟨⟨hI.lay,fun j hj=>?_,fun j k hj hk' hjk hoj hok=>?_,fun b hb=>?_,fun j hj hoj=>hI.eG j (by rw[hlen] at hj;exact hj) (hownd j hoj).1,fun b hb=>⟨(hI.oe b hb).1,fun hX=>?_,(hI.oe b hb).2.2⟩,hI.lh hk⟩,⟨hk,Nat.le_refl _,rfl,rfl,rfl,fun _ _ _=>rfl,fun b hb=>?_,fun b hb=>?_,hrefs,fun _=> .inl ⟨rfl,rfl⟩,rfl⟩⟩
 ·rw [hlen] at hj
  have hold:=hI.obj j hj
  have same:ar (C.mo i).st j=ar C.st j->js (C.mo i) ((C.mo i).ι j) (ar (C.mo i).st j):=fun h=>by
   rw[h]
   exact hold.dV hk hI.lay (fun j hj _=>hrefs j hj) (hI.eG j hj) ⟨fun b ho hb=>⟨hXold j b hj (by rw[h];exact ho) hb,rfl⟩,fun _ _=>⟨Iff.rfl,fun _=>rfl⟩,dw.refl _,Nat.le_refl _,fun _ _=>rfl⟩
  rcases pZ (C:=C) (i:=i) (j:=j) with⟨_,h⟩|⟨hij,h⟩
  ·exact same h
  ·rcases oB (ar C.st j) with⟨h1,_⟩|⟨hf,⟨T,xs,h1,h2⟩|⟨K,V,es,_,h2⟩⟩
   ·exact same (h.trans h1)
   ·rw[h,h2]
    rw[h1] at hold
    obtain⟨g1,g2|⟨g2,g3,c,g4,g5,g6,g7,g8⟩⟩:=hold
    ·exact⟨g1, .inl g2⟩
    ·refine⟨g1, .inr ⟨g2, .inr ⟨hij▸hj,hij▸hf,?_,by rw[hij];rfl⟩,?_⟩⟩
     ·rw[hij,h1];simp only[b6,Bool.not_eq_true'];exact g2
     ·exact fa hk hI.lay xs T _ _ _ _ g1 (fun _ _=>rfl) g8
   ·rw[h,h2];trivial
 ·rw[hlen] at hj hk'
  exact hI.pg j k hj hk' hjk (hownd j hoj).1 (hownd k hok).1
 ·rcases hb with hb|⟨hi,hf,ho,rfl⟩
  ·exact hI.xs b hb
  ·exact((hI.obj i hi).lt ho).1
 ·rcases hX with hX|⟨hi,hf,ho,rfl⟩
  ·exact(hI.oe b hb).2.1 hX
  ·exact hb (hI.eG i hi ho)
 ·rcases hb with hb|⟨hi,hf,ho,rfl⟩
  ·exact .inl hb
  ·exact .inr (.inl (hI.rp hi ho))
 ·obtain⟨j,hj,ho,hb'⟩:=hb
  rw[hlen] at hj
  exact .inl ⟨j,hj,(hownd j ho).1,hb'⟩
theorem mw: ∀(is:List Nat) {C:Ctx},Inv C->∃C',C'.st=cQ C.st is/\C'.w=C.w/\C'.ι=C.ι/\Inv C'/\Ext C.st.length C C'/\
  (∀i,i∈is->i<C.st.length->xO C i->C'.X (C.ι i).block)
 |[],C,hI=>⟨C,rfl,rfl,rfl,hI,Ext.refl C (Nat.le_refl _),fun i hi=>by simp at hi⟩
 | i ::is,C,hI=>by
  obtain⟨h1,h2⟩:=J3 hI i
  obtain⟨C',g1,g2,g3,g4,g5,g6⟩:=mw is h1
  have hlen:(C.mo i).st.length=C.st.length:=aV _ _ _
  refine⟨C',g1,g2,g3,g4,h2.trans g5 (by omega),fun j hj hlt hl=>?_⟩
  by_cases hij:i=j
  ·subst hij
   refine g5.keeps.X _ ?_
   rcases hl with⟨⟨⟨T,xs⟩,hy⟩,hn⟩|⟨K,V,es,hx⟩
   ·cases hx:ar C.st i<;>rw[hx] at hy<;>simp[gb] at hy
    ·exact .inr ⟨hlt,by rw[hx];rfl,by rw[hx];simp[b6,hn],rfl⟩
    ·have:=hI.obj i hlt
     rw[hx] at this
     obtain⟨_,⟨h0,_⟩|⟨_,h3,_⟩⟩:=this
     ·rw[hn] at h0;cases h0
     ·exact .inl h3
   ·exact .inr ⟨hlt,by rw[hx];rfl,by rw[hx];rfl,rfl⟩
  ·have hj:=(List.mem_cons.1 hj).resolve_left (Ne.symm hij)
   refine g6 j hj (by omega) ?_
   have e:=(pZ (C:=C) (i:=i) (j:=j)).resolve_right fun h=>hij h.1
   unfold xO
   rw[e.2];exact hl
theorem je: ∀(is:List Nat) (st:List Obj),(cQ st is).length=st.length
 |[],_=>rfl
 |i::is,st=>by simp only[cQ];rw[je is,aV]
theorem pU{C C':Ctx}(hI:Inv C)(hk:bG C C')(hw:C'.w=C.w){a b:AV}{v:Value}(h:bV C.st a=some b)(hX: ∀i,i∈rowsOf a->i<C.st.length->xO C i->C'.X (C.ι i).block)(hr:Rel C a v):Rel C' b v:=by
 obtain⟨g1,g2,g3,g4⟩:=gK a b h
 have hj:a≠ .cf:=by intro e;subst e;simp[bV] at h
 exact⟨.inl (by rw[g1];exact hr.1.resolve_right hj), .inl (by rw[g2];exact hr.2.1.resolve_right hj),sG hI hk hw a b _ _ h hX hr.2.2⟩
theorem NF{C:Ctx}(hI:Inv C){x:AV}{l:List AV}{i off:Nat}{s s':Src}{o:Nat}(hoff:ik l i=off)(hi:i<l.length)(hw:wid x=wid (nth l i))(h:ML C l s o)(hx:M C x s' (o+off))
  (hs: ∀j,j<eF l-> ¬ (off<=j/\j<off+wid x)->s' (o+j)=s (o+j)):ML C (bQ l i x) s' o:=
 Cs hI hx l i off s s' o hoff hi hw h (fun j hj=>by
  by_cases hc:off<=j/\j<off+wid x
  ·rw[if_pos hc];congr 1;omega
  ·rw[if_neg hc];exact hs j hj hc)
theorem pD: ∀(p:List Nat) (a x:AV),qx a p=true->wid x=wid (ph a p)->wid (iC a p x)=wid a
 |[],a,x,_,h=>by cases a<;>simpa[iC,ph] using h
 |j::p, .agg l,x,hp,h=>by
  simp only[qx,aa1,aa0] at hp
  simp only[ph,ad] at h
  simp only[iC,wid]
  exact rq l j _ (pD p (nth l j) x hp.2 h)
 |_::_, .cf,_,hp,_|_::_, .lit _,_,hp,_|_::_, .ae _ _,_,hp,_|_::_, .bp _,_,hp,_|_::_, .az _ _ _,_,hp,_
 |_::_, .ptr _ _ _ _,_,hp,_|_::_, .jc _ _,_,hp,_|_::_, .mp _,_,hp,_|_::_, .cx _,_,hp,_|_::_, .jJ _ _,_,hp,_
 |_::_, .bP _ _,_,hp,_|_::_, .iq _ _,_,hp,_|_::_, .iZ _ _ _ _,_,hp,_=>by simp[qx] at hp
theorem CC{C:Ctx}(hI:Inv C){x:AV}: ∀(p:List Nat) (a:AV) (s s':Src) (o:Nat),qx a p=true->wid x=wid (ph a p)->M C a s o->M C x s' (o+im a p)->
  (∀j,j<wid a-> ¬ (im a p<=j/\j<im a p+wid x)->s' (o+j)=s (o+j))->M C (iC a p x) s' o
 |[],a,s,s',o,_,_,_,hx,_=>by cases a<;>simpa[iC,im] using hx
 |j::p, .agg l,s,s',o,hp,hw,h,hx,hs=>by
  simp only[qx,aa1,aa0] at hp
  simp only[ph,ad] at hw
  simp only[im] at hx hs
  simp only[M] at h
  simp only[wid] at hs
  simp only[iC,M]
  have hw2:=pD p (nth l j) x hp.2 hw
  have hle:=pR l j hp.1
  have hle2:=nN p (nth l j) hp.2
  refine NF hI rfl hp.1 hw2 h ?_ (fun k hk hnk=>hs k hk (by omega))
  refine CC hI p (nth l j) s s' (o+ik l j) hp.2 hw (AR l j s o hp.1 h) (by rwa [show o+ik l j+im (nth l j) p=o+(ik l j+im (nth l j) p) by omega]) (fun k hk hnk=>?_)
  have:=hs (ik l j+k) (by omega) (by omega)
  rwa [show o+ik l j+k=o+(ik l j+k) by omega]
 |_::_, .cf,_,_,_,hp,_,_,_,_|_::_, .lit _,_,_,_,hp,_,_,_,_|_::_, .ae _ _,_,_,_,hp,_,_,_,_|_::_, .bp _,_,_,_,hp,_,_,_,_|_::_, .az _ _ _,_,_,_,hp,_,_,_,_
 |_::_, .ptr _ _ _ _,_,_,_,hp,_,_,_,_|_::_, .jc _ _,_,_,_,hp,_,_,_,_|_::_, .mp _,_,_,_,hp,_,_,_,_|_::_, .cx _,_,_,_,hp,_,_,_,_|_::_, .jJ _ _,_,_,_,hp,_,_,_,_
 |_::_, .bP _ _,_,_,_,hp,_,_,_,_|_::_, .iq _ _,_,_,_,hp,_,_,_,_|_::_, .iZ _ _ _ _,_,_,_,hp,_,_,_,_=>by simp[qx] at hp
theorem uY: ∀(l:List AV) (i:Nat) (x:AV),dG l=true->cq x=true->dG (bQ l i x)=true
 |[],_,_,_,_=>by simp[bQ,dG]
 |a::l,0,x,h,hx=>by simp only[dG,aa1] at h;simp[bQ,dG,hx,h.2]
 |a::l,i+1,x,h,hx=>by simp only[dG,aa1] at h;simp[bQ,dG,h.1,uY l i x h.2 hx]
theorem uU: ∀(p:List Nat) (a x:AV),qx a p=true->cq a=true->cq x=true->cq (iC a p x)=true
 |[],a,x,_,_,hx=>by cases a<;>simpa[iC] using hx
 |j::p, .agg l,x,hp,h,hx=>by
  simp only[qx,aa1,aa0] at hp
  simp only[cq] at h
  simp only[iC,cq]
  exact uY l j _ h (uU p (nth l j) x hp.2 (tg l j hp.1 h) hx)
 |_::_, .cf,_,hp,_,_|_::_, .lit _,_,hp,_,_|_::_, .ae _ _,_,hp,_,_|_::_, .bp _,_,hp,_,_|_::_, .az _ _ _,_,hp,_,_
 |_::_, .ptr _ _ _ _,_,hp,_,_|_::_, .jc _ _,_,hp,_,_|_::_, .mp _,_,hp,_,_|_::_, .cx _,_,hp,_,_|_::_, .jJ _ _,_,hp,_,_
 |_::_, .bP _ _,_,hp,_,_|_::_, .iq _ _,_,hp,_,_|_::_, .iZ _ _ _ _,_,hp,_,_=>by simp[qx] at hp
theorem spliced(cur:Array Value)(o:Nat)(vs:List Value)(h:o+vs.length<=cur.size)(j:Nat):
  ((cur.toList.take o++vs++cur.toList.drop (o+vs.length)).toArray)[j]? =if o<=j/\j<o+vs.length then vs[j - o]? else cur[j]? :=by
 rw[List.getElem?_toArray]
 have hlt:(cur.toList.take o).length=o:=by simp;omega
 by_cases h1:j<o
 ·rw[List.append_assoc,List.getElem?_append_left (by omega),if_neg (by omega)]
  simp[h1]
 ·by_cases h2:j<o+vs.length
  ·rw[List.append_assoc,List.getElem?_append_right (by omega),hlt,List.getElem?_append_left (by omega),if_pos (by omega)]
  ·rw[List.getElem?_append_right (by simp;omega),if_neg (by omega)]
   simp only[ab8,hlt,List.getElem?_drop]
   rw[show o+vs.length+(j - (o+vs.length))=j by omega]
   simp
end Go.Dn
