import Derived.Test.YthaiinlfnommnaaGreatDoorDnN
namespace Go.Dn
open Go
def Qe:Obj->Bool
 | .row _ _| .map _ _ _=>true
 |_=>false
def Ctx.l4(C:Ctx)(i:Nat):Ctx:=
 {C with X:=fun b=>C.X b\/(i<C.st.length/\Qe (ax C.st i)=true/\cq (C.ι i) (ax C.st i)=true/\b=(C.ι i).block),st:=db C.st i (jq (ax C.st i))}
theorem CD(o:Obj):gP (jq o)=gP o:=by cases o<;>rfl
theorem qk{C:Ctx}{i j:Nat}:(i≠j/\ax (C.l4 i).st j=ax C.st j)\/(i=j/\ax (C.l4 i).st j=jq (ax C.st j)):=by
 by_cases h:i=j
 ·subst h
  rcases Nat.lt_or_ge i C.st.length with hl|hl
  ·exact .inr ⟨rfl,bm _ _ _ hl⟩
  ·right
   have e1:ax (C.l4 i).st i= .dead:=dZ _ _ (by simp only[Ctx.l4,aV];exact hl)
   rw[e1,dZ _ _ hl];exact⟨rfl,rfl⟩
 ·exact .inl ⟨h,bu _ _ _ _ h⟩
theorem pb(o:Obj):(jq o=o/\Qe o=false)\/(Qe o=true/\((∃T xs,o= .row T xs/\jq o= .l4 T xs)\/ ∃K V es,o= .map K V es/\jq o= .dead)):=by
 cases o<;>simp[jq,Qe]
theorem zQ(g:G)(o:Obj):cq g (jq o)=true->cq g o=true/\Qe o=false:=by
 cases o<;>simp[jq,Qe,cq]
theorem LC{C:Ctx}(hI:Inv C)(i:Nat):Inv (C.l4 i)/\Ext C.st.length C (C.l4 i):=by
 have hk:bO C (C.l4 i):=⟨rfl,fun _ h=> .inl h,fun _ _=>rfl⟩
 have hlen:(C.l4 i).st.length=C.st.length:=aV _ _ _
 have hel: ∀j,gP (ax (C.l4 i).st j)=gP (ax C.st j):=fun j=>by
  rcases qk (C:=C) (i:=i) (j:=j) with⟨_,h⟩|⟨_,h⟩
  ·rw[h]
  ·rw[h,CD]
 have hbox: ∀j o,gP o=none->o≠Obj.dead->ax (C.l4 i).st j=o->ax C.st j=o:=fun j o ho hd h=>by
  rcases qk (C:=C) (i:=i) (j:=j) with⟨_,h'⟩|⟨_,h'⟩
  ·rw[←h',h]
  ·rw[h'] at h
   rcases pb (ax C.st j) with⟨h1,_⟩|⟨_,⟨T,xs,_,h2⟩|⟨K,V,es,_,h2⟩⟩
   ·rw[←h1,h]
   ·rw[h2] at h;rw[←h] at ho;cases ho
   ·rw[h2] at h;exact absurd h.symm hd
 have hrefs: ∀j,j<C.st.length->b7 C (C.l4 i) j j:=fun j hj=>
  ⟨by omega,fun T xs hx=>⟨xs,by rw[←hel];exact hx,rfl,Nat.le_refl _⟩,fun T a hx=>⟨a,hbox j _ rfl (by simp) hx,rfl⟩,
   fun K V es hx=>⟨es,hbox j _ rfl (by simp) hx,rfl,fun ents clock hh=>⟨ents,clock,hh,dS.refl _ _⟩⟩,fun r hx=>⟨r,hbox j _ rfl (by simp) hx,rfl⟩,fun m n ks hx=>⟨m,ks,hbox j _ rfl (by simp) hx,rfl⟩,fun t hx=>⟨t,hbox j _ rfl (by simp) hx,rfl⟩,fun s p hx=>⟨p,hbox j _ rfl (by simp) hx,rfl⟩,
   fun K V ks vs met hx=>⟨met,hbox j _ rfl (by simp) hx,rfl⟩,fun T E ls pd hx=>⟨ls,pd,hbox j _ rfl (by simp) hx,rfl,rfl,fun _ _ _ h=>h⟩⟩
 have hownd: ∀j,cq ((C.l4 i).ι j) (ax (C.l4 i).st j)=true->cq (C.ι j) (ax C.st j)=true/\(i=j->Qe (ax C.st j)=false):=fun j h=>by
  rcases qk (C:=C) (i:=i) (j:=j) with⟨e,h'⟩|⟨_,h'⟩
  ·rw[h'] at h;exact⟨h,fun e'=>absurd e' e⟩
  ·rw[h'] at h
   have:=zQ _ _ h
   exact⟨this.1,fun _=>this.2⟩
 have hXold: ∀j b,j<C.st.length->cq ((C.l4 i).ι j) (ax (C.l4 i).st j)=true->C.cls b=(C.ι j).block-> ¬ (C.l4 i).X b:=fun j b hj h hcb hX=>by
  obtain⟨h1,h2⟩:=hownd j h
  rcases hX with hX|⟨hi,hrow,hoi,hb⟩
  ·exact(hI.dB ⟨j,hj,h1,hcb.symm⟩).2 hX
  ·by_cases e:i=j
   ·subst e;rw[h2 rfl] at hrow;cases hrow
   ·rw[hb,hI.fb i hi hoi] at hcb
    exact hI.sF j i hj hi (fun h=>e h.symm) h1 hoi hcb.symm
 refine⟨⟨hI.lay,fun j hj=>?_,fun j k hj hk' hjk hoj hok=>?_,fun b hb=>?_,fun j hj hoj=>hI.fb j (by rw[hlen] at hj;exact hj) (hownd j hoj).1,fun b hb=>⟨(hI.oL b hb).1,fun hX=>?_,(hI.oL b hb).2.2⟩,hI.lM hk⟩,⟨hk,Nat.le_refl _,rfl,rfl,rfl,fun _ _ _=>rfl,fun b hb=>?_,fun b hb=>?_,hrefs,fun _=> .inl ⟨rfl,rfl⟩,rfl⟩⟩
 ·rw [hlen] at hj
  have hold:=hI.obj j hj
  have same:ax (C.l4 i).st j=ax C.st j->jS (C.l4 i) ((C.l4 i).ι j) (ax (C.l4 i).st j):=fun h=>by
   rw[h]
   exact hold.eo hk hI.lay (fun j hj _=>hrefs j hj) (hI.fb j hj) ⟨fun b ho hb=>⟨hXold j b hj (by rw[h];exact ho) hb,rfl⟩,fun _ _=>⟨Iff.rfl,fun _=>rfl⟩,dR.refl _,Nat.le_refl _,fun _ _=>rfl⟩
  rcases qk (C:=C) (i:=i) (j:=j) with⟨_,h⟩|⟨hij,h⟩
  ·exact same h
  ·rcases pb (ax C.st j) with⟨h1,_⟩|⟨hf,⟨T,xs,h1,h2⟩|⟨K,V,es,_,h2⟩⟩
   ·exact same (h.trans h1)
   ·rw[h,h2]
    rw[h1] at hold
    obtain⟨g1,g2|⟨g2,g3,c,g4,g5,g6,g7,g8⟩⟩:=hold
    ·exact⟨g1, .inl g2⟩
    ·refine⟨g1, .inr ⟨g2, .inr ⟨hij▸hj,hij▸hf,?_,by rw[hij];rfl⟩,?_⟩⟩
     ·rw[hij,h1];simp only[cq,Bool.not_eq_true'];exact g2
     ·exact fw hk hI.lay xs T _ _ _ _ g1 (fun _ _=>rfl) g8
   ·rw[h,h2];trivial
 ·rw[hlen] at hj hk'
  exact hI.sF j k hj hk' hjk (hownd j hoj).1 (hownd k hok).1
 ·rcases hb with hb|⟨hi,hf,ho,rfl⟩
  ·exact hI.xs b hb
  ·exact((hI.obj i hi).lt ho).1
 ·rcases hX with hX|⟨hi,hf,ho,rfl⟩
  ·exact(hI.oL b hb).2.1 hX
  ·exact hb (hI.fb i hi ho)
 ·rcases hb with hb|⟨hi,hf,ho,rfl⟩
  ·exact .inl hb
  ·exact .inr (.inl (hI.rr hi ho))
 ·obtain⟨j,hj,ho,hb'⟩:=hb
  rw[hlen] at hj
  exact .inl ⟨j,hj,(hownd j ho).1,hb'⟩
theorem n8: ∀(is:List Nat) {C:Ctx},Inv C->∃C',C'.st=cI C.st is/\C'.w=C.w/\C'.ι=C.ι/\Inv C'/\Ext C.st.length C C'/\
  (∀i,i∈is->i<C.st.length->yd C i->C'.X (C.ι i).block)
 |[],C,hI=>⟨C,rfl,rfl,rfl,hI,Ext.refl C (Nat.le_refl _),fun i hi=>by simp at hi⟩
 | i ::is,C,hI=>by
  obtain⟨h1,h2⟩:=LC hI i
  obtain⟨C',g1,g2,g3,g4,g5,g6⟩:=n8 is h1
  have hlen:(C.l4 i).st.length=C.st.length:=aV _ _ _
  refine⟨C',g1,g2,g3,g4,h2.trans g5 (by omega),fun j hj hlt hl=>?_⟩
  by_cases hij:i=j
  ·subst hij
   refine g5.keeps.X _ ?_
   rcases hl with⟨⟨⟨T,xs⟩,hy⟩,hn⟩|⟨K,V,es,hx⟩
   ·cases hx:ax C.st i<;>rw[hx] at hy<;>simp[gP] at hy
    ·exact .inr ⟨hlt,by rw[hx];rfl,by rw[hx];simp[cq,hn],rfl⟩
    ·have:=hI.obj i hlt
     rw[hx] at this
     obtain⟨_,⟨h0,_⟩|⟨_,h3,_⟩⟩:=this
     ·rw[hn] at h0;cases h0
     ·exact .inl h3
   ·exact .inr ⟨hlt,by rw[hx];rfl,by rw[hx];rfl,rfl⟩
  ·have hj:=(List.mem_cons.1 hj).resolve_left (Ne.symm hij)
   refine g6 j hj (by omega) ?_
   have e:=(qk (C:=C) (i:=i) (j:=j)).resolve_right fun h=>hij h.1
   unfold yd
   rw[e.2];exact hl
theorem jH: ∀(is:List Nat) (st:List Obj),(cI st is).length=st.length
 |[],_=>rfl
 |i::is,st=>by simp only[cI];rw[jH is,aV]
theorem pW{C C':Ctx}(hI:Inv C)(hk:bO C C')(hw:C'.w=C.w){a b:AV}{v:Value}(h:cf C.st a=some b)(hX: ∀i,i∈rowsOf a->i<C.st.length->yd C i->C'.X (C.ι i).block)(hr:Rel C a v):Rel C' b v:=by
 obtain⟨g1,g2,g3,g4⟩:=ij a b h
 have hj:a≠ .cy:=by intro e;subst e;simp[cf] at h
 exact⟨.inl (by rw[g1];exact hr.1.resolve_right hj), .inl (by rw[g2];exact hr.2.1.resolve_right hj),sZ hI hk hw a b _ _ h hX hr.2.2⟩
theorem OW{C:Ctx}(hI:Inv C){x:AV}{l:List AV}{i off:Nat}{s s':Src}{o:Nat}(hoff:gW l i=off)(hi:i<l.length)(hw:wid x=wid (nth l i))(h:ML C l s o)(hx:M C x s' (o+off))
  (hs: ∀j,j<eD l-> ¬ (off<=j/\j<off+wid x)->s' (o+j)=s (o+j)):ML C (b8 l i x) s' o:=
 DA hI hx l i off s s' o hoff hi hw h (fun j hj=>by
  by_cases hc:off<=j/\j<off+wid x
  ·rw[if_pos hc];congr 1;omega
  ·rw[if_neg hc];exact hs j hj hc)
theorem lG: ∀(p:List Nat) (a x:AV),mN a p=true->wid x=wid (me a p)->wid (fv a p x)=wid a
 |[],a,x,_,h=>by cases a<;>simpa[fv,me] using h
 |j::p, .agg l,x,hp,h=>by
  simp only[mN,aa2,aa1] at hp
  simp only[me,ae] at h
  simp only[fv,wid]
  exact q9 l j _ (lG p (nth l j) x hp.2 h)
 |_::_, .cy,_,hp,_|_::_, .lit _,_,hp,_|_::_, .ad _ _,_,hp,_|_::_, .ba _,_,hp,_|_::_, .ar _ _ _,_,hp,_
 |_::_, .ptr _ _ _ _,_,hp,_|_::_, .jO _ _,_,hp,_|_::_, .mp _,_,hp,_|_::_, .cu _,_,hp,_|_::_, .kg _ _,_,hp,_
 |_::_, .bI _ _,_,hp,_|_::_, .iX _ _,_,hp,_|_::_, .js _ _ _ _,_,hp,_=>by simp[mN] at hp
theorem yg{C:Ctx}(hI:Inv C){x:AV}: ∀(p:List Nat) (a:AV) (s s':Src) (o:Nat),mN a p=true->wid x=wid (me a p)->M C a s o->M C x s' (o+gH a p)->
  (∀j,j<wid a-> ¬ (gH a p<=j/\j<gH a p+wid x)->s' (o+j)=s (o+j))->M C (fv a p x) s' o
 |[],a,s,s',o,_,_,_,hx,_=>by cases a<;>simpa[fv,gH] using hx
 |j::p, .agg l,s,s',o,hp,hw,h,hx,hs=>by
  simp only[mN,aa2,aa1] at hp
  simp only[me,ae] at hw
  simp only[gH] at hx hs
  simp only[M] at h
  simp only[wid] at hs
  simp only[fv,M]
  have hw2:=lG p (nth l j) x hp.2 hw
  have hle:=pX l j hp.1
  have hle2:=oI p (nth l j) hp.2
  refine OW hI rfl hp.1 hw2 h ?_ (fun k hk hnk=>hs k hk (by omega))
  refine yg hI p (nth l j) s s' (o+gW l j) hp.2 hw (Bj l j s o hp.1 h) (by rwa [show o+gW l j+gH (nth l j) p=o+(gW l j+gH (nth l j) p) by omega]) (fun k hk hnk=>?_)
  have:=hs (gW l j+k) (by omega) (by omega)
  rwa [show o+gW l j+k=o+(gW l j+k) by omega]
 |_::_, .cy,_,_,_,hp,_,_,_,_|_::_, .lit _,_,_,_,hp,_,_,_,_|_::_, .ad _ _,_,_,_,hp,_,_,_,_|_::_, .ba _,_,_,_,hp,_,_,_,_|_::_, .ar _ _ _,_,_,_,hp,_,_,_,_
 |_::_, .ptr _ _ _ _,_,_,_,hp,_,_,_,_|_::_, .jO _ _,_,_,_,hp,_,_,_,_|_::_, .mp _,_,_,_,hp,_,_,_,_|_::_, .cu _,_,_,_,hp,_,_,_,_|_::_, .kg _ _,_,_,_,hp,_,_,_,_
 |_::_, .bI _ _,_,_,_,hp,_,_,_,_|_::_, .iX _ _,_,_,_,hp,_,_,_,_|_::_, .js _ _ _ _,_,_,_,hp,_,_,_,_=>by simp[mN] at hp
theorem tP: ∀(l:List AV) (i:Nat) (x:AV),dD l=true->cH x=true->dD (b8 l i x)=true
 |[],_,_,_,_=>by simp[b8,dD]
 |a::l,0,x,h,hx=>by simp only[dD,aa2] at h;simp[b8,dD,hx,h.2]
 |a::l,i+1,x,h,hx=>by simp only[dD,aa2] at h;simp[b8,dD,h.1,tP l i x h.2 hx]
theorem pN: ∀(p:List Nat) (a x:AV),mN a p=true->cH a=true->cH x=true->cH (fv a p x)=true
 |[],a,x,_,_,hx=>by cases a<;>simpa[fv] using hx
 |j::p, .agg l,x,hp,h,hx=>by
  simp only[mN,aa2,aa1] at hp
  simp only[cH] at h
  simp only[fv,cH]
  exact tP l j _ h (pN p (nth l j) x hp.2 (ue l j hp.1 h) hx)
 |_::_, .cy,_,hp,_,_|_::_, .lit _,_,hp,_,_|_::_, .ad _ _,_,hp,_,_|_::_, .ba _,_,hp,_,_|_::_, .ar _ _ _,_,hp,_,_
 |_::_, .ptr _ _ _ _,_,hp,_,_|_::_, .jO _ _,_,hp,_,_|_::_, .mp _,_,hp,_,_|_::_, .cu _,_,hp,_,_|_::_, .kg _ _,_,hp,_,_
 |_::_, .bI _ _,_,hp,_,_|_::_, .iX _ _,_,hp,_,_|_::_, .js _ _ _ _,_,hp,_,_=>by simp[mN] at hp
theorem spliced(cur:Array Value)(o:Nat)(vs:List Value)(h:o+vs.length<=cur.size)(j:Nat):
  ((cur.toList.take o++vs++cur.toList.drop (o+vs.length)).toArray)[j]? =if o<=j/\j<o+vs.length then vs[j - o]? else cur[j]? :=by
 rw[List.getElem?_toArray]
 have hlt:(cur.toList.take o).length=o:=by simp;omega
 by_cases h1:j<o
 ·rw[List.append_assoc,List.getElem?_append_left (by omega),if_neg (by omega)]
  simp[h1]
 ·by_cases h2:j<o+vs.length
  ·rw[List.append_assoc,List.getElem?_append_right (by omega),hlt,List.getElem?_append_left (by omega),if_pos (by omega)]
  ·rw[List.getElem?_append_right (by simp;omega),if_neg (by omega)]
   simp only[ab9,hlt,List.getElem?_drop]
   rw[show o+vs.length+(j - (o+vs.length))=j by omega]
   simp
end Go.Dn
