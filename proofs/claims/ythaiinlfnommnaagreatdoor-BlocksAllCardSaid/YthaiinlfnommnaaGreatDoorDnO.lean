import Derived.Test.YthaiinlfnommnaaGreatDoorDnN
namespace Go.Dn
open Go
def Q1:Obj->Bool
 | .row _ _| .map _ _ _=>true
 |_=>false
def Ctx.mv(C:Ctx)(i:Nat):Ctx:=
 {C with X:=fun b=>C.X b\/(i<C.st.length/\Q1 (az C.st i)=true/\cE (C.ι i) (az C.st i)=true/\b=(C.ι i).block),st:=dj C.st i (jE (az C.st i))}
theorem DE(o:Obj):ia (jE o)=ia o:=by cases o<;>rfl
theorem rm{C:Ctx}{i j:Nat}:(i≠j/\az (C.mv i).st j=az C.st j)\/(i=j/\az (C.mv i).st j=jE (az C.st j)):=by
 by_cases h:i=j
 ·subst h
  rcases Nat.lt_or_ge i C.st.length with hl|hl
  ·exact .inr ⟨rfl,bu _ _ _ hl⟩
  ·right
   have e1:az (C.mv i).st i= .dead:=eD _ _ (by simp only[Ctx.mv,a0];exact hl)
   rw[e1,eD _ _ hl];exact⟨rfl,rfl⟩
 ·exact .inl ⟨h,bF _ _ _ _ h⟩
theorem pA(o:Obj):(jE o=o/\Q1 o=false)\/(Q1 o=true/\((∃T xs,o= .row T xs/\jE o= .mv T xs)\/ ∃K V es,o= .map K V es/\jE o= .dead)):=by
 cases o<;>simp[jE,Q1]
theorem z9(g:G)(o:Obj):cE g (jE o)=true->cE g o=true/\Q1 o=false:=by
 cases o<;>simp[jE,Q1,cE]
theorem O2{C:Ctx}(hI:Inv C)(i:Nat):Inv (C.mv i)/\Ext C.st.length C (C.mv i):=by
 have hk:b8 C (C.mv i):=⟨rfl,fun _ h=> .inl h,fun _ _=>rfl⟩
 have hlen:(C.mv i).st.length=C.st.length:=a0 _ _ _
 have hel: ∀j,ia (az (C.mv i).st j)=ia (az C.st j):=fun j=>by
  rcases rm (C:=C) (i:=i) (j:=j) with⟨_,h⟩|⟨_,h⟩
  ·rw[h]
  ·rw[h,DE]
 have hbox: ∀j o,ia o=none->o≠Obj.dead->az (C.mv i).st j=o->az C.st j=o:=fun j o ho hd h=>by
  rcases rm (C:=C) (i:=i) (j:=j) with⟨_,h'⟩|⟨_,h'⟩
  ·rw[←h',h]
  ·rw[h'] at h
   rcases pA (az C.st j) with⟨h1,_⟩|⟨_,⟨T,xs,_,h2⟩|⟨K,V,es,_,h2⟩⟩
   ·rw[←h1,h]
   ·rw[h2] at h;rw[←h] at ho;cases ho
   ·rw[h2] at h;exact absurd h.symm hd
 have hrefs: ∀j,j<C.st.length->ck C (C.mv i) j j:=fun j hj=>
  ⟨by omega,fun T xs hx=>⟨xs,by rw[←hel];exact hx,rfl,Nat.le_refl _⟩,fun T a hx=>⟨a,hbox j _ rfl (by simp) hx,rfl⟩,
   fun K V es hx=>⟨es,hbox j _ rfl (by simp) hx,rfl,fun ents clock hh=>⟨ents,clock,hh,ee.refl _ _⟩⟩,fun r hx=>⟨r,hbox j _ rfl (by simp) hx,rfl⟩,fun m n ks hx=>⟨m,ks,hbox j _ rfl (by simp) hx,rfl⟩,fun t hx=>⟨t,hbox j _ rfl (by simp) hx,rfl⟩,fun s p hx=>⟨p,hbox j _ rfl (by simp) hx,rfl⟩,
   fun K V ks vs met hx=>⟨met,hbox j _ rfl (by simp) hx,rfl⟩,fun T E ls pd hx=>⟨ls,pd,hbox j _ rfl (by simp) hx,rfl,rfl,fun _ _ _ h=>h⟩⟩
 have hownd: ∀j,cE ((C.mv i).ι j) (az (C.mv i).st j)=true->cE (C.ι j) (az C.st j)=true/\(i=j->Q1 (az C.st j)=false):=fun j h=>by
  rcases rm (C:=C) (i:=i) (j:=j) with⟨e,h'⟩|⟨_,h'⟩
  ·rw[h'] at h;exact⟨h,fun e'=>absurd e' e⟩
  ·rw[h'] at h
   have:=z9 _ _ h
   exact⟨this.1,fun _=>this.2⟩
 have hXold: ∀j b,j<C.st.length->cE ((C.mv i).ι j) (az (C.mv i).st j)=true->C.cls b=(C.ι j).block-> ¬ (C.mv i).X b:=fun j b hj h hcb hX=>by
  obtain⟨h1,h2⟩:=hownd j h
  rcases hX with hX|⟨hi,hrow,hoi,hb⟩
  ·exact(hI.dK ⟨j,hj,h1,hcb.symm⟩).2 hX
  ·by_cases e:i=j
   ·subst e;rw[h2 rfl] at hrow;cases hrow
   ·rw[hb,hI.fu i hi hoi] at hcb
    exact hI.sI j i hj hi (fun h=>e h.symm) h1 hoi hcb.symm
 refine⟨⟨hI.lay,fun j hj=>?_,fun j k hj hk' hjk hoj hok=>?_,fun b hb=>?_,fun j hj hoj=>hI.fu j (by rw[hlen] at hj;exact hj) (hownd j hoj).1,fun b hb=>⟨(hI.pb b hb).1,fun hX=>?_,(hI.pb b hb).2.2⟩,hI.mq hk⟩,⟨hk,Nat.le_refl _,rfl,rfl,rfl,fun _ _ _=>rfl,fun b hb=>?_,fun b hb=>?_,hrefs,fun _=> .inl ⟨rfl,rfl⟩,rfl⟩⟩
 ·rw [hlen] at hj
  have hold:=hI.obj j hj
  have same:az (C.mv i).st j=az C.st j->j7 (C.mv i) ((C.mv i).ι j) (az (C.mv i).st j):=fun h=>by
   rw[h]
   exact hold.eQ hk hI.lay (fun j hj _=>hrefs j hj) (hI.fu j hj) ⟨fun b ho hb=>⟨hXold j b hj (by rw[h];exact ho) hb,rfl⟩,fun _ _=>⟨Iff.rfl,fun _=>rfl⟩,ea.refl _,Nat.le_refl _,fun _ _=>rfl⟩
  rcases rm (C:=C) (i:=i) (j:=j) with⟨_,h⟩|⟨hij,h⟩
  ·exact same h
  ·rcases pA (az C.st j) with⟨h1,_⟩|⟨hf,⟨T,xs,h1,h2⟩|⟨K,V,es,_,h2⟩⟩
   ·exact same (h.trans h1)
   ·rw[h,h2]
    rw[h1] at hold
    obtain⟨g1,g2|⟨g2,g3,c,g4,g5,g6,g7,g8⟩⟩:=hold
    ·exact⟨g1, .inl g2⟩
    ·refine⟨g1, .inr ⟨g2, .inr ⟨hij▸hj,hij▸hf,?_,by rw[hij];rfl⟩,?_⟩⟩
     ·rw[hij,h1];simp only[cE,Bool.not_eq_true'];exact g2
     ·exact fQ hk hI.lay xs T _ _ _ _ g1 (fun _ _=>rfl) g8
   ·rw[h,h2];trivial
 ·rw[hlen] at hj hk'
  exact hI.sI j k hj hk' hjk (hownd j hoj).1 (hownd k hok).1
 ·rcases hb with hb|⟨hi,hf,ho,rfl⟩
  ·exact hI.xs b hb
  ·exact((hI.obj i hi).lt ho).1
 ·rcases hX with hX|⟨hi,hf,ho,rfl⟩
  ·exact(hI.pb b hb).2.1 hX
  ·exact hb (hI.fu i hi ho)
 ·rcases hb with hb|⟨hi,hf,ho,rfl⟩
  ·exact .inl hb
  ·exact .inr (.inl (hI.rJ hi ho))
 ·obtain⟨j,hj,ho,hb'⟩:=hb
  rw[hlen] at hj
  exact .inl ⟨j,hj,(hownd j ho).1,hb'⟩
theorem nO: ∀(is:List Nat) {C:Ctx},Inv C->∃C',C'.st=cX C.st is/\C'.w=C.w/\C'.ι=C.ι/\Inv C'/\Ext C.st.length C C'/\
  (∀i,i∈is->i<C.st.length->zD C i->C'.X (C.ι i).block)
 |[],C,hI=>⟨C,rfl,rfl,rfl,hI,Ext.refl C (Nat.le_refl _),fun i hi=>by simp at hi⟩
 | i ::is,C,hI=>by
  obtain⟨h1,h2⟩:=O2 hI i
  obtain⟨C',g1,g2,g3,g4,g5,g6⟩:=nO is h1
  have hlen:(C.mv i).st.length=C.st.length:=a0 _ _ _
  refine⟨C',g1,g2,g3,g4,h2.trans g5 (by omega),fun j hj hlt hl=>?_⟩
  by_cases hij:i=j
  ·subst hij
   refine g5.keeps.X _ ?_
   rcases hl with⟨⟨⟨T,xs⟩,hy⟩,hn⟩|⟨K,V,es,hx⟩
   ·cases hx:az C.st i<;>rw[hx] at hy<;>simp[ia] at hy
    ·exact .inr ⟨hlt,by rw[hx];rfl,by rw[hx];simp[cE,hn],rfl⟩
    ·have:=hI.obj i hlt
     rw[hx] at this
     obtain⟨_,⟨h0,_⟩|⟨_,h3,_⟩⟩:=this
     ·rw[hn] at h0;cases h0
     ·exact .inl h3
   ·exact .inr ⟨hlt,by rw[hx];rfl,by rw[hx];rfl,rfl⟩
  ·have hj:=(List.mem_cons.1 hj).resolve_left (Ne.symm hij)
   refine g6 j hj (by omega) ?_
   have e:=(rm (C:=C) (i:=i) (j:=j)).resolve_right fun h=>hij h.1
   unfold zD
   rw[e.2];exact hl
theorem jZ: ∀(is:List Nat) (st:List Obj),(cX st is).length=st.length
 |[],_=>rfl
 |i::is,st=>by simp only[cX];rw[jZ is,a0]
theorem rH{C C':Ctx}(hI:Inv C)(hk:b8 C C')(hw:C'.w=C.w){a b:AV}{v:Value}(h:cr C.st a=some b)(hX: ∀i,i∈rowsOf a->i<C.st.length->zD C i->C'.X (C.ι i).block)(hr:Rel C a v):Rel C' b v:=by
 obtain⟨g1,g2,g3,g4⟩:=iL a b h
 have hj:a≠ .cP:=by intro e;subst e;simp[cr] at h
 exact⟨.inl (by rw[g1];exact hr.1.resolve_right hj), .inl (by rw[g2];exact hr.2.1.resolve_right hj),ui hI hk hw a b _ _ h hX hr.2.2⟩
theorem Sn{C:Ctx}(hI:Inv C){x:AV}{l:List AV}{i off:Nat}{s s':Src}{o:Nat}(hoff:iy l i=off)(hi:i<l.length)(hw:wid x=wid (nth l i))(h:ML C l s o)(hx:M C x s' (o+off))
  (hs: ∀j,j<eU l-> ¬ (off<=j/\j<off+wid x)->s' (o+j)=s (o+j)):ML C (cm l i x) s' o:=
 Ew hI hx l i off s s' o hoff hi hw h (fun j hj=>by
  by_cases hc:off<=j/\j<off+wid x
  ·rw[if_pos hc];congr 1;omega
  ·rw[if_neg hc];exact hs j hj hc)
theorem lX: ∀(p:List Nat) (a x:AV),nr a p=true->wid x=wid (nb a p)->wid (fN a p x)=wid a
 |[],a,x,_,h=>by cases a<;>simpa[fN,nb] using h
 |j::p, .agg l,x,hp,h=>by
  simp only[nr,aa3,aa2] at hp
  simp only[nb,ae] at h
  simp only[fN,wid]
  exact rQ l j _ (lX p (nth l j) x hp.2 h)
 |_::_, .cP,_,hp,_|_::_, .lit _,_,hp,_|_::_, .ad _ _,_,hp,_|_::_, .bp _,_,hp,_|_::_, .ar _ _ _,_,hp,_
 |_::_, .ptr _ _ _ _,_,hp,_|_::_, .jX _ _,_,hp,_|_::_, .mp _,_,hp,_|_::_, .cK _,_,hp,_|_::_, .kx _ _,_,hp,_
 |_::_, .bQ _ _,_,hp,_|_::_, .jq _ _,_,hp,_|_::_, .jJ _ _ _ _,_,hp,_=>by simp[nr] at hp
theorem Ac{C:Ctx}(hI:Inv C){x:AV}: ∀(p:List Nat) (a:AV) (s s':Src) (o:Nat),nr a p=true->wid x=wid (nb a p)->M C a s o->M C x s' (o+gW a p)->
  (∀j,j<wid a-> ¬ (gW a p<=j/\j<gW a p+wid x)->s' (o+j)=s (o+j))->M C (fN a p x) s' o
 |[],a,s,s',o,_,_,_,hx,_=>by cases a<;>simpa[fN,gW] using hx
 |j::p, .agg l,s,s',o,hp,hw,h,hx,hs=>by
  simp only[nr,aa3,aa2] at hp
  simp only[nb,ae] at hw
  simp only[gW] at hx hs
  simp only[M] at h
  simp only[wid] at hs
  simp only[fN,M]
  have hw2:=lX p (nth l j) x hp.2 hw
  have hle:=rn l j hp.1
  have hle2:=oJ p (nth l j) hp.2
  refine Sn hI rfl hp.1 hw2 h ?_ (fun k hk hnk=>hs k hk (by omega))
  refine Ac hI p (nth l j) s s' (o+iy l j) hp.2 hw (Bu l j s o hp.1 h) (by rwa [show o+iy l j+gW (nth l j) p=o+(iy l j+gW (nth l j) p) by omega]) (fun k hk hnk=>?_)
  have:=hs (iy l j+k) (by omega) (by omega)
  rwa [show o+iy l j+k=o+(iy l j+k) by omega]
 |_::_, .cP,_,_,_,hp,_,_,_,_|_::_, .lit _,_,_,_,hp,_,_,_,_|_::_, .ad _ _,_,_,_,hp,_,_,_,_|_::_, .bp _,_,_,_,hp,_,_,_,_|_::_, .ar _ _ _,_,_,_,hp,_,_,_,_
 |_::_, .ptr _ _ _ _,_,_,_,hp,_,_,_,_|_::_, .jX _ _,_,_,_,hp,_,_,_,_|_::_, .mp _,_,_,_,hp,_,_,_,_|_::_, .cK _,_,_,_,hp,_,_,_,_|_::_, .kx _ _,_,_,_,hp,_,_,_,_
 |_::_, .bQ _ _,_,_,_,hp,_,_,_,_|_::_, .jq _ _,_,_,_,hp,_,_,_,_|_::_, .jJ _ _ _ _,_,_,_,hp,_,_,_,_=>by simp[nr] at hp
theorem wk: ∀(l:List AV) (i:Nat) (x:AV),dM l=true->cZ x=true->dM (cm l i x)=true
 |[],_,_,_,_=>by simp[cm,dM]
 |a::l,0,x,h,hx=>by simp only[dM,aa3] at h;simp[cm,dM,hx,h.2]
 |a::l,i+1,x,h,hx=>by simp only[dM,aa3] at h;simp[cm,dM,h.1,wk l i x h.2 hx]
theorem qe: ∀(p:List Nat) (a x:AV),nr a p=true->cZ a=true->cZ x=true->cZ (fN a p x)=true
 |[],a,x,_,_,hx=>by cases a<;>simpa[fN] using hx
 |j::p, .agg l,x,hp,h,hx=>by
  simp only[nr,aa3,aa2] at hp
  simp only[cZ] at h
  simp only[fN,cZ]
  exact wk l j _ h (qe p (nth l j) x hp.2 (ur l j hp.1 h) hx)
 |_::_, .cP,_,hp,_,_|_::_, .lit _,_,hp,_,_|_::_, .ad _ _,_,hp,_,_|_::_, .bp _,_,hp,_,_|_::_, .ar _ _ _,_,hp,_,_
 |_::_, .ptr _ _ _ _,_,hp,_,_|_::_, .jX _ _,_,hp,_,_|_::_, .mp _,_,hp,_,_|_::_, .cK _,_,hp,_,_|_::_, .kx _ _,_,hp,_,_
 |_::_, .bQ _ _,_,hp,_,_|_::_, .jq _ _,_,hp,_,_|_::_, .jJ _ _ _ _,_,hp,_,_=>by simp[nr] at hp
theorem spliced(cur:Array Value)(o:Nat)(vs:List Value)(h:o+vs.length<=cur.size)(j:Nat):
  ((cur.toList.take o++vs++cur.toList.drop (o+vs.length)).toArray)[j]? =if o<=j/\j<o+vs.length then vs[j - o]? else cur[j]? :=by
 rw[List.getElem?_toArray]
 have hlt:(cur.toList.take o).length=o:=by simp;omega
 by_cases h1:j<o
 ·rw[List.append_assoc,List.getElem?_append_left (by omega),if_neg (by omega)]
  simp[h1]
 ·by_cases h2:j<o+vs.length
  ·rw[List.append_assoc,List.getElem?_append_right (by omega),hlt,List.getElem?_append_left (by omega),if_pos (by omega)]
  ·rw[List.getElem?_append_right (by simp;omega),if_neg (by omega)]
   simp only[ac0,hlt,List.getElem?_drop]
   rw[show o+vs.length+(j - (o+vs.length))=j by omega]
   simp
end Go.Dn
