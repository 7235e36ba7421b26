import Derived.Test.YtioeffnadipbaaaGreatDoorDnN
namespace Go.Dn
open Go
def V4:Obj->Bool
 | .row _ _| .map _ _ _=>true
 |_=>false
def Ctx.lx(C:Ctx) i:=
 {C with X:=fun b=>C.X b\/i<C.st.length/\V4 (ay C.st i)=true/\cr (C.ι i) (ay C.st i)=true/\b=(C.ι i).block,st:=dd C.st i (jO (ay C.st i))}
theorem GL o:hR (jO o)=hR o:=by cases o<;>rfl
theorem qY{C:Ctx}{i j}:i≠j/\ay (C.lx i).st j=ay C.st j\/i=j/\ay (C.lx i).st j=jO (ay C.st j):=by
 by_cases h:i=j
 ·subst h
  rcases Nat.lt_or_ge i _ with a|a
  ·exact .inr ⟨rfl,br _ _ _ a⟩
  ·right
   have b:ay (C.lx i).st i= .dead:=eR _ _ (by grind [Ctx.lx,bc]);rw[b,eR _ _ a];exact⟨rfl,rfl⟩
 ·exact .inl ⟨h,bH _ _ _ _ h⟩
theorem qb o:jO o=o/\V4 o=false\/V4 o=true/\((∃T xs,o= .row T xs/\jO o= .lx T xs)\/ ∃K V a,o= .map K V a/\jO o= .dead):=by
 cases o<;>simp[jO,V4]
theorem BY g o:cr g (jO o)=true->cr g o=true/\V4 o=false:=by
 cases o<;>simp[jO,V4,cr]
theorem Rp{C}(l:Inv C) i:Inv (C.lx i)/\Ext C.st.length C (C.lx i):=by
 have W:bP C (C.lx i):=⟨rfl,fun _ h=> .inl h,fun _ _=>rfl⟩
 have v:(C.lx i).st.length=C.st.length:=bc _ _ _;have hel: ∀j,hR (ay (C.lx i).st j)=hR (ay C.st j):=fun j=>by
  rcases qY (C:=C) (i:=i) (j:=j) with⟨_,h⟩|⟨_,h⟩
  ·rw[h]
  ·rw[h,GL]
 have d: ∀j o,hR o=none->o≠Obj.dead->ay (C.lx i).st j=o->ay C.st j=o:=fun j o w hd h=>by
  rcases qY (C:=C) (i:=i) (j:=j) with⟨_,J⟩|⟨_,J⟩
  ·rw[←J,h]
  ·rw[J] at h
   rcases qb (ay C.st j) with⟨B,_⟩|⟨_,⟨T,xs,_,z⟩|⟨K,V,es,_,z⟩⟩
   ·rw[←B,h]
   ·rw[z] at h;rw[←h] at w;cases w
   ·rw[z] at h;exact absurd h.symm hd
 have x: ∀j,j<C.st.length->b7 C (C.lx i) j j:=fun j g=>
  ⟨by omega,fun T xs u=>⟨xs,by rw[←hel];exact u,rfl,Nat.le_refl _⟩,fun T a u=>⟨a,d j _ rfl (by simp) u,rfl⟩,
   fun K V es u=>⟨es,d j _ rfl (by simp) u,rfl,fun R P hh=>⟨R,P,hh,eb.refl _ _⟩⟩,fun r u=>⟨r,d j _ rfl (by simp) u,rfl⟩,fun m n ks u=>⟨m,ks,d j _ rfl (by simp) u,rfl⟩,fun t u=>⟨t,d j _ rfl (by simp) u,rfl⟩,fun s p u=>⟨p,d j _ rfl (by simp) u,rfl⟩,
   fun K V ks vs met u=>⟨met,d j _ rfl (by simp) u,rfl⟩,fun T E ls pd u=>⟨ls,pd,d j _ rfl (by simp) u,rfl,rfl,fun _ _ _ h=>h⟩⟩
 have f: ∀j,cr ((C.lx i).ι j) (ay (C.lx i).st j)=true->cr (C.ι j) (ay C.st j)=true/\(i=j->V4 (ay C.st j)=false):=fun j h=>by
  rcases qY (C:=C) (i:=i) (j:=j) with⟨e,J⟩|⟨_,J⟩
  ·rw[J] at h;exact⟨h,fun e'=>absurd e' e⟩
  ·rw[J] at h
   have:=BY _ _ h
   exact⟨this.1,fun _=>this.2⟩
 have I: ∀j b,j<C.st.length->cr ((C.lx i).ι j) (ay (C.lx i).st j)=true->C.cls b=(C.ι j).block-> ¬ (C.lx i).X b:=fun j b g h L N=>by
  obtain⟨B,z⟩:=f j h;rcases N with N|⟨F,D,U,q⟩
  ·exact(l.dr ⟨j,g,B,L.symm⟩).2 N
  ·by_cases e:i=j
   ·subst e;rw[z rfl] at D;cases D
   ·rw[q,l.fb i F U] at L
    exact l.uf j i g F (fun h=>e h.symm) B U L.symm
 refine⟨⟨l.lay,fun j g=>?_,fun j k g Q hjk O hok=>?_,fun b q=>?_,fun j g O=>l.fb j (by rw[v] at g;exact g) (f j O).1,fun b q=>⟨(l.nU b q).1,fun N=>?_,(l.nU b q).2.2⟩,l.lU W⟩,⟨W,Nat.le_refl _,rfl,rfl,rfl,fun _ _ _=>rfl,fun b q=>?_,fun b q=>?_,x,fun _=> .inl ⟨rfl,rfl⟩,rfl⟩⟩
 ·rw [v] at g
  have y:=l.obj j g;have H:ay (C.lx i).st j=ay C.st j->kh (C.lx i) ((C.lx i).ι j) (ay (C.lx i).st j):=fun h=>by
   rw[h];exact y.fV W l.lay (fun j g _=>x j g) (l.fb j g) ⟨fun b w q=>⟨I j b g (by rw[h];exact w) q,rfl⟩,fun _ _=>⟨Iff.rfl,fun _=>rfl⟩,dQ.refl _,Nat.le_refl _,fun _ _=>rfl⟩
  rcases qY (C:=C) (i:=i) (j:=j) with⟨_,h⟩|⟨A,h⟩
  ·exact H h
  ·rcases qb (ay C.st j) with⟨B,_⟩|⟨Y,⟨T,xs,B,z⟩|⟨K,V,es,_,z⟩⟩
   ·exact H (h.trans B)
   ·rw[h,z]
    rw[B] at y;obtain⟨g1,Z|⟨Z,g3,c,g4,g5,g6,g7,g8⟩⟩:=y
    ·exact⟨g1, .inl Z⟩
    ·refine⟨g1, .inr ⟨Z, .inr ⟨A▸g,A▸Y,?_,by rw[A];rfl⟩,?_⟩⟩
     ·rw[A,B];simp only[cr,Bool.not_eq_true'];exact Z
     ·exact fL W l.lay xs T _ _ _ _ g1 (fun _ _=>rfl) g8
   ·rw[h,z];trivial
 ·rw[v] at g Q
  exact l.uf j k g Q hjk (f j O).1 (f k hok).1
 ·rcases q with q|⟨F,Y,w,rfl⟩
  ·exact l.xs b q
  ·exact((l.obj i F).lt w).1
 ·rcases N with N|⟨F,Y,w,rfl⟩
  ·exact(l.nU b q).2.1 N
  ·exact q (l.fb i F w)
 ·rcases q with q|⟨F,Y,w,rfl⟩
  ·exact .inl q
  ·exact .inr (.inl (l.sH F w))
 ·obtain⟨j,g,w,hb'⟩:=q
  rw[v] at g;exact .inl ⟨j,g,(f j w).1,hb'⟩
theorem mE: ∀is {C},Inv C->∃C',C'.st=cG C.st is/\C'.w=C.w/\C'.ι=C.ι/\Inv C'/\Ext C.st.length C C'/\
  ∀i,i∈is->i<C.st.length->yH C i->C'.X (C.ι i).block
 |[],C,hI=>⟨C,rfl,rfl,rfl,hI,Ext.refl C (Nat.le_refl _),by simp⟩
 | i ::is,C,hI=>by
  obtain⟨h1,h2⟩:=Rp hI i;obtain⟨C',g1,g2,g3,g4,g5,g6⟩:=mE is h1;have hlen:(C.lx i).st.length=C.st.length:=bc _ _ _;refine⟨C',g1,g2,g3,g4,h2.trans g5 (by omega),fun j hj hlt hl=>?_⟩;by_cases hij:i=j
  ·subst hij
   refine g5.keeps.X _ ?_;rcases hl with⟨⟨⟨T,xs⟩,hy⟩,hn⟩|⟨K,V,es,hx⟩
   ·cases hx:ay C.st i<;>rw[hx] at hy<;>simp[hR] at hy
    ·exact .inr ⟨hlt,by rw[hx];rfl,by rw[hx];simp[cr,hn],rfl⟩
    ·have:=hI.obj i hlt
     rw[hx] at this;obtain⟨_,⟨h0,_⟩|⟨_,h3,_⟩⟩:=this
     ·grind
     ·exact .inl h3
   ·exact .inr ⟨hlt,by rw[hx];rfl,by rw[hx];rfl,rfl⟩
  ·have hj:=(List.mem_cons.1 hj).resolve_left (Ne.symm hij)
   refine g6 j hj (by omega) ?_;have e:=(qY (C:=C) (i:=i) (j:=j)).resolve_right fun h=>hij h.1
   unfold yH;rw[e.2];exact hl
theorem iz: ∀a st,(cG st a).length=st.length
 |[],_=>rfl
 |i::a,st=>by simp[cG];rw[iz _,bc]
theorem oG{C C'}(hI:Inv C)(hk:bP C C')(hw:C'.w=C.w){a b v}(h:cd C.st a=some b)(hX: ∀i,i∈rowsOf a->i<C.st.length->yH C i->C'.X (C.ι i).block)(hr:Rel C a v):Rel C' b v:=by
 obtain⟨g1,g2,g3,g4⟩:=iR a b h;have hj:a≠ .cC:=by grind [cd]
 exact⟨.inl (by rw[g1];exact hr.1.resolve_right hj), .inl (by rw[g2];exact hr.2.1.resolve_right hj),ve hI hk hw a b _ _ h hX hr.2.2⟩
theorem WJ{C}(hI:Inv C){x l i off s s' o}(hoff:ma l i=off)(hi:i<l.length)(hw:wid x=wid (nth l i))(h:ML C l s o)(hx:M C x s' (o+off))
  (hs: ∀j,j<eC l-> ¬ (off<=j/\j<off+wid x)->s' (o+j)=s (o+j)):ML C (bt l i x) s' o:=
 Fp hI hx l i _ s _ o hoff hi hw h (by grind)
theorem oM: ∀p a x,nO a p=true->wid x=wid (oF a p)->wid (iS a p x)=wid a
 |[],a,x,_,h=>by grind [iS,oF]
 |j::p, .agg l,x,b,h=>by
  simp[nO] at b;exact tE l j _ (oM p _ x b.2 h)
 |_::_, .cC,_,b,_|_::_, .lit _,_,b,_|_::_, .ah _ _,_,b,_|_::_, .aJ _,_,b,_|_::_, .an _ _ _,_,b,_
 |_::_, .ptr _ _ _ _,_,b,_|_::_, .jh _ _,_,b,_|_::_, .mp _,_,b,_|_::_, .cf _,_,b,_|_::_, .lv _ _,_,b,_
 |_::_, .bn _ _,_,b,_|_::_, .jx _ _,_,b,_|_::_, .eQ _ _ _ _,_,b,_=>by rfl
theorem F6{C}(hI:Inv C){x}: ∀p a s s' o,nO a p=true->wid x=wid (oF a p)->M C a s o->M C x s' (o+js a p)->
  (∀j,j<wid a-> ¬ (js a p<=j/\j<js a p+wid x)->s' (o+j)=s (o+j))->M C (iS a p x) s' o
 |[],a,s,s',o,_,_,_,hx,_=>by cases a<;>simpa[iS,js] using hx
 |j::p, .agg l,s,s',o,hp,hw,h,hx,hs=>by
  simp only[nO,ao0,an9] at hp;simp only[oF,af] at hw;simp only[js] at hx hs;simp only[M] at h;simp only[wid] at hs;simp only[iS,M];have hw2:=oM p (nth l j) x hp.2 hw;have hle:=r4 l j hp.1;have hle2:=pn p (nth l j) hp.2;refine WJ hI rfl hp.1 hw2 h ?_ (fun k hk hnk=>hs k hk (by omega));refine F6 hI p (nth l j) s s' (o+ma l j) hp.2 hw (Ck l j s o hp.1 h) (by grind) (fun k hk hnk=>?_);have:=hs (ma l j+k) (by omega) (by omega)
  grind
 |_::_, .cC,_,_,_,hp,_,_,_,_|_::_, .lit _,_,_,_,hp,_,_,_,_|_::_, .ah _ _,_,_,_,hp,_,_,_,_|_::_, .aJ _,_,_,_,hp,_,_,_,_|_::_, .an _ _ _,_,_,_,hp,_,_,_,_
 |_::_, .ptr _ _ _ _,_,_,_,hp,_,_,_,_|_::_, .jh _ _,_,_,_,hp,_,_,_,_|_::_, .mp _,_,_,_,hp,_,_,_,_|_::_, .cf _,_,_,_,hp,_,_,_,_|_::_, .lv _ _,_,_,_,hp,_,_,_,_
 |_::_, .bn _ _,_,_,_,hp,_,_,_,_|_::_, .jx _ _,_,_,_,hp,_,_,_,_|_::_, .eQ _ _ _ _,_,_,_,hp,_,_,_,_=>by simp[nO] at hp
theorem xX: ∀l i x,dU l=true->cR x=true->dU (bt l i x)=true
 |[],_,_,_,_=>by rfl
 |a::l,0,x,h,b=>by grind [dU,bt]
 |a::l,i+1,x,h,b=>by simp[dU] at h;simp[bt,dU,h.1,xX l i x h.2 b]
theorem v7: ∀p a x,nO a p=true->cR a=true->cR x=true->cR (iS a p x)=true
 |[],a,x,_,_,c=>by grind [iS]
 |j::p, .agg l,x,b,h,c=>by
  simp[nO] at b;exact xX l j _ h (v7 p _ x b.2 (xI l j b.1 h) c)
 |_::_, .cC,_,b,_,_|_::_, .lit _,_,b,_,_|_::_, .ah _ _,_,b,_,_|_::_, .aJ _,_,b,_,_|_::_, .an _ _ _,_,b,_,_
 |_::_, .ptr _ _ _ _,_,b,_,_|_::_, .jh _ _,_,b,_,_|_::_, .mp _,_,b,_,_|_::_, .cf _,_,b,_,_|_::_, .lv _ _,_,b,_,_
 |_::_, .bn _ _,_,b,_,_|_::_, .jx _ _,_,b,_,_|_::_, .eQ _ _ _ _,_,b,_,_=>by grind [nO]
theorem spliced(a:Array Value) o b(h:o+b.length<=a.size) j:
  (a.toList.take o++b++a.toList.drop (o+b.length)).toArray[j]? =if o<=j/\j<o+b.length then b[j - o]? else a[j]? :=by grind
end Go.Dn
