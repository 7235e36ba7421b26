import Derived.Test.YtioeffnadipbaaaGreatDoorDnN
namespace Go.Dn
open Go
def TQ:Obj->Bool
 | .row _ _| .map _ _ _=>true
 |_=>false
def Ctx.lD(C:Ctx) i:=
 {C with X:=fun b=>C.X b\/i<C.st.length/\TQ (au C.st i)=true/\cv (C.ι i) (au C.st i)=true/\b=(C.ι i).block,st:=dj C.st i (jP (au C.st i))}
theorem EO o:ib (jP o)=ib o:=by cases o<;>rfl
theorem r5{C:Ctx}{i j}:i≠j/\au (C.lD i).st j=au C.st j\/i=j/\au (C.lD i).st j=jP (au C.st j):=by
 by_cases h:i=j
 ·subst h
  rcases Nat.lt_or_ge i _ with a|a
  ·exact .inr ⟨rfl,bn _ _ _ a⟩
  ·right
   have b:au (C.lD i).st i= .dead:=eC _ _ (by grind [Ctx.lD,a9]);rw[b,eC _ _ a];exact⟨rfl,rfl⟩
 ·exact .inl ⟨h,bw _ _ _ _ h⟩
theorem qp o:jP o=o/\TQ o=false\/TQ o=true/\((∃T xs,o= .row T xs/\jP o= .lD T xs)\/ ∃K V a,o= .map K V a/\jP o= .dead):=by
 cases o<;>simp[jP,TQ]
theorem AG g o:cv g (jP o)=true->cv g o=true/\TQ o=false:=by
 cases o<;>simp[jP,TQ,cv]
theorem P6{C}(l:Inv C) i:Inv (C.lD i)/\Ext C.st.length C (C.lD i):=by
 have W:bK C (C.lD i):=⟨rfl,fun _ h=> .inl h,fun _ _=>rfl⟩
 have v:(C.lD i).st.length=C.st.length:=a9 _ _ _;have hel: ∀j,ib (au (C.lD i).st j)=ib (au C.st j):=fun j=>by
  rcases r5 (C:=C) (i:=i) (j:=j) with⟨_,h⟩|⟨_,h⟩
  ·rw[h]
  ·rw[h,EO]
 have d: ∀j o,ib o=none->o≠Obj.dead->au (C.lD i).st j=o->au C.st j=o:=fun j o w hd h=>by
  rcases r5 (C:=C) (i:=i) (j:=j) with⟨_,J⟩|⟨_,J⟩
  ·rw[←J,h]
  ·rw[J] at h
   rcases qp (au C.st j) with⟨B,_⟩|⟨_,⟨T,xs,_,z⟩|⟨K,V,es,_,z⟩⟩
   ·rw[←B,h]
   ·rw[z] at h;rw[←h] at w;cases w
   ·rw[z] at h;exact absurd h.symm hd
 have x: ∀j,j<C.st.length->bW C (C.lD i) j j:=fun j g=>
  ⟨by omega,fun T xs u=>⟨xs,by rw[←hel];exact u,rfl,Nat.le_refl _⟩,fun T a u=>⟨a,d j _ rfl (by simp) u,rfl⟩,
   fun K V es u=>⟨es,d j _ rfl (by simp) u,rfl,fun R P hh=>⟨R,P,hh,eb.refl _ _⟩⟩,fun r u=>⟨r,d j _ rfl (by simp) u,rfl⟩,fun m n ks u=>⟨m,ks,d j _ rfl (by simp) u,rfl⟩,fun t u=>⟨t,d j _ rfl (by simp) u,rfl⟩,fun s p u=>⟨p,d j _ rfl (by simp) u,rfl⟩,
   fun K V ks vs met u=>⟨met,d j _ rfl (by simp) u,rfl⟩,fun T E ls pd u=>⟨ls,pd,d j _ rfl (by simp) u,rfl,rfl,fun _ _ _ h=>h⟩⟩
 have f: ∀j,cv ((C.lD i).ι j) (au (C.lD i).st j)=true->cv (C.ι j) (au C.st j)=true/\(i=j->TQ (au C.st j)=false):=fun j h=>by
  rcases r5 (C:=C) (i:=i) (j:=j) with⟨e,J⟩|⟨_,J⟩
  ·rw[J] at h;exact⟨h,fun e'=>absurd e' e⟩
  ·rw[J] at h
   have:=AG _ _ h
   exact⟨this.1,fun _=>this.2⟩
 have I: ∀j b,j<C.st.length->cv ((C.lD i).ι j) (au (C.lD i).st j)=true->C.cls b=(C.ι j).block-> ¬ (C.lD i).X b:=fun j b g h L N=>by
  obtain⟨B,z⟩:=f j h;rcases N with N|⟨F,D,U,q⟩
  ·exact(l.dA ⟨j,g,B,L.symm⟩).2 N
  ·by_cases e:i=j
   ·subst e;rw[z rfl] at D;cases D
   ·rw[q,l.eZ i F U] at L
    exact l.u0 j i g F (fun h=>e h.symm) B U L.symm
 refine⟨⟨l.lay,fun j g=>?_,fun j k g Q hjk O hok=>?_,fun b q=>?_,fun j g O=>l.eZ j (by rw[v] at g;exact g) (f j O).1,fun b q=>⟨(l.ot b q).1,fun N=>?_,(l.ot b q).2.2⟩,l.lR W⟩,⟨W,Nat.le_refl _,rfl,rfl,rfl,fun _ _ _=>rfl,fun b q=>?_,fun b q=>?_,x,fun _=> .inl ⟨rfl,rfl⟩,rfl⟩⟩
 ·rw [v] at g
  have y:=l.obj j g;have H:au (C.lD i).st j=au C.st j->kl (C.lD i) ((C.lD i).ι j) (au (C.lD i).st j):=fun h=>by
   rw[h];exact y.gr W l.lay (fun j g _=>x j g) (l.eZ j g) ⟨fun b w q=>⟨I j b g (by rw[h];exact w) q,rfl⟩,fun _ _=>⟨Iff.rfl,fun _=>rfl⟩,dT.refl _,Nat.le_refl _,fun _ _=>rfl⟩
  rcases r5 (C:=C) (i:=i) (j:=j) with⟨_,h⟩|⟨A,h⟩
  ·exact H h
  ·rcases qp (au C.st j) with⟨B,_⟩|⟨Y,⟨T,xs,B,z⟩|⟨K,V,es,_,z⟩⟩
   ·exact H (h.trans B)
   ·rw[h,z]
    rw[B] at y;obtain⟨g1,Z|⟨Z,g3,c,g4,g5,g6,g7,g8⟩⟩:=y
    ·exact⟨g1, .inl Z⟩
    ·refine⟨g1, .inr ⟨Z, .inr ⟨A▸g,A▸Y,?_,by rw[A];rfl⟩,?_⟩⟩
     ·rw[A,B];simp only[cv,Bool.not_eq_true'];exact Z
     ·exact gg W l.lay xs T _ _ _ _ g1 (fun _ _=>rfl) g8
   ·rw[h,z];trivial
 ·rw[v] at g Q
  exact l.u0 j k g Q hjk (f j O).1 (f k hok).1
 ·rcases q with q|⟨F,Y,w,rfl⟩
  ·exact l.xs b q
  ·exact((l.obj i F).lt w).1
 ·rcases N with N|⟨F,Y,w,rfl⟩
  ·exact(l.ot b q).2.1 N
  ·exact q (l.eZ i F w)
 ·rcases q with q|⟨F,Y,w,rfl⟩
  ·exact .inl q
  ·exact .inr (.inl (l.tI F w))
 ·obtain⟨j,g,w,hb'⟩:=q
  rw[v] at g;exact .inl ⟨j,g,(f j w).1,hb'⟩
theorem mI: ∀is {C},Inv C->∃C',C'.st=cQ C.st is/\C'.w=C.w/\C'.ι=C.ι/\Inv C'/\Ext C.st.length C C'/\
  ∀i,i∈is->i<C.st.length->yl C i->C'.X (C.ι i).block
 |[],C,hI=>⟨C,rfl,rfl,rfl,hI,Ext.refl C (Nat.le_refl _),by simp⟩
 | i ::is,C,hI=>by
  obtain⟨h1,h2⟩:=P6 hI i;obtain⟨C',g1,g2,g3,g4,g5,g6⟩:=mI is h1;have hlen:(C.lD i).st.length=C.st.length:=a9 _ _ _;refine⟨C',g1,g2,g3,g4,h2.trans g5 (by omega),fun j hj hlt hl=>?_⟩;by_cases hij:i=j
  ·subst hij
   refine g5.keeps.X _ ?_;rcases hl with⟨⟨⟨T,xs⟩,hy⟩,hn⟩|⟨K,V,es,hx⟩
   ·cases hx:au C.st i<;>rw[hx] at hy<;>simp[ib] at hy
    ·exact .inr ⟨hlt,by rw[hx];rfl,by rw[hx];simp[cv,hn],rfl⟩
    ·have:=hI.obj i hlt
     rw[hx] at this;obtain⟨_,⟨h0,_⟩|⟨_,h3,_⟩⟩:=this
     ·grind
     ·exact .inl h3
   ·exact .inr ⟨hlt,by rw[hx];rfl,by rw[hx];rfl,rfl⟩
  ·have hj:=(List.mem_cons.1 hj).resolve_left (Ne.symm hij)
   refine g6 j hj (by omega) ?_;have e:=(r5 (C:=C) (i:=i) (j:=j)).resolve_right fun h=>hij h.1
   unfold yl;rw[e.2];exact hl
theorem iD: ∀a st,(cQ st a).length=st.length
 |[],_=>rfl
 |i::a,st=>by simp[cQ];rw[iD _,a9]
theorem o7{C C'}(hI:Inv C)(hk:bK C C')(hw:C'.w=C.w){a b v}(h:b9 C.st a=some b)(hX: ∀i,i∈rowsOf a->i<C.st.length->yl C i->C'.X (C.ι i).block)(hr:Rel C a v):Rel C' b v:=by
 obtain⟨g1,g2,g3,g4⟩:=iT a b h;have hj:a≠ .cK:=by grind [b9]
 exact⟨.inl (by rw[g1];exact hr.1.resolve_right hj), .inl (by rw[g2];exact hr.2.1.resolve_right hj),vt hI hk hw a b _ _ h hX hr.2.2⟩
theorem Tu{C}(hI:Inv C){x l i off s s' o}(hoff:mm l i=off)(hi:i<l.length)(hw:wid x=wid (nth l i))(h:ML C l s o)(hx:M C x s' (o+off))
  (hs: ∀j,j<eL l-> ¬ (off<=j/\j<off+wid x)->s' (o+j)=s (o+j)):ML C (bQ l i x) s' o:=
 Ev hI hx l i _ s _ o hoff hi hw h (by grind)
theorem mY: ∀p a x,oi a p=true->wid x=wid (og a p)->wid (gD a p x)=wid a
 |[],a,x,_,h=>by grind [gD,og]
 |j::p, .agg l,x,b,h=>by
  simp[oi] at b;exact tW l j _ (mY p _ x b.2 h)
 |_::_, .cK,_,b,_|_::_, .lit _,_,b,_|_::_, .ad _ _,_,b,_|_::_, .aK _,_,b,_|_::_, .ax _ _ _,_,b,_
 |_::_, .ptr _ _ _ _,_,b,_|_::_, .jA _ _,_,b,_|_::_, .mp _,_,b,_|_::_, .bJ _,_,b,_|_::_, .lC _ _,_,b,_
 |_::_, .bp _ _,_,b,_|_::_, .jz _ _,_,b,_|_::_, .eO _ _ _ _,_,b,_=>by rfl
theorem Ah{C}(hI:Inv C){x}: ∀p a s s' o,oi a p=true->wid x=wid (og a p)->M C a s o->M C x s' (o+jm a p)->
  (∀j,j<wid a-> ¬ (jm a p<=j/\j<jm a p+wid x)->s' (o+j)=s (o+j))->M C (gD a p x) s' o
 |[],a,s,s',o,_,_,_,hx,_=>by cases a<;>simpa[gD,jm] using hx
 |j::p, .agg l,s,s',o,hp,hw,h,hx,hs=>by
  simp only[oi,an3,an2] at hp;simp only[og,af] at hw;simp only[jm] at hx hs;simp only[M] at h;simp only[wid] at hs;simp only[gD,M];have hw2:=mY p (nth l j) x hp.2 hw;have hle:=sq l j hp.1;have hle2:=pU p (nth l j) hp.2;refine Tu hI rfl hp.1 hw2 h ?_ (fun k hk hnk=>hs k hk (by omega));refine Ah hI p (nth l j) s s' (o+mm l j) hp.2 hw (Cb l j s o hp.1 h) (by grind) (fun k hk hnk=>?_);have:=hs (mm l j+k) (by omega) (by omega)
  grind
 |_::_, .cK,_,_,_,hp,_,_,_,_|_::_, .lit _,_,_,_,hp,_,_,_,_|_::_, .ad _ _,_,_,_,hp,_,_,_,_|_::_, .aK _,_,_,_,hp,_,_,_,_|_::_, .ax _ _ _,_,_,_,hp,_,_,_,_
 |_::_, .ptr _ _ _ _,_,_,_,hp,_,_,_,_|_::_, .jA _ _,_,_,_,hp,_,_,_,_|_::_, .mp _,_,_,_,hp,_,_,_,_|_::_, .bJ _,_,_,_,hp,_,_,_,_|_::_, .lC _ _,_,_,_,hp,_,_,_,_
 |_::_, .bp _ _,_,_,_,hp,_,_,_,_|_::_, .jz _ _,_,_,_,hp,_,_,_,_|_::_, .eO _ _ _ _,_,_,_,hp,_,_,_,_=>by simp[oi] at hp
theorem x4: ∀l i x,dL l=true->cR x=true->dL (bQ l i x)=true
 |[],_,_,_,_=>by rfl
 |a::l,0,x,h,b=>by grind [dL,bQ]
 |a::l,i+1,x,h,b=>by simp[dL] at h;simp[bQ,dL,h.1,x4 l i x h.2 b]
theorem ru: ∀p a x,oi a p=true->cR a=true->cR x=true->cR (gD a p x)=true
 |[],a,x,_,_,c=>by grind [gD]
 |j::p, .agg l,x,b,h,c=>by
  simp[oi] at b;exact x4 l j _ h (ru p _ x b.2 (x3 l j b.1 h) c)
 |_::_, .cK,_,b,_,_|_::_, .lit _,_,b,_,_|_::_, .ad _ _,_,b,_,_|_::_, .aK _,_,b,_,_|_::_, .ax _ _ _,_,b,_,_
 |_::_, .ptr _ _ _ _,_,b,_,_|_::_, .jA _ _,_,b,_,_|_::_, .mp _,_,b,_,_|_::_, .bJ _,_,b,_,_|_::_, .lC _ _,_,b,_,_
 |_::_, .bp _ _,_,b,_,_|_::_, .jz _ _,_,b,_,_|_::_, .eO _ _ _ _,_,b,_,_=>by grind [oi]
theorem spliced(a:Array Value) o b(h:o+b.length<=a.size) j:
  (a.toList.take o++b++a.toList.drop (o+b.length)).toArray[j]? =if o<=j/\j<o+b.length then b[j - o]? else a[j]? :=by grind
end Go.Dn
