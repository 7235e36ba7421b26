import Derived.Test.YtioeffnadipbaaaGreatDoorDnN
namespace Go.Dn
open Go
def VK:Obj->Bool
 | .row _ _| .map _ _ _=>true
 |_=>false
def Ctx.lk(C:Ctx) i:=
 {C with X:=fun b=>C.X b\/i<C.st.length/\VK (ay C.st i)=true/\cr (C.ι i) (ay C.st i)=true/\b=(C.ι i).block,st:=df C.st i (jJ (ay C.st i))}
theorem Fo o:gX (jJ o)=gX o:=by cases o<;>rfl
theorem rn{C:Ctx}{i j}:i≠j/\ay (C.lk i).st j=ay C.st j\/i=j/\ay (C.lk i).st j=jJ (ay C.st j):=by
 by_cases h:i=j
 ·subst h
  rcases Nat.lt_or_ge i _ with a|a
  ·exact .inr ⟨rfl,br _ _ _ a⟩
  ·right
   have b:ay (C.lk i).st i= .dead:=eR _ _ (by grind [Ctx.lk,a9]);rw[b,eR _ _ a];exact⟨rfl,rfl⟩
 ·exact .inl ⟨h,bG _ _ _ _ h⟩
theorem pX o:jJ o=o/\VK o=false\/VK o=true/\((∃T xs,o= .row T xs/\jJ o= .lk T xs)\/ ∃K V a,o= .map K V a/\jJ o= .dead):=by
 cases o<;>simp[jJ,VK]
theorem Ax g o:cr g (jJ o)=true->cr g o=true/\VK o=false:=by
 cases o<;>simp[jJ,VK,cr]
theorem Rp{C}(l:Inv C) i:Inv (C.lk i)/\Ext C.st.length C (C.lk i):=by
 have W:bP C (C.lk i):=⟨rfl,fun _ h=> .inl h,fun _ _=>rfl⟩
 have v:(C.lk i).st.length=C.st.length:=a9 _ _ _;have hel: ∀j,gX (ay (C.lk i).st j)=gX (ay C.st j):=fun j=>by
  rcases rn (C:=C) (i:=i) (j:=j) with⟨_,h⟩|⟨_,h⟩
  ·rw[h]
  ·rw[h,Fo]
 have d: ∀j o,gX o=none->o≠Obj.dead->ay (C.lk i).st j=o->ay C.st j=o:=fun j o w hd h=>by
  rcases rn (C:=C) (i:=i) (j:=j) with⟨_,J⟩|⟨_,J⟩
  ·rw[←J,h]
  ·rw[J] at h
   rcases pX (ay C.st j) with⟨B,_⟩|⟨_,⟨T,xs,_,z⟩|⟨K,V,es,_,z⟩⟩
   ·rw[←B,h]
   ·rw[z] at h;rw[←h] at w;cases w
   ·rw[z] at h;exact absurd h.symm hd
 have x: ∀j,j<C.st.length->b8 C (C.lk i) j j:=fun j g=>
  ⟨by omega,fun T xs u=>⟨xs,by rw[←hel];exact u,rfl,Nat.le_refl _⟩,fun T a u=>⟨a,d j _ rfl (by simp) u,rfl⟩,
   fun K V es u=>⟨es,d j _ rfl (by simp) u,rfl,fun R P hh=>⟨R,P,hh,dZ.refl _ _⟩⟩,fun r u=>⟨r,d j _ rfl (by simp) u,rfl⟩,fun m n ks u=>⟨m,ks,d j _ rfl (by simp) u,rfl⟩,fun t u=>⟨t,d j _ rfl (by simp) u,rfl⟩,fun s p u=>⟨p,d j _ rfl (by simp) u,rfl⟩,
   fun K V ks vs met u=>⟨met,d j _ rfl (by simp) u,rfl⟩,fun T E ls pd u=>⟨ls,pd,d j _ rfl (by simp) u,rfl,rfl,fun _ _ _ h=>h⟩⟩
 have f: ∀j,cr ((C.lk i).ι j) (ay (C.lk i).st j)=true->cr (C.ι j) (ay C.st j)=true/\(i=j->VK (ay C.st j)=false):=fun j h=>by
  rcases rn (C:=C) (i:=i) (j:=j) with⟨e,J⟩|⟨_,J⟩
  ·rw[J] at h;exact⟨h,fun e'=>absurd e' e⟩
  ·rw[J] at h
   have:=Ax _ _ h
   exact⟨this.1,fun _=>this.2⟩
 have I: ∀j b,j<C.st.length->cr ((C.lk i).ι j) (ay (C.lk i).st j)=true->C.cls b=(C.ι j).block-> ¬ (C.lk i).X b:=fun j b g h L N=>by
  obtain⟨B,z⟩:=f j h;rcases N with N|⟨F,D,U,q⟩
  ·exact(l.du ⟨j,g,B,L.symm⟩).2 N
  ·by_cases e:i=j
   ·subst e;rw[z rfl] at D;cases D
   ·rw[q,l.eY i F U] at L
    exact l.tX j i g F (fun h=>e h.symm) B U L.symm
 refine⟨⟨l.lay,fun j g=>?_,fun j k g Q hjk O hok=>?_,fun b q=>?_,fun j g O=>l.eY j (by rw[v] at g;exact g) (f j O).1,fun b q=>⟨(l.nT b q).1,fun N=>?_,(l.nT b q).2.2⟩,l.lH W⟩,⟨W,Nat.le_refl _,rfl,rfl,rfl,fun _ _ _=>rfl,fun b q=>?_,fun b q=>?_,x,fun _=> .inl ⟨rfl,rfl⟩,rfl⟩⟩
 ·rw [v] at g
  have y:=l.obj j g;have H:ay (C.lk i).st j=ay C.st j->ke (C.lk i) ((C.lk i).ι j) (ay (C.lk i).st j):=fun h=>by
   rw[h];exact y.gf W l.lay (fun j g _=>x j g) (l.eY j g) ⟨fun b w q=>⟨I j b g (by rw[h];exact w) q,rfl⟩,fun _ _=>⟨Iff.rfl,fun _=>rfl⟩,dO.refl _,Nat.le_refl _,fun _ _=>rfl⟩
  rcases rn (C:=C) (i:=i) (j:=j) with⟨_,h⟩|⟨A,h⟩
  ·exact H h
  ·rcases pX (ay C.st j) with⟨B,_⟩|⟨Y,⟨T,xs,B,z⟩|⟨K,V,es,_,z⟩⟩
   ·exact H (h.trans B)
   ·rw[h,z]
    rw[B] at y;obtain⟨g1,Z|⟨Z,g3,c,g4,g5,g6,g7,g8⟩⟩:=y
    ·exact⟨g1, .inl Z⟩
    ·refine⟨g1, .inr ⟨Z, .inr ⟨A▸g,A▸Y,?_,by rw[A];rfl⟩,?_⟩⟩
     ·rw[A,B];simp only[cr,Bool.not_eq_true'];exact Z
     ·exact fJ W l.lay xs T _ _ _ _ g1 (fun _ _=>rfl) g8
   ·rw[h,z];trivial
 ·rw[v] at g Q
  exact l.tX j k g Q hjk (f j O).1 (f k hok).1
 ·rcases q with q|⟨F,Y,w,rfl⟩
  ·exact l.xs b q
  ·exact((l.obj i F).lt w).1
 ·rcases N with N|⟨F,Y,w,rfl⟩
  ·exact(l.nT b q).2.1 N
  ·exact q (l.eY i F w)
 ·rcases q with q|⟨F,Y,w,rfl⟩
  ·exact .inl q
  ·exact .inr (.inl (l.td F w))
 ·obtain⟨j,g,w,hb'⟩:=q
  rw[v] at g;exact .inl ⟨j,g,(f j w).1,hb'⟩
theorem mr: ∀is {C},Inv C->∃C',C'.st=cF C.st is/\C'.w=C.w/\C'.ι=C.ι/\Inv C'/\Ext C.st.length C C'/\
  ∀i,i∈is->i<C.st.length->yi C i->C'.X (C.ι i).block
 |[],C,hI=>⟨C,rfl,rfl,rfl,hI,Ext.refl C (Nat.le_refl _),by simp⟩
 | i ::is,C,hI=>by
  obtain⟨h1,h2⟩:=Rp hI i;obtain⟨C',g1,g2,g3,g4,g5,g6⟩:=mr is h1;have hlen:(C.lk i).st.length=C.st.length:=a9 _ _ _;refine⟨C',g1,g2,g3,g4,h2.trans g5 (by omega),fun j hj hlt hl=>?_⟩;by_cases hij:i=j
  ·subst hij
   refine g5.keeps.X _ ?_;rcases hl with⟨⟨⟨T,xs⟩,hy⟩,hn⟩|⟨K,V,es,hx⟩
   ·cases hx:ay C.st i<;>rw[hx] at hy<;>simp[gX] at hy
    ·exact .inr ⟨hlt,by rw[hx];rfl,by rw[hx];simp[cr,hn],rfl⟩
    ·have:=hI.obj i hlt
     rw[hx] at this;obtain⟨_,⟨h0,_⟩|⟨_,h3,_⟩⟩:=this
     ·grind
     ·exact .inl h3
   ·exact .inr ⟨hlt,by rw[hx];rfl,by rw[hx];rfl,rfl⟩
  ·have hj:=(List.mem_cons.1 hj).resolve_left (Ne.symm hij)
   refine g6 j hj (by omega) ?_;have e:=(rn (C:=C) (i:=i) (j:=j)).resolve_right fun h=>hij h.1
   unfold yi;rw[e.2];exact hl
theorem iu: ∀a st,(cF st a).length=st.length
 |[],_=>rfl
 |i::a,st=>by simp[cF];rw[iu _,a9]
theorem oP{C C'}(hI:Inv C)(hk:bP C C')(hw:C'.w=C.w){a b v}(h:cg C.st a=some b)(hX: ∀i,i∈rowsOf a->i<C.st.length->yi C i->C'.X (C.ι i).block)(hr:Rel C a v):Rel C' b v:=by
 obtain⟨g1,g2,g3,g4⟩:=iN a b h;have hj:a≠ .cB:=by grind [cg]
 exact⟨.inl (by rw[g1];exact hr.1.resolve_right hj), .inl (by rw[g2];exact hr.2.1.resolve_right hj),va hI hk hw a b _ _ h hX hr.2.2⟩
theorem Vm{C}(hI:Inv C){x l i off s s' o}(hoff:l6 l i=off)(hi:i<l.length)(hw:wid x=wid (nth l i))(h:ML C l s o)(hx:M C x s' (o+off))
  (hs: ∀j,j<eF l-> ¬ (off<=j/\j<off+wid x)->s' (o+j)=s (o+j)):ML C (bH l i x) s' o:=
 ER hI hx l i _ s _ o hoff hi hw h (by grind)
theorem pc: ∀p a x,nP a p=true->wid x=wid (nX a p)->wid (iS a p x)=wid a
 |[],a,x,_,h=>by grind [iS,nX]
 |j::p, .agg l,x,b,h=>by
  simp[nP] at b;exact tu l j _ (pc p _ x b.2 h)
 |_::_, .cB,_,b,_|_::_, .lit _,_,b,_|_::_, .ah _ _,_,b,_|_::_, .aH _,_,b,_|_::_, .ak _ _ _,_,b,_
 |_::_, .ptr _ _ _ _,_,b,_|_::_, .jj _ _,_,b,_|_::_, .mp _,_,b,_|_::_, .cf _,_,b,_|_::_, .lj _ _,_,b,_
 |_::_, .bm _ _,_,b,_|_::_, .jt _ _,_,b,_|_::_, .eO _ _ _ _,_,b,_=>by rfl
theorem EU{C}(hI:Inv C){x}: ∀p a s s' o,nP a p=true->wid x=wid (nX a p)->M C a s o->M C x s' (o+ji a p)->
  (∀j,j<wid a-> ¬ (ji a p<=j/\j<ji a p+wid x)->s' (o+j)=s (o+j))->M C (iS a p x) s' o
 |[],a,s,s',o,_,_,_,hx,_=>by cases a<;>simpa[iS,ji] using hx
 |j::p, .agg l,s,s',o,hp,hw,h,hx,hs=>by
  simp only[nP,ar5,ar4] at hp;simp only[nX,ag] at hw;simp only[ji] at hx hs;simp only[M] at h;simp only[wid] at hs;simp only[iS,M];have hw2:=pc p (nth l j) x hp.2 hw;have hle:=rM l j hp.1;have hle2:=pC p (nth l j) hp.2;refine Vm hI rfl hp.1 hw2 h ?_ (fun k hk hnk=>hs k hk (by omega));refine EU hI p (nth l j) s s' (o+l6 l j) hp.2 hw (Cg l j s o hp.1 h) (by grind) (fun k hk hnk=>?_);have:=hs (l6 l j+k) (by omega) (by omega)
  grind
 |_::_, .cB,_,_,_,hp,_,_,_,_|_::_, .lit _,_,_,_,hp,_,_,_,_|_::_, .ah _ _,_,_,_,hp,_,_,_,_|_::_, .aH _,_,_,_,hp,_,_,_,_|_::_, .ak _ _ _,_,_,_,hp,_,_,_,_
 |_::_, .ptr _ _ _ _,_,_,_,hp,_,_,_,_|_::_, .jj _ _,_,_,_,hp,_,_,_,_|_::_, .mp _,_,_,_,hp,_,_,_,_|_::_, .cf _,_,_,_,hp,_,_,_,_|_::_, .lj _ _,_,_,_,hp,_,_,_,_
 |_::_, .bm _ _,_,_,_,hp,_,_,_,_|_::_, .jt _ _,_,_,_,hp,_,_,_,_|_::_, .eO _ _ _ _,_,_,_,hp,_,_,_,_=>by simp[nP] at hp
theorem xZ: ∀l i x,dJ l=true->cH x=true->dJ (bH l i x)=true
 |[],_,_,_,_=>by rfl
 |a::l,0,x,h,b=>by grind [dJ,bH]
 |a::l,i+1,x,h,b=>by simp[dJ] at h;simp[bH,dJ,h.1,xZ l i x h.2 b]
theorem x0: ∀p a x,nP a p=true->cH a=true->cH x=true->cH (iS a p x)=true
 |[],a,x,_,_,c=>by grind [iS]
 |j::p, .agg l,x,b,h,c=>by
  simp[nP] at b;exact xZ l j _ h (x0 p _ x b.2 (xX l j b.1 h) c)
 |_::_, .cB,_,b,_,_|_::_, .lit _,_,b,_,_|_::_, .ah _ _,_,b,_,_|_::_, .aH _,_,b,_,_|_::_, .ak _ _ _,_,b,_,_
 |_::_, .ptr _ _ _ _,_,b,_,_|_::_, .jj _ _,_,b,_,_|_::_, .mp _,_,b,_,_|_::_, .cf _,_,b,_,_|_::_, .lj _ _,_,b,_,_
 |_::_, .bm _ _,_,b,_,_|_::_, .jt _ _,_,b,_,_|_::_, .eO _ _ _ _,_,b,_,_=>by grind [nP]
theorem spliced(a:Array Value) o b(h:o+b.length<=a.size) j:
  (a.toList.take o++b++a.toList.drop (o+b.length)).toArray[j]? =if o<=j/\j<o+b.length then b[j - o]? else a[j]? :=by grind
end Go.Dn
