import Derived.Test.YtioeffnadipbaaaGreatDoorDnN
namespace Go.Dn
open Go
def Wq:Obj->Bool
 | .row _ _| .map _ _ _=>true
 |_=>false
def Ctx.lz(C:Ctx) i:=
 {C with X:=fun b=>C.X b\/i<C.st.length/\Wq (ay C.st i)=true/\ct (C.ι i) (ay C.st i)=true/\b=(C.ι i).block,st:=db C.st i (jL (ay C.st i))}
theorem Gw o:ij (jL o)=ij o:=by cases o<;>rfl
theorem rp{C:Ctx}{i j}:i≠j/\ay (C.lz i).st j=ay C.st j\/i=j/\ay (C.lz i).st j=jL (ay C.st j):=by
 by_cases h:i=j
 ·subst h
  rcases Nat.lt_or_ge i _ with a|a
  ·exact .inr ⟨rfl,bt _ _ _ a⟩
  ·right
   have b:ay (C.lz i).st i= .dead:=eS _ _ (by grind [Ctx.lz,ba]);rw[b,eS _ _ a];exact⟨rfl,rfl⟩
 ·exact .inl ⟨h,bG _ _ _ _ h⟩
theorem qt o:jL o=o/\Wq o=false\/Wq o=true/\((∃T xs,o= .row T xs/\jL o= .lz T xs)\/ ∃K V a,o= .map K V a/\jL o= .dead):=by
 cases o<;>simp[jL,Wq]
theorem BR g o:ct g (jL o)=true->ct g o=true/\Wq o=false:=by
 cases o<;>simp[jL,Wq,ct]
theorem Rj{C}(l:Inv C) i:Inv (C.lz i)/\Ext C.st.length C (C.lz i):=by
 have W:bQ C (C.lz i):=⟨rfl,fun _ h=> .inl h,fun _ _=>rfl⟩
 have v:(C.lz i).st.length=C.st.length:=ba _ _ _;have hel: ∀j,ij (ay (C.lz i).st j)=ij (ay C.st j):=fun j=>by
  rcases rp (C:=C) (i:=i) (j:=j) with⟨_,h⟩|⟨_,h⟩
  ·rw[h]
  ·rw[h,Gw]
 have d: ∀j o,ij o=none->o≠Obj.dead->ay (C.lz i).st j=o->ay C.st j=o:=fun j o w hd h=>by
  rcases rp (C:=C) (i:=i) (j:=j) with⟨_,J⟩|⟨_,J⟩
  ·rw[←J,h]
  ·rw[J] at h
   rcases qt (ay C.st j) with⟨B,_⟩|⟨_,⟨T,xs,_,z⟩|⟨K,V,es,_,z⟩⟩
   ·rw[←B,h]
   ·rw[z] at h;rw[←h] at w;cases w
   ·rw[z] at h;exact absurd h.symm hd
 have x: ∀j,j<C.st.length->b7 C (C.lz i) j j:=fun j g=>
  ⟨by omega,fun T xs u=>⟨xs,by rw[←hel];exact u,rfl,Nat.le_refl _⟩,fun T a u=>⟨a,d j _ rfl (by simp) u,rfl⟩,
   fun K V es u=>⟨es,d j _ rfl (by simp) u,rfl,fun R P hh=>⟨R,P,hh,dW.refl _ _⟩⟩,fun r u=>⟨r,d j _ rfl (by simp) u,rfl⟩,fun m n ks u=>⟨m,ks,d j _ rfl (by simp) u,rfl⟩,fun t u=>⟨t,d j _ rfl (by simp) u,rfl⟩,fun s p u=>⟨p,d j _ rfl (by simp) u,rfl⟩,
   fun K V ks vs met u=>⟨met,d j _ rfl (by simp) u,rfl⟩,fun T E ls pd u=>⟨ls,pd,d j _ rfl (by simp) u,rfl,rfl,fun _ _ _ h=>h⟩⟩
 have f: ∀j,ct ((C.lz i).ι j) (ay (C.lz i).st j)=true->ct (C.ι j) (ay C.st j)=true/\(i=j->Wq (ay C.st j)=false):=fun j h=>by
  rcases rp (C:=C) (i:=i) (j:=j) with⟨e,J⟩|⟨_,J⟩
  ·rw[J] at h;exact⟨h,fun e'=>absurd e' e⟩
  ·rw[J] at h
   have:=BR _ _ h
   exact⟨this.1,fun _=>this.2⟩
 have I: ∀j b,j<C.st.length->ct ((C.lz i).ι j) (ay (C.lz i).st j)=true->C.cls b=(C.ι j).block-> ¬ (C.lz i).X b:=fun j b g h L N=>by
  obtain⟨B,z⟩:=f j h;rcases N with N|⟨F,D,U,q⟩
  ·exact(l.dt ⟨j,g,B,L.symm⟩).2 N
  ·by_cases e:i=j
   ·subst e;rw[z rfl] at D;cases D
   ·rw[q,l.fa i F U] at L
    exact l.uS j i g F (fun h=>e h.symm) B U L.symm
 refine⟨⟨l.lay,fun j g=>?_,fun j k g Q hjk O hok=>?_,fun b q=>?_,fun j g O=>l.fa j (by rw[v] at g;exact g) (f j O).1,fun b q=>⟨(l.oc b q).1,fun N=>?_,(l.oc b q).2.2⟩,l.lC W⟩,⟨W,Nat.le_refl _,rfl,rfl,rfl,fun _ _ _=>rfl,fun b q=>?_,fun b q=>?_,x,fun _=> .inl ⟨rfl,rfl⟩,rfl⟩⟩
 ·rw [v] at g
  have y:=l.obj j g;have H:ay (C.lz i).st j=ay C.st j->kj (C.lz i) ((C.lz i).ι j) (ay (C.lz i).st j):=fun h=>by
   rw[h];exact y.eY W l.lay (fun j g _=>x j g) (l.fa j g) ⟨fun b w q=>⟨I j b g (by rw[h];exact w) q,rfl⟩,fun _ _=>⟨Iff.rfl,fun _=>rfl⟩,dN.refl _,Nat.le_refl _,fun _ _=>rfl⟩
  rcases rp (C:=C) (i:=i) (j:=j) with⟨_,h⟩|⟨A,h⟩
  ·exact H h
  ·rcases qt (ay C.st j) with⟨B,_⟩|⟨Y,⟨T,xs,B,z⟩|⟨K,V,es,_,z⟩⟩
   ·exact H (h.trans B)
   ·rw[h,z]
    rw[B] at y;obtain⟨g1,Z|⟨Z,g3,c,g4,g5,g6,g7,g8⟩⟩:=y
    ·exact⟨g1, .inl Z⟩
    ·refine⟨g1, .inr ⟨Z, .inr ⟨A▸g,A▸Y,?_,by rw[A];rfl⟩,?_⟩⟩
     ·rw[A,B];simp only[ct,Bool.not_eq_true'];exact Z
     ·exact fU W l.lay xs T _ _ _ _ g1 (fun _ _=>rfl) g8
   ·rw[h,z];trivial
 ·rw[v] at g Q
  exact l.uS j k g Q hjk (f j O).1 (f k hok).1
 ·rcases q with q|⟨F,Y,w,rfl⟩
  ·exact l.xs b q
  ·exact((l.obj i F).lt w).1
 ·rcases N with N|⟨F,Y,w,rfl⟩
  ·exact(l.oc b q).2.1 N
  ·exact q (l.fa i F w)
 ·rcases q with q|⟨F,Y,w,rfl⟩
  ·exact .inl q
  ·exact .inr (.inl (l.tV F w))
 ·obtain⟨j,g,w,hb'⟩:=q
  rw[v] at g;exact .inl ⟨j,g,(f j w).1,hb'⟩
theorem mu: ∀is {C},Inv C->∃C',C'.st=cG C.st is/\C'.w=C.w/\C'.ι=C.ι/\Inv C'/\Ext C.st.length C C'/\
  ∀i,i∈is->i<C.st.length->yK C i->C'.X (C.ι i).block
 |[],C,hI=>⟨C,rfl,rfl,rfl,hI,Ext.refl C (Nat.le_refl _),by simp⟩
 | i ::is,C,hI=>by
  obtain⟨h1,h2⟩:=Rj hI i;obtain⟨C',g1,g2,g3,g4,g5,g6⟩:=mu is h1;have hlen:(C.lz i).st.length=C.st.length:=ba _ _ _;refine⟨C',g1,g2,g3,g4,h2.trans g5 (by omega),fun j hj hlt hl=>?_⟩;by_cases hij:i=j
  ·subst hij
   refine g5.keeps.X _ ?_;rcases hl with⟨⟨⟨T,xs⟩,hy⟩,hn⟩|⟨K,V,es,hx⟩
   ·cases hx:ay C.st i<;>rw[hx] at hy<;>simp[ij] at hy
    ·exact .inr ⟨hlt,by rw[hx];rfl,by rw[hx];simp[ct,hn],rfl⟩
    ·have:=hI.obj i hlt
     rw[hx] at this;obtain⟨_,⟨h0,_⟩|⟨_,h3,_⟩⟩:=this
     ·grind
     ·exact .inl h3
   ·exact .inr ⟨hlt,by rw[hx];rfl,by rw[hx];rfl,rfl⟩
  ·have hj:=(List.mem_cons.1 hj).resolve_left (Ne.symm hij)
   refine g6 j hj (by omega) ?_;have e:=(rp (C:=C) (i:=i) (j:=j)).resolve_right fun h=>hij h.1
   unfold yK;rw[e.2];exact hl
theorem iE: ∀a st,(cG st a).length=st.length
 |[],_=>rfl
 |i::a,st=>by simp[cG];rw[iE _,ba]
theorem oN{C C'}(hI:Inv C)(hk:bQ C C')(hw:C'.w=C.w){a b v}(h:cd C.st a=some b)(hX: ∀i,i∈rowsOf a->i<C.st.length->yK C i->C'.X (C.ι i).block)(hr:Rel C a v):Rel C' b v:=by
 obtain⟨g1,g2,g3,g4⟩:=iP a b h;have hj:a≠ .cB:=by grind [cd]
 exact⟨.inl (by rw[g1];exact hr.1.resolve_right hj), .inl (by rw[g2];exact hr.2.1.resolve_right hj),vq hI hk hw a b _ _ h hX hr.2.2⟩
theorem We{C}(hI:Inv C){x l i off s s' o}(hoff:ml l i=off)(hi:i<l.length)(hw:wid x=wid (nth l i))(h:ML C l s o)(hx:M C x s' (o+off))
  (hs: ∀j,j<eu l-> ¬ (off<=j/\j<off+wid x)->s' (o+j)=s (o+j)):ML C (bM l i x) s' o:=
 FW hI hx l i _ s _ o hoff hi hw h (by grind)
theorem ow: ∀p a x,oa a p=true->wid x=wid (oJ a p)->wid (iU a p x)=wid a
 |[],a,x,_,h=>by grind [iU,oJ]
 |j::p, .agg l,x,b,h=>by
  simp[oa] at b;exact s9 l j _ (ow p _ x b.2 h)
 |_::_, .cB,_,b,_|_::_, .lit _,_,b,_|_::_, .ah _ _,_,b,_|_::_, .aJ _,_,b,_|_::_, .ak _ _ _,_,b,_
 |_::_, .ptr _ _ _ _,_,b,_|_::_, .js _ _,_,b,_|_::_, .mp _,_,b,_|_::_, .cf _,_,b,_|_::_, .lx _ _,_,b,_
 |_::_, .bm _ _,_,b,_|_::_, .jz _ _,_,b,_|_::_, .eP _ _ _ _,_,b,_=>by rfl
theorem Ga{C}(hI:Inv C){x}: ∀p a s s' o,oa a p=true->wid x=wid (oJ a p)->M C a s o->M C x s' (o+jv a p)->
  (∀j,j<wid a-> ¬ (jv a p<=j/\j<jv a p+wid x)->s' (o+j)=s (o+j))->M C (iU a p x) s' o
 |[],a,s,s',o,_,_,_,hx,_=>by cases a<;>simpa[iU,jv] using hx
 |j::p, .agg l,s,s',o,hp,hw,h,hx,hs=>by
  simp only[oa,an3,an2] at hp;simp only[oJ,af] at hw;simp only[jv] at hx hs;simp only[M] at h;simp only[wid] at hs;simp only[iU,M];have hw2:=ow p (nth l j) x hp.2 hw;have hle:=sH l j hp.1;have hle2:=pY p (nth l j) hp.2;refine We hI rfl hp.1 hw2 h ?_ (fun k hk hnk=>hs k hk (by omega));refine Ga hI p (nth l j) s s' (o+ml l j) hp.2 hw (CU l j s o hp.1 h) (by grind) (fun k hk hnk=>?_);have:=hs (ml l j+k) (by omega) (by omega)
  grind
 |_::_, .cB,_,_,_,hp,_,_,_,_|_::_, .lit _,_,_,_,hp,_,_,_,_|_::_, .ah _ _,_,_,_,hp,_,_,_,_|_::_, .aJ _,_,_,_,hp,_,_,_,_|_::_, .ak _ _ _,_,_,_,hp,_,_,_,_
 |_::_, .ptr _ _ _ _,_,_,_,hp,_,_,_,_|_::_, .js _ _,_,_,_,hp,_,_,_,_|_::_, .mp _,_,_,_,hp,_,_,_,_|_::_, .cf _,_,_,_,hp,_,_,_,_|_::_, .lx _ _,_,_,_,hp,_,_,_,_
 |_::_, .bm _ _,_,_,_,hp,_,_,_,_|_::_, .jz _ _,_,_,_,hp,_,_,_,_|_::_, .eP _ _ _ _,_,_,_,hp,_,_,_,_=>by simp[oa] at hp
theorem v5: ∀l i x,dO l=true->cQ x=true->dO (bM l i x)=true
 |[],_,_,_,_=>by rfl
 |a::l,0,x,h,b=>by grind [dO,bM]
 |a::l,i+1,x,h,b=>by simp[dO] at h;simp[bM,dO,h.1,v5 l i x h.2 b]
theorem wC: ∀p a x,oa a p=true->cQ a=true->cQ x=true->cQ (iU a p x)=true
 |[],a,x,_,_,c=>by grind [iU]
 |j::p, .agg l,x,b,h,c=>by
  simp[oa] at b;exact v5 l j _ h (wC p _ x b.2 (yp l j b.1 h) c)
 |_::_, .cB,_,b,_,_|_::_, .lit _,_,b,_,_|_::_, .ah _ _,_,b,_,_|_::_, .aJ _,_,b,_,_|_::_, .ak _ _ _,_,b,_,_
 |_::_, .ptr _ _ _ _,_,b,_,_|_::_, .js _ _,_,b,_,_|_::_, .mp _,_,b,_,_|_::_, .cf _,_,b,_,_|_::_, .lx _ _,_,b,_,_
 |_::_, .bm _ _,_,b,_,_|_::_, .jz _ _,_,b,_,_|_::_, .eP _ _ _ _,_,b,_,_=>by grind [oa]
theorem spliced(a:Array Value) o b(h:o+b.length<=a.size) j:
  (a.toList.take o++b++a.toList.drop (o+b.length)).toArray[j]? =if o<=j/\j<o+b.length then b[j - o]? else a[j]? :=by grind
end Go.Dn
