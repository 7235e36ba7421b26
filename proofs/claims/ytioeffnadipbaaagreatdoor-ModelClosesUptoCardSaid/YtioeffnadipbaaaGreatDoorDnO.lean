import Derived.Test.YtioeffnadipbaaaGreatDoorDnN
namespace Go.Dn
open Go
def XZ:Obj->Bool
 | .row _ _| .map _ _ _=>true
 |_=>false
def Ctx.l3(C:Ctx) i:=
 {C with X:=fun b=>C.X b\/i<C.st.length/\XZ (ay C.st i)=true/\cC (C.ι i) (ay C.st i)=true/\b=(C.ι i).block,st:=dv C.st i (kf (ay C.st i))}
theorem G8 o:iL (kf o)=iL o:=by cases o<;>rfl
theorem sB{C:Ctx}{i j}:i≠j/\ay (C.l3 i).st j=ay C.st j\/i=j/\ay (C.l3 i).st j=kf (ay C.st j):=by
 by_cases h:i=j
 ·subst h
  rcases Nat.lt_or_ge i _ with a|a
  ·exact .inr ⟨rfl,bw _ _ _ a⟩
  ·right
   have b:ay (C.l3 i).st i= .dead:=fk _ _ (by grind [Ctx.l3,bc]);rw[b,fk _ _ a];exact⟨rfl,rfl⟩
 ·exact .inl ⟨h,bJ _ _ _ _ h⟩
theorem qX o:kf o=o/\XZ o=false\/XZ o=true/\((∃T xs,o= .row T xs/\kf o= .l3 T xs)\/ ∃K V a,o= .map K V a/\kf o= .dead):=by
 cases o<;>simp[kf,XZ]
theorem BY g o:cC g (kf o)=true->cC g o=true/\XZ o=false:=by
 cases o<;>simp[kf,XZ,cC]
theorem Tz{C}(l:Inv C) i:Inv (C.l3 i)/\Ext C.st.length C (C.l3 i):=by
 have W:bW C (C.l3 i):=⟨rfl,fun _ h=> .inl h,fun _ _=>rfl⟩
 have v:(C.l3 i).st.length=C.st.length:=bc _ _ _;have hel: ∀j,iL (ay (C.l3 i).st j)=iL (ay C.st j):=fun j=>by
  rcases sB (C:=C) (i:=i) (j:=j) with⟨_,h⟩|⟨_,h⟩
  ·rw[h]
  ·rw[h,G8]
 have d: ∀j o,iL o=none->o≠Obj.dead->ay (C.l3 i).st j=o->ay C.st j=o:=fun j o w hd h=>by
  rcases sB (C:=C) (i:=i) (j:=j) with⟨_,J⟩|⟨_,J⟩
  ·rw[←J,h]
  ·rw[J] at h
   rcases qX (ay C.st j) with⟨B,_⟩|⟨_,⟨T,xs,_,z⟩|⟨K,V,es,_,z⟩⟩
   ·rw[←B,h]
   ·rw[z] at h;rw[←h] at w;cases w
   ·rw[z] at h;exact absurd h.symm hd
 have x: ∀j,j<C.st.length->cj C (C.l3 i) j j:=fun j g=>
  ⟨by omega,fun T xs u=>⟨xs,by rw[←hel];exact u,rfl,Nat.le_refl _⟩,fun T a u=>⟨a,d j _ rfl (by simp) u,rfl⟩,
   fun K V es u=>⟨es,d j _ rfl (by simp) u,rfl,fun R P hh=>⟨R,P,hh,eE.refl _ _⟩⟩,fun r u=>⟨r,d j _ rfl (by simp) u,rfl⟩,fun m n ks u=>⟨m,ks,d j _ rfl (by simp) u,rfl⟩,fun t u=>⟨t,d j _ rfl (by simp) u,rfl⟩,fun s p u=>⟨p,d j _ rfl (by simp) u,rfl⟩,
   fun K V ks vs met u=>⟨met,d j _ rfl (by simp) u,rfl⟩,fun T E ls pd u=>⟨ls,pd,d j _ rfl (by simp) u,rfl,rfl,fun _ _ _ h=>h⟩⟩
 have f: ∀j,cC ((C.l3 i).ι j) (ay (C.l3 i).st j)=true->cC (C.ι j) (ay C.st j)=true/\(i=j->XZ (ay C.st j)=false):=fun j h=>by
  rcases sB (C:=C) (i:=i) (j:=j) with⟨e,J⟩|⟨_,J⟩
  ·rw[J] at h;exact⟨h,fun e'=>absurd e' e⟩
  ·rw[J] at h
   have:=BY _ _ h
   exact⟨this.1,fun _=>this.2⟩
 have I: ∀j b,j<C.st.length->cC ((C.l3 i).ι j) (ay (C.l3 i).st j)=true->C.cls b=(C.ι j).block-> ¬ (C.l3 i).X b:=fun j b g h L N=>by
  obtain⟨B,z⟩:=f j h;rcases N with N|⟨F,D,U,q⟩
  ·exact(l.dG ⟨j,g,B,L.symm⟩).2 N
  ·by_cases e:i=j
   ·subst e;rw[z rfl] at D;cases D
   ·rw[q,l.fz i F U] at L
    exact l.tH j i g F (fun h=>e h.symm) B U L.symm
 refine⟨⟨l.lay,fun j g=>?_,fun j k g Q hjk O hok=>?_,fun b q=>?_,fun j g O=>l.fz j (by rw[v] at g;exact g) (f j O).1,fun b q=>⟨(l.oX b q).1,fun N=>?_,(l.oX b q).2.2⟩,l.mo W⟩,⟨W,Nat.le_refl _,rfl,rfl,rfl,fun _ _ _=>rfl,fun b q=>?_,fun b q=>?_,x,fun _=> .inl ⟨rfl,rfl⟩,rfl⟩⟩
 ·rw [v] at g
  have y:=l.obj j g;have H:ay (C.l3 i).st j=ay C.st j->kL (C.l3 i) ((C.l3 i).ι j) (ay (C.l3 i).st j):=fun h=>by
   rw[h];exact y.gI W l.lay (fun j g _=>x j g) (l.fz j g) ⟨fun b w q=>⟨I j b g (by rw[h];exact w) q,rfl⟩,fun _ _=>⟨Iff.rfl,fun _=>rfl⟩,er.refl _,Nat.le_refl _,fun _ _=>rfl⟩
  rcases sB (C:=C) (i:=i) (j:=j) with⟨_,h⟩|⟨A,h⟩
  ·exact H h
  ·rcases qX (ay C.st j) with⟨B,_⟩|⟨Y,⟨T,xs,B,z⟩|⟨K,V,es,_,z⟩⟩
   ·exact H (h.trans B)
   ·rw[h,z]
    rw[B] at y;obtain⟨g1,Z|⟨Z,g3,c,g4,g5,g6,g7,g8⟩⟩:=y
    ·exact⟨g1, .inl Z⟩
    ·refine⟨g1, .inr ⟨Z, .inr ⟨A▸g,A▸Y,?_,by rw[A];rfl⟩,?_⟩⟩
     ·rw[A,B];simp only[cC,Bool.not_eq_true'];exact Z
     ·exact gk W l.lay xs T _ _ _ _ g1 (fun _ _=>rfl) g8
   ·rw[h,z];trivial
 ·rw[v] at g Q
  exact l.tH j k g Q hjk (f j O).1 (f k hok).1
 ·rcases q with q|⟨F,Y,w,rfl⟩
  ·exact l.xs b q
  ·exact((l.obj i F).lt w).1
 ·rcases N with N|⟨F,Y,w,rfl⟩
  ·exact(l.oX b q).2.1 N
  ·exact q (l.fz i F w)
 ·rcases q with q|⟨F,Y,w,rfl⟩
  ·exact .inl q
  ·exact .inr (.inl (l.uA F w))
 ·obtain⟨j,g,w,hb'⟩:=q
  rw[v] at g;exact .inl ⟨j,g,(f j w).1,hb'⟩
theorem nq: ∀is {C},Inv C->∃C',C'.st=cV C.st is/\C'.w=C.w/\C'.ι=C.ι/\Inv C'/\Ext C.st.length C C'/\
  ∀i,i∈is->i<C.st.length->zz C i->C'.X (C.ι i).block
 |[],C,hI=>⟨C,rfl,rfl,rfl,hI,Ext.refl C (Nat.le_refl _),by simp⟩
 | i ::is,C,hI=>by
  obtain⟨h1,h2⟩:=Tz hI i;obtain⟨C',g1,g2,g3,g4,g5,g6⟩:=nq is h1;have hlen:(C.l3 i).st.length=C.st.length:=bc _ _ _;refine⟨C',g1,g2,g3,g4,h2.trans g5 (by omega),fun j hj hlt hl=>?_⟩;by_cases hij:i=j
  ·subst hij
   refine g5.keeps.X _ ?_;rcases hl with⟨⟨⟨T,xs⟩,hy⟩,hn⟩|⟨K,V,es,hx⟩
   ·cases hx:ay C.st i<;>rw[hx] at hy<;>simp[iL] at hy
    ·exact .inr ⟨hlt,by rw[hx];rfl,by rw[hx];simp[cC,hn],rfl⟩
    ·have:=hI.obj i hlt
     rw[hx] at this;obtain⟨_,⟨h0,_⟩|⟨_,h3,_⟩⟩:=this
     ·grind
     ·exact .inl h3
   ·exact .inr ⟨hlt,by rw[hx];rfl,by rw[hx];rfl,rfl⟩
  ·have hj:=(List.mem_cons.1 hj).resolve_left (Ne.symm hij)
   refine g6 j hj (by omega) ?_;have e:=(sB (C:=C) (i:=i) (j:=j)).resolve_right fun h=>hij h.1
   unfold zz;rw[e.2];exact hl
theorem jg: ∀a st,(cV st a).length=st.length
 |[],_=>rfl
 |i::a,st=>by simp[cV];rw[jg _,bc]
theorem pM{C C'}(hI:Inv C)(hk:bW C C')(hw:C'.w=C.w){a b v}(h:cq C.st a=some b)(hX: ∀i,i∈rowsOf a->i<C.st.length->zz C i->C'.X (C.ι i).block)(hr:Rel C a v):Rel C' b v:=by
 obtain⟨g1,g2,g3,g4⟩:=jv a b h;have hj:a≠ .cP:=by grind [cq]
 exact⟨.inl (by rw[g1];exact hr.1.resolve_right hj), .inl (by rw[g2];exact hr.2.1.resolve_right hj),wL hI hk hw a b _ _ h hX hr.2.2⟩
theorem Xy{C}(hI:Inv C){x l i off s s' o}(hoff:mP l i=off)(hi:i<l.length)(hw:wid x=wid (nth l i))(h:ML C l s o)(hx:M C x s' (o+off))
  (hs: ∀j,j<fc l-> ¬ (off<=j/\j<off+wid x)->s' (o+j)=s (o+j)):ML C (bP l i x) s' o:=
 GC hI hx l i _ s _ o hoff hi hw h (by grind)
theorem qc: ∀p a x,oU a p=true->wid x=wid (o5 a p)->wid (jx a p x)=wid a
 |[],a,x,_,h=>by grind [jx,o5]
 |j::p, .agg l,x,b,h=>by
  simp[oU] at b;exact uM l j _ (qc p _ x b.2 h)
 |_::_, .cP,_,b,_|_::_, .lit _,_,b,_|_::_, .ah _ _,_,b,_|_::_, .aH _,_,b,_|_::_, .ak _ _ _,_,b,_
 |_::_, .ptr _ _ _ _,_,b,_|_::_, .jK _ _,_,b,_|_::_, .mp _,_,b,_|_::_, .cn _,_,b,_|_::_, .lZ _ _,_,b,_
 |_::_, .bo _ _,_,b,_|_::_, .jT _ _,_,b,_|_::_, .fh _ _ _ _,_,b,_=>by rfl
theorem GG{C}(hI:Inv C){x}: ∀p a s s' o,oU a p=true->wid x=wid (o5 a p)->M C a s o->M C x s' (o+jJ a p)->
  (∀j,j<wid a-> ¬ (jJ a p<=j/\j<jJ a p+wid x)->s' (o+j)=s (o+j))->M C (jx a p x) s' o
 |[],a,s,s',o,_,_,_,hx,_=>by cases a<;>simpa[jx,jJ] using hx
 |j::p, .agg l,s,s',o,hp,hw,h,hx,hs=>by
  simp only[oU,aC6,at3] at hp;simp only[o5,af] at hw;simp only[jJ] at hx hs;simp only[M] at h;simp only[wid] at hs;simp only[jx,M];have hw2:=qc p (nth l j) x hp.2 hw;have hle:=sX l j hp.1;have hle2:=qx p (nth l j) hp.2;refine Xy hI rfl hp.1 hw2 h ?_ (fun k hk hnk=>hs k hk (by omega));refine GG hI p (nth l j) s s' (o+mP l j) hp.2 hw (DU l j s o hp.1 h) (by grind) (fun k hk hnk=>?_);have:=hs (mP l j+k) (by omega) (by omega)
  grind
 |_::_, .cP,_,_,_,hp,_,_,_,_|_::_, .lit _,_,_,_,hp,_,_,_,_|_::_, .ah _ _,_,_,_,hp,_,_,_,_|_::_, .aH _,_,_,_,hp,_,_,_,_|_::_, .ak _ _ _,_,_,_,hp,_,_,_,_
 |_::_, .ptr _ _ _ _,_,_,_,hp,_,_,_,_|_::_, .jK _ _,_,_,_,hp,_,_,_,_|_::_, .mp _,_,_,_,hp,_,_,_,_|_::_, .cn _,_,_,_,hp,_,_,_,_|_::_, .lZ _ _,_,_,_,hp,_,_,_,_
 |_::_, .bo _ _,_,_,_,hp,_,_,_,_|_::_, .jT _ _,_,_,_,hp,_,_,_,_|_::_, .fh _ _ _ _,_,_,_,hp,_,_,_,_=>by simp[oU] at hp
theorem zf: ∀l i x,eh l=true->cX x=true->eh (bP l i x)=true
 |[],_,_,_,_=>by rfl
 |a::l,0,x,h,b=>by grind [eh,bP]
 |a::l,i+1,x,h,b=>by simp[eh] at h;simp[bP,eh,h.1,zf l i x h.2 b]
theorem zg: ∀p a x,oU a p=true->cX a=true->cX x=true->cX (jx a p x)=true
 |[],a,x,_,_,c=>by grind [jx]
 |j::p, .agg l,x,b,h,c=>by
  simp[oU] at b;exact zf l j _ h (zg p _ x b.2 (ze l j b.1 h) c)
 |_::_, .cP,_,b,_,_|_::_, .lit _,_,b,_,_|_::_, .ah _ _,_,b,_,_|_::_, .aH _,_,b,_,_|_::_, .ak _ _ _,_,b,_,_
 |_::_, .ptr _ _ _ _,_,b,_,_|_::_, .jK _ _,_,b,_,_|_::_, .mp _,_,b,_,_|_::_, .cn _,_,b,_,_|_::_, .lZ _ _,_,b,_,_
 |_::_, .bo _ _,_,b,_,_|_::_, .jT _ _,_,b,_,_|_::_, .fh _ _ _ _,_,b,_,_=>by grind [oU]
theorem spliced(a:Array Value) o b(h:o+b.length<=a.size) j:
  (a.toList.take o++b++a.toList.drop (o+b.length)).toArray[j]? =if o<=j/\j<o+b.length then b[j - o]? else a[j]? :=by grind
end Go.Dn
