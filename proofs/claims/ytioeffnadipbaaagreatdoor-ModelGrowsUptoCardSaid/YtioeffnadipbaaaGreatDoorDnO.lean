import Derived.Test.YtioeffnadipbaaaGreatDoorDnN
namespace Go.Dn
open Go
def Wk:Obj->Bool
 | .row _ _| .map _ _ _=>true
 |_=>false
def Ctx.ll(C:Ctx) i:=
 {C with X:=fun b=>C.X b\/i<C.st.length/\Wk (ay C.st i)=true/\cr (C.ι i) (ay C.st i)=true/\b=(C.ι i).block,st:=df C.st i (jM (ay C.st i))}
theorem FU o:gY (jM o)=gY o:=by cases o<;>rfl
theorem sd{C:Ctx}{i j}:i≠j/\ay (C.ll i).st j=ay C.st j\/i=j/\ay (C.ll i).st j=jM (ay C.st j):=by
 by_cases h:i=j
 ·subst h
  rcases Nat.lt_or_ge i _ with a|a
  ·exact .inr ⟨rfl,bt _ _ _ a⟩
  ·right
   have b:ay (C.ll i).st i= .dead:=eM _ _ (by grind [Ctx.ll,a9]);rw[b,eM _ _ a];exact⟨rfl,rfl⟩
 ·exact .inl ⟨h,bG _ _ _ _ h⟩
theorem pS o:jM o=o/\Wk o=false\/Wk o=true/\((∃T xs,o= .row T xs/\jM o= .ll T xs)\/ ∃K V a,o= .map K V a/\jM o= .dead):=by
 cases o<;>simp[jM,Wk]
theorem BQ g o:cr g (jM o)=true->cr g o=true/\Wk o=false:=by
 cases o<;>simp[jM,Wk,cr]
theorem Qq{C}(l:Inv C) i:Inv (C.ll i)/\Ext C.st.length C (C.ll i):=by
 have W:bP C (C.ll i):=⟨rfl,fun _ h=> .inl h,fun _ _=>rfl⟩
 have v:(C.ll i).st.length=C.st.length:=a9 _ _ _;have hel: ∀j,gY (ay (C.ll i).st j)=gY (ay C.st j):=fun j=>by
  rcases sd (C:=C) (i:=i) (j:=j) with⟨_,h⟩|⟨_,h⟩
  ·rw[h]
  ·rw[h,FU]
 have d: ∀j o,gY o=none->o≠Obj.dead->ay (C.ll i).st j=o->ay C.st j=o:=fun j o w hd h=>by
  rcases sd (C:=C) (i:=i) (j:=j) with⟨_,J⟩|⟨_,J⟩
  ·rw[←J,h]
  ·rw[J] at h
   rcases pS (ay C.st j) with⟨B,_⟩|⟨_,⟨T,xs,_,z⟩|⟨K,V,es,_,z⟩⟩
   ·rw[←B,h]
   ·rw[z] at h;rw[←h] at w;cases w
   ·rw[z] at h;exact absurd h.symm hd
 have x: ∀j,j<C.st.length->b8 C (C.ll i) j j:=fun j g=>
  ⟨by omega,fun T xs u=>⟨xs,by rw[←hel];exact u,rfl,Nat.le_refl _⟩,fun T a u=>⟨a,d j _ rfl (by simp) u,rfl⟩,
   fun K V es u=>⟨es,d j _ rfl (by simp) u,rfl,fun R P hh=>⟨R,P,hh,eb.refl _ _⟩⟩,fun r u=>⟨r,d j _ rfl (by simp) u,rfl⟩,fun m n ks u=>⟨m,ks,d j _ rfl (by simp) u,rfl⟩,fun t u=>⟨t,d j _ rfl (by simp) u,rfl⟩,fun s p u=>⟨p,d j _ rfl (by simp) u,rfl⟩,
   fun K V ks vs met u=>⟨met,d j _ rfl (by simp) u,rfl⟩,fun T E ls pd u=>⟨ls,pd,d j _ rfl (by simp) u,rfl,rfl,fun _ _ _ h=>h⟩⟩
 have f: ∀j,cr ((C.ll i).ι j) (ay (C.ll i).st j)=true->cr (C.ι j) (ay C.st j)=true/\(i=j->Wk (ay C.st j)=false):=fun j h=>by
  rcases sd (C:=C) (i:=i) (j:=j) with⟨e,J⟩|⟨_,J⟩
  ·rw[J] at h;exact⟨h,fun e'=>absurd e' e⟩
  ·rw[J] at h
   have:=BQ _ _ h
   exact⟨this.1,fun _=>this.2⟩
 have I: ∀j b,j<C.st.length->cr ((C.ll i).ι j) (ay (C.ll i).st j)=true->C.cls b=(C.ι j).block-> ¬ (C.ll i).X b:=fun j b g h L N=>by
  obtain⟨B,z⟩:=f j h;rcases N with N|⟨F,D,U,q⟩
  ·exact(l.dv ⟨j,g,B,L.symm⟩).2 N
  ·by_cases e:i=j
   ·subst e;rw[z rfl] at D;cases D
   ·rw[q,l.fa i F U] at L
    exact l.uj j i g F (fun h=>e h.symm) B U L.symm
 refine⟨⟨l.lay,fun j g=>?_,fun j k g Q hjk O hok=>?_,fun b q=>?_,fun j g O=>l.fa j (by rw[v] at g;exact g) (f j O).1,fun b q=>⟨(l.nT b q).1,fun N=>?_,(l.nT b q).2.2⟩,l.lr W⟩,⟨W,Nat.le_refl _,rfl,rfl,rfl,fun _ _ _=>rfl,fun b q=>?_,fun b q=>?_,x,fun _=> .inl ⟨rfl,rfl⟩,rfl⟩⟩
 ·rw [v] at g
  have y:=l.obj j g;have H:ay (C.ll i).st j=ay C.st j->ki (C.ll i) ((C.ll i).ι j) (ay (C.ll i).st j):=fun h=>by
   rw[h];exact y.fX W l.lay (fun j g _=>x j g) (l.fa j g) ⟨fun b w q=>⟨I j b g (by rw[h];exact w) q,rfl⟩,fun _ _=>⟨Iff.rfl,fun _=>rfl⟩,dR.refl _,Nat.le_refl _,fun _ _=>rfl⟩
  rcases sd (C:=C) (i:=i) (j:=j) with⟨_,h⟩|⟨A,h⟩
  ·exact H h
  ·rcases pS (ay C.st j) with⟨B,_⟩|⟨Y,⟨T,xs,B,z⟩|⟨K,V,es,_,z⟩⟩
   ·exact H (h.trans B)
   ·rw[h,z]
    rw[B] at y;obtain⟨g1,Z|⟨Z,g3,c,g4,g5,g6,g7,g8⟩⟩:=y
    ·exact⟨g1, .inl Z⟩
    ·refine⟨g1, .inr ⟨Z, .inr ⟨A▸g,A▸Y,?_,by rw[A];rfl⟩,?_⟩⟩
     ·rw[A,B];simp only[cr,Bool.not_eq_true'];exact Z
     ·exact fL W l.lay xs T _ _ _ _ g1 (fun _ _=>rfl) g8
   ·rw[h,z];trivial
 ·rw[v] at g Q
  exact l.uj j k g Q hjk (f j O).1 (f k hok).1
 ·rcases q with q|⟨F,Y,w,rfl⟩
  ·exact l.xs b q
  ·exact((l.obj i F).lt w).1
 ·rcases N with N|⟨F,Y,w,rfl⟩
  ·exact(l.nT b q).2.1 N
  ·exact q (l.fa i F w)
 ·rcases q with q|⟨F,Y,w,rfl⟩
  ·exact .inl q
  ·exact .inr (.inl (l.tJ F w))
 ·obtain⟨j,g,w,hb'⟩:=q
  rw[v] at g;exact .inl ⟨j,g,(f j w).1,hb'⟩
theorem mi: ∀is {C},Inv C->∃C',C'.st=cG C.st is/\C'.w=C.w/\C'.ι=C.ι/\Inv C'/\Ext C.st.length C C'/\
  ∀i,i∈is->i<C.st.length->yx C i->C'.X (C.ι i).block
 |[],C,hI=>⟨C,rfl,rfl,rfl,hI,Ext.refl C (Nat.le_refl _),by simp⟩
 | i ::is,C,hI=>by
  obtain⟨h1,h2⟩:=Qq hI i;obtain⟨C',g1,g2,g3,g4,g5,g6⟩:=mi is h1;have hlen:(C.ll i).st.length=C.st.length:=a9 _ _ _;refine⟨C',g1,g2,g3,g4,h2.trans g5 (by omega),fun j hj hlt hl=>?_⟩;by_cases hij:i=j
  ·subst hij
   refine g5.keeps.X _ ?_;rcases hl with⟨⟨⟨T,xs⟩,hy⟩,hn⟩|⟨K,V,es,hx⟩
   ·cases hx:ay C.st i<;>rw[hx] at hy<;>simp[gY] at hy
    ·exact .inr ⟨hlt,by rw[hx];rfl,by rw[hx];simp[cr,hn],rfl⟩
    ·have:=hI.obj i hlt
     rw[hx] at this;obtain⟨_,⟨h0,_⟩|⟨_,h3,_⟩⟩:=this
     ·grind
     ·exact .inl h3
   ·exact .inr ⟨hlt,by rw[hx];rfl,by rw[hx];rfl,rfl⟩
  ·have hj:=(List.mem_cons.1 hj).resolve_left (Ne.symm hij)
   refine g6 j hj (by omega) ?_;have e:=(sd (C:=C) (i:=i) (j:=j)).resolve_right fun h=>hij h.1
   unfold yx;rw[e.2];exact hl
theorem ix: ∀a st,(cG st a).length=st.length
 |[],_=>rfl
 |i::a,st=>by simp[cG];rw[ix _,a9]
theorem oI{C C'}(hI:Inv C)(hk:bP C C')(hw:C'.w=C.w){a b v}(h:cg C.st a=some b)(hX: ∀i,i∈rowsOf a->i<C.st.length->yx C i->C'.X (C.ι i).block)(hr:Rel C a v):Rel C' b v:=by
 obtain⟨g1,g2,g3,g4⟩:=iN a b h;have hj:a≠ .cB:=by grind [cg]
 exact⟨.inl (by rw[g1];exact hr.1.resolve_right hj), .inl (by rw[g2];exact hr.2.1.resolve_right hj),vl hI hk hw a b _ _ h hX hr.2.2⟩
theorem Wi{C}(hI:Inv C){x l i off s s' o}(hoff:lX l i=off)(hi:i<l.length)(hw:wid x=wid (nth l i))(h:ML C l s o)(hx:M C x s' (o+off))
  (hs: ∀j,j<eE l-> ¬ (off<=j/\j<off+wid x)->s' (o+j)=s (o+j)):ML C (bH l i x) s' o:=
 Ff hI hx l i _ s _ o hoff hi hw h (by grind)
theorem nY: ∀p a x,nQ a p=true->wid x=wid (oE a p)->wid (iR a p x)=wid a
 |[],a,x,_,h=>by grind [iR,oE]
 |j::p, .agg l,x,b,h=>by
  simp[nQ] at b;exact tM l j _ (nY p _ x b.2 h)
 |_::_, .cB,_,b,_|_::_, .lit _,_,b,_|_::_, .ah _ _,_,b,_|_::_, .aH _,_,b,_|_::_, .ak _ _ _,_,b,_
 |_::_, .ptr _ _ _ _,_,b,_|_::_, .je _ _,_,b,_|_::_, .mp _,_,b,_|_::_, .cf _,_,b,_|_::_, .lj _ _,_,b,_
 |_::_, .bm _ _,_,b,_|_::_, .ju _ _,_,b,_|_::_, .eS _ _ _ _,_,b,_=>by rfl
theorem Gj{C}(hI:Inv C){x}: ∀p a s s' o,nQ a p=true->wid x=wid (oE a p)->M C a s o->M C x s' (o+iW a p)->
  (∀j,j<wid a-> ¬ (iW a p<=j/\j<iW a p+wid x)->s' (o+j)=s (o+j))->M C (iR a p x) s' o
 |[],a,s,s',o,_,_,_,hx,_=>by cases a<;>simpa[iR,iW] using hx
 |j::p, .agg l,s,s',o,hp,hw,h,hx,hs=>by
  simp only[nQ,ap7,ap6] at hp;simp only[oE,ag] at hw;simp only[iW] at hx hs;simp only[M] at h;simp only[wid] at hs;simp only[iR,M];have hw2:=nY p (nth l j) x hp.2 hw;have hle:=qX l j hp.1;have hle2:=pj p (nth l j) hp.2;refine Wi hI rfl hp.1 hw2 h ?_ (fun k hk hnk=>hs k hk (by omega));refine Gj hI p (nth l j) s s' (o+lX l j) hp.2 hw (Ct l j s o hp.1 h) (by grind) (fun k hk hnk=>?_);have:=hs (lX l j+k) (by omega) (by omega)
  grind
 |_::_, .cB,_,_,_,hp,_,_,_,_|_::_, .lit _,_,_,_,hp,_,_,_,_|_::_, .ah _ _,_,_,_,hp,_,_,_,_|_::_, .aH _,_,_,_,hp,_,_,_,_|_::_, .ak _ _ _,_,_,_,hp,_,_,_,_
 |_::_, .ptr _ _ _ _,_,_,_,hp,_,_,_,_|_::_, .je _ _,_,_,_,hp,_,_,_,_|_::_, .mp _,_,_,_,hp,_,_,_,_|_::_, .cf _,_,_,_,hp,_,_,_,_|_::_, .lj _ _,_,_,_,hp,_,_,_,_
 |_::_, .bm _ _,_,_,_,hp,_,_,_,_|_::_, .ju _ _,_,_,_,hp,_,_,_,_|_::_, .eS _ _ _ _,_,_,_,hp,_,_,_,_=>by simp[nQ] at hp
theorem xL: ∀l i x,dH l=true->cH x=true->dH (bH l i x)=true
 |[],_,_,_,_=>by rfl
 |a::l,0,x,h,b=>by grind [dH,bH]
 |a::l,i+1,x,h,b=>by simp[dH] at h;simp[bH,dH,h.1,xL l i x h.2 b]
theorem wk: ∀p a x,nQ a p=true->cH a=true->cH x=true->cH (iR a p x)=true
 |[],a,x,_,_,c=>by grind [iR]
 |j::p, .agg l,x,b,h,c=>by
  simp[nQ] at b;exact xL l j _ h (wk p _ x b.2 (xb l j b.1 h) c)
 |_::_, .cB,_,b,_,_|_::_, .lit _,_,b,_,_|_::_, .ah _ _,_,b,_,_|_::_, .aH _,_,b,_,_|_::_, .ak _ _ _,_,b,_,_
 |_::_, .ptr _ _ _ _,_,b,_,_|_::_, .je _ _,_,b,_,_|_::_, .mp _,_,b,_,_|_::_, .cf _,_,b,_,_|_::_, .lj _ _,_,b,_,_
 |_::_, .bm _ _,_,b,_,_|_::_, .ju _ _,_,b,_,_|_::_, .eS _ _ _ _,_,b,_,_=>by grind [nQ]
theorem spliced(a:Array Value) o b(h:o+b.length<=a.size) j:
  (a.toList.take o++b++a.toList.drop (o+b.length)).toArray[j]? =if o<=j/\j<o+b.length then b[j - o]? else a[j]? :=by grind
end Go.Dn
