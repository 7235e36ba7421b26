import Derived.Test.YthaiinlfnommnaaGreatDoorDnC
namespace Go.Dn
open Go
def zM(P:Program):List Field->Nat->Nat->Prop
 |[],n,t=>n=t
 |f::fs,n,t=>f.offset=n/\zM P fs (n+P.cellsOf f.type) t
def rS(P:Program)(T:TypeId):Prop:=
 match P.underlying T with
 |some (.struct fs)=>T<P.types.size->zM P fs.toList 0 (P.cellsOf T)
 |some (.array _ _)=>True
 |some _=>P.cellsOf T=1
 |none=>True
def eR(P:Program):Prop:=∀T,rS P T
mutual
theorem dE{P:Program}(hl:eR P): ∀(a:AV) (T:TypeId),bC P a T->wid a=P.cellsOf T
 | .lit v,T,h=>by
  have:=hl T
  simp only[bC,rS] at h this
  simp only[wid]
  split at h<;>simp_all
 | .ad E l,T,h=>by
  have:=hl T
  simp only[bC] at h
  simp only[rS,h.1] at this
  simp[wid,this]
 | .agg l,T,h=>by
  have hT:=hl T
  simp only[bC] at h
  obtain⟨fs,h1,h2⟩:=h
  simp only[rS,h1.1] at hT
  have:=wF hl l fs.toList 0 _ h2 (hT h1.2)
  simp only[wid]
  omega
 | .jS E a,T,h=>by
  have:=hl T
  simp only[bC] at h
  simp only[rS,h.1] at this
  simp[wid,this]
 | .jj U a,T,h=>by
  have:=hl T
  simp only[bC] at h
  obtain⟨⟨ms,hm⟩,_⟩:=h
  simp only[rS,hm] at this
  simp[wid,this]
 | .jE K V ks vs,T,h=>by
  have:=hl T
  simp only[bC] at h
  simp only[rS,h.1] at this
  simp[wid,this]
 | .cG,_,h=>by simp[bC] at h
 | .bh _,_,h=>by simp[bC] at h
 | .an _ _ _,_,h=>by simp[bC] at h
 | .ptr _ _ _ _,_,h=>by simp[bC] at h
 | .mp _,_,h=>by simp[bC] at h
 | .cD _,_,h=>by simp[bC] at h
 | .ku _ _,_,h=>by simp[bC] at h
 | .bL _ _,_,h=>by simp[bC] at h
theorem wF{P:Program}(hl:eR P): ∀(l:List AV) (fs:List Field) (n t:Nat),dG P l fs->zM P fs n t->n+eQ l=t
 |[],[],n,t,_,h=>by simpa[zM,eQ] using h
 |[],_::_,_,_,h,_=>by simp[dG] at h
 |_::_,[],_,_,h,_=>by simp[dG] at h
 |a::l,f::fs,n,t,h,hy=>by
  simp only[dG] at h
  simp only[zM] at hy
  have:=wF hl l fs _ t h.2 hy.2
  have h1:=dE hl a f.type h.1
  simp only[eQ]
  omega
end
structure bQ(C C':Ctx):Prop where
 P:C'.P=C.P
 X: ∀b,C.X b->C'.X b
 heap: ∀b,C.X b->C'.w.heap[b]? =C.w.heap[b]?
theorem bQ.cell{C C':Ctx}(h:bQ C C'){b:Nat}(hb:C.X b)(j:Nat):C'.w.cell? ⟨b,j,none⟩=C.w.cell? ⟨b,j,none⟩:=by
 unfold World.cell?
 rw[h.heap b hb]
theorem bQ.refl(C:Ctx):bQ C C:=⟨rfl,fun _ h=>h,fun _ _=>rfl⟩
theorem bQ.trans{A B C:Ctx}(h:bQ A B)(k:bQ B C):bQ A C:=
 ⟨k.P.trans h.P,fun b hb=>k.X b (h.X b hb),fun b hb=>(k.heap b (h.X b hb)).trans (h.heap b hb)⟩
mutual
theorem mI{C C':Ctx}(hk:bQ C C')(hl:eR C.P): ∀(a:AV) (T:TypeId) (s s':Src) (o o':Nat),bC C.P a T->
  (∀j,j<wid a->s' (o'+j)=s (o+j))->M C a s o->M C' a s' o'
 | .lit v,T,s,s',o,o',_,hs,h=>by
  simp only[M] at h⊢
  have:=hs 0 (by simp[wid])
  simp at this
  rw[this];exact h
 | .ad E l,T,s,s',o,o',ht,hs,h=>by
  simp only[M] at h⊢
  have h0:=hs 0 (by simp[wid])
  simp at h0
  obtain⟨h1,p,cap,h2,h3,h4⟩:=h
  rw[hk.P]
  refine⟨h1,p,cap,by rw[h0];exact h2,h3,fun hne=>?_⟩
  obtain⟨b,off,hp,hb,hm⟩:=h4 hne
  refine⟨b,off,hp,hk.X b hb,?_⟩
  exact fQ hk hl l E _ _ _ _ h1 (fun j _=>hk.cell hb _) hm
 | .agg l,T,s,s',o,o',ht,hs,h=>by
  simp only[M] at h⊢
  simp only[bC] at ht
  obtain⟨fs,_,h2⟩:=ht
  exact GA hk hl l fs.toList s s' o o' h2 (by simpa[wid] using hs) h
 | .jS E a,T,s,s',o,o',ht,hs,h=>by
  simp only[M] at h⊢
  have h0:=hs 0 (by simp[wid])
  simp at h0
  simp only[bC] at ht
  obtain⟨b,off,h1,h2,h3,h4⟩:=h
  rw[hk.P]
  exact⟨b,off,by rw[h0];exact h1,hk.X b h2,h3,mI hk hl a E _ _ _ _ ht.2 (fun j _=>hk.cell h2 _) h4⟩
 | .jj U a,T,s,s',o,o',ht,hs,h=>by
  simp only[M] at h⊢
  have h0:=hs 0 (by simp[wid])
  simp at h0
  simp only[bC] at ht
  obtain⟨u,h1,h2,h3,h4⟩:=h
  exact⟨u,by rw[h0];exact h1,h2,h3,mI hk hl a U _ _ _ _ ht.2 (fun j _=>rfl) h4⟩
 | .jE K V ks vs,T,s,s',o,o',ht,hs,h=>by
  simp only[M] at h⊢
  have h0:=hs 0 (by simp[wid])
  simp at h0
  simp only[bC] at ht
  rw[h0,hk.P]
  rcases h with h|⟨b,ents,clock,h1,h2,h3,h4,h5,h6,h7⟩
  ·exact .inl h
  ·exact .inr ⟨b,ents,clock,h1,hk.X b h2,by rw[hk.heap b h2];exact h3,h4,h5,h6,oX hk hl vs V _ h6 h7⟩
 | .cG,_,_,_,_,_,h,_,_=>by simp[bC] at h
 | .bh _,_,_,_,_,_,h,_,_=>by simp[bC] at h
 | .an _ _ _,_,_,_,_,_,h,_,_=>by simp[bC] at h
 | .ptr _ _ _ _,_,_,_,_,_,h,_,_=>by simp[bC] at h
 | .mp _,_,_,_,_,_,h,_,_=>by simp[bC] at h
 | .cD _,_,_,_,_,_,h,_,_=>by simp[bC] at h
 | .ku _ _,_,_,_,_,_,h,_,_=>by simp[bC] at h
 | .bL _ _,_,_,_,_,_,h,_,_=>by simp[bC] at h
theorem oX{C C':Ctx}(hk:bQ C C')(hl:eR C.P): ∀(l:List AV) (T:TypeId) (vs:List Value),bI C.P l T->MT C l vs->MT C' l vs
 |[],_,vs,_,h=>by simpa[MT] using h
 |_::_,_,[],_,h=>by simp[MT] at h
 |a::l,T,v::vs,ht,h=>by
  simp only[bI] at ht
  simp only[MT] at h⊢
  exact⟨h.1,h.2.1,mI hk hl a T _ _ _ _ ht.1 (fun j _=>rfl) h.2.2.1,oX hk hl l T vs ht.2 h.2.2.2⟩
theorem GA{C C':Ctx}(hk:bQ C C')(hl:eR C.P): ∀(l:List AV) (fs:List Field) (s s':Src) (o o':Nat),dG C.P l fs->
  (∀j,j<eQ l->s' (o'+j)=s (o+j))->ML C l s o->ML C' l s' o'
 |[],_,_,_,_,_,_,_,_=>by simp[ML]
 |_::_,[],_,_,_,_,h,_,_=>by simp[dG] at h
 |a::l,f::fs,s,s',o,o',ht,hs,h=>by
  simp only[dG] at ht
  simp only[ML,eQ] at h hs⊢
  refine⟨mI hk hl a f.type s s' o o' ht.1 (fun j hj=>hs j (by omega)) h.1,GA hk hl l fs s s' _ _ ht.2 (fun j hj=>?_) h.2⟩
  have:=hs (wid a+j) (by omega)
  rw[show o'+wid a+j=o'+(wid a+j) by omega,this]
  congr 1;omega
theorem fQ{C C':Ctx}(hk:bQ C C')(hl:eR C.P): ∀(l:List AV) (T:TypeId) (s s':Src) (o o':Nat),bI C.P l T->
  (∀j,j<l.length*C.P.cellsOf T->s' (o'+j)=s (o+j))->MR C l (C.P.cellsOf T) s o->MR C' l (C.P.cellsOf T) s' o'
 |[],_,_,_,_,_,_,_,_=>by simp[MR]
 |a::l,T,s,s',o,o',ht,hs,h=>by
  simp only[bI] at ht
  simp only[MR] at h⊢
  have hw:=dE hl a T ht.1
  have hlen:(a::l).length*C.P.cellsOf T=l.length*C.P.cellsOf T+C.P.cellsOf T:=by simp[Nat.add_mul]
  refine⟨mI hk hl a T s s' o o' ht.1 (fun j hj=>hs j (by omega)) h.1,?_⟩
  refine fQ hk hl l T s s' (o+C.P.cellsOf T) (o'+C.P.cellsOf T) ht.2 (fun j hj=>?_) h.2
  have:=hs (C.P.cellsOf T+j) (by omega)
  rw[show o'+C.P.cellsOf T+j=o'+(C.P.cellsOf T+j) by omega,this]
  congr 1;omega
end
structure dX(en:Array MapEntry)(cl:Nat)(en':Array MapEntry)(cl':Nat):Prop where
 fwd: ∀e,e∈en->∃e',e'∈en'/\e'.key=e.key/\e'.born=e.born
 bwd: ∀e',e'∈en'->e'.born<cl->∃e,e∈en/\e.key=e'.key/\e.born=e'.born
 size:en'.size+cl=en.size+cl'
 le:cl<=cl'
theorem dX.refl(en:Array MapEntry)(cl:Nat):dX en cl en cl:=⟨fun e he=>⟨e,he,rfl,rfl⟩,fun e he _=>⟨e,he,rfl,rfl⟩,rfl,Nat.le_refl _⟩
theorem dX.trans{a b c:Array MapEntry}{x y z:Nat}(h:dX a x b y)(k:dX b y c z):dX a x c z:=by
 refine⟨fun e he=>?_,fun e he hb=>?_,by have:=h.size;have:=k.size;omega,Nat.le_trans h.le k.le⟩
 ·obtain⟨e1,h1,h2,h3⟩:=h.fwd e he
  obtain⟨e2,k1,k2,k3⟩:=k.fwd e1 h1
  exact⟨e2,k1,k2.trans h2,k3.trans h3⟩
 ·obtain⟨e1,h1,h2,h3⟩:=k.bwd e he (Nat.lt_of_lt_of_le hb h.le)
  obtain⟨e2,k1,k2,k3⟩:=h.bwd e1 h1 (by omega)
  exact⟨e2,k1,k2.trans h2,k3.trans h3⟩
structure cd(C C':Ctx)(i j:Nat):Prop where
 lt:j<C'.st.length
 row: ∀T xs',hJ (aw C'.st j)=some (T,xs')->∃xs,hJ (aw C.st i)=some (T,xs)/\C'.ι j=C.ι i/\xs.length<=xs'.length
 box: ∀T a',aw C'.st j= .box T a'->∃a,aw C.st i= .box T a/\C'.ι j=C.ι i
 map: ∀K V es',aw C'.st j= .map K V es'->∃es,aw C.st i= .map K V es/\C'.ι j=C.ι i/\
  ∀entries clock,C.w.heap[(C.ι i).block]? =some (.map entries clock)->∃entries' clock',C'.w.heap[(C.ι i).block]? =some (.map entries' clock')/\
   dX entries clock entries' clock'
 loop: ∀r',aw C'.st j= .loop r'->∃r,aw C.st i= .loop r/\C'.ι j=C.ι i
 iter: ∀m n ks,aw C'.st j= .iter m n ks->∃m' ks',aw C.st i= .iter m' n ks'/\C'.ι j=C.ι i
 ext: ∀t,aw C'.st j= .ext t->∃t',aw C.st i= .ext t'/\C'.ι j=C.ι i
 dy: ∀s p,aw C'.st j= .dy s p->∃p',aw C.st i= .dy s p'/\C'.ι j=C.ι i
 fit: ∀K V ks vs met,aw C'.st j= .fit K V ks vs met->∃met',aw C.st i= .fit K V ks vs met'/\C'.ι j=C.ι i
 rows: ∀T E ls pd,aw C'.st j= .rows T E ls pd->∃ls' pd',aw C.st i= .rows T E ls' pd'/\C'.ι j=C.ι i/\ls.length=ls'.length/\
  ∀k m v,lW C (C.ι i).block E k (bW ls' k) m v->lW C' (C.ι i).block E k (bW ls k) m v
theorem j6.move{C C':Ctx}(hk:bQ C C'){i j lo n:Nat}{v:Value}(h:cd C C' i j)(hv:j6 C i lo n v):j6 C' j lo n v:=by
 refine⟨fun T xs' hx=>?_,fun T E ls pd hx=>?_⟩
 ·obtain⟨xs,h1,h2,h3⟩:=h.row T xs' hx
  obtain⟨h4,h5⟩:=hv.1 T xs h1
  rw[hk.P,h2]
  exact⟨by omega,h5⟩
 ·obtain⟨ls',pd',h1,h2,h3,h4⟩:=h.rows T E ls pd hx
  have h5:=hv.2 T E ls' pd' h1
  rw[h2]
  cases lo with
  |zero=>exact⟨by rw[h3];exact h5.1,h5.2⟩
  |succ k=>exact⟨by rw[h3];exact h5.1,h4 k n v h5.2⟩
theorem pH.move{C C':Ctx}(hk:bQ C C'){i j k off:Nat}{v:Value}(h:cd C C' i j)(hv:pH C i k off v):pH C' j k off v:=by
 refine⟨fun T xs' hx=>?_,fun T a' hx=>?_,fun m n ks hx=>?_,fun s p hx=>?_,fun K V ks vs met hx=>?_,fun T E ls pd hx=>?_⟩
 ·obtain⟨xs,h1,h2,h3⟩:=h.row T xs' hx
  obtain⟨h4,h5⟩:=hv.1 T xs h1
  rw[hk.P,h2]
  exact⟨by omega,h5⟩
 ·obtain⟨a,h1,h2⟩:=h.box T a' hx
  rw[h2]
  exact hv.2.1 T a h1
 ·obtain⟨m',ks',h1,h2⟩:=h.iter m n ks hx
  rw[h2]
  exact hv.2.2.1 _ _ _ h1
 ·obtain⟨p',h1,h2⟩:=h.dy s p hx
  rw[h2]
  exact hv.2.2.2.1 _ _ h1
 ·obtain⟨met',h1,h2⟩:=h.fit K V ks vs met hx
  rw[h2]
  exact hv.2.2.2.2.1 _ _ _ _ _ h1
 ·obtain⟨ls',pd',h1,h2,h3,_⟩:=h.rows T E ls pd hx
  rw[h2,h3]
  exact hv.2.2.2.2.2 _ _ _ _ h1
theorem L3.move{C C':Ctx}{i j:Nat}{v:Value}(h:cd C C' i j)(hv:L3 C i v):L3 C' j v:=by
 intro K V es' hx
 obtain⟨es,h1,h2,_⟩:=h.map K V es' hx
 rw[h2];exact hv K V es h1
theorem ye.move{C C':Ctx}{i j:Nat}{v:Value}(h:cd C C' i j)(hv:ye C i v):ye C' j v:=by
 refine⟨fun r' hx=>?_,fun t hx=>?_⟩
 ·obtain⟨r,h1,h2⟩:=h.loop r' hx
  rw[h2];exact hv.1 r h1
 ·obtain⟨r,h1,h2⟩:=h.ext t hx
  rw[h2];exact hv.2 r h1
theorem u6.move{C C':Ctx}{i j:Nat}{key v:Value}(h:cd C C' i j)(hv:u6 C i key v):u6 C' j key v:=by
 intro K V es' hx
 obtain⟨es,h1,h2,h3⟩:=h.map K V es' hx
 obtain⟨entries,clock,hh,e,he,hek,hv'⟩:=hv K V es h1
 obtain⟨entries',clock',hh',hall⟩:=h3 entries clock hh
 obtain⟨e',he',hk',hb'⟩:=hall.fwd e he
 rw[h2]
 exact⟨entries',clock',hh',e',he',by rw[hk',hek],by rw[hb'];exact hv'⟩
@[simp] theorem zI (ρ:Nat->Option Nat): ∀a:AV,bV (lG ρ a)=bV a
 | .agg l=>by simp[lG,bV]
 | .cG| .lit _| .ad _ _| .bh _| .jS _ _| .bL _ _| .jj _ _| .jE _ _ _ _=>by simp[lG,bV]
 | .an i _ _| .ptr i _ _ _| .mp i| .cD i| .ku i _=>by simp only[lG];split<;>simp[bV]
mutual
theorem oS(ρ:Nat->Option Nat): ∀a:AV,wid (lG ρ a)=wid a
 | .agg l=>by simp only[lG,wid];exact Bx ρ l
 | .cG| .lit _| .ad _ _| .bh _| .jS _ _| .bL _ _| .jj _ _| .jE _ _ _ _=>by simp[lG,wid]
 | .an i _ _| .ptr i _ _ _| .mp i| .cD i| .ku i _=>by simp only[lG];split<;>simp[wid]
theorem Bx(ρ:Nat->Option Nat): ∀l:List AV,eQ (fU ρ l)=eQ l
 |[]=>by simp[fU,eQ]
 |a::l=>by simp only[fU,eQ,oS ρ a,Bx ρ l]
end
mutual
theorem qb{C C':Ctx}(hk:bQ C C')(hl:eR C.P)(ρ:Nat->Option Nat): ∀(a:AV) (s s':Src) (o o':Nat),
  (∀i,i∈refs a->i<C.st.length->∃j,ρ i=some j/\cd C C' i j)->
  (∀j,j<wid a->s' (o'+j)=s (o+j))->M C a s o->M C' (lG ρ a) s' o'
 | .cG,_,_,_,_,_,_,_=>by simp[lG,M]
 | .lit v,s,s',o,o',_,hs,h=>by
  simp only[lG,M] at h⊢
  have:=hs 0 (by simp[wid])
  simp at this
  rw[this];exact h
 | .ad E l,s,s',o,o',_,hs,h=>by
  simp only[lG,M] at h⊢
  have h0:=hs 0 (by simp[wid])
  simp at h0
  obtain⟨h1,p,cap,h2,h3,h4⟩:=h
  rw[hk.P]
  refine⟨h1,p,cap,by rw[h0];exact h2,h3,fun hne=>?_⟩
  obtain⟨b,off,hp,hb,hm⟩:=h4 hne
  exact⟨b,off,hp,hk.X b hb,fQ hk hl l E _ _ _ _ h1 (fun j _=>hk.cell hb _) hm⟩
 | .agg l,s,s',o,o',hr,hs,h=>by
  simp only[lG,M] at h⊢
  exact yY hk hl ρ l s s' o o' (by simpa[refs] using hr) (by simpa[wid] using hs) h
 | .bh l,s,s',o,o',hr,hs,h=>by
  simp only[lG,M] at h⊢
  have h0:=hs 0 (by simp[wid])
  simp at h0
  obtain⟨vs,h1,h2⟩:=h
  exact⟨vs,by rw[h0];exact h1,ki hk hl ρ l _ (by simpa[refs] using hr) h2⟩
 | .an i lo n,s,s',o,o',hr,hs,h=>by
  simp only[M] at h
  obtain⟨hi,v,h1,h2,h3⟩:=h
  obtain⟨j,hj,hrf⟩:=hr i (by simp[refs]) hi
  have h0:=hs 0 (by simp[wid])
  simp at h0
  simp only[lG,hj,M]
  exact⟨hrf.lt,v,by rw[h0];exact h1,h2,h3.move hk hrf⟩
 | .ptr i k p off,s,s',o,o',hr,hs,h=>by
  simp only[M] at h
  obtain⟨hi,v,h1,h2,h3⟩:=h
  obtain⟨j,hj,hrf⟩:=hr i (by simp[refs]) hi
  have h0:=hs 0 (by simp[wid])
  simp at h0
  simp only[lG,hj,M]
  exact⟨hrf.lt,v,by rw[h0];exact h1,h2,h3.move hk hrf⟩
 | .jS T a,s,s',o,o',_,hs,h=>by
  simp only[lG,M] at h⊢
  have h0:=hs 0 (by simp[wid])
  simp at h0
  obtain⟨b,off,h1,h2,h3,h4⟩:=h
  rw[hk.P]
  exact⟨b,off,by rw[h0];exact h1,hk.X b h2,h3,mI hk hl a T _ _ _ _ h3 (fun j _=>hk.cell h2 _) h4⟩
 | .mp i,s,s',o,o',hr,hs,h=>by
  simp only[M] at h
  obtain⟨hi,v,h1,h2,h3⟩:=h
  obtain⟨j,hj,hrf⟩:=hr i (by simp[refs]) hi
  have h0:=hs 0 (by simp[wid])
  simp at h0
  simp only[lG,hj,M]
  exact⟨hrf.lt,v,by rw[h0];exact h1,h2,h3.move hrf⟩
 | .cD i,s,s',o,o',hr,hs,h=>by
  simp only[M] at h
  obtain⟨hi,v,h1,h2,h3⟩:=h
  obtain⟨j,hj,hrf⟩:=hr i (by simp[refs]) hi
  have h0:=hs 0 (by simp[wid])
  simp at h0
  simp only[lG,hj,M]
  exact⟨hrf.lt,v,by rw[h0];exact h1,h2,h3.move hrf⟩
 | .ku i key,s,s',o,o',hr,hs,h=>by
  simp only[M] at h
  obtain⟨hi,v,h1,h2,h3⟩:=h
  obtain⟨j,hj,hrf⟩:=hr i (by simp[refs]) hi
  have h0:=hs 0 (by simp[wid])
  simp at h0
  simp only[lG,hj,M]
  exact⟨hrf.lt,v,by rw[h0];exact h1,h2,h3.move hrf⟩
 | .bL f caps,s,s',o,o',hr,hs,h=>by
  simp only[lG,M] at h⊢
  have h0:=hs 0 (by simp[wid])
  simp at h0
  obtain⟨vs,h1,h2⟩:=h
  exact⟨vs,by rw[h0];exact h1,ki hk hl ρ caps _ (by simpa[refs] using hr) h2⟩
 | .jj T a,s,s',o,o',hr,hs,h=>by
  simp only[lG,M] at h⊢
  have h0:=hs 0 (by simp[wid])
  simp at h0
  obtain⟨u,h1,h2,h3,h4⟩:=h
  exact⟨u,by rw[h0];exact h1,by rw[h2,zI],by rw[h3,oS],qb hk hl ρ a _ _ _ _ (by simpa[refs] using hr) (fun j _=>rfl) h4⟩
 | .jE K V ks vs,s,s',o,o',_,hs,h=>by
  simp only[lG,M] at h⊢
  have h0:=hs 0 (by simp[wid])
  simp at h0
  rw[h0,hk.P]
  rcases h with h|⟨b,ents,clock,h1,h2,h3,h4,h5,h6,h7⟩
  ·exact .inl h
  ·exact .inr ⟨b,ents,clock,h1,hk.X b h2,by rw[hk.heap b h2];exact h3,h4,h5,h6,oX hk hl vs V _ h6 h7⟩
theorem yY{C C':Ctx}(hk:bQ C C')(hl:eR C.P)(ρ:Nat->Option Nat): ∀(l:List AV) (s s':Src) (o o':Nat),
  (∀i,i∈cW l->i<C.st.length->∃j,ρ i=some j/\cd C C' i j)->
  (∀j,j<eQ l->s' (o'+j)=s (o+j))->ML C l s o->ML C' (fU ρ l) s' o'
 |[],_,_,_,_,_,_,_=>by simp[fU,ML]
 |a::l,s,s',o,o',hr,hs,h=>by
  simp only[fU,ML,eQ] at h hs⊢
  refine⟨qb hk hl ρ a s s' o o' (fun i hi=>hr i (by simp[cW,hi])) (fun j hj=>hs j (by omega)) h.1,?_⟩
  rw[oS]
  refine yY hk hl ρ l s s' _ _ (fun i hi=>hr i (by simp[cW,hi])) (fun j hj=>?_) h.2
  have:=hs (wid a+j) (by omega)
  rw[show o'+wid a+j=o'+(wid a+j) by omega,this]
  congr 1;omega
theorem ki{C C':Ctx}(hk:bQ C C')(hl:eR C.P)(ρ:Nat->Option Nat): ∀(l:List AV) (vs:List Value),
  (∀i,i∈cW l->i<C.st.length->∃j,ρ i=some j/\cd C C' i j)->MT C l vs->MT C' (fU ρ l) vs
 |[],vs,_,h=>by simpa[fU,MT] using h
 |_::_,[],_,h=>by simp[MT] at h
 | a::l,v::vs,hr,h=>by
  simp only[fU,MT] at h⊢
  refine⟨?_,?_,qb hk hl ρ a _ _ _ _ (fun i hi=>hr i (by simp[cW,hi])) (fun j _=>rfl) h.2.2.1,
   ki hk hl ρ l vs (fun i hi=>hr i (by simp[cW,hi])) h.2.2.2⟩
  ·rw[zI];exact h.1.imp id (fun e=>by subst e;rfl)
  ·rw[oS];exact h.2.1.imp id (fun e=>by subst e;rfl)
end
theorem Rel.move{C C':Ctx}(hk:bQ C C')(hl:eR C.P)(ρ:Nat->Option Nat){a:AV}{v:Value}
  (hr: ∀i,i∈refs a->i<C.st.length->∃j,ρ i=some j/\cd C C' i j) (h:Rel C a v):Rel C' (lG ρ a) v:=by
 refine⟨?_,?_,qb hk hl ρ a _ _ _ _ hr (fun j _=>rfl) h.2.2⟩
 ·rw[zI];exact h.1.imp id (fun e=>by subst e;rfl)
 ·rw[oS];exact h.2.1.imp id (fun e=>by subst e;rfl)
mutual
theorem kH: ∀a:AV,lG some a=a
 | .agg l=>by simp only[lG,fD l]
 | .bh l=>by simp only[lG,fD l]
 | .bL f l=>by simp only[lG,fD l]
 | .jj T a=>by simp only[lG,kH a]
 | .cG| .lit _| .ad _ _| .jS _ _| .jE _ _ _ _=>by simp[lG]
 | .an i _ _| .ptr i _ _ _| .mp i| .cD i| .ku i _=>by simp[lG]
theorem fD: ∀l:List AV,fU some l=l
 |[]=>by simp[fU]
 |a::l=>by simp only[fU,kH a,fD l]
end
theorem M.keep{C C':Ctx}(hk:bQ C C')(hl:eR C.P){a:AV}{s s':Src}{o o':Nat}
  (hr: ∀i,i∈refs a->i<C.st.length->cd C C' i i) (hs: ∀j,j<wid a->s' (o'+j)=s (o+j)) (h:M C a s o):M C' a s' o':=by
 have:=qb hk hl some a s s' o o' (fun i hi hlt=>⟨i,rfl,hr i hi hlt⟩) hs h
 rwa [kH] at this
theorem Rel.keep{C C':Ctx}(hk:bQ C C')(hl:eR C.P){a:AV}{v:Value}
  (hr: ∀i,i∈refs a->i<C.st.length->cd C C' i i) (h:Rel C a v):Rel C' a v:=by
 have:=h.move hk hl some (fun i hi hlt=>⟨i,rfl,hr i hi hlt⟩)
 rwa [kH] at this
end Go.Dn
