import Derived.Test.YthaiinlfnommnaaGreatDoorDnC
namespace Go.Dn
open Go
def zN(P:Program):List Field->Nat->Nat->Prop
 |[],n,t=>n=t
 |f::fs,n,t=>f.offset=n/\zN P fs (n+P.cellsOf f.type) t
def rD(P:Program)(T:TypeId):Prop:=
 match P.underlying T with
 |some (.struct fs)=>T<P.types.size->zN P fs.toList 0 (P.cellsOf T)
 |some (.array _ _)=>True
 |some _=>P.cellsOf T=1
 |none=>True
def eP(P:Program):Prop:=∀T,rD P T
mutual
theorem dz{P:Program}(hl:eP P): ∀(a:AV) (T:TypeId),bC P a T->wid a=P.cellsOf T
 | .lit v,T,h=>by
  have:=hl T
  simp only[bC,rD] at h this
  simp only[wid]
  split at h<;>simp_all
 | .ad E l,T,h=>by
  have:=hl T
  simp only[bC] at h
  simp only[rD,h.1] at this
  simp[wid,this]
 | .agg l,T,h=>by
  have hT:=hl T
  simp only[bC] at h
  obtain⟨fs,h1,h2⟩:=h
  simp only[rD,h1.1] at hT
  have:=ux hl l fs.toList 0 _ h2 (hT h1.2)
  simp only[wid]
  omega
 | .jO E a,T,h=>by
  have:=hl T
  simp only[bC] at h
  simp only[rD,h.1] at this
  simp[wid,this]
 | .jj U a,T,h=>by
  have:=hl T
  simp only[bC] at h
  obtain⟨⟨ms,hm⟩,_⟩:=h
  simp only[rD,hm] at this
  simp[wid,this]
 | .jG K V ks vs,T,h=>by
  have:=hl T
  simp only[bC] at h
  simp only[rD,h.1] at this
  simp[wid,this]
 | .cH,_,h=>by simp[bC] at h
 | .bh _,_,h=>by simp[bC] at h
 | .aq _ _ _,_,h=>by simp[bC] at h
 | .ptr _ _ _ _,_,h=>by simp[bC] at h
 | .mp _,_,h=>by simp[bC] at h
 | .cD _,_,h=>by simp[bC] at h
 | .kq _ _,_,h=>by simp[bC] at h
 | .bL _ _,_,h=>by simp[bC] at h
theorem ux{P:Program}(hl:eP P): ∀(l:List AV) (fs:List Field) (n t:Nat),dG P l fs->zN P fs n t->n+eO l=t
 |[],[],n,t,_,h=>by simpa[zN,eO] using h
 |[],_::_,_,_,h,_=>by simp[dG] at h
 |_::_,[],_,_,h,_=>by simp[dG] at h
 |a::l,f::fs,n,t,h,hy=>by
  simp only[dG] at h
  simp only[zN] at hy
  have:=ux hl l fs _ t h.2 hy.2
  have h1:=dz hl a f.type h.1
  simp only[eO]
  omega
end
structure bR(C C':Ctx):Prop where
 P:C'.P=C.P
 X: ∀b,C.X b->C'.X b
 heap: ∀b,C.X b->C'.w.heap[b]? =C.w.heap[b]?
theorem bR.cell{C C':Ctx}(h:bR C C'){b:Nat}(hb:C.X b)(j:Nat):C'.w.cell? ⟨b,j,none⟩=C.w.cell? ⟨b,j,none⟩:=by
 unfold World.cell?
 rw[h.heap b hb]
theorem bR.refl(C:Ctx):bR C C:=⟨rfl,fun _ h=>h,fun _ _=>rfl⟩
theorem bR.trans{A B C:Ctx}(h:bR A B)(k:bR B C):bR A C:=
 ⟨k.P.trans h.P,fun b hb=>k.X b (h.X b hb),fun b hb=>(k.heap b (h.X b hb)).trans (h.heap b hb)⟩
mutual
theorem mr{C C':Ctx}(hk:bR C C')(hl:eP C.P): ∀(a:AV) (T:TypeId) (s s':Src) (o o':Nat),bC C.P a T->
  (∀j,j<wid a->s' (o'+j)=s (o+j))->M C a s o->M C' a s' o'
 | .lit v,T,s,s',o,o',_,hs,h=>by
  simp only[M] at h⊢
  have:=hs 0 (by simp[wid])
  simp at this
  rw[this];exact h
 | .ad E l,T,s,s',o,o',ht,hs,h=>by
  simp only[M] at h⊢
  have h0:=hs 0 (by simp[wid])
  simp at h0
  obtain⟨h1,p,cap,h2,h3,h4⟩:=h
  rw[hk.P]
  refine⟨h1,p,cap,by rw[h0];exact h2,h3,fun hne=>?_⟩
  obtain⟨b,off,hp,hb,hm⟩:=h4 hne
  refine⟨b,off,hp,hk.X b hb,?_⟩
  exact fI hk hl l E _ _ _ _ h1 (fun j _=>hk.cell hb _) hm
 | .agg l,T,s,s',o,o',ht,hs,h=>by
  simp only[M] at h⊢
  simp only[bC] at ht
  obtain⟨fs,_,h2⟩:=ht
  exact GP hk hl l fs.toList s s' o o' h2 (by simpa[wid] using hs) h
 | .jO E a,T,s,s',o,o',ht,hs,h=>by
  simp only[M] at h⊢
  have h0:=hs 0 (by simp[wid])
  simp at h0
  simp only[bC] at ht
  obtain⟨b,off,h1,h2,h3,h4⟩:=h
  rw[hk.P]
  exact⟨b,off,by rw[h0];exact h1,hk.X b h2,h3,mr hk hl a E _ _ _ _ ht.2 (fun j _=>hk.cell h2 _) h4⟩
 | .jj U a,T,s,s',o,o',ht,hs,h=>by
  simp only[M] at h⊢
  have h0:=hs 0 (by simp[wid])
  simp at h0
  simp only[bC] at ht
  obtain⟨u,h1,h2,h3,h4⟩:=h
  exact⟨u,by rw[h0];exact h1,h2,h3,mr hk hl a U _ _ _ _ ht.2 (fun j _=>rfl) h4⟩
 | .jG K V ks vs,T,s,s',o,o',ht,hs,h=>by
  simp only[M] at h⊢
  have h0:=hs 0 (by simp[wid])
  simp at h0
  simp only[bC] at ht
  rw[h0,hk.P]
  rcases h with h|⟨b,ents,clock,h1,h2,h3,h4,h5,h6,h7⟩
  ·exact .inl h
  ·exact .inr ⟨b,ents,clock,h1,hk.X b h2,by rw[hk.heap b h2];exact h3,h4,h5,h6,oR hk hl vs V _ h6 h7⟩
 | .cH,_,_,_,_,_,h,_,_=>by simp[bC] at h
 | .bh _,_,_,_,_,_,h,_,_=>by simp[bC] at h
 | .aq _ _ _,_,_,_,_,_,h,_,_=>by simp[bC] at h
 | .ptr _ _ _ _,_,_,_,_,_,h,_,_=>by simp[bC] at h
 | .mp _,_,_,_,_,_,h,_,_=>by simp[bC] at h
 | .cD _,_,_,_,_,_,h,_,_=>by simp[bC] at h
 | .kq _ _,_,_,_,_,_,h,_,_=>by simp[bC] at h
 | .bL _ _,_,_,_,_,_,h,_,_=>by simp[bC] at h
theorem oR{C C':Ctx}(hk:bR C C')(hl:eP C.P): ∀(l:List AV) (T:TypeId) (vs:List Value),bI C.P l T->MT C l vs->MT C' l vs
 |[],_,vs,_,h=>by simpa[MT] using h
 |_::_,_,[],_,h=>by simp[MT] at h
 |a::l,T,v::vs,ht,h=>by
  simp only[bI] at ht
  simp only[MT] at h⊢
  exact⟨h.1,h.2.1,mr hk hl a T _ _ _ _ ht.1 (fun j _=>rfl) h.2.2.1,oR hk hl l T vs ht.2 h.2.2.2⟩
theorem GP{C C':Ctx}(hk:bR C C')(hl:eP C.P): ∀(l:List AV) (fs:List Field) (s s':Src) (o o':Nat),dG C.P l fs->
  (∀j,j<eO l->s' (o'+j)=s (o+j))->ML C l s o->ML C' l s' o'
 |[],_,_,_,_,_,_,_,_=>by simp[ML]
 |_::_,[],_,_,_,_,h,_,_=>by simp[dG] at h
 |a::l,f::fs,s,s',o,o',ht,hs,h=>by
  simp only[dG] at ht
  simp only[ML,eO] at h hs⊢
  refine⟨mr hk hl a f.type s s' o o' ht.1 (fun j hj=>hs j (by omega)) h.1,GP hk hl l fs s s' _ _ ht.2 (fun j hj=>?_) h.2⟩
  have:=hs (wid a+j) (by omega)
  rw[show o'+wid a+j=o'+(wid a+j) by omega,this]
  congr 1;omega
theorem fI{C C':Ctx}(hk:bR C C')(hl:eP C.P): ∀(l:List AV) (T:TypeId) (s s':Src) (o o':Nat),bI C.P l T->
  (∀j,j<l.length*C.P.cellsOf T->s' (o'+j)=s (o+j))->MR C l (C.P.cellsOf T) s o->MR C' l (C.P.cellsOf T) s' o'
 |[],_,_,_,_,_,_,_,_=>by simp[MR]
 |a::l,T,s,s',o,o',ht,hs,h=>by
  simp only[bI] at ht
  simp only[MR] at h⊢
  have hw:=dz hl a T ht.1
  have hlen:(a::l).length*C.P.cellsOf T=l.length*C.P.cellsOf T+C.P.cellsOf T:=by simp[Nat.add_mul]
  refine⟨mr hk hl a T s s' o o' ht.1 (fun j hj=>hs j (by omega)) h.1,?_⟩
  refine fI hk hl l T s s' (o+C.P.cellsOf T) (o'+C.P.cellsOf T) ht.2 (fun j hj=>?_) h.2
  have:=hs (C.P.cellsOf T+j) (by omega)
  rw[show o'+C.P.cellsOf T+j=o'+(C.P.cellsOf T+j) by omega,this]
  congr 1;omega
end
structure dV(en:Array MapEntry)(cl:Nat)(en':Array MapEntry)(cl':Nat):Prop where
 fwd: ∀e,e∈en->∃e',e'∈en'/\e'.key=e.key/\e'.born=e.born
 bwd: ∀e',e'∈en'->e'.born<cl->∃e,e∈en/\e.key=e'.key/\e.born=e'.born
 size:en'.size+cl=en.size+cl'
 le:cl<=cl'
theorem dV.refl(en:Array MapEntry)(cl:Nat):dV en cl en cl:=⟨fun e he=>⟨e,he,rfl,rfl⟩,fun e he _=>⟨e,he,rfl,rfl⟩,rfl,Nat.le_refl _⟩
theorem dV.trans{a b c:Array MapEntry}{x y z:Nat}(h:dV a x b y)(k:dV b y c z):dV a x c z:=by
 refine⟨fun e he=>?_,fun e he hb=>?_,by have:=h.size;have:=k.size;omega,Nat.le_trans h.le k.le⟩
 ·obtain⟨e1,h1,h2,h3⟩:=h.fwd e he
  obtain⟨e2,k1,k2,k3⟩:=k.fwd e1 h1
  exact⟨e2,k1,k2.trans h2,k3.trans h3⟩
 ·obtain⟨e1,h1,h2,h3⟩:=k.bwd e he (Nat.lt_of_lt_of_le hb h.le)
  obtain⟨e2,k1,k2,k3⟩:=h.bwd e1 h1 (by omega)
  exact⟨e2,k1,k2.trans h2,k3.trans h3⟩
structure b9(C C':Ctx)(i j:Nat):Prop where
 lt:j<C'.st.length
 row: ∀T xs',gY (ax C'.st j)=some (T,xs')->∃xs,gY (ax C.st i)=some (T,xs)/\C'.ι j=C.ι i/\xs.length<=xs'.length
 box: ∀T a',ax C'.st j= .box T a'->∃a,ax C.st i= .box T a/\C'.ι j=C.ι i
 map: ∀K V es',ax C'.st j= .map K V es'->∃es,ax C.st i= .map K V es/\C'.ι j=C.ι i/\
  ∀entries clock,C.w.heap[(C.ι i).block]? =some (.map entries clock)->∃entries' clock',C'.w.heap[(C.ι i).block]? =some (.map entries' clock')/\
   dV entries clock entries' clock'
 loop: ∀r',ax C'.st j= .loop r'->∃r,ax C.st i= .loop r/\C'.ι j=C.ι i
 iter: ∀m n ks,ax C'.st j= .iter m n ks->∃m' ks',ax C.st i= .iter m' n ks'/\C'.ι j=C.ι i
 ext: ∀t,ax C'.st j= .ext t->∃t',ax C.st i= .ext t'/\C'.ι j=C.ι i
 dC: ∀s p,ax C'.st j= .dC s p->∃p',ax C.st i= .dC s p'/\C'.ι j=C.ι i
 fit: ∀K V ks vs met,ax C'.st j= .fit K V ks vs met->∃met',ax C.st i= .fit K V ks vs met'/\C'.ι j=C.ι i
 rows: ∀T E ls pd,ax C'.st j= .rows T E ls pd->∃ls' pd',ax C.st i= .rows T E ls' pd'/\C'.ι j=C.ι i/\ls.length=ls'.length/\
  ∀k m v,lZ C (C.ι i).block E k (bW ls' k) m v->lZ C' (C.ι i).block E k (bW ls k) m v
theorem j2.move{C C':Ctx}(hk:bR C C'){i j lo n:Nat}{v:Value}(h:b9 C C' i j)(hv:j2 C i lo n v):j2 C' j lo n v:=by
 refine⟨fun T xs' hx=>?_,fun T E ls pd hx=>?_⟩
 ·obtain⟨xs,h1,h2,h3⟩:=h.row T xs' hx
  obtain⟨h4,h5⟩:=hv.1 T xs h1
  rw[hk.P,h2]
  exact⟨by omega,h5⟩
 ·obtain⟨ls',pd',h1,h2,h3,h4⟩:=h.rows T E ls pd hx
  have h5:=hv.2 T E ls' pd' h1
  rw[h2]
  cases lo with
  |zero=>exact⟨by rw[h3];exact h5.1,h5.2⟩
  |succ k=>exact⟨by rw[h3];exact h5.1,h4 k n v h5.2⟩
theorem pn.move{C C':Ctx}(hk:bR C C'){i j k off:Nat}{v:Value}(h:b9 C C' i j)(hv:pn C i k off v):pn C' j k off v:=by
 refine⟨fun T xs' hx=>?_,fun T a' hx=>?_,fun m n ks hx=>?_,fun s p hx=>?_,fun K V ks vs met hx=>?_,fun T E ls pd hx=>?_⟩
 ·obtain⟨xs,h1,h2,h3⟩:=h.row T xs' hx
  obtain⟨h4,h5⟩:=hv.1 T xs h1
  rw[hk.P,h2]
  exact⟨by omega,h5⟩
 ·obtain⟨a,h1,h2⟩:=h.box T a' hx
  rw[h2]
  exact hv.2.1 T a h1
 ·obtain⟨m',ks',h1,h2⟩:=h.iter m n ks hx
  rw[h2]
  exact hv.2.2.1 _ _ _ h1
 ·obtain⟨p',h1,h2⟩:=h.dC s p hx
  rw[h2]
  exact hv.2.2.2.1 _ _ h1
 ·obtain⟨met',h1,h2⟩:=h.fit K V ks vs met hx
  rw[h2]
  exact hv.2.2.2.2.1 _ _ _ _ _ h1
 ·obtain⟨ls',pd',h1,h2,h3,_⟩:=h.rows T E ls pd hx
  rw[h2,h3]
  exact hv.2.2.2.2.2 _ _ _ _ h1
theorem JH.move{C C':Ctx}{i j:Nat}{v:Value}(h:b9 C C' i j)(hv:JH C i v):JH C' j v:=by
 intro K V es' hx
 obtain⟨es,h1,h2,_⟩:=h.map K V es' hx
 rw[h2];exact hv K V es h1
theorem xt.move{C C':Ctx}{i j:Nat}{v:Value}(h:b9 C C' i j)(hv:xt C i v):xt C' j v:=by
 refine⟨fun r' hx=>?_,fun t hx=>?_⟩
 ·obtain⟨r,h1,h2⟩:=h.loop r' hx
  rw[h2];exact hv.1 r h1
 ·obtain⟨r,h1,h2⟩:=h.ext t hx
  rw[h2];exact hv.2 r h1
theorem uR.move{C C':Ctx}{i j:Nat}{key v:Value}(h:b9 C C' i j)(hv:uR C i key v):uR C' j key v:=by
 intro K V es' hx
 obtain⟨es,h1,h2,h3⟩:=h.map K V es' hx
 obtain⟨entries,clock,hh,e,he,hek,hv'⟩:=hv K V es h1
 obtain⟨entries',clock',hh',hall⟩:=h3 entries clock hh
 obtain⟨e',he',hk',hb'⟩:=hall.fwd e he
 rw[h2]
 exact⟨entries',clock',hh',e',he',by rw[hk',hek],by rw[hb'];exact hv'⟩
@[simp] theorem zz (ρ:Nat->Option Nat): ∀a:AV,bV (lB ρ a)=bV a
 | .agg l=>by simp[lB,bV]
 | .cH| .lit _| .ad _ _| .bh _| .jO _ _| .bL _ _| .jj _ _| .jG _ _ _ _=>by simp[lB,bV]
 | .aq i _ _| .ptr i _ _ _| .mp i| .cD i| .kq i _=>by simp only[lB];split<;>simp[bV]
mutual
theorem oO(ρ:Nat->Option Nat): ∀a:AV,wid (lB ρ a)=wid a
 | .agg l=>by simp only[lB,wid];exact B8 ρ l
 | .cH| .lit _| .ad _ _| .bh _| .jO _ _| .bL _ _| .jj _ _| .jG _ _ _ _=>by simp[lB,wid]
 | .aq i _ _| .ptr i _ _ _| .mp i| .cD i| .kq i _=>by simp only[lB];split<;>simp[wid]
theorem B8(ρ:Nat->Option Nat): ∀l:List AV,eO (fS ρ l)=eO l
 |[]=>by simp[fS,eO]
 |a::l=>by simp only[fS,eO,oO ρ a,B8 ρ l]
end
mutual
theorem pM{C C':Ctx}(hk:bR C C')(hl:eP C.P)(ρ:Nat->Option Nat): ∀(a:AV) (s s':Src) (o o':Nat),
  (∀i,i∈refs a->i<C.st.length->∃j,ρ i=some j/\b9 C C' i j)->
  (∀j,j<wid a->s' (o'+j)=s (o+j))->M C a s o->M C' (lB ρ a) s' o'
 | .cH,_,_,_,_,_,_,_=>by simp[lB,M]
 | .lit v,s,s',o,o',_,hs,h=>by
  simp only[lB,M] at h⊢
  have:=hs 0 (by simp[wid])
  simp at this
  rw[this];exact h
 | .ad E l,s,s',o,o',_,hs,h=>by
  simp only[lB,M] at h⊢
  have h0:=hs 0 (by simp[wid])
  simp at h0
  obtain⟨h1,p,cap,h2,h3,h4⟩:=h
  rw[hk.P]
  refine⟨h1,p,cap,by rw[h0];exact h2,h3,fun hne=>?_⟩
  obtain⟨b,off,hp,hb,hm⟩:=h4 hne
  exact⟨b,off,hp,hk.X b hb,fI hk hl l E _ _ _ _ h1 (fun j _=>hk.cell hb _) hm⟩
 | .agg l,s,s',o,o',hr,hs,h=>by
  simp only[lB,M] at h⊢
  exact zy hk hl ρ l s s' o o' (by simpa[refs] using hr) (by simpa[wid] using hs) h
 | .bh l,s,s',o,o',hr,hs,h=>by
  simp only[lB,M] at h⊢
  have h0:=hs 0 (by simp[wid])
  simp at h0
  obtain⟨vs,h1,h2⟩:=h
  exact⟨vs,by rw[h0];exact h1,kc hk hl ρ l _ (by simpa[refs] using hr) h2⟩
 | .aq i lo n,s,s',o,o',hr,hs,h=>by
  simp only[M] at h
  obtain⟨hi,v,h1,h2,h3⟩:=h
  obtain⟨j,hj,hrf⟩:=hr i (by simp[refs]) hi
  have h0:=hs 0 (by simp[wid])
  simp at h0
  simp only[lB,hj,M]
  exact⟨hrf.lt,v,by rw[h0];exact h1,h2,h3.move hk hrf⟩
 | .ptr i k p off,s,s',o,o',hr,hs,h=>by
  simp only[M] at h
  obtain⟨hi,v,h1,h2,h3⟩:=h
  obtain⟨j,hj,hrf⟩:=hr i (by simp[refs]) hi
  have h0:=hs 0 (by simp[wid])
  simp at h0
  simp only[lB,hj,M]
  exact⟨hrf.lt,v,by rw[h0];exact h1,h2,h3.move hk hrf⟩
 | .jO T a,s,s',o,o',_,hs,h=>by
  simp only[lB,M] at h⊢
  have h0:=hs 0 (by simp[wid])
  simp at h0
  obtain⟨b,off,h1,h2,h3,h4⟩:=h
  rw[hk.P]
  exact⟨b,off,by rw[h0];exact h1,hk.X b h2,h3,mr hk hl a T _ _ _ _ h3 (fun j _=>hk.cell h2 _) h4⟩
 | .mp i,s,s',o,o',hr,hs,h=>by
  simp only[M] at h
  obtain⟨hi,v,h1,h2,h3⟩:=h
  obtain⟨j,hj,hrf⟩:=hr i (by simp[refs]) hi
  have h0:=hs 0 (by simp[wid])
  simp at h0
  simp only[lB,hj,M]
  exact⟨hrf.lt,v,by rw[h0];exact h1,h2,h3.move hrf⟩
 | .cD i,s,s',o,o',hr,hs,h=>by
  simp only[M] at h
  obtain⟨hi,v,h1,h2,h3⟩:=h
  obtain⟨j,hj,hrf⟩:=hr i (by simp[refs]) hi
  have h0:=hs 0 (by simp[wid])
  simp at h0
  simp only[lB,hj,M]
  exact⟨hrf.lt,v,by rw[h0];exact h1,h2,h3.move hrf⟩
 | .kq i key,s,s',o,o',hr,hs,h=>by
  simp only[M] at h
  obtain⟨hi,v,h1,h2,h3⟩:=h
  obtain⟨j,hj,hrf⟩:=hr i (by simp[refs]) hi
  have h0:=hs 0 (by simp[wid])
  simp at h0
  simp only[lB,hj,M]
  exact⟨hrf.lt,v,by rw[h0];exact h1,h2,h3.move hrf⟩
 | .bL f caps,s,s',o,o',hr,hs,h=>by
  simp only[lB,M] at h⊢
  have h0:=hs 0 (by simp[wid])
  simp at h0
  obtain⟨vs,h1,h2⟩:=h
  exact⟨vs,by rw[h0];exact h1,kc hk hl ρ caps _ (by simpa[refs] using hr) h2⟩
 | .jj T a,s,s',o,o',hr,hs,h=>by
  simp only[lB,M] at h⊢
  have h0:=hs 0 (by simp[wid])
  simp at h0
  obtain⟨u,h1,h2,h3,h4⟩:=h
  exact⟨u,by rw[h0];exact h1,by rw[h2,zz],by rw[h3,oO],pM hk hl ρ a _ _ _ _ (by simpa[refs] using hr) (fun j _=>rfl) h4⟩
 | .jG K V ks vs,s,s',o,o',_,hs,h=>by
  simp only[lB,M] at h⊢
  have h0:=hs 0 (by simp[wid])
  simp at h0
  rw[h0,hk.P]
  rcases h with h|⟨b,ents,clock,h1,h2,h3,h4,h5,h6,h7⟩
  ·exact .inl h
  ·exact .inr ⟨b,ents,clock,h1,hk.X b h2,by rw[hk.heap b h2];exact h3,h4,h5,h6,oR hk hl vs V _ h6 h7⟩
theorem zy{C C':Ctx}(hk:bR C C')(hl:eP C.P)(ρ:Nat->Option Nat): ∀(l:List AV) (s s':Src) (o o':Nat),
  (∀i,i∈cZ l->i<C.st.length->∃j,ρ i=some j/\b9 C C' i j)->
  (∀j,j<eO l->s' (o'+j)=s (o+j))->ML C l s o->ML C' (fS ρ l) s' o'
 |[],_,_,_,_,_,_,_=>by simp[fS,ML]
 |a::l,s,s',o,o',hr,hs,h=>by
  simp only[fS,ML,eO] at h hs⊢
  refine⟨pM hk hl ρ a s s' o o' (fun i hi=>hr i (by simp[cZ,hi])) (fun j hj=>hs j (by omega)) h.1,?_⟩
  rw[oO]
  refine zy hk hl ρ l s s' _ _ (fun i hi=>hr i (by simp[cZ,hi])) (fun j hj=>?_) h.2
  have:=hs (wid a+j) (by omega)
  rw[show o'+wid a+j=o'+(wid a+j) by omega,this]
  congr 1;omega
theorem kc{C C':Ctx}(hk:bR C C')(hl:eP C.P)(ρ:Nat->Option Nat): ∀(l:List AV) (vs:List Value),
  (∀i,i∈cZ l->i<C.st.length->∃j,ρ i=some j/\b9 C C' i j)->MT C l vs->MT C' (fS ρ l) vs
 |[],vs,_,h=>by simpa[fS,MT] using h
 |_::_,[],_,h=>by simp[MT] at h
 | a::l,v::vs,hr,h=>by
  simp only[fS,MT] at h⊢
  refine⟨?_,?_,pM hk hl ρ a _ _ _ _ (fun i hi=>hr i (by simp[cZ,hi])) (fun j _=>rfl) h.2.2.1,
   kc hk hl ρ l vs (fun i hi=>hr i (by simp[cZ,hi])) h.2.2.2⟩
  ·rw[zz];exact h.1.imp id (fun e=>by subst e;rfl)
  ·rw[oO];exact h.2.1.imp id (fun e=>by subst e;rfl)
end
theorem Rel.move{C C':Ctx}(hk:bR C C')(hl:eP C.P)(ρ:Nat->Option Nat){a:AV}{v:Value}
  (hr: ∀i,i∈refs a->i<C.st.length->∃j,ρ i=some j/\b9 C C' i j) (h:Rel C a v):Rel C' (lB ρ a) v:=by
 refine⟨?_,?_,pM hk hl ρ a _ _ _ _ hr (fun j _=>rfl) h.2.2⟩
 ·rw[zz];exact h.1.imp id (fun e=>by subst e;rfl)
 ·rw[oO];exact h.2.1.imp id (fun e=>by subst e;rfl)
mutual
theorem kL: ∀a:AV,lB some a=a
 | .agg l=>by simp only[lB,fq l]
 | .bh l=>by simp only[lB,fq l]
 | .bL f l=>by simp only[lB,fq l]
 | .jj T a=>by simp only[lB,kL a]
 | .cH| .lit _| .ad _ _| .jO _ _| .jG _ _ _ _=>by simp[lB]
 | .aq i _ _| .ptr i _ _ _| .mp i| .cD i| .kq i _=>by simp[lB]
theorem fq: ∀l:List AV,fS some l=l
 |[]=>by simp[fS]
 |a::l=>by simp only[fS,kL a,fq l]
end
theorem M.keep{C C':Ctx}(hk:bR C C')(hl:eP C.P){a:AV}{s s':Src}{o o':Nat}
  (hr: ∀i,i∈refs a->i<C.st.length->b9 C C' i i) (hs: ∀j,j<wid a->s' (o'+j)=s (o+j)) (h:M C a s o):M C' a s' o':=by
 have:=pM hk hl some a s s' o o' (fun i hi hlt=>⟨i,rfl,hr i hi hlt⟩) hs h
 rwa [kL] at this
theorem Rel.keep{C C':Ctx}(hk:bR C C')(hl:eP C.P){a:AV}{v:Value}
  (hr: ∀i,i∈refs a->i<C.st.length->b9 C C' i i) (h:Rel C a v):Rel C' a v:=by
 have:=h.move hk hl some (fun i hi hlt=>⟨i,rfl,hr i hi hlt⟩)
 rwa [kL] at this
end Go.Dn
