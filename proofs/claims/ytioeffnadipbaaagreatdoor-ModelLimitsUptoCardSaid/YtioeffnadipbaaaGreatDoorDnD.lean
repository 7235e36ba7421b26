import Derived.Test.YtioeffnadipbaaaGreatDoorDnC
namespace Go.Dn
open Go
def Az(P:Program):List Field->Nat->Nat->Prop
 |[],n,t=>n=t
 |f::fs,n,t=>f.offset=n/\Az P fs (n+P.cellsOf f.type) t
def tG(P:Program)(T:TypeId):Prop:=
 match P.underlying T with
 |some (.struct a)=>T<P.types.size->Az P a.toList 0 (P.cellsOf T)
 |some (.array _ _)=>True
 |some _=>P.cellsOf T=1
 |none=>True
def eU(P:Program):Prop:=∀T,tG P T
mutual
theorem dq{P:Program}(hl:eU P): ∀(a:AV) (T:TypeId),bz P a T->wid a=P.cellsOf T
 | .lit v,T,h=>by
  have:=hl T
  simp only[bz,tG] at h this;simp only[wid];split at h<;>simp_all
 | .ah E l,T,h=>by
  have:=hl T
  simp only[bz] at h;simp only[tG,h.1] at this;simp[wid,this]
 | .agg l,T,h=>by
  have hT:=hl T;simp only[bz] at h;obtain⟨fs,h1,h2⟩:=h;simp only[tG,h1.1] at hT;have:=wI hl l fs.toList 0 _ h2 (hT h1.2)
  simp only[wid];omega
 | .js E a,T,h=>by
  have:=hl T
  simp only[bz] at h;simp only[tG,h.1] at this;simp[wid,this]
 | .jz U a,T,h=>by
  have:=hl T
  simp only[bz] at h;obtain⟨⟨ms,hm⟩,_⟩:=h;simp only[tG,hm] at this;simp[wid,this]
 | .eP K V ks vs,T,h=>by
  have:=hl T
  simp only[bz] at h;simp only[tG,h.1] at this;simp[wid,this]
 | .cB,_,h=>by simp[bz] at h
 | .aJ _,_,h=>by simp[bz] at h
 | .ak _ _ _,_,h=>by simp[bz] at h
 | .ptr _ _ _ _,_,h=>by simp[bz] at h
 | .mp _,_,h=>by simp[bz] at h
 | .cf _,_,h=>by simp[bz] at h
 | .lx _ _,_,h=>by simp[bz] at h
 | .bm _ _,_,h=>by simp[bz] at h
theorem wI{P:Program}(hl:eU P): ∀(l:List AV) (fs:List Field) (n t:Nat),dT P l fs->Az P fs n t->n+eu l=t
 |[],[],n,t,_,h=>by simpa[Az,eu] using h
 |[],_::_,_,_,h,_=>by simp[dT] at h
 |_::_,[],_,_,h,_=>by simp[dT] at h
 |a::l,f::fs,n,t,h,hy=>by
  simp only[dT] at h;simp only[Az] at hy;have:=wI hl l fs _ t h.2 hy.2
  have h1:=dq hl a f.type h.1;simp only[eu];omega
end
structure bQ(C C':Ctx):Prop where
 P:C'.P=C.P
 X: ∀b,C.X b->C'.X b
 heap: ∀b,C.X b->C'.w.heap[b]? =C.w.heap[b]?
theorem bQ.cell{C C'}(h:bQ C C'){b}(hb:C.X b) j:C'.w.cell? ⟨b,j,none⟩=C.w.cell? ⟨b,j,none⟩:=by
 unfold World.cell?;rw[h.heap b hb]
theorem bQ.refl C:bQ C C:=⟨rfl,fun _ h=>h,by simp⟩
theorem bQ.trans{A B C}(h:bQ A B)(k:bQ B C):bQ A C:=
 ⟨k.P.trans h.P,fun b a=>k.X b (h.X b a),fun b a=>(k.heap b (h.X b a)).trans (h.heap b a)⟩
mutual
theorem mg{C C':Ctx}(hk:bQ C C')(hl:eU C.P): ∀(a:AV) (T:TypeId) (s s':Src) (o o':Nat),bz C.P a T->
  (∀j,j<wid a->s' (o'+j)=s (o+j))->M C a s o->M C' a s' o'
 | .lit v,T,s,s',o,o',_,hs,h=>by
  simp only[M] at h⊢;have:=hs 0 (by simp[wid])
  simp at this;rw[this];exact h
 | .ah E l,T,s,s',o,o',ht,hs,h=>by
  simp only[M] at h⊢;have h0:=hs 0 (by simp[wid]);simp at h0;obtain⟨h1,p,cap,h2,h3,h4⟩:=h;rw[hk.P];refine⟨h1,p,cap,by rw[h0];exact h2,h3,fun hne=>?_⟩;obtain⟨b,off,hp,hb,hm⟩:=h4 hne;refine⟨b,off,hp,hk.X b hb,?_⟩;exact fU hk hl l E _ _ _ _ h1 (fun j _=>hk.cell hb _) hm
 | .agg l,T,s,s',o,o',ht,hs,h=>by
  simp only[M] at h⊢;simp only[bz] at ht;obtain⟨fs,_,h2⟩:=ht;exact Ii hk hl l fs.toList s s' o o' h2 (by simpa[wid] using hs) h
 | .js E a,T,s,s',o,o',ht,hs,h=>by
  simp only[M] at h⊢;have h0:=hs 0 (by simp[wid]);simp at h0;simp only[bz] at ht;obtain⟨b,off,h1,h2,h3,h4⟩:=h;rw[hk.P];exact⟨b,off,by rw[h0];exact h1,hk.X b h2,h3,mg hk hl a E _ _ _ _ ht.2 (fun j _=>hk.cell h2 _) h4⟩
 | .jz U a,T,s,s',o,o',ht,hs,h=>by
  simp only[M] at h⊢;have h0:=hs 0 (by simp[wid]);simp at h0;simp only[bz] at ht;obtain⟨u,h1,h2,h3,h4⟩:=h;exact⟨u,by rw[h0];exact h1,h2,h3,mg hk hl a U _ _ _ _ ht.2 (fun j _=>rfl) h4⟩
 | .eP K V ks vs,T,s,s',o,o',ht,hs,h=>by
  simp only[M] at h⊢;have h0:=hs 0 (by simp[wid]);simp at h0;simp only[bz] at ht;rw[h0,hk.P];rcases h with h|⟨b,ents,clock,h1,h2,h3,h4,h5,h6,h7⟩
  ·exact .inl h
  ·exact .inr ⟨b,ents,clock,h1,hk.X b h2,by rw[hk.heap b h2];exact h3,h4,h5,h6,pK hk hl vs V _ h6 h7⟩
 | .cB,_,_,_,_,_,h,_,_=>by simp[bz] at h
 | .aJ _,_,_,_,_,_,h,_,_=>by simp[bz] at h
 | .ak _ _ _,_,_,_,_,_,h,_,_=>by simp[bz] at h
 | .ptr _ _ _ _,_,_,_,_,_,h,_,_=>by simp[bz] at h
 | .mp _,_,_,_,_,_,h,_,_=>by simp[bz] at h
 | .cf _,_,_,_,_,_,h,_,_=>by simp[bz] at h
 | .lx _ _,_,_,_,_,_,h,_,_=>by simp[bz] at h
 | .bm _ _,_,_,_,_,_,h,_,_=>by simp[bz] at h
theorem pK{C C':Ctx}(hk:bQ C C')(hl:eU C.P): ∀(l:List AV) (T:TypeId) (vs:List Value),ck C.P l T->MT C l vs->MT C' l vs
 |[],_,vs,_,h=>by simpa[MT] using h
 |_::_,_,[],_,h=>by simp[MT] at h
 |a::l,T,v::vs,ht,h=>by
  simp only[ck] at ht;simp only[MT] at h⊢;exact⟨h.1,h.2.1,mg hk hl a T _ _ _ _ ht.1 (fun j _=>rfl) h.2.2.1,pK hk hl l T vs ht.2 h.2.2.2⟩
theorem Ii{C C':Ctx}(hk:bQ C C')(hl:eU C.P): ∀(l:List AV) (fs:List Field) (s s':Src) (o o':Nat),dT C.P l fs->
  (∀j,j<eu l->s' (o'+j)=s (o+j))->ML C l s o->ML C' l s' o'
 |[],_,_,_,_,_,_,_,_=>by simp[ML]
 |_::_,[],_,_,_,_,h,_,_=>by simp[dT] at h
 |a::l,f::fs,s,s',o,o',ht,hs,h=>by
  simp only[dT] at ht;simp only[ML,eu] at h hs⊢;refine⟨mg hk hl a f.type s s' o o' ht.1 (fun j hj=>hs j (by omega)) h.1,Ii hk hl l fs s s' _ _ ht.2 (fun j hj=>?_) h.2⟩;have:=hs (wid a+j) (by omega)
  rw[show o'+wid a+j=o'+(wid a+j) by omega,this];congr 1;omega
theorem fU{C C':Ctx}(hk:bQ C C')(hl:eU C.P): ∀(l:List AV) (T:TypeId) (s s':Src) (o o':Nat),ck C.P l T->
  (∀j,j<l.length*C.P.cellsOf T->s' (o'+j)=s (o+j))->MR C l (C.P.cellsOf T) s o->MR C' l (C.P.cellsOf T) s' o'
 |[],_,_,_,_,_,_,_,_=>by simp[MR]
 |a::l,T,s,s',o,o',ht,hs,h=>by
  simp only[ck] at ht;simp only[MR] at h⊢;have hw:=dq hl a T ht.1;have hlen:(a::l).length*C.P.cellsOf T=l.length*C.P.cellsOf T+C.P.cellsOf T:=by simp[Nat.add_mul]
  refine⟨mg hk hl a T s s' o o' ht.1 (fun j hj=>hs j (by omega)) h.1,?_⟩;refine fU hk hl l T s s' (o+C.P.cellsOf T) (o'+C.P.cellsOf T) ht.2 (fun j hj=>?_) h.2;have:=hs (C.P.cellsOf T+j) (by omega)
  rw[show o'+C.P.cellsOf T+j=o'+(C.P.cellsOf T+j) by omega,this];congr 1;omega
end
structure dW(en:Array MapEntry)(cl:Nat)(en':Array MapEntry)(cl':Nat):Prop where
 fwd: ∀e,e∈en->∃e',e'∈en'/\e'.key=e.key/\e'.born=e.born
 bwd: ∀e',e'∈en'->e'.born<cl->∃e,e∈en/\e.key=e'.key/\e.born=e'.born
 size:en'.size+cl=en.size+cl'
 le:cl<=cl'
theorem dW.refl b a:dW b a b a:=⟨by grind,by grind,rfl,Nat.le_refl _⟩
theorem dW.trans{a b c x y z}(h:dW a x b y)(k:dW b y c z):dW a x c z:=by
 refine⟨fun e f=>?_,fun e f j=>?_,by have:=h.size;have:=k.size;omega,Nat.le_trans h.le k.le⟩
 ·obtain⟨i,d,l,m⟩:=h.fwd e f
  obtain⟨n,o,p,g⟩:=k.fwd _ d
  grind
 ·obtain⟨i,d,l,m⟩:=k.bwd e f (Nat.lt_of_lt_of_le j h.le)
  obtain⟨n,o,p,g⟩:=h.bwd _ d (by omega)
  grind
structure b7(C C':Ctx)(i j:Nat):Prop where
 lt:j<C'.st.length
 row: ∀T xs',ij (ay C'.st j)=some (T,xs')->∃xs,ij (ay C.st i)=some (T,xs)/\C'.ι j=C.ι i/\xs.length<=xs'.length
 box: ∀T a',ay C'.st j= .box T a'->∃a,ay C.st i= .box T a/\C'.ι j=C.ι i
 map: ∀K V es',ay C'.st j= .map K V es'->∃es,ay C.st i= .map K V es/\C'.ι j=C.ι i/\
  ∀entries clock,C.w.heap[(C.ι i).block]? =some (.map entries clock)->∃entries' clock',C'.w.heap[(C.ι i).block]? =some (.map entries' clock')/\
   dW entries clock entries' clock'
 loop: ∀r',ay C'.st j= .loop r'->∃r,ay C.st i= .loop r/\C'.ι j=C.ι i
 iter: ∀m n ks,ay C'.st j= .iter m n ks->∃m' ks',ay C.st i= .iter m' n ks'/\C'.ι j=C.ι i
 ext: ∀t,ay C'.st j= .ext t->∃t',ay C.st i= .ext t'/\C'.ι j=C.ι i
 dp: ∀s p,ay C'.st j= .dp s p->∃p',ay C.st i= .dp s p'/\C'.ι j=C.ι i
 fit: ∀K V ks vs met,ay C'.st j= .fit K V ks vs met->∃met',ay C.st i= .fit K V ks vs met'/\C'.ι j=C.ι i
 rows: ∀T E ls pd,ay C'.st j= .rows T E ls pd->∃ls' pd',ay C.st i= .rows T E ls' pd'/\C'.ι j=C.ι i/\ls.length=ls'.length/\
  ∀k m v,mA C (C.ι i).block E k (bV ls' k) m v->mA C' (C.ι i).block E k (bV ls k) m v
theorem lH.move{C C'}(hk:bQ C C'){i j lo n v}(h:b7 C C' i j)(hv:lH C i lo n v):lH C' j lo n v:=by
 refine⟨fun T xs' hx=>?_,fun T E ls pd hx=>?_⟩
 ·obtain⟨xs,h1,h2,h3⟩:=h.row T _ hx
  obtain⟨h4,h5⟩:=hv.1 T xs h1;rw[hk.P]
  grind
 ·obtain⟨ls',pd',h1,h2,h3,h4⟩:=h.rows T E ls pd hx
  have h5:=hv.2 T E _ _ h1
  grind
theorem qu.move{C C'}(hk:bQ C C'){i j k off v}(h:b7 C C' i j)(hv:qu C i k off v):qu C' j k off v:=by
 refine⟨fun T xs' hx=>?_,fun T a' hx=>?_,fun m n ks hx=>?_,fun s p hx=>?_,fun K V ks vs met hx=>?_,fun T E ls pd hx=>?_⟩
 ·obtain⟨xs,h1,h2,h3⟩:=h.row T _ hx
  obtain⟨h4,h5⟩:=hv.1 T _ h1;rw[hk.P]
  grind
 ·obtain⟨a,h1,h2⟩:=h.box T a' hx
  rw[h2];exact hv.2.1 T a h1
 ·obtain⟨m',ks',h1,h2⟩:=h.iter m n _ hx
  rw[h2];exact hv.2.2.1 _ _ _ h1
 ·obtain⟨p',h1,h2⟩:=h.dp s p hx
  rw[h2];exact hv.2.2.2.1 _ _ h1
 ·obtain⟨met',h1,h2⟩:=h.fit K V _ _ _ hx
  rw[h2];exact hv.2.2.2.2.1 _ _ _ _ _ h1
 ·obtain⟨ls',pd',h1,h2,h3,_⟩:=h.rows T E _ pd hx
  rw[h2,h3];exact hv.2.2.2.2.2 _ _ _ _ h1
theorem Lz.move{C C' i j v}(h:b7 C C' i j)(hv:Lz C i v):Lz C' j v:=by
 intro K V es' hx;obtain⟨es,h1,h2,_⟩:=h.map K V _ hx;rw[h2];exact hv K V _ h1
theorem zo.move{C C' i j v}(h:b7 C C' i j)(hv:zo C i v):zo C' j v:=by
 refine⟨fun r' hx=>?_,fun t hx=>?_⟩
 ·obtain⟨r,h1,h2⟩:=h.loop _ hx
  rw[h2];exact hv.1 r h1
 ·obtain⟨r,h1,h2⟩:=h.ext t hx
  rw[h2];exact hv.2 r h1
theorem yd.move{C C' i j key v}(h:b7 C C' i j)(hv:yd C i key v):yd C' j key v:=by
 intro K V es' hx;obtain⟨es,h1,h2,h3⟩:=h.map K V _ hx;obtain⟨entries,clock,hh,e,he,hek,hv'⟩:=hv K V _ h1;obtain⟨entries',clock',hh',hall⟩:=h3 _ _ hh;obtain⟨e',he',hk',hb'⟩:=hall.fwd e he
 grind
@[simp] theorem BC ρ: ∀a,bZ (mQ ρ a)=bZ a
 | .agg l=>by rfl
 | .cB| .lit _| .ah _ _| .aJ _| .js _ _| .bm _ _| .jz _ _| .eP _ _ _ _=>by rfl
 | .ak i _ _| .ptr i _ _ _| .mp i| .cf i| .lx i _=>by grind [mQ,bZ]
mutual
theorem pI(ρ:Nat->Option Nat): ∀a:AV,wid (mQ ρ a)=wid a
 | .agg l=>by simp only[mQ,wid];exact Ck ρ l
 | .cB| .lit _| .ah _ _| .aJ _| .js _ _| .bm _ _| .jz _ _| .eP _ _ _ _=>by simp[mQ,wid]
 | .ak i _ _| .ptr i _ _ _| .mp i| .cf i| .lx i _=>by simp only[mQ];split<;>simp[wid]
theorem Ck(ρ:Nat->Option Nat): ∀l:List AV,eu (fP ρ l)=eu l
 |[]=>by simp[fP,eu]
 |a::l=>by simp only[fP,eu,pI ρ a,Ck ρ l]
end
mutual
theorem uf{C C':Ctx}(hk:bQ C C')(hl:eU C.P)(ρ:Nat->Option Nat): ∀(a:AV) (s s':Src) (o o':Nat),
  (∀i,i∈refs a->i<C.st.length->∃j,ρ i=some j/\b7 C C' i j)->
  (∀j,j<wid a->s' (o'+j)=s (o+j))->M C a s o->M C' (mQ ρ a) s' o'
 | .cB,_,_,_,_,_,_,_=>by simp[mQ,M]
 | .lit v,s,s',o,o',_,hs,h=>by
  simp only[mQ,M] at h⊢;have:=hs 0 (by simp[wid])
  simp at this;rw[this];exact h
 | .ah E l,s,s',o,o',_,hs,h=>by
  simp only[mQ,M] at h⊢;have h0:=hs 0 (by simp[wid]);simp at h0;obtain⟨h1,p,cap,h2,h3,h4⟩:=h;rw[hk.P];refine⟨h1,p,cap,by rw[h0];exact h2,h3,fun hne=>?_⟩;obtain⟨b,off,hp,hb,hm⟩:=h4 hne;exact⟨b,off,hp,hk.X b hb,fU hk hl l E _ _ _ _ h1 (fun j _=>hk.cell hb _) hm⟩
 | .agg l,s,s',o,o',hr,hs,h=>by
  simp only[mQ,M] at h⊢;exact AO hk hl ρ l s s' o o' (by simpa[refs] using hr) (by simpa[wid] using hs) h
 | .aJ l,s,s',o,o',hr,hs,h=>by
  simp only[mQ,M] at h⊢;have h0:=hs 0 (by simp[wid]);simp at h0;obtain⟨vs,h1,h2⟩:=h;exact⟨vs,by rw[h0];exact h1,lI hk hl ρ l _ (by simpa[refs] using hr) h2⟩
 | .ak i lo n,s,s',o,o',hr,hs,h=>by
  simp only[M] at h;obtain⟨hi,v,h1,h2,h3⟩:=h;obtain⟨j,hj,hrf⟩:=hr i (by simp[refs]) hi;have h0:=hs 0 (by simp[wid]);simp at h0;simp only[mQ,hj,M];exact⟨hrf.lt,v,by rw[h0];exact h1,h2,h3.move hk hrf⟩
 | .ptr i k p off,s,s',o,o',hr,hs,h=>by
  simp only[M] at h;obtain⟨hi,v,h1,h2,h3⟩:=h;obtain⟨j,hj,hrf⟩:=hr i (by simp[refs]) hi;have h0:=hs 0 (by simp[wid]);simp at h0;simp only[mQ,hj,M];exact⟨hrf.lt,v,by rw[h0];exact h1,h2,h3.move hk hrf⟩
 | .js T a,s,s',o,o',_,hs,h=>by
  simp only[mQ,M] at h⊢;have h0:=hs 0 (by simp[wid]);simp at h0;obtain⟨b,off,h1,h2,h3,h4⟩:=h;rw[hk.P];exact⟨b,off,by rw[h0];exact h1,hk.X b h2,h3,mg hk hl a T _ _ _ _ h3 (fun j _=>hk.cell h2 _) h4⟩
 | .mp i,s,s',o,o',hr,hs,h=>by
  simp only[M] at h;obtain⟨hi,v,h1,h2,h3⟩:=h;obtain⟨j,hj,hrf⟩:=hr i (by simp[refs]) hi;have h0:=hs 0 (by simp[wid]);simp at h0;simp only[mQ,hj,M];exact⟨hrf.lt,v,by rw[h0];exact h1,h2,h3.move hrf⟩
 | .cf i,s,s',o,o',hr,hs,h=>by
  simp only[M] at h;obtain⟨hi,v,h1,h2,h3⟩:=h;obtain⟨j,hj,hrf⟩:=hr i (by simp[refs]) hi;have h0:=hs 0 (by simp[wid]);simp at h0;simp only[mQ,hj,M];exact⟨hrf.lt,v,by rw[h0];exact h1,h2,h3.move hrf⟩
 | .lx i key,s,s',o,o',hr,hs,h=>by
  simp only[M] at h;obtain⟨hi,v,h1,h2,h3⟩:=h;obtain⟨j,hj,hrf⟩:=hr i (by simp[refs]) hi;have h0:=hs 0 (by simp[wid]);simp at h0;simp only[mQ,hj,M];exact⟨hrf.lt,v,by rw[h0];exact h1,h2,h3.move hrf⟩
 | .bm f caps,s,s',o,o',hr,hs,h=>by
  simp only[mQ,M] at h⊢;have h0:=hs 0 (by simp[wid]);simp at h0;obtain⟨vs,h1,h2⟩:=h;exact⟨vs,by rw[h0];exact h1,lI hk hl ρ caps _ (by simpa[refs] using hr) h2⟩
 | .jz T a,s,s',o,o',hr,hs,h=>by
  simp only[mQ,M] at h⊢;have h0:=hs 0 (by simp[wid]);simp at h0;obtain⟨u,h1,h2,h3,h4⟩:=h;exact⟨u,by rw[h0];exact h1,by rw[h2,BC],by rw[h3,pI],uf hk hl ρ a _ _ _ _ (by simpa[refs] using hr) (fun j _=>rfl) h4⟩
 | .eP K V ks vs,s,s',o,o',_,hs,h=>by
  simp only[mQ,M] at h⊢;have h0:=hs 0 (by simp[wid]);simp at h0;rw[h0,hk.P];rcases h with h|⟨b,ents,clock,h1,h2,h3,h4,h5,h6,h7⟩
  ·exact .inl h
  ·exact .inr ⟨b,ents,clock,h1,hk.X b h2,by rw[hk.heap b h2];exact h3,h4,h5,h6,pK hk hl vs V _ h6 h7⟩
theorem AO{C C':Ctx}(hk:bQ C C')(hl:eU C.P)(ρ:Nat->Option Nat): ∀(l:List AV) (s s':Src) (o o':Nat),
  (∀i,i∈cU l->i<C.st.length->∃j,ρ i=some j/\b7 C C' i j)->
  (∀j,j<eu l->s' (o'+j)=s (o+j))->ML C l s o->ML C' (fP ρ l) s' o'
 |[],_,_,_,_,_,_,_=>by simp[fP,ML]
 |a::l,s,s',o,o',hr,hs,h=>by
  simp only[fP,ML,eu] at h hs⊢;refine⟨uf hk hl ρ a s s' o o' (fun i hi=>hr i (by simp[cU,hi])) (fun j hj=>hs j (by omega)) h.1,?_⟩;rw[pI];refine AO hk hl ρ l s s' _ _ (fun i hi=>hr i (by simp[cU,hi])) (fun j hj=>?_) h.2;have:=hs (wid a+j) (by omega)
  rw[show o'+wid a+j=o'+(wid a+j) by omega,this];congr 1;omega
theorem lI{C C':Ctx}(hk:bQ C C')(hl:eU C.P)(ρ:Nat->Option Nat): ∀(l:List AV) (vs:List Value),
  (∀i,i∈cU l->i<C.st.length->∃j,ρ i=some j/\b7 C C' i j)->MT C l vs->MT C' (fP ρ l) vs
 |[],vs,_,h=>by simpa[fP,MT] using h
 |_::_,[],_,h=>by simp[MT] at h
 | a::l,v::vs,hr,h=>by
  simp only[fP,MT] at h⊢;refine⟨?_,?_,uf hk hl ρ a _ _ _ _ (fun i hi=>hr i (by simp[cU,hi])) (fun j _=>rfl) h.2.2.1,
   lI hk hl ρ l vs (fun i hi=>hr i (by simp[cU,hi])) h.2.2.2⟩
  ·rw[BC];exact h.1.imp id (fun e=>by subst e;rfl)
  ·rw[pI];exact h.2.1.imp id (fun e=>by subst e;rfl)
end
theorem Rel.move{C C'}(hk:bQ C C')(hl:eU C.P) ρ{a v}
  (hr: ∀i,i∈refs a->i<C.st.length->∃j,ρ i=some j/\b7 C C' i j) (h:Rel C a v):Rel C' (mQ ρ a) v:=by
 refine⟨?_,?_,uf hk hl _ a _ _ _ _ hr (by simp) h.2.2⟩
 ·rw[BC];exact h.1.imp id fun e=>by subst e;rfl
 ·rw[pI];exact h.2.1.imp id fun e=>by subst e;rfl
mutual
theorem kR: ∀a:AV,mQ some a=a
 | .agg l=>by simp only[mQ,gp l]
 | .aJ l=>by simp only[mQ,gp l]
 | .bm f l=>by simp only[mQ,gp l]
 | .jz T a=>by simp only[mQ,kR a]
 | .cB| .lit _| .ah _ _| .js _ _| .eP _ _ _ _=>by simp[mQ]
 | .ak i _ _| .ptr i _ _ _| .mp i| .cf i| .lx i _=>by simp[mQ]
theorem gp: ∀l:List AV,fP some l=l
 |[]=>by simp[fP]
 |a::l=>by simp only[fP,kR a,gp l]
end
theorem M.eY{C C'}(hk:bQ C C')(hl:eU C.P){a s s' o o'}
  (hr: ∀i,i∈refs a->i<C.st.length->b7 C C' i i) (hs: ∀j,j<wid a->s' (o'+j)=s (o+j)) (h:M C a s o):M C' a s' o':=by
 have:=uf hk hl some a s _ o _ (by grind) hs h
 grind [kR]
theorem Rel.eY{C C'}(hk:bQ C C')(hl:eU C.P){a v}
  (hr: ∀i,i∈refs a->i<C.st.length->b7 C C' i i) (h:Rel C a v):Rel C' a v:=by
 have:=h.move hk hl some (by grind)
 grind [kR]
end Go.Dn
