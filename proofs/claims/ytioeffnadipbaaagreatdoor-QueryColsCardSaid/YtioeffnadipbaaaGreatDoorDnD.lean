import Derived.Test.YtioeffnadipbaaaGreatDoorDnC
namespace Go.Dn
open Go
def zw(P:Program):List Field->Nat->Nat->Prop
 |[],n,t=>n=t
 |f::fs,n,t=>f.offset=n/\zw P fs (n+P.cellsOf f.type) t
def rE(P:Program)(T:TypeId):Prop:=
 match P.underlying T with
 |some (.struct fs)=>T<P.types.size->zw P fs.toList 0 (P.cellsOf T)
 |some (.array _ _)=>True
 |some _=>P.cellsOf T=1
 |none=>True
def eI(P:Program):Prop:=∀T,rE P T
mutual
theorem dn{P:Program}(hl:eI P): ∀(a:AV) (T:TypeId),br P a T->wid a=P.cellsOf T
 | .lit v,T,h=>by
  have:=hl T
  simp only[br,rE] at h this
  simp only[wid]
  split at h<;>simp_all
 | .ad E l,T,h=>by
  have:=hl T
  simp only[br] at h
  simp only[rE,h.1] at this
  simp[wid,this]
 | .agg l,T,h=>by
  have hT:=hl T
  simp only[br] at h
  obtain⟨fs,h1,h2⟩:=h
  simp only[rE,h1.1] at hT
  have:=uG hl l fs.toList 0 _ h2 (hT h1.2)
  simp only[wid]
  omega
 | .iY E a,T,h=>by
  have:=hl T
  simp only[br] at h
  simp only[rE,h.1] at this
  simp[wid,this]
 | .iN U a,T,h=>by
  have:=hl T
  simp only[br] at h
  obtain⟨⟨ms,hm⟩,_⟩:=h
  simp only[rE,hm] at this
  simp[wid,this]
 | .fJ K V ks vs,T,h=>by
  have:=hl T
  simp only[br] at h
  simp only[rE,h.1] at this
  simp[wid,this]
 | .cK,_,h=>by simp[br] at h
 | .aX _,_,h=>by simp[br] at h
 | .aB _ _ _,_,h=>by simp[br] at h
 | .ptr _ _ _ _,_,h=>by simp[br] at h
 | .mp _,_,h=>by simp[br] at h
 | .de _,_,h=>by simp[br] at h
 | .jV _ _,_,h=>by simp[br] at h
 | .bq _ _,_,h=>by simp[br] at h
theorem uG{P:Program}(hl:eI P): ∀(l:List AV) (fs:List Field) (n t:Nat),dy P l fs->zw P fs n t->n+eH l=t
 |[],[],n,t,_,h=>by simpa[zw,eH] using h
 |[],_::_,_,_,h,_=>by simp[dy] at h
 |_::_,[],_,_,h,_=>by simp[dy] at h
 |a::l,f::fs,n,t,h,hy=>by
  simp only[dy] at h
  simp only[zw] at hy
  have:=uG hl l fs _ t h.2 hy.2
  have h1:=dn hl a f.type h.1
  simp only[eH]
  omega
end
structure bH(C C':Ctx):Prop where
 P:C'.P=C.P
 X: ∀b,C.X b->C'.X b
 heap: ∀b,C.X b->C'.w.heap[b]? =C.w.heap[b]?
theorem bH.cell{C C':Ctx}(h:bH C C'){b:Nat}(hb:C.X b)(j:Nat):C'.w.cell? ⟨b,j,none⟩=C.w.cell? ⟨b,j,none⟩:=by
 unfold World.cell?
 rw[h.heap b hb]
theorem bH.refl(C:Ctx):bH C C:=⟨rfl,fun _ h=>h,fun _ _=>rfl⟩
theorem bH.trans{A B C:Ctx}(h:bH A B)(k:bH B C):bH A C:=
 ⟨k.P.trans h.P,fun b hb=>k.X b (h.X b hb),fun b hb=>(k.heap b (h.X b hb)).trans (h.heap b hb)⟩
mutual
theorem lk{C C':Ctx}(hk:bH C C')(hl:eI C.P): ∀(a:AV) (T:TypeId) (s s':Src) (o o':Nat),br C.P a T->
  (∀j,j<wid a->s' (o'+j)=s (o+j))->M C a s o->M C' a s' o'
 | .lit v,T,s,s',o,o',_,hs,h=>by
  simp only[M] at h⊢
  have:=hs 0 (by simp[wid])
  simp at this
  rw[this];exact h
 | .ad E l,T,s,s',o,o',ht,hs,h=>by
  simp only[M] at h⊢
  have h0:=hs 0 (by simp[wid])
  simp at h0
  obtain⟨h1,p,cap,h2,h3,h4⟩:=h
  rw[hk.P]
  refine⟨h1,p,cap,by rw[h0];exact h2,h3,fun hne=>?_⟩
  obtain⟨b,off,hp,hb,hm⟩:=h4 hne
  refine⟨b,off,hp,hk.X b hb,?_⟩
  exact fI hk hl l E _ _ _ _ h1 (fun j _=>hk.cell hb _) hm
 | .agg l,T,s,s',o,o',ht,hs,h=>by
  simp only[M] at h⊢
  simp only[br] at ht
  obtain⟨fs,_,h2⟩:=ht
  exact Fb hk hl l fs.toList s s' o o' h2 (by simpa[wid] using hs) h
 | .iY E a,T,s,s',o,o',ht,hs,h=>by
  simp only[M] at h⊢
  have h0:=hs 0 (by simp[wid])
  simp at h0
  simp only[br] at ht
  obtain⟨b,off,h1,h2,h3,h4⟩:=h
  rw[hk.P]
  exact⟨b,off,by rw[h0];exact h1,hk.X b h2,h3,lk hk hl a E _ _ _ _ ht.2 (fun j _=>hk.cell h2 _) h4⟩
 | .iN U a,T,s,s',o,o',ht,hs,h=>by
  simp only[M] at h⊢
  have h0:=hs 0 (by simp[wid])
  simp at h0
  simp only[br] at ht
  obtain⟨u,h1,h2,h3,h4⟩:=h
  exact⟨u,by rw[h0];exact h1,h2,h3,lk hk hl a U _ _ _ _ ht.2 (fun j _=>rfl) h4⟩
 | .fJ K V ks vs,T,s,s',o,o',ht,hs,h=>by
  simp only[M] at h⊢
  have h0:=hs 0 (by simp[wid])
  simp at h0
  simp only[br] at ht
  rw[h0,hk.P]
  obtain⟨b,ents,clock,h1,h2,h3,h4,h5,h6,h7⟩:=h
  exact⟨b,ents,clock,h1,hk.X b h2,by rw[hk.heap b h2];exact h3,h4,h5,h6,oM hk hl vs V _ h6 h7⟩
 | .cK,_,_,_,_,_,h,_,_=>by simp[br] at h
 | .aX _,_,_,_,_,_,h,_,_=>by simp[br] at h
 | .aB _ _ _,_,_,_,_,_,h,_,_=>by simp[br] at h
 | .ptr _ _ _ _,_,_,_,_,_,h,_,_=>by simp[br] at h
 | .mp _,_,_,_,_,_,h,_,_=>by simp[br] at h
 | .de _,_,_,_,_,_,h,_,_=>by simp[br] at h
 | .jV _ _,_,_,_,_,_,h,_,_=>by simp[br] at h
 | .bq _ _,_,_,_,_,_,h,_,_=>by simp[br] at h
theorem oM{C C':Ctx}(hk:bH C C')(hl:eI C.P): ∀(l:List AV) (T:TypeId) (vs:List Value),bC C.P l T->MT C l vs->MT C' l vs
 |[],_,vs,_,h=>by simpa[MT] using h
 |_::_,_,[],_,h=>by simp[MT] at h
 |a::l,T,v::vs,ht,h=>by
  simp only[bC] at ht
  simp only[MT] at h⊢
  exact⟨h.1,h.2.1,lk hk hl a T _ _ _ _ ht.1 (fun j _=>rfl) h.2.2.1,oM hk hl l T vs ht.2 h.2.2.2⟩
theorem Fb{C C':Ctx}(hk:bH C C')(hl:eI C.P): ∀(l:List AV) (fs:List Field) (s s':Src) (o o':Nat),dy C.P l fs->
  (∀j,j<eH l->s' (o'+j)=s (o+j))->ML C l s o->ML C' l s' o'
 |[],_,_,_,_,_,_,_,_=>by simp[ML]
 |_::_,[],_,_,_,_,h,_,_=>by simp[dy] at h
 |a::l,f::fs,s,s',o,o',ht,hs,h=>by
  simp only[dy] at ht
  simp only[ML,eH] at h hs⊢
  refine⟨lk hk hl a f.type s s' o o' ht.1 (fun j hj=>hs j (by omega)) h.1,Fb hk hl l fs s s' _ _ ht.2 (fun j hj=>?_) h.2⟩
  have:=hs (wid a+j) (by omega)
  rw[show o'+wid a+j=o'+(wid a+j) by omega,this]
  congr 1;omega
theorem fI{C C':Ctx}(hk:bH C C')(hl:eI C.P): ∀(l:List AV) (T:TypeId) (s s':Src) (o o':Nat),bC C.P l T->
  (∀j,j<l.length*C.P.cellsOf T->s' (o'+j)=s (o+j))->MR C l (C.P.cellsOf T) s o->MR C' l (C.P.cellsOf T) s' o'
 |[],_,_,_,_,_,_,_,_=>by simp[MR]
 |a::l,T,s,s',o,o',ht,hs,h=>by
  simp only[bC] at ht
  simp only[MR] at h⊢
  have hw:=dn hl a T ht.1
  have hlen:(a::l).length*C.P.cellsOf T=l.length*C.P.cellsOf T+C.P.cellsOf T:=by simp[Nat.add_mul]
  refine⟨lk hk hl a T s s' o o' ht.1 (fun j hj=>hs j (by omega)) h.1,?_⟩
  refine fI hk hl l T s s' (o+C.P.cellsOf T) (o'+C.P.cellsOf T) ht.2 (fun j hj=>?_) h.2
  have:=hs (C.P.cellsOf T+j) (by omega)
  rw[show o'+C.P.cellsOf T+j=o'+(C.P.cellsOf T+j) by omega,this]
  congr 1;omega
end
structure dW(en:Array MapEntry)(cl:Nat)(en':Array MapEntry)(cl':Nat):Prop where
 fwd: ∀e,e∈en->∃e',e'∈en'/\e'.key=e.key/\e'.born=e.born
 bwd: ∀e',e'∈en'->e'.born<cl->∃e,e∈en/\e.key=e'.key/\e.born=e'.born
 size:en'.size+cl=en.size+cl'
 le:cl<=cl'
theorem dW.refl(en:Array MapEntry)(cl:Nat):dW en cl en cl:=⟨fun e he=>⟨e,he,rfl,rfl⟩,fun e he _=>⟨e,he,rfl,rfl⟩,rfl,Nat.le_refl _⟩
theorem dW.trans{a b c:Array MapEntry}{x y z:Nat}(h:dW a x b y)(k:dW b y c z):dW a x c z:=by
 refine⟨fun e he=>?_,fun e he hb=>?_,by have:=h.size;have:=k.size;omega,Nat.le_trans h.le k.le⟩
 ·obtain⟨e1,h1,h2,h3⟩:=h.fwd e he
  obtain⟨e2,k1,k2,k3⟩:=k.fwd e1 h1
  exact⟨e2,k1,k2.trans h2,k3.trans h3⟩
 ·obtain⟨e1,h1,h2,h3⟩:=k.bwd e he (Nat.lt_of_lt_of_le hb h.le)
  obtain⟨e2,k1,k2,k3⟩:=h.bwd e1 h1 (by omega)
  exact⟨e2,k1,k2.trans h2,k3.trans h3⟩
structure bU(C C':Ctx)(i j:Nat):Prop where
 lt:j<C'.st.length
 row: ∀T xs',gC (an C'.st j)=some (T,xs')->∃xs,gC (an C.st i)=some (T,xs)/\C'.ι j=C.ι i/\xs.length<=xs'.length
 box: ∀T a',an C'.st j= .box T a'->∃a,an C.st i= .box T a/\C'.ι j=C.ι i
 map: ∀K V es',an C'.st j= .map K V es'->∃es,an C.st i= .map K V es/\C'.ι j=C.ι i/\
  ∀entries clock,C.w.heap[(C.ι i).block]? =some (.map entries clock)->∃entries' clock',C'.w.heap[(C.ι i).block]? =some (.map entries' clock')/\
   dW entries clock entries' clock'
 loop: ∀r',an C'.st j= .loop r'->∃r,an C.st i= .loop r/\C'.ι j=C.ι i
 iter: ∀m n ks,an C'.st j= .iter m n ks->∃m' ks',an C.st i= .iter m' n ks'/\C'.ι j=C.ι i
 ext: ∀t,an C'.st j= .ext t->∃t',an C.st i= .ext t'/\C'.ι j=C.ι i
 dq: ∀s p,an C'.st j= .dq s p->∃p',an C.st i= .dq s p'/\C'.ι j=C.ι i
 fit: ∀K V ks vs met,an C'.st j= .fit K V ks vs met->∃met',an C.st i= .fit K V ks vs met'/\C'.ι j=C.ι i
 rows: ∀T E ls pd,an C'.st j= .rows T E ls pd->∃ls' pd',an C.st i= .rows T E ls' pd'/\C'.ι j=C.ι i/\ls.length=ls'.length/\
  ∀k m v,lB C (C.ι i).block E k (ej ls' k) m v->lB C' (C.ι i).block E k (ej ls k) m v
theorem kH.move{C C':Ctx}(hk:bH C C'){i j lo n:Nat}{v:Value}(h:bU C C' i j)(hv:kH C i lo n v):kH C' j lo n v:=by
 refine⟨fun T xs' hx=>?_,fun T E ls pd hx=>?_⟩
 ·obtain⟨xs,h1,h2,h3⟩:=h.row T xs' hx
  obtain⟨h4,h5⟩:=hv.1 T xs h1
  rw[hk.P,h2]
  exact⟨by omega,h5⟩
 ·obtain⟨ls',pd',h1,h2,h3,h4⟩:=h.rows T E ls pd hx
  have h5:=hv.2 T E ls' pd' h1
  rw[h2]
  cases lo with
  |zero=>exact⟨by rw[h3];exact h5.1,h5.2⟩
  |succ k=>exact⟨by rw[h3];exact h5.1,h4 k n v h5.2⟩
theorem oZ.move{C C':Ctx}(hk:bH C C'){i j k off:Nat}{v:Value}(h:bU C C' i j)(hv:oZ C i k off v):oZ C' j k off v:=by
 refine⟨fun T xs' hx=>?_,fun T a' hx=>?_,fun m n ks hx=>?_,fun s p hx=>?_,fun K V ks vs met hx=>?_,fun T E ls pd hx=>?_⟩
 ·obtain⟨xs,h1,h2,h3⟩:=h.row T xs' hx
  obtain⟨h4,h5⟩:=hv.1 T xs h1
  rw[hk.P,h2]
  exact⟨by omega,h5⟩
 ·obtain⟨a,h1,h2⟩:=h.box T a' hx
  rw[h2]
  exact hv.2.1 T a h1
 ·obtain⟨m',ks',h1,h2⟩:=h.iter m n ks hx
  rw[h2]
  exact hv.2.2.1 _ _ _ h1
 ·obtain⟨p',h1,h2⟩:=h.dq s p hx
  rw[h2]
  exact hv.2.2.2.1 _ _ h1
 ·obtain⟨met',h1,h2⟩:=h.fit K V ks vs met hx
  rw[h2]
  exact hv.2.2.2.2.1 _ _ _ _ _ h1
 ·obtain⟨ls',pd',h1,h2,h3,_⟩:=h.rows T E ls pd hx
  rw[h2,h3]
  exact hv.2.2.2.2.2 _ _ _ _ h1
theorem KE.move{C C':Ctx}{i j:Nat}{v:Value}(h:bU C C' i j)(hv:KE C i v):KE C' j v:=by
 intro K V es' hx
 obtain⟨es,h1,h2,_⟩:=h.map K V es' hx
 rw[h2];exact hv K V es h1
theorem xm.move{C C':Ctx}{i j:Nat}{v:Value}(h:bU C C' i j)(hv:xm C i v):xm C' j v:=by
 refine⟨fun r' hx=>?_,fun t hx=>?_⟩
 ·obtain⟨r,h1,h2⟩:=h.loop r' hx
  rw[h2];exact hv.1 r h1
 ·obtain⟨r,h1,h2⟩:=h.ext t hx
  rw[h2];exact hv.2 r h1
theorem vR.move{C C':Ctx}{i j:Nat}{key v:Value}(h:bU C C' i j)(hv:vR C i key v):vR C' j key v:=by
 intro K V es' hx
 obtain⟨es,h1,h2,h3⟩:=h.map K V es' hx
 obtain⟨entries,clock,hh,e,he,hek,hv'⟩:=hv K V es h1
 obtain⟨entries',clock',hh',hall⟩:=h3 entries clock hh
 obtain⟨e',he',hk',hb'⟩:=hall.fwd e he
 grind
@[simp] theorem zl (ρ:Nat->Option Nat): ∀a:AV,bO (ll ρ a)=bO a
 | .agg l=>by simp[ll,bO]
 | .cK| .lit _| .ad _ _| .aX _| .iY _ _| .bq _ _| .iN _ _| .fJ _ _ _ _=>by simp[ll,bO]
 | .aB i _ _| .ptr i _ _ _| .mp i| .de i| .jV i _=>by simp only[ll];split<;>simp[bO]
mutual
theorem ot(ρ:Nat->Option Nat): ∀a:AV,wid (ll ρ a)=wid a
 | .agg l=>by simp only[ll,wid];exact AL ρ l
 | .cK| .lit _| .ad _ _| .aX _| .iY _ _| .bq _ _| .iN _ _| .fJ _ _ _ _=>by simp[ll,wid]
 | .aB i _ _| .ptr i _ _ _| .mp i| .de i| .jV i _=>by simp only[ll];split<;>simp[wid]
theorem AL(ρ:Nat->Option Nat): ∀l:List AV,eH (fY ρ l)=eH l
 |[]=>by simp[fY,eH]
 |a::l=>by simp only[fY,eH,ot ρ a,AL ρ l]
end
mutual
theorem pN{C C':Ctx}(hk:bH C C')(hl:eI C.P)(ρ:Nat->Option Nat): ∀(a:AV) (s s':Src) (o o':Nat),
  (∀i,i∈refs a->i<C.st.length->∃j,ρ i=some j/\bU C C' i j)->
  (∀j,j<wid a->s' (o'+j)=s (o+j))->M C a s o->M C' (ll ρ a) s' o'
 | .cK,_,_,_,_,_,_,_=>by simp[ll,M]
 | .lit v,s,s',o,o',_,hs,h=>by
  simp only[ll,M] at h⊢
  have:=hs 0 (by simp[wid])
  simp at this
  rw[this];exact h
 | .ad E l,s,s',o,o',_,hs,h=>by
  simp only[ll,M] at h⊢
  have h0:=hs 0 (by simp[wid])
  simp at h0
  obtain⟨h1,p,cap,h2,h3,h4⟩:=h
  rw[hk.P]
  refine⟨h1,p,cap,by rw[h0];exact h2,h3,fun hne=>?_⟩
  obtain⟨b,off,hp,hb,hm⟩:=h4 hne
  exact⟨b,off,hp,hk.X b hb,fI hk hl l E _ _ _ _ h1 (fun j _=>hk.cell hb _) hm⟩
 | .agg l,s,s',o,o',hr,hs,h=>by
  simp only[ll,M] at h⊢
  exact yy hk hl ρ l s s' o o' (by simpa[refs] using hr) (by simpa[wid] using hs) h
 | .aX l,s,s',o,o',hr,hs,h=>by
  simp only[ll,M] at h⊢
  have h0:=hs 0 (by simp[wid])
  simp at h0
  obtain⟨vs,h1,h2⟩:=h
  exact⟨vs,by rw[h0];exact h1,jL hk hl ρ l _ (by simpa[refs] using hr) h2⟩
 | .aB i lo n,s,s',o,o',hr,hs,h=>by
  simp only[M] at h
  obtain⟨hi,v,h1,h2,h3⟩:=h
  obtain⟨j,hj,hrf⟩:=hr i (by simp[refs]) hi
  have h0:=hs 0 (by simp[wid])
  simp at h0
  simp only[ll,hj,M]
  exact⟨hrf.lt,v,by rw[h0];exact h1,h2,h3.move hk hrf⟩
 | .ptr i k p off,s,s',o,o',hr,hs,h=>by
  simp only[M] at h
  obtain⟨hi,v,h1,h2,h3⟩:=h
  obtain⟨j,hj,hrf⟩:=hr i (by simp[refs]) hi
  have h0:=hs 0 (by simp[wid])
  simp at h0
  simp only[ll,hj,M]
  exact⟨hrf.lt,v,by rw[h0];exact h1,h2,h3.move hk hrf⟩
 | .iY T a,s,s',o,o',_,hs,h=>by
  simp only[ll,M] at h⊢
  have h0:=hs 0 (by simp[wid])
  simp at h0
  obtain⟨b,off,h1,h2,h3,h4⟩:=h
  rw[hk.P]
  exact⟨b,off,by rw[h0];exact h1,hk.X b h2,h3,lk hk hl a T _ _ _ _ h3 (fun j _=>hk.cell h2 _) h4⟩
 | .mp i,s,s',o,o',hr,hs,h=>by
  simp only[M] at h
  obtain⟨hi,v,h1,h2,h3⟩:=h
  obtain⟨j,hj,hrf⟩:=hr i (by simp[refs]) hi
  have h0:=hs 0 (by simp[wid])
  simp at h0
  simp only[ll,hj,M]
  exact⟨hrf.lt,v,by rw[h0];exact h1,h2,h3.move hrf⟩
 | .de i,s,s',o,o',hr,hs,h=>by
  simp only[M] at h
  obtain⟨hi,v,h1,h2,h3⟩:=h
  obtain⟨j,hj,hrf⟩:=hr i (by simp[refs]) hi
  have h0:=hs 0 (by simp[wid])
  simp at h0
  simp only[ll,hj,M]
  exact⟨hrf.lt,v,by rw[h0];exact h1,h2,h3.move hrf⟩
 | .jV i key,s,s',o,o',hr,hs,h=>by
  simp only[M] at h
  obtain⟨hi,v,h1,h2,h3⟩:=h
  obtain⟨j,hj,hrf⟩:=hr i (by simp[refs]) hi
  have h0:=hs 0 (by simp[wid])
  simp at h0
  simp only[ll,hj,M]
  exact⟨hrf.lt,v,by rw[h0];exact h1,h2,h3.move hrf⟩
 | .bq f caps,s,s',o,o',hr,hs,h=>by
  simp only[ll,M] at h⊢
  have h0:=hs 0 (by simp[wid])
  simp at h0
  obtain⟨vs,h1,h2⟩:=h
  exact⟨vs,by rw[h0];exact h1,jL hk hl ρ caps _ (by simpa[refs] using hr) h2⟩
 | .iN T a,s,s',o,o',hr,hs,h=>by
  simp only[ll,M] at h⊢
  have h0:=hs 0 (by simp[wid])
  simp at h0
  obtain⟨u,h1,h2,h3,h4⟩:=h
  exact⟨u,by rw[h0];exact h1,by rw[h2,zl],by rw[h3,ot],pN hk hl ρ a _ _ _ _ (by simpa[refs] using hr) (fun j _=>rfl) h4⟩
 | .fJ K V ks vs,s,s',o,o',_,hs,h=>by
  simp only[ll,M] at h⊢
  have h0:=hs 0 (by simp[wid])
  simp at h0
  rw[h0,hk.P]
  obtain⟨b,ents,clock,h1,h2,h3,h4,h5,h6,h7⟩:=h
  exact⟨b,ents,clock,h1,hk.X b h2,by rw[hk.heap b h2];exact h3,h4,h5,h6,oM hk hl vs V _ h6 h7⟩
theorem yy{C C':Ctx}(hk:bH C C')(hl:eI C.P)(ρ:Nat->Option Nat): ∀(l:List AV) (s s':Src) (o o':Nat),
  (∀i,i∈cW l->i<C.st.length->∃j,ρ i=some j/\bU C C' i j)->
  (∀j,j<eH l->s' (o'+j)=s (o+j))->ML C l s o->ML C' (fY ρ l) s' o'
 |[],_,_,_,_,_,_,_=>by simp[fY,ML]
 |a::l,s,s',o,o',hr,hs,h=>by
  simp only[fY,ML,eH] at h hs⊢
  refine⟨pN hk hl ρ a s s' o o' (fun i hi=>hr i (by simp[cW,hi])) (fun j hj=>hs j (by omega)) h.1,?_⟩
  rw[ot]
  refine yy hk hl ρ l s s' _ _ (fun i hi=>hr i (by simp[cW,hi])) (fun j hj=>?_) h.2
  have:=hs (wid a+j) (by omega)
  rw[show o'+wid a+j=o'+(wid a+j) by omega,this]
  congr 1;omega
theorem jL{C C':Ctx}(hk:bH C C')(hl:eI C.P)(ρ:Nat->Option Nat): ∀(l:List AV) (vs:List Value),
  (∀i,i∈cW l->i<C.st.length->∃j,ρ i=some j/\bU C C' i j)->MT C l vs->MT C' (fY ρ l) vs
 |[],vs,_,h=>by simpa[fY,MT] using h
 |_::_,[],_,h=>by simp[MT] at h
 | a::l,v::vs,hr,h=>by
  simp only[fY,MT] at h⊢
  refine⟨?_,?_,pN hk hl ρ a _ _ _ _ (fun i hi=>hr i (by simp[cW,hi])) (fun j _=>rfl) h.2.2.1,
   jL hk hl ρ l vs (fun i hi=>hr i (by simp[cW,hi])) h.2.2.2⟩
  ·rw[zl];exact h.1.imp id (fun e=>by subst e;rfl)
  ·rw[ot];exact h.2.1.imp id (fun e=>by subst e;rfl)
end
theorem Rel.move{C C':Ctx}(hk:bH C C')(hl:eI C.P)(ρ:Nat->Option Nat){a:AV}{v:Value}
  (hr: ∀i,i∈refs a->i<C.st.length->∃j,ρ i=some j/\bU C C' i j) (h:Rel C a v):Rel C' (ll ρ a) v:=by
 refine⟨?_,?_,pN hk hl ρ a _ _ _ _ hr (fun j _=>rfl) h.2.2⟩
 ·rw[zl];exact h.1.imp id (fun e=>by subst e;rfl)
 ·rw[ot];exact h.2.1.imp id (fun e=>by subst e;rfl)
mutual
theorem jk: ∀a:AV,ll some a=a
 | .agg l=>by simp only[ll,fq l]
 | .aX l=>by simp only[ll,fq l]
 | .bq f l=>by simp only[ll,fq l]
 | .iN T a=>by simp only[ll,jk a]
 | .cK| .lit _| .ad _ _| .iY _ _| .fJ _ _ _ _=>by simp[ll]
 | .aB i _ _| .ptr i _ _ _| .mp i| .de i| .jV i _=>by simp[ll]
theorem fq: ∀l:List AV,fY some l=l
 |[]=>by simp[fY]
 |a::l=>by simp only[fY,jk a,fq l]
end
theorem M.eu{C C':Ctx}(hk:bH C C')(hl:eI C.P){a:AV}{s s':Src}{o o':Nat}
  (hr: ∀i,i∈refs a->i<C.st.length->bU C C' i i) (hs: ∀j,j<wid a->s' (o'+j)=s (o+j)) (h:M C a s o):M C' a s' o':=by
 have:=pN hk hl some a s s' o o' (fun i hi hlt=>⟨i,rfl,hr i hi hlt⟩) hs h
 rwa [jk] at this
theorem Rel.eu{C C':Ctx}(hk:bH C C')(hl:eI C.P){a:AV}{v:Value}
  (hr: ∀i,i∈refs a->i<C.st.length->bU C C' i i) (h:Rel C a v):Rel C' a v:=by
 have:=h.move hk hl some (fun i hi hlt=>⟨i,rfl,hr i hi hlt⟩)
 rwa [jk] at this
end Go.Dn
