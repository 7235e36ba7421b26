import Derived.Test.YthaiinlfnommnaaGreatDoorDnC
namespace Go.Dn
open Go
def zo(P:Program):List Field->Nat->Nat->Prop
 |[],n,t=>n=t
 |f::fs,n,t=>f.offset=n/\zo P fs (n+P.cellsOf f.type) t
def rS(P:Program)(T:TypeId):Prop:=
 match P.underlying T with
 |some (.struct fs)=>T<P.types.size->zo P fs.toList 0 (P.cellsOf T)
 |some (.array _ _)=>True
 |some _=>P.cellsOf T=1
 |none=>True
def eW(P:Program):Prop:=∀T,rS P T
mutual
theorem dD{P:Program}(hl:eW P): ∀(a:AV) (T:TypeId),bG P a T->wid a=P.cellsOf T
 | .lit v,T,h=>by
  have:=hl T
  simp only[bG,rS] at h this
  simp only[wid]
  split at h<;>simp_all
 | .ad E l,T,h=>by
  have:=hl T
  simp only[bG] at h
  simp only[rS,h.1] at this
  simp[wid,this]
 | .agg l,T,h=>by
  have hT:=hl T
  simp only[bG] at h
  obtain⟨fs,h1,h2⟩:=h
  simp only[rS,h1.1] at hT
  have:=vz hl l fs.toList 0 _ h2 (hT h1.2)
  simp only[wid]
  omega
 | .jX E a,T,h=>by
  have:=hl T
  simp only[bG] at h
  simp only[rS,h.1] at this
  simp[wid,this]
 | .jq U a,T,h=>by
  have:=hl T
  simp only[bG] at h
  obtain⟨⟨ms,hm⟩,_⟩:=h
  simp only[rS,hm] at this
  simp[wid,this]
 | .jJ K V ks vs,T,h=>by
  have:=hl T
  simp only[bG] at h
  simp only[rS,h.1] at this
  simp[wid,this]
 | .cP,_,h=>by simp[bG] at h
 | .bp _,_,h=>by simp[bG] at h
 | .ar _ _ _,_,h=>by simp[bG] at h
 | .ptr _ _ _ _,_,h=>by simp[bG] at h
 | .mp _,_,h=>by simp[bG] at h
 | .cK _,_,h=>by simp[bG] at h
 | .kx _ _,_,h=>by simp[bG] at h
 | .bQ _ _,_,h=>by simp[bG] at h
theorem vz{P:Program}(hl:eW P): ∀(l:List AV) (fs:List Field) (n t:Nat),dI P l fs->zo P fs n t->n+eU l=t
 |[],[],n,t,_,h=>by simpa[zo,eU] using h
 |[],_::_,_,_,h,_=>by simp[dI] at h
 |_::_,[],_,_,h,_=>by simp[dI] at h
 |a::l,f::fs,n,t,h,hy=>by
  simp only[dI] at h
  simp only[zo] at hy
  have:=vz hl l fs _ t h.2 hy.2
  have h1:=dD hl a f.type h.1
  simp only[eU]
  omega
end
structure b8(C C':Ctx):Prop where
 P:C'.P=C.P
 X: ∀b,C.X b->C'.X b
 heap: ∀b,C.X b->C'.w.heap[b]? =C.w.heap[b]?
theorem b8.cell{C C':Ctx}(h:b8 C C'){b:Nat}(hb:C.X b)(j:Nat):C'.w.cell? ⟨b,j,none⟩=C.w.cell? ⟨b,j,none⟩:=by
 unfold World.cell?
 rw[h.heap b hb]
theorem b8.refl(C:Ctx):b8 C C:=⟨rfl,fun _ h=>h,fun _ _=>rfl⟩
theorem b8.trans{A B C:Ctx}(h:b8 A B)(k:b8 B C):b8 A C:=
 ⟨k.P.trans h.P,fun b hb=>k.X b (h.X b hb),fun b hb=>(k.heap b (h.X b hb)).trans (h.heap b hb)⟩
mutual
theorem mA{C C':Ctx}(hk:b8 C C')(hl:eW C.P): ∀(a:AV) (T:TypeId) (s s':Src) (o o':Nat),bG C.P a T->
  (∀j,j<wid a->s' (o'+j)=s (o+j))->M C a s o->M C' a s' o'
 | .lit v,T,s,s',o,o',_,hs,h=>by
  simp only[M] at h⊢
  have:=hs 0 (by simp[wid])
  simp at this
  rw[this];exact h
 | .ad E l,T,s,s',o,o',ht,hs,h=>by
  simp only[M] at h⊢
  have h0:=hs 0 (by simp[wid])
  simp at h0
  obtain⟨h1,p,cap,h2,h3,h4⟩:=h
  rw[hk.P]
  refine⟨h1,p,cap,by rw[h0];exact h2,h3,fun hne=>?_⟩
  obtain⟨b,off,hp,hb,hm⟩:=h4 hne
  refine⟨b,off,hp,hk.X b hb,?_⟩
  exact fQ hk hl l E _ _ _ _ h1 (fun j _=>hk.cell hb _) hm
 | .agg l,T,s,s',o,o',ht,hs,h=>by
  simp only[M] at h⊢
  simp only[bG] at ht
  obtain⟨fs,_,h2⟩:=ht
  exact FO hk hl l fs.toList s s' o o' h2 (by simpa[wid] using hs) h
 | .jX E a,T,s,s',o,o',ht,hs,h=>by
  simp only[M] at h⊢
  have h0:=hs 0 (by simp[wid])
  simp at h0
  simp only[bG] at ht
  obtain⟨b,off,h1,h2,h3,h4⟩:=h
  rw[hk.P]
  exact⟨b,off,by rw[h0];exact h1,hk.X b h2,h3,mA hk hl a E _ _ _ _ ht.2 (fun j _=>hk.cell h2 _) h4⟩
 | .jq U a,T,s,s',o,o',ht,hs,h=>by
  simp only[M] at h⊢
  have h0:=hs 0 (by simp[wid])
  simp at h0
  simp only[bG] at ht
  obtain⟨u,h1,h2,h3,h4⟩:=h
  exact⟨u,by rw[h0];exact h1,h2,h3,mA hk hl a U _ _ _ _ ht.2 (fun j _=>rfl) h4⟩
 | .jJ K V ks vs,T,s,s',o,o',ht,hs,h=>by
  simp only[M] at h⊢
  have h0:=hs 0 (by simp[wid])
  simp at h0
  simp only[bG] at ht
  rw[h0,hk.P]
  rcases h with h|⟨b,ents,clock,h1,h2,h3,h4,h5,h6,h7⟩
  ·exact .inl h
  ·exact .inr ⟨b,ents,clock,h1,hk.X b h2,by rw[hk.heap b h2];exact h3,h4,h5,h6,oH hk hl vs V _ h6 h7⟩
 | .cP,_,_,_,_,_,h,_,_=>by simp[bG] at h
 | .bp _,_,_,_,_,_,h,_,_=>by simp[bG] at h
 | .ar _ _ _,_,_,_,_,_,h,_,_=>by simp[bG] at h
 | .ptr _ _ _ _,_,_,_,_,_,h,_,_=>by simp[bG] at h
 | .mp _,_,_,_,_,_,h,_,_=>by simp[bG] at h
 | .cK _,_,_,_,_,_,h,_,_=>by simp[bG] at h
 | .kx _ _,_,_,_,_,_,h,_,_=>by simp[bG] at h
 | .bQ _ _,_,_,_,_,_,h,_,_=>by simp[bG] at h
theorem oH{C C':Ctx}(hk:b8 C C')(hl:eW C.P): ∀(l:List AV) (T:TypeId) (vs:List Value),bM C.P l T->MT C l vs->MT C' l vs
 |[],_,vs,_,h=>by simpa[MT] using h
 |_::_,_,[],_,h=>by simp[MT] at h
 |a::l,T,v::vs,ht,h=>by
  simp only[bM] at ht
  simp only[MT] at h⊢
  exact⟨h.1,h.2.1,mA hk hl a T _ _ _ _ ht.1 (fun j _=>rfl) h.2.2.1,oH hk hl l T vs ht.2 h.2.2.2⟩
theorem FO{C C':Ctx}(hk:b8 C C')(hl:eW C.P): ∀(l:List AV) (fs:List Field) (s s':Src) (o o':Nat),dI C.P l fs->
  (∀j,j<eU l->s' (o'+j)=s (o+j))->ML C l s o->ML C' l s' o'
 |[],_,_,_,_,_,_,_,_=>by simp[ML]
 |_::_,[],_,_,_,_,h,_,_=>by simp[dI] at h
 |a::l,f::fs,s,s',o,o',ht,hs,h=>by
  simp only[dI] at ht
  simp only[ML,eU] at h hs⊢
  refine⟨mA hk hl a f.type s s' o o' ht.1 (fun j hj=>hs j (by omega)) h.1,FO hk hl l fs s s' _ _ ht.2 (fun j hj=>?_) h.2⟩
  have:=hs (wid a+j) (by omega)
  rw[show o'+wid a+j=o'+(wid a+j) by omega,this]
  congr 1;omega
theorem fQ{C C':Ctx}(hk:b8 C C')(hl:eW C.P): ∀(l:List AV) (T:TypeId) (s s':Src) (o o':Nat),bM C.P l T->
  (∀j,j<l.length*C.P.cellsOf T->s' (o'+j)=s (o+j))->MR C l (C.P.cellsOf T) s o->MR C' l (C.P.cellsOf T) s' o'
 |[],_,_,_,_,_,_,_,_=>by simp[MR]
 |a::l,T,s,s',o,o',ht,hs,h=>by
  simp only[bM] at ht
  simp only[MR] at h⊢
  have hw:=dD hl a T ht.1
  have hlen:(a::l).length*C.P.cellsOf T=l.length*C.P.cellsOf T+C.P.cellsOf T:=by simp[Nat.add_mul]
  refine⟨mA hk hl a T s s' o o' ht.1 (fun j hj=>hs j (by omega)) h.1,?_⟩
  refine fQ hk hl l T s s' (o+C.P.cellsOf T) (o'+C.P.cellsOf T) ht.2 (fun j hj=>?_) h.2
  have:=hs (C.P.cellsOf T+j) (by omega)
  rw[show o'+C.P.cellsOf T+j=o'+(C.P.cellsOf T+j) by omega,this]
  congr 1;omega
end
structure ee(en:Array MapEntry)(cl:Nat)(en':Array MapEntry)(cl':Nat):Prop where
 fwd: ∀e,e∈en->∃e',e'∈en'/\e'.key=e.key/\e'.born=e.born
 bwd: ∀e',e'∈en'->e'.born<cl->∃e,e∈en/\e.key=e'.key/\e.born=e'.born
 size:en'.size+cl=en.size+cl'
 le:cl<=cl'
theorem ee.refl(en:Array MapEntry)(cl:Nat):ee en cl en cl:=⟨fun e he=>⟨e,he,rfl,rfl⟩,fun e he _=>⟨e,he,rfl,rfl⟩,rfl,Nat.le_refl _⟩
theorem ee.trans{a b c:Array MapEntry}{x y z:Nat}(h:ee a x b y)(k:ee b y c z):ee a x c z:=by
 refine⟨fun e he=>?_,fun e he hb=>?_,by have:=h.size;have:=k.size;omega,Nat.le_trans h.le k.le⟩
 ·obtain⟨e1,h1,h2,h3⟩:=h.fwd e he
  obtain⟨e2,k1,k2,k3⟩:=k.fwd e1 h1
  exact⟨e2,k1,k2.trans h2,k3.trans h3⟩
 ·obtain⟨e1,h1,h2,h3⟩:=k.bwd e he (Nat.lt_of_lt_of_le hb h.le)
  obtain⟨e2,k1,k2,k3⟩:=h.bwd e1 h1 (by omega)
  exact⟨e2,k1,k2.trans h2,k3.trans h3⟩
structure ck(C C':Ctx)(i j:Nat):Prop where
 lt:j<C'.st.length
 row: ∀T xs',ia (az C'.st j)=some (T,xs')->∃xs,ia (az C.st i)=some (T,xs)/\C'.ι j=C.ι i/\xs.length<=xs'.length
 box: ∀T a',az C'.st j= .box T a'->∃a,az C.st i= .box T a/\C'.ι j=C.ι i
 map: ∀K V es',az C'.st j= .map K V es'->∃es,az C.st i= .map K V es/\C'.ι j=C.ι i/\
  ∀entries clock,C.w.heap[(C.ι i).block]? =some (.map entries clock)->∃entries' clock',C'.w.heap[(C.ι i).block]? =some (.map entries' clock')/\
   ee entries clock entries' clock'
 loop: ∀r',az C'.st j= .loop r'->∃r,az C.st i= .loop r/\C'.ι j=C.ι i
 iter: ∀m n ks,az C'.st j= .iter m n ks->∃m' ks',az C.st i= .iter m' n ks'/\C'.ι j=C.ι i
 ext: ∀t,az C'.st j= .ext t->∃t',az C.st i= .ext t'/\C'.ι j=C.ι i
 dC: ∀s p,az C'.st j= .dC s p->∃p',az C.st i= .dC s p'/\C'.ι j=C.ι i
 fit: ∀K V ks vs met,az C'.st j= .fit K V ks vs met->∃met',az C.st i= .fit K V ks vs met'/\C'.ι j=C.ι i
 rows: ∀T E ls pd,az C'.st j= .rows T E ls pd->∃ls' pd',az C.st i= .rows T E ls' pd'/\C'.ι j=C.ι i/\ls.length=ls'.length/\
  ∀k m v,mr C (C.ι i).block E k (cd ls' k) m v->mr C' (C.ι i).block E k (cd ls k) m v
theorem lF.move{C C':Ctx}(hk:b8 C C'){i j lo n:Nat}{v:Value}(h:ck C C' i j)(hv:lF C i lo n v):lF C' j lo n v:=by
 refine⟨fun T xs' hx=>?_,fun T E ls pd hx=>?_⟩
 ·obtain⟨xs,h1,h2,h3⟩:=h.row T xs' hx
  obtain⟨h4,h5⟩:=hv.1 T xs h1
  rw[hk.P,h2]
  exact⟨by omega,h5⟩
 ·obtain⟨ls',pd',h1,h2,h3,h4⟩:=h.rows T E ls pd hx
  have h5:=hv.2 T E ls' pd' h1
  rw[h2]
  cases lo with
  |zero=>exact⟨by rw[h3];exact h5.1,h5.2⟩
  |succ k=>exact⟨by rw[h3];exact h5.1,h4 k n v h5.2⟩
theorem pE.move{C C':Ctx}(hk:b8 C C'){i j k off:Nat}{v:Value}(h:ck C C' i j)(hv:pE C i k off v):pE C' j k off v:=by
 refine⟨fun T xs' hx=>?_,fun T a' hx=>?_,fun m n ks hx=>?_,fun s p hx=>?_,fun K V ks vs met hx=>?_,fun T E ls pd hx=>?_⟩
 ·obtain⟨xs,h1,h2,h3⟩:=h.row T xs' hx
  obtain⟨h4,h5⟩:=hv.1 T xs h1
  rw[hk.P,h2]
  exact⟨by omega,h5⟩
 ·obtain⟨a,h1,h2⟩:=h.box T a' hx
  rw[h2]
  exact hv.2.1 T a h1
 ·obtain⟨m',ks',h1,h2⟩:=h.iter m n ks hx
  rw[h2]
  exact hv.2.2.1 _ _ _ h1
 ·obtain⟨p',h1,h2⟩:=h.dC s p hx
  rw[h2]
  exact hv.2.2.2.1 _ _ h1
 ·obtain⟨met',h1,h2⟩:=h.fit K V ks vs met hx
  rw[h2]
  exact hv.2.2.2.2.1 _ _ _ _ _ h1
 ·obtain⟨ls',pd',h1,h2,h3,_⟩:=h.rows T E ls pd hx
  rw[h2,h3]
  exact hv.2.2.2.2.2 _ _ _ _ h1
theorem Lk.move{C C':Ctx}{i j:Nat}{v:Value}(h:ck C C' i j)(hv:Lk C i v):Lk C' j v:=by
 intro K V es' hx
 obtain⟨es,h1,h2,_⟩:=h.map K V es' hx
 rw[h2];exact hv K V es h1
theorem x3.move{C C':Ctx}{i j:Nat}{v:Value}(h:ck C C' i j)(hv:x3 C i v):x3 C' j v:=by
 refine⟨fun r' hx=>?_,fun t hx=>?_⟩
 ·obtain⟨r,h1,h2⟩:=h.loop r' hx
  rw[h2];exact hv.1 r h1
 ·obtain⟨r,h1,h2⟩:=h.ext t hx
  rw[h2];exact hv.2 r h1
theorem w6.move{C C':Ctx}{i j:Nat}{key v:Value}(h:ck C C' i j)(hv:w6 C i key v):w6 C' j key v:=by
 intro K V es' hx
 obtain⟨es,h1,h2,h3⟩:=h.map K V es' hx
 obtain⟨entries,clock,hh,e,he,hek,hv'⟩:=hv K V es h1
 obtain⟨entries',clock',hh',hall⟩:=h3 entries clock hh
 obtain⟨e',he',hk',hb'⟩:=hall.fwd e he
 rw[h2]
 exact⟨entries',clock',hh',e',he',by rw[hk',hek],by rw[hb'];exact hv'⟩
@[simp] theorem Ab (ρ:Nat->Option Nat): ∀a:AV,b9 (lP ρ a)=b9 a
 | .agg l=>by simp[lP,b9]
 | .cP| .lit _| .ad _ _| .bp _| .jX _ _| .bQ _ _| .jq _ _| .jJ _ _ _ _=>by simp[lP,b9]
 | .ar i _ _| .ptr i _ _ _| .mp i| .cK i| .kx i _=>by simp only[lP];split<;>simp[b9]
mutual
theorem o5(ρ:Nat->Option Nat): ∀a:AV,wid (lP ρ a)=wid a
 | .agg l=>by simp only[lP,wid];exact B6 ρ l
 | .cP| .lit _| .ad _ _| .bp _| .jX _ _| .bQ _ _| .jq _ _| .jJ _ _ _ _=>by simp[lP,wid]
 | .ar i _ _| .ptr i _ _ _| .mp i| .cK i| .kx i _=>by simp only[lP];split<;>simp[wid]
theorem B6(ρ:Nat->Option Nat): ∀l:List AV,eU (fW ρ l)=eU l
 |[]=>by simp[fW,eU]
 |a::l=>by simp only[fW,eU,o5 ρ a,B6 ρ l]
end
mutual
theorem pS{C C':Ctx}(hk:b8 C C')(hl:eW C.P)(ρ:Nat->Option Nat): ∀(a:AV) (s s':Src) (o o':Nat),
  (∀i,i∈refs a->i<C.st.length->∃j,ρ i=some j/\ck C C' i j)->
  (∀j,j<wid a->s' (o'+j)=s (o+j))->M C a s o->M C' (lP ρ a) s' o'
 | .cP,_,_,_,_,_,_,_=>by simp[lP,M]
 | .lit v,s,s',o,o',_,hs,h=>by
  simp only[lP,M] at h⊢
  have:=hs 0 (by simp[wid])
  simp at this
  rw[this];exact h
 | .ad E l,s,s',o,o',_,hs,h=>by
  simp only[lP,M] at h⊢
  have h0:=hs 0 (by simp[wid])
  simp at h0
  obtain⟨h1,p,cap,h2,h3,h4⟩:=h
  rw[hk.P]
  refine⟨h1,p,cap,by rw[h0];exact h2,h3,fun hne=>?_⟩
  obtain⟨b,off,hp,hb,hm⟩:=h4 hne
  exact⟨b,off,hp,hk.X b hb,fQ hk hl l E _ _ _ _ h1 (fun j _=>hk.cell hb _) hm⟩
 | .agg l,s,s',o,o',hr,hs,h=>by
  simp only[lP,M] at h⊢
  exact AD hk hl ρ l s s' o o' (by simpa[refs] using hr) (by simpa[wid] using hs) h
 | .bp l,s,s',o,o',hr,hs,h=>by
  simp only[lP,M] at h⊢
  have h0:=hs 0 (by simp[wid])
  simp at h0
  obtain⟨vs,h1,h2⟩:=h
  exact⟨vs,by rw[h0];exact h1,kk hk hl ρ l _ (by simpa[refs] using hr) h2⟩
 | .ar i lo n,s,s',o,o',hr,hs,h=>by
  simp only[M] at h
  obtain⟨hi,v,h1,h2,h3⟩:=h
  obtain⟨j,hj,hrf⟩:=hr i (by simp[refs]) hi
  have h0:=hs 0 (by simp[wid])
  simp at h0
  simp only[lP,hj,M]
  exact⟨hrf.lt,v,by rw[h0];exact h1,h2,h3.move hk hrf⟩
 | .ptr i k p off,s,s',o,o',hr,hs,h=>by
  simp only[M] at h
  obtain⟨hi,v,h1,h2,h3⟩:=h
  obtain⟨j,hj,hrf⟩:=hr i (by simp[refs]) hi
  have h0:=hs 0 (by simp[wid])
  simp at h0
  simp only[lP,hj,M]
  exact⟨hrf.lt,v,by rw[h0];exact h1,h2,h3.move hk hrf⟩
 | .jX T a,s,s',o,o',_,hs,h=>by
  simp only[lP,M] at h⊢
  have h0:=hs 0 (by simp[wid])
  simp at h0
  obtain⟨b,off,h1,h2,h3,h4⟩:=h
  rw[hk.P]
  exact⟨b,off,by rw[h0];exact h1,hk.X b h2,h3,mA hk hl a T _ _ _ _ h3 (fun j _=>hk.cell h2 _) h4⟩
 | .mp i,s,s',o,o',hr,hs,h=>by
  simp only[M] at h
  obtain⟨hi,v,h1,h2,h3⟩:=h
  obtain⟨j,hj,hrf⟩:=hr i (by simp[refs]) hi
  have h0:=hs 0 (by simp[wid])
  simp at h0
  simp only[lP,hj,M]
  exact⟨hrf.lt,v,by rw[h0];exact h1,h2,h3.move hrf⟩
 | .cK i,s,s',o,o',hr,hs,h=>by
  simp only[M] at h
  obtain⟨hi,v,h1,h2,h3⟩:=h
  obtain⟨j,hj,hrf⟩:=hr i (by simp[refs]) hi
  have h0:=hs 0 (by simp[wid])
  simp at h0
  simp only[lP,hj,M]
  exact⟨hrf.lt,v,by rw[h0];exact h1,h2,h3.move hrf⟩
 | .kx i key,s,s',o,o',hr,hs,h=>by
  simp only[M] at h
  obtain⟨hi,v,h1,h2,h3⟩:=h
  obtain⟨j,hj,hrf⟩:=hr i (by simp[refs]) hi
  have h0:=hs 0 (by simp[wid])
  simp at h0
  simp only[lP,hj,M]
  exact⟨hrf.lt,v,by rw[h0];exact h1,h2,h3.move hrf⟩
 | .bQ f caps,s,s',o,o',hr,hs,h=>by
  simp only[lP,M] at h⊢
  have h0:=hs 0 (by simp[wid])
  simp at h0
  obtain⟨vs,h1,h2⟩:=h
  exact⟨vs,by rw[h0];exact h1,kk hk hl ρ caps _ (by simpa[refs] using hr) h2⟩
 | .jq T a,s,s',o,o',hr,hs,h=>by
  simp only[lP,M] at h⊢
  have h0:=hs 0 (by simp[wid])
  simp at h0
  obtain⟨u,h1,h2,h3,h4⟩:=h
  exact⟨u,by rw[h0];exact h1,by rw[h2,Ab],by rw[h3,o5],pS hk hl ρ a _ _ _ _ (by simpa[refs] using hr) (fun j _=>rfl) h4⟩
 | .jJ K V ks vs,s,s',o,o',_,hs,h=>by
  simp only[lP,M] at h⊢
  have h0:=hs 0 (by simp[wid])
  simp at h0
  rw[h0,hk.P]
  rcases h with h|⟨b,ents,clock,h1,h2,h3,h4,h5,h6,h7⟩
  ·exact .inl h
  ·exact .inr ⟨b,ents,clock,h1,hk.X b h2,by rw[hk.heap b h2];exact h3,h4,h5,h6,oH hk hl vs V _ h6 h7⟩
theorem AD{C C':Ctx}(hk:b8 C C')(hl:eW C.P)(ρ:Nat->Option Nat): ∀(l:List AV) (s s':Src) (o o':Nat),
  (∀i,i∈de l->i<C.st.length->∃j,ρ i=some j/\ck C C' i j)->
  (∀j,j<eU l->s' (o'+j)=s (o+j))->ML C l s o->ML C' (fW ρ l) s' o'
 |[],_,_,_,_,_,_,_=>by simp[fW,ML]
 |a::l,s,s',o,o',hr,hs,h=>by
  simp only[fW,ML,eU] at h hs⊢
  refine⟨pS hk hl ρ a s s' o o' (fun i hi=>hr i (by simp[de,hi])) (fun j hj=>hs j (by omega)) h.1,?_⟩
  rw[o5]
  refine AD hk hl ρ l s s' _ _ (fun i hi=>hr i (by simp[de,hi])) (fun j hj=>?_) h.2
  have:=hs (wid a+j) (by omega)
  rw[show o'+wid a+j=o'+(wid a+j) by omega,this]
  congr 1;omega
theorem kk{C C':Ctx}(hk:b8 C C')(hl:eW C.P)(ρ:Nat->Option Nat): ∀(l:List AV) (vs:List Value),
  (∀i,i∈de l->i<C.st.length->∃j,ρ i=some j/\ck C C' i j)->MT C l vs->MT C' (fW ρ l) vs
 |[],vs,_,h=>by simpa[fW,MT] using h
 |_::_,[],_,h=>by simp[MT] at h
 | a::l,v::vs,hr,h=>by
  simp only[fW,MT] at h⊢
  refine⟨?_,?_,pS hk hl ρ a _ _ _ _ (fun i hi=>hr i (by simp[de,hi])) (fun j _=>rfl) h.2.2.1,
   kk hk hl ρ l vs (fun i hi=>hr i (by simp[de,hi])) h.2.2.2⟩
  ·rw[Ab];exact h.1.imp id (fun e=>by subst e;rfl)
  ·rw[o5];exact h.2.1.imp id (fun e=>by subst e;rfl)
end
theorem Rel.move{C C':Ctx}(hk:b8 C C')(hl:eW C.P)(ρ:Nat->Option Nat){a:AV}{v:Value}
  (hr: ∀i,i∈refs a->i<C.st.length->∃j,ρ i=some j/\ck C C' i j) (h:Rel C a v):Rel C' (lP ρ a) v:=by
 refine⟨?_,?_,pS hk hl ρ a _ _ _ _ hr (fun j _=>rfl) h.2.2⟩
 ·rw[Ab];exact h.1.imp id (fun e=>by subst e;rfl)
 ·rw[o5];exact h.2.1.imp id (fun e=>by subst e;rfl)
mutual
theorem lh: ∀a:AV,lP some a=a
 | .agg l=>by simp only[lP,fC l]
 | .bp l=>by simp only[lP,fC l]
 | .bQ f l=>by simp only[lP,fC l]
 | .jq T a=>by simp only[lP,lh a]
 | .cP| .lit _| .ad _ _| .jX _ _| .jJ _ _ _ _=>by simp[lP]
 | .ar i _ _| .ptr i _ _ _| .mp i| .cK i| .kx i _=>by simp[lP]
theorem fC: ∀l:List AV,fW some l=l
 |[]=>by simp[fW]
 |a::l=>by simp only[fW,lh a,fC l]
end
theorem M.eQ{C C':Ctx}(hk:b8 C C')(hl:eW C.P){a:AV}{s s':Src}{o o':Nat}
  (hr: ∀i,i∈refs a->i<C.st.length->ck C C' i i) (hs: ∀j,j<wid a->s' (o'+j)=s (o+j)) (h:M C a s o):M C' a s' o':=by
 have:=pS hk hl some a s s' o o' (fun i hi hlt=>⟨i,rfl,hr i hi hlt⟩) hs h
 rwa [lh] at this
theorem Rel.eQ{C C':Ctx}(hk:b8 C C')(hl:eW C.P){a:AV}{v:Value}
  (hr: ∀i,i∈refs a->i<C.st.length->ck C C' i i) (h:Rel C a v):Rel C' a v:=by
 have:=h.move hk hl some (fun i hi hlt=>⟨i,rfl,hr i hi hlt⟩)
 rwa [lh] at this
end Go.Dn
