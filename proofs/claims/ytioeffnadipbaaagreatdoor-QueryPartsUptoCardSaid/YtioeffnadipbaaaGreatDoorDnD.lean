import Derived.Test.YtioeffnadipbaaaGreatDoorDnC
namespace Go.Dn
open Go
def AO(P:Program):List Field->Nat->Nat->Prop
 |[],n,t=>n=t
 |f::fs,n,t=>f.offset=n/\AO P fs (n+P.cellsOf f.type) t
def s7(P:Program)(T:TypeId):Prop:=
 match P.underlying T with
 |some (.struct a)=>T<P.types.size->AO P a.toList 0 (P.cellsOf T)
 |some (.array _ _)=>True
 |some _=>P.cellsOf T=1
 |none=>True
def eU(P:Program):Prop:=∀T,s7 P T
mutual
theorem dw{P:Program}(hl:eU P): ∀(a:AV) (T:TypeId),bu P a T->wid a=P.cellsOf T
 | .lit v,T,h=>by
  have:=hl T
  simp only[bu,s7] at h this;simp only[wid];split at h<;>simp_all
 | .ad E l,T,h=>by
  have:=hl T
  simp only[bu] at h;simp only[s7,h.1] at this;simp[wid,this]
 | .agg l,T,h=>by
  have hT:=hl T;simp only[bu] at h;obtain⟨fs,h1,h2⟩:=h;simp only[s7,h1.1] at hT;have:=xE hl l fs.toList 0 _ h2 (hT h1.2)
  simp only[wid];omega
 | .jA E a,T,h=>by
  have:=hl T
  simp only[bu] at h;simp only[s7,h.1] at this;simp[wid,this]
 | .jz U a,T,h=>by
  have:=hl T
  simp only[bu] at h;obtain⟨⟨ms,hm⟩,_⟩:=h;simp only[s7,hm] at this;simp[wid,this]
 | .eO K V ks vs,T,h=>by
  have:=hl T
  simp only[bu] at h;simp only[s7,h.1] at this;simp[wid,this]
 | .cK,_,h=>by simp[bu] at h
 | .aK _,_,h=>by simp[bu] at h
 | .ax _ _ _,_,h=>by simp[bu] at h
 | .ptr _ _ _ _,_,h=>by simp[bu] at h
 | .mp _,_,h=>by simp[bu] at h
 | .bJ _,_,h=>by simp[bu] at h
 | .lC _ _,_,h=>by simp[bu] at h
 | .bp _ _,_,h=>by simp[bu] at h
theorem xE{P:Program}(hl:eU P): ∀(l:List AV) (fs:List Field) (n t:Nat),ea P l fs->AO P fs n t->n+eL l=t
 |[],[],n,t,_,h=>by simpa[AO,eL] using h
 |[],_::_,_,_,h,_=>by simp[ea] at h
 |_::_,[],_,_,h,_=>by simp[ea] at h
 |a::l,f::fs,n,t,h,hy=>by
  simp only[ea] at h;simp only[AO] at hy;have:=xE hl l fs _ t h.2 hy.2
  have h1:=dw hl a f.type h.1;simp only[eL];omega
end
structure bK(C C':Ctx):Prop where
 P:C'.P=C.P
 X: ∀b,C.X b->C'.X b
 heap: ∀b,C.X b->C'.w.heap[b]? =C.w.heap[b]?
theorem bK.cell{C C'}(h:bK C C'){b}(hb:C.X b) j:C'.w.cell? ⟨b,j,none⟩=C.w.cell? ⟨b,j,none⟩:=by
 unfold World.cell?;rw[h.heap b hb]
theorem bK.refl C:bK C C:=⟨rfl,fun _ h=>h,by simp⟩
theorem bK.trans{A B C}(h:bK A B)(k:bK B C):bK A C:=
 ⟨k.P.trans h.P,fun b a=>k.X b (h.X b a),fun b a=>(k.heap b (h.X b a)).trans (h.heap b a)⟩
mutual
theorem mg{C C':Ctx}(hk:bK C C')(hl:eU C.P): ∀(a:AV) (T:TypeId) (s s':Src) (o o':Nat),bu C.P a T->
  (∀j,j<wid a->s' (o'+j)=s (o+j))->M C a s o->M C' a s' o'
 | .lit v,T,s,s',o,o',_,hs,h=>by
  simp only[M] at h⊢;have:=hs 0 (by simp[wid])
  simp at this;rw[this];exact h
 | .ad E l,T,s,s',o,o',ht,hs,h=>by
  simp only[M] at h⊢;have h0:=hs 0 (by simp[wid]);simp at h0;obtain⟨h1,p,cap,h2,h3,h4⟩:=h;rw[hk.P];refine⟨h1,p,cap,by rw[h0];exact h2,h3,fun hne=>?_⟩;obtain⟨b,off,hp,hb,hm⟩:=h4 hne;refine⟨b,off,hp,hk.X b hb,?_⟩;exact gg hk hl l E _ _ _ _ h1 (fun j _=>hk.cell hb _) hm
 | .agg l,T,s,s',o,o',ht,hs,h=>by
  simp only[M] at h⊢;simp only[bu] at ht;obtain⟨fs,_,h2⟩:=ht;exact Gs hk hl l fs.toList s s' o o' h2 (by simpa[wid] using hs) h
 | .jA E a,T,s,s',o,o',ht,hs,h=>by
  simp only[M] at h⊢;have h0:=hs 0 (by simp[wid]);simp at h0;simp only[bu] at ht;obtain⟨b,off,h1,h2,h3,h4⟩:=h;rw[hk.P];exact⟨b,off,by rw[h0];exact h1,hk.X b h2,h3,mg hk hl a E _ _ _ _ ht.2 (fun j _=>hk.cell h2 _) h4⟩
 | .jz U a,T,s,s',o,o',ht,hs,h=>by
  simp only[M] at h⊢;have h0:=hs 0 (by simp[wid]);simp at h0;simp only[bu] at ht;obtain⟨u,h1,h2,h3,h4⟩:=h;exact⟨u,by rw[h0];exact h1,h2,h3,mg hk hl a U _ _ _ _ ht.2 (fun j _=>rfl) h4⟩
 | .eO K V ks vs,T,s,s',o,o',ht,hs,h=>by
  simp only[M] at h⊢;have h0:=hs 0 (by simp[wid]);simp at h0;simp only[bu] at ht;rw[h0,hk.P];rcases h with h|⟨b,ents,clock,h1,h2,h3,h4,h5,h6,h7⟩
  ·exact .inl h
  ·exact .inr ⟨b,ents,clock,h1,hk.X b h2,by rw[hk.heap b h2];exact h3,h4,h5,h6,pJ hk hl vs V _ h6 h7⟩
 | .cK,_,_,_,_,_,h,_,_=>by simp[bu] at h
 | .aK _,_,_,_,_,_,h,_,_=>by simp[bu] at h
 | .ax _ _ _,_,_,_,_,_,h,_,_=>by simp[bu] at h
 | .ptr _ _ _ _,_,_,_,_,_,h,_,_=>by simp[bu] at h
 | .mp _,_,_,_,_,_,h,_,_=>by simp[bu] at h
 | .bJ _,_,_,_,_,_,h,_,_=>by simp[bu] at h
 | .lC _ _,_,_,_,_,_,h,_,_=>by simp[bu] at h
 | .bp _ _,_,_,_,_,_,h,_,_=>by simp[bu] at h
theorem pJ{C C':Ctx}(hk:bK C C')(hl:eU C.P): ∀(l:List AV) (T:TypeId) (vs:List Value),b8 C.P l T->MT C l vs->MT C' l vs
 |[],_,vs,_,h=>by simpa[MT] using h
 |_::_,_,[],_,h=>by simp[MT] at h
 |a::l,T,v::vs,ht,h=>by
  simp only[b8] at ht;simp only[MT] at h⊢;exact⟨h.1,h.2.1,mg hk hl a T _ _ _ _ ht.1 (fun j _=>rfl) h.2.2.1,pJ hk hl l T vs ht.2 h.2.2.2⟩
theorem Gs{C C':Ctx}(hk:bK C C')(hl:eU C.P): ∀(l:List AV) (fs:List Field) (s s':Src) (o o':Nat),ea C.P l fs->
  (∀j,j<eL l->s' (o'+j)=s (o+j))->ML C l s o->ML C' l s' o'
 |[],_,_,_,_,_,_,_,_=>by simp[ML]
 |_::_,[],_,_,_,_,h,_,_=>by simp[ea] at h
 |a::l,f::fs,s,s',o,o',ht,hs,h=>by
  simp only[ea] at ht;simp only[ML,eL] at h hs⊢;refine⟨mg hk hl a f.type s s' o o' ht.1 (fun j hj=>hs j (by omega)) h.1,Gs hk hl l fs s s' _ _ ht.2 (fun j hj=>?_) h.2⟩;have:=hs (wid a+j) (by omega)
  rw[show o'+wid a+j=o'+(wid a+j) by omega,this];congr 1;omega
theorem gg{C C':Ctx}(hk:bK C C')(hl:eU C.P): ∀(l:List AV) (T:TypeId) (s s':Src) (o o':Nat),b8 C.P l T->
  (∀j,j<l.length*C.P.cellsOf T->s' (o'+j)=s (o+j))->MR C l (C.P.cellsOf T) s o->MR C' l (C.P.cellsOf T) s' o'
 |[],_,_,_,_,_,_,_,_=>by simp[MR]
 |a::l,T,s,s',o,o',ht,hs,h=>by
  simp only[b8] at ht;simp only[MR] at h⊢;have hw:=dw hl a T ht.1;have hlen:(a::l).length*C.P.cellsOf T=l.length*C.P.cellsOf T+C.P.cellsOf T:=by simp[Nat.add_mul]
  refine⟨mg hk hl a T s s' o o' ht.1 (fun j hj=>hs j (by omega)) h.1,?_⟩;refine gg hk hl l T s s' (o+C.P.cellsOf T) (o'+C.P.cellsOf T) ht.2 (fun j hj=>?_) h.2;have:=hs (C.P.cellsOf T+j) (by omega)
  rw[show o'+C.P.cellsOf T+j=o'+(C.P.cellsOf T+j) by omega,this];congr 1;omega
end
structure eb(en:Array MapEntry)(cl:Nat)(en':Array MapEntry)(cl':Nat):Prop where
 fwd: ∀e,e∈en->∃e',e'∈en'/\e'.key=e.key/\e'.born=e.born
 bwd: ∀e',e'∈en'->e'.born<cl->∃e,e∈en/\e.key=e'.key/\e.born=e'.born
 size:en'.size+cl=en.size+cl'
 le:cl<=cl'
theorem eb.refl b a:eb b a b a:=⟨by grind,by grind,rfl,Nat.le_refl _⟩
theorem eb.trans{a b c x y z}(h:eb a x b y)(k:eb b y c z):eb a x c z:=by
 refine⟨fun e f=>?_,fun e f j=>?_,by have:=h.size;have:=k.size;omega,Nat.le_trans h.le k.le⟩
 ·obtain⟨i,d,l,m⟩:=h.fwd e f
  obtain⟨n,o,p,g⟩:=k.fwd _ d
  grind
 ·obtain⟨i,d,l,m⟩:=k.bwd e f (Nat.lt_of_lt_of_le j h.le)
  obtain⟨n,o,p,g⟩:=h.bwd _ d (by omega)
  grind
structure bW(C C':Ctx)(i j:Nat):Prop where
 lt:j<C'.st.length
 row: ∀T xs',ib (au C'.st j)=some (T,xs')->∃xs,ib (au C.st i)=some (T,xs)/\C'.ι j=C.ι i/\xs.length<=xs'.length
 box: ∀T a',au C'.st j= .box T a'->∃a,au C.st i= .box T a/\C'.ι j=C.ι i
 map: ∀K V es',au C'.st j= .map K V es'->∃es,au C.st i= .map K V es/\C'.ι j=C.ι i/\
  ∀entries clock,C.w.heap[(C.ι i).block]? =some (.map entries clock)->∃entries' clock',C'.w.heap[(C.ι i).block]? =some (.map entries' clock')/\
   eb entries clock entries' clock'
 loop: ∀r',au C'.st j= .loop r'->∃r,au C.st i= .loop r/\C'.ι j=C.ι i
 iter: ∀m n ks,au C'.st j= .iter m n ks->∃m' ks',au C.st i= .iter m' n ks'/\C'.ι j=C.ι i
 ext: ∀t,au C'.st j= .ext t->∃t',au C.st i= .ext t'/\C'.ι j=C.ι i
 dy: ∀s p,au C'.st j= .dy s p->∃p',au C.st i= .dy s p'/\C'.ι j=C.ι i
 fit: ∀K V ks vs met,au C'.st j= .fit K V ks vs met->∃met',au C.st i= .fit K V ks vs met'/\C'.ι j=C.ι i
 rows: ∀T E ls pd,au C'.st j= .rows T E ls pd->∃ls' pd',au C.st i= .rows T E ls' pd'/\C'.ι j=C.ι i/\ls.length=ls'.length/\
  ∀k m v,mx C (C.ι i).block E k (ez ls' k) m v->mx C' (C.ι i).block E k (ez ls k) m v
theorem lH.move{C C'}(hk:bK C C'){i j lo n v}(h:bW C C' i j)(hv:lH C i lo n v):lH C' j lo n v:=by
 refine⟨fun T xs' hx=>?_,fun T E ls pd hx=>?_⟩
 ·obtain⟨xs,h1,h2,h3⟩:=h.row T _ hx
  obtain⟨h4,h5⟩:=hv.1 T xs h1;rw[hk.P]
  grind
 ·obtain⟨ls',pd',h1,h2,h3,h4⟩:=h.rows T E ls pd hx
  have h5:=hv.2 T E _ _ h1
  grind
theorem ql.move{C C'}(hk:bK C C'){i j k off v}(h:bW C C' i j)(hv:ql C i k off v):ql C' j k off v:=by
 refine⟨fun T xs' hx=>?_,fun T a' hx=>?_,fun m n ks hx=>?_,fun s p hx=>?_,fun K V ks vs met hx=>?_,fun T E ls pd hx=>?_⟩
 ·obtain⟨xs,h1,h2,h3⟩:=h.row T _ hx
  obtain⟨h4,h5⟩:=hv.1 T _ h1;rw[hk.P]
  grind
 ·obtain⟨a,h1,h2⟩:=h.box T a' hx
  rw[h2];exact hv.2.1 T a h1
 ·obtain⟨m',ks',h1,h2⟩:=h.iter m n _ hx
  rw[h2];exact hv.2.2.1 _ _ _ h1
 ·obtain⟨p',h1,h2⟩:=h.dy s p hx
  rw[h2];exact hv.2.2.2.1 _ _ h1
 ·obtain⟨met',h1,h2⟩:=h.fit K V _ _ _ hx
  rw[h2];exact hv.2.2.2.2.1 _ _ _ _ _ h1
 ·obtain⟨ls',pd',h1,h2,h3,_⟩:=h.rows T E _ pd hx
  rw[h2,h3];exact hv.2.2.2.2.2 _ _ _ _ h1
theorem Lh.move{C C' i j v}(h:bW C C' i j)(hv:Lh C i v):Lh C' j v:=by
 intro K V es' hx;obtain⟨es,h1,h2,_⟩:=h.map K V _ hx;rw[h2];exact hv K V _ h1
theorem yK.move{C C' i j v}(h:bW C C' i j)(hv:yK C i v):yK C' j v:=by
 refine⟨fun r' hx=>?_,fun t hx=>?_⟩
 ·obtain⟨r,h1,h2⟩:=h.loop _ hx
  rw[h2];exact hv.1 r h1
 ·obtain⟨r,h1,h2⟩:=h.ext t hx
  rw[h2];exact hv.2 r h1
theorem vM.move{C C' i j key v}(h:bW C C' i j)(hv:vM C i key v):vM C' j key v:=by
 intro K V es' hx;obtain⟨es,h1,h2,h3⟩:=h.map K V _ hx;obtain⟨entries,clock,hh,e,he,hek,hv'⟩:=hv K V _ h1;obtain⟨entries',clock',hh',hall⟩:=h3 _ _ hh;obtain⟨e',he',hk',hb'⟩:=hall.fwd e he
 grind
@[simp] theorem B4 ρ: ∀a,bV (nb ρ a)=bV a
 | .agg l=>by rfl
 | .cK| .lit _| .ad _ _| .aK _| .jA _ _| .bp _ _| .jz _ _| .eO _ _ _ _=>by rfl
 | .ax i _ _| .ptr i _ _ _| .mp i| .bJ i| .lC i _=>by grind [nb,bV]
mutual
theorem pX(ρ:Nat->Option Nat): ∀a:AV,wid (nb ρ a)=wid a
 | .agg l=>by simp only[nb,wid];exact Dr ρ l
 | .cK| .lit _| .ad _ _| .aK _| .jA _ _| .bp _ _| .jz _ _| .eO _ _ _ _=>by simp[nb,wid]
 | .ax i _ _| .ptr i _ _ _| .mp i| .bJ i| .lC i _=>by simp only[nb];split<;>simp[wid]
theorem Dr(ρ:Nat->Option Nat): ∀l:List AV,eL (gG ρ l)=eL l
 |[]=>by simp[gG,eL]
 |a::l=>by simp only[gG,eL,pX ρ a,Dr ρ l]
end
mutual
theorem qG{C C':Ctx}(hk:bK C C')(hl:eU C.P)(ρ:Nat->Option Nat): ∀(a:AV) (s s':Src) (o o':Nat),
  (∀i,i∈refs a->i<C.st.length->∃j,ρ i=some j/\bW C C' i j)->
  (∀j,j<wid a->s' (o'+j)=s (o+j))->M C a s o->M C' (nb ρ a) s' o'
 | .cK,_,_,_,_,_,_,_=>by simp[nb,M]
 | .lit v,s,s',o,o',_,hs,h=>by
  simp only[nb,M] at h⊢;have:=hs 0 (by simp[wid])
  simp at this;rw[this];exact h
 | .ad E l,s,s',o,o',_,hs,h=>by
  simp only[nb,M] at h⊢;have h0:=hs 0 (by simp[wid]);simp at h0;obtain⟨h1,p,cap,h2,h3,h4⟩:=h;rw[hk.P];refine⟨h1,p,cap,by rw[h0];exact h2,h3,fun hne=>?_⟩;obtain⟨b,off,hp,hb,hm⟩:=h4 hne;exact⟨b,off,hp,hk.X b hb,gg hk hl l E _ _ _ _ h1 (fun j _=>hk.cell hb _) hm⟩
 | .agg l,s,s',o,o',hr,hs,h=>by
  simp only[nb,M] at h⊢;exact Af hk hl ρ l s s' o o' (by simpa[refs] using hr) (by simpa[wid] using hs) h
 | .aK l,s,s',o,o',hr,hs,h=>by
  simp only[nb,M] at h⊢;have h0:=hs 0 (by simp[wid]);simp at h0;obtain⟨vs,h1,h2⟩:=h;exact⟨vs,by rw[h0];exact h1,kr hk hl ρ l _ (by simpa[refs] using hr) h2⟩
 | .ax i lo n,s,s',o,o',hr,hs,h=>by
  simp only[M] at h;obtain⟨hi,v,h1,h2,h3⟩:=h;obtain⟨j,hj,hrf⟩:=hr i (by simp[refs]) hi;have h0:=hs 0 (by simp[wid]);simp at h0;simp only[nb,hj,M];exact⟨hrf.lt,v,by rw[h0];exact h1,h2,h3.move hk hrf⟩
 | .ptr i k p off,s,s',o,o',hr,hs,h=>by
  simp only[M] at h;obtain⟨hi,v,h1,h2,h3⟩:=h;obtain⟨j,hj,hrf⟩:=hr i (by simp[refs]) hi;have h0:=hs 0 (by simp[wid]);simp at h0;simp only[nb,hj,M];exact⟨hrf.lt,v,by rw[h0];exact h1,h2,h3.move hk hrf⟩
 | .jA T a,s,s',o,o',_,hs,h=>by
  simp only[nb,M] at h⊢;have h0:=hs 0 (by simp[wid]);simp at h0;obtain⟨b,off,h1,h2,h3,h4⟩:=h;rw[hk.P];exact⟨b,off,by rw[h0];exact h1,hk.X b h2,h3,mg hk hl a T _ _ _ _ h3 (fun j _=>hk.cell h2 _) h4⟩
 | .mp i,s,s',o,o',hr,hs,h=>by
  simp only[M] at h;obtain⟨hi,v,h1,h2,h3⟩:=h;obtain⟨j,hj,hrf⟩:=hr i (by simp[refs]) hi;have h0:=hs 0 (by simp[wid]);simp at h0;simp only[nb,hj,M];exact⟨hrf.lt,v,by rw[h0];exact h1,h2,h3.move hrf⟩
 | .bJ i,s,s',o,o',hr,hs,h=>by
  simp only[M] at h;obtain⟨hi,v,h1,h2,h3⟩:=h;obtain⟨j,hj,hrf⟩:=hr i (by simp[refs]) hi;have h0:=hs 0 (by simp[wid]);simp at h0;simp only[nb,hj,M];exact⟨hrf.lt,v,by rw[h0];exact h1,h2,h3.move hrf⟩
 | .lC i key,s,s',o,o',hr,hs,h=>by
  simp only[M] at h;obtain⟨hi,v,h1,h2,h3⟩:=h;obtain⟨j,hj,hrf⟩:=hr i (by simp[refs]) hi;have h0:=hs 0 (by simp[wid]);simp at h0;simp only[nb,hj,M];exact⟨hrf.lt,v,by rw[h0];exact h1,h2,h3.move hrf⟩
 | .bp f caps,s,s',o,o',hr,hs,h=>by
  simp only[nb,M] at h⊢;have h0:=hs 0 (by simp[wid]);simp at h0;obtain⟨vs,h1,h2⟩:=h;exact⟨vs,by rw[h0];exact h1,kr hk hl ρ caps _ (by simpa[refs] using hr) h2⟩
 | .jz T a,s,s',o,o',hr,hs,h=>by
  simp only[nb,M] at h⊢;have h0:=hs 0 (by simp[wid]);simp at h0;obtain⟨u,h1,h2,h3,h4⟩:=h;exact⟨u,by rw[h0];exact h1,by rw[h2,B4],by rw[h3,pX],qG hk hl ρ a _ _ _ _ (by simpa[refs] using hr) (fun j _=>rfl) h4⟩
 | .eO K V ks vs,s,s',o,o',_,hs,h=>by
  simp only[nb,M] at h⊢;have h0:=hs 0 (by simp[wid]);simp at h0;rw[h0,hk.P];rcases h with h|⟨b,ents,clock,h1,h2,h3,h4,h5,h6,h7⟩
  ·exact .inl h
  ·exact .inr ⟨b,ents,clock,h1,hk.X b h2,by rw[hk.heap b h2];exact h3,h4,h5,h6,pJ hk hl vs V _ h6 h7⟩
theorem Af{C C':Ctx}(hk:bK C C')(hl:eU C.P)(ρ:Nat->Option Nat): ∀(l:List AV) (s s':Src) (o o':Nat),
  (∀i,i∈df l->i<C.st.length->∃j,ρ i=some j/\bW C C' i j)->
  (∀j,j<eL l->s' (o'+j)=s (o+j))->ML C l s o->ML C' (gG ρ l) s' o'
 |[],_,_,_,_,_,_,_=>by simp[gG,ML]
 |a::l,s,s',o,o',hr,hs,h=>by
  simp only[gG,ML,eL] at h hs⊢;refine⟨qG hk hl ρ a s s' o o' (fun i hi=>hr i (by simp[df,hi])) (fun j hj=>hs j (by omega)) h.1,?_⟩;rw[pX];refine Af hk hl ρ l s s' _ _ (fun i hi=>hr i (by simp[df,hi])) (fun j hj=>?_) h.2;have:=hs (wid a+j) (by omega)
  rw[show o'+wid a+j=o'+(wid a+j) by omega,this];congr 1;omega
theorem kr{C C':Ctx}(hk:bK C C')(hl:eU C.P)(ρ:Nat->Option Nat): ∀(l:List AV) (vs:List Value),
  (∀i,i∈df l->i<C.st.length->∃j,ρ i=some j/\bW C C' i j)->MT C l vs->MT C' (gG ρ l) vs
 |[],vs,_,h=>by simpa[gG,MT] using h
 |_::_,[],_,h=>by simp[MT] at h
 | a::l,v::vs,hr,h=>by
  simp only[gG,MT] at h⊢;refine⟨?_,?_,qG hk hl ρ a _ _ _ _ (fun i hi=>hr i (by simp[df,hi])) (fun j _=>rfl) h.2.2.1,
   kr hk hl ρ l vs (fun i hi=>hr i (by simp[df,hi])) h.2.2.2⟩
  ·rw[B4];exact h.1.imp id (fun e=>by subst e;rfl)
  ·rw[pX];exact h.2.1.imp id (fun e=>by subst e;rfl)
end
theorem Rel.move{C C'}(hk:bK C C')(hl:eU C.P) ρ{a v}
  (hr: ∀i,i∈refs a->i<C.st.length->∃j,ρ i=some j/\bW C C' i j) (h:Rel C a v):Rel C' (nb ρ a) v:=by
 refine⟨?_,?_,qG hk hl _ a _ _ _ _ hr (by simp) h.2.2⟩
 ·rw[B4];exact h.1.imp id fun e=>by subst e;rfl
 ·rw[pX];exact h.2.1.imp id fun e=>by subst e;rfl
mutual
theorem jZ: ∀a:AV,nb some a=a
 | .agg l=>by simp only[nb,fQ l]
 | .aK l=>by simp only[nb,fQ l]
 | .bp f l=>by simp only[nb,fQ l]
 | .jz T a=>by simp only[nb,jZ a]
 | .cK| .lit _| .ad _ _| .jA _ _| .eO _ _ _ _=>by simp[nb]
 | .ax i _ _| .ptr i _ _ _| .mp i| .bJ i| .lC i _=>by simp[nb]
theorem fQ: ∀l:List AV,gG some l=l
 |[]=>by simp[gG]
 |a::l=>by simp only[gG,jZ a,fQ l]
end
theorem M.gr{C C'}(hk:bK C C')(hl:eU C.P){a s s' o o'}
  (hr: ∀i,i∈refs a->i<C.st.length->bW C C' i i) (hs: ∀j,j<wid a->s' (o'+j)=s (o+j)) (h:M C a s o):M C' a s' o':=by
 have:=qG hk hl some a s _ o _ (by grind) hs h
 grind [jZ]
theorem Rel.gr{C C'}(hk:bK C C')(hl:eU C.P){a v}
  (hr: ∀i,i∈refs a->i<C.st.length->bW C C' i i) (h:Rel C a v):Rel C' a v:=by
 have:=h.move hk hl some (by grind)
 grind [jZ]
end Go.Dn
