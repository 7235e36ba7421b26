import Derived.Test.YtioeffnadipbaaaGreatDoorDnC
namespace Go.Dn
open Go
def BT(P:Program):List Field->Nat->Nat->Prop
 |[],n,t=>n=t
 |f::fs,n,t=>f.offset=n/\BT P fs (n+P.cellsOf f.type) t
def s8(P:Program)(T:TypeId):Prop:=
 match P.underlying T with
 |some (.struct a)=>T<P.types.size->BT P a.toList 0 (P.cellsOf T)
 |some (.array _ _)=>True
 |some _=>P.cellsOf T=1
 |none=>True
def eX(P:Program):Prop:=∀T,s8 P T
mutual
theorem dp{P:Program}(hl:eX P): ∀(a:AV) (T:TypeId),bB P a T->wid a=P.cellsOf T
 | .lit v,T,h=>by
  have:=hl T
  simp only[bB,s8] at h this;simp only[wid];split at h<;>simp_all
 | .ah E l,T,h=>by
  have:=hl T
  simp only[bB] at h;simp only[s8,h.1] at this;simp[wid,this]
 | .agg l,T,h=>by
  have hT:=hl T;simp only[bB] at h;obtain⟨fs,h1,h2⟩:=h;simp only[s8,h1.1] at hT;have:=yk hl l fs.toList 0 _ h2 (hT h1.2)
  simp only[wid];omega
 | .jh E a,T,h=>by
  have:=hl T
  simp only[bB] at h;simp only[s8,h.1] at this;simp[wid,this]
 | .jx U a,T,h=>by
  have:=hl T
  simp only[bB] at h;obtain⟨⟨ms,hm⟩,_⟩:=h;simp only[s8,hm] at this;simp[wid,this]
 | .eQ K V ks vs,T,h=>by
  have:=hl T
  simp only[bB] at h;simp only[s8,h.1] at this;simp[wid,this]
 | .cC,_,h=>by simp[bB] at h
 | .aJ _,_,h=>by simp[bB] at h
 | .an _ _ _,_,h=>by simp[bB] at h
 | .ptr _ _ _ _,_,h=>by simp[bB] at h
 | .mp _,_,h=>by simp[bB] at h
 | .cf _,_,h=>by simp[bB] at h
 | .lv _ _,_,h=>by simp[bB] at h
 | .bn _ _,_,h=>by simp[bB] at h
theorem yk{P:Program}(hl:eX P): ∀(l:List AV) (fs:List Field) (n t:Nat),dY P l fs->BT P fs n t->n+eC l=t
 |[],[],n,t,_,h=>by simpa[BT,eC] using h
 |[],_::_,_,_,h,_=>by simp[dY] at h
 |_::_,[],_,_,h,_=>by simp[dY] at h
 |a::l,f::fs,n,t,h,hy=>by
  simp only[dY] at h;simp only[BT] at hy;have:=yk hl l fs _ t h.2 hy.2
  have h1:=dp hl a f.type h.1;simp only[eC];omega
end
structure bP(C C':Ctx):Prop where
 P:C'.P=C.P
 X: ∀b,C.X b->C'.X b
 heap: ∀b,C.X b->C'.w.heap[b]? =C.w.heap[b]?
theorem bP.cell{C C'}(h:bP C C'){b}(hb:C.X b) j:C'.w.cell? ⟨b,j,none⟩=C.w.cell? ⟨b,j,none⟩:=by
 unfold World.cell?;rw[h.heap b hb]
theorem bP.refl C:bP C C:=⟨rfl,fun _ h=>h,by simp⟩
theorem bP.trans{A B C}(h:bP A B)(k:bP B C):bP A C:=
 ⟨k.P.trans h.P,fun b a=>k.X b (h.X b a),fun b a=>(k.heap b (h.X b a)).trans (h.heap b a)⟩
mutual
theorem l7{C C':Ctx}(hk:bP C C')(hl:eX C.P): ∀(a:AV) (T:TypeId) (s s':Src) (o o':Nat),bB C.P a T->
  (∀j,j<wid a->s' (o'+j)=s (o+j))->M C a s o->M C' a s' o'
 | .lit v,T,s,s',o,o',_,hs,h=>by
  simp only[M] at h⊢;have:=hs 0 (by simp[wid])
  simp at this;rw[this];exact h
 | .ah E l,T,s,s',o,o',ht,hs,h=>by
  simp only[M] at h⊢;have h0:=hs 0 (by simp[wid]);simp at h0;obtain⟨h1,p,cap,h2,h3,h4⟩:=h;rw[hk.P];refine⟨h1,p,cap,by rw[h0];exact h2,h3,fun hne=>?_⟩;obtain⟨b,off,hp,hb,hm⟩:=h4 hne;refine⟨b,off,hp,hk.X b hb,?_⟩;exact fL hk hl l E _ _ _ _ h1 (fun j _=>hk.cell hb _) hm
 | .agg l,T,s,s',o,o',ht,hs,h=>by
  simp only[M] at h⊢;simp only[bB] at ht;obtain⟨fs,_,h2⟩:=ht;exact H5 hk hl l fs.toList s s' o o' h2 (by simpa[wid] using hs) h
 | .jh E a,T,s,s',o,o',ht,hs,h=>by
  simp only[M] at h⊢;have h0:=hs 0 (by simp[wid]);simp at h0;simp only[bB] at ht;obtain⟨b,off,h1,h2,h3,h4⟩:=h;rw[hk.P];exact⟨b,off,by rw[h0];exact h1,hk.X b h2,h3,l7 hk hl a E _ _ _ _ ht.2 (fun j _=>hk.cell h2 _) h4⟩
 | .jx U a,T,s,s',o,o',ht,hs,h=>by
  simp only[M] at h⊢;have h0:=hs 0 (by simp[wid]);simp at h0;simp only[bB] at ht;obtain⟨u,h1,h2,h3,h4⟩:=h;exact⟨u,by rw[h0];exact h1,h2,h3,l7 hk hl a U _ _ _ _ ht.2 (fun j _=>rfl) h4⟩
 | .eQ K V ks vs,T,s,s',o,o',ht,hs,h=>by
  simp only[M] at h⊢;have h0:=hs 0 (by simp[wid]);simp at h0;simp only[bB] at ht;rw[h0,hk.P];rcases h with h|⟨b,ents,clock,h1,h2,h3,h4,h5,h6,h7⟩
  ·exact .inl h
  ·exact .inr ⟨b,ents,clock,h1,hk.X b h2,by rw[hk.heap b h2];exact h3,h4,h5,h6,pC hk hl vs V _ h6 h7⟩
 | .cC,_,_,_,_,_,h,_,_=>by simp[bB] at h
 | .aJ _,_,_,_,_,_,h,_,_=>by simp[bB] at h
 | .an _ _ _,_,_,_,_,_,h,_,_=>by simp[bB] at h
 | .ptr _ _ _ _,_,_,_,_,_,h,_,_=>by simp[bB] at h
 | .mp _,_,_,_,_,_,h,_,_=>by simp[bB] at h
 | .cf _,_,_,_,_,_,h,_,_=>by simp[bB] at h
 | .lv _ _,_,_,_,_,_,h,_,_=>by simp[bB] at h
 | .bn _ _,_,_,_,_,_,h,_,_=>by simp[bB] at h
theorem pC{C C':Ctx}(hk:bP C C')(hl:eX C.P): ∀(l:List AV) (T:TypeId) (vs:List Value),ck C.P l T->MT C l vs->MT C' l vs
 |[],_,vs,_,h=>by simpa[MT] using h
 |_::_,_,[],_,h=>by simp[MT] at h
 |a::l,T,v::vs,ht,h=>by
  simp only[ck] at ht;simp only[MT] at h⊢;exact⟨h.1,h.2.1,l7 hk hl a T _ _ _ _ ht.1 (fun j _=>rfl) h.2.2.1,pC hk hl l T vs ht.2 h.2.2.2⟩
theorem H5{C C':Ctx}(hk:bP C C')(hl:eX C.P): ∀(l:List AV) (fs:List Field) (s s':Src) (o o':Nat),dY C.P l fs->
  (∀j,j<eC l->s' (o'+j)=s (o+j))->ML C l s o->ML C' l s' o'
 |[],_,_,_,_,_,_,_,_=>by simp[ML]
 |_::_,[],_,_,_,_,h,_,_=>by simp[dY] at h
 |a::l,f::fs,s,s',o,o',ht,hs,h=>by
  simp only[dY] at ht;simp only[ML,eC] at h hs⊢;refine⟨l7 hk hl a f.type s s' o o' ht.1 (fun j hj=>hs j (by omega)) h.1,H5 hk hl l fs s s' _ _ ht.2 (fun j hj=>?_) h.2⟩;have:=hs (wid a+j) (by omega)
  rw[show o'+wid a+j=o'+(wid a+j) by omega,this];congr 1;omega
theorem fL{C C':Ctx}(hk:bP C C')(hl:eX C.P): ∀(l:List AV) (T:TypeId) (s s':Src) (o o':Nat),ck C.P l T->
  (∀j,j<l.length*C.P.cellsOf T->s' (o'+j)=s (o+j))->MR C l (C.P.cellsOf T) s o->MR C' l (C.P.cellsOf T) s' o'
 |[],_,_,_,_,_,_,_,_=>by simp[MR]
 |a::l,T,s,s',o,o',ht,hs,h=>by
  simp only[ck] at ht;simp only[MR] at h⊢;have hw:=dp hl a T ht.1;have hlen:(a::l).length*C.P.cellsOf T=l.length*C.P.cellsOf T+C.P.cellsOf T:=by simp[Nat.add_mul]
  refine⟨l7 hk hl a T s s' o o' ht.1 (fun j hj=>hs j (by omega)) h.1,?_⟩;refine fL hk hl l T s s' (o+C.P.cellsOf T) (o'+C.P.cellsOf T) ht.2 (fun j hj=>?_) h.2;have:=hs (C.P.cellsOf T+j) (by omega)
  rw[show o'+C.P.cellsOf T+j=o'+(C.P.cellsOf T+j) by omega,this];congr 1;omega
end
structure eb(en:Array MapEntry)(cl:Nat)(en':Array MapEntry)(cl':Nat):Prop where
 fwd: ∀e,e∈en->∃e',e'∈en'/\e'.key=e.key/\e'.born=e.born
 bwd: ∀e',e'∈en'->e'.born<cl->∃e,e∈en/\e.key=e'.key/\e.born=e'.born
 size:en'.size+cl=en.size+cl'
 le:cl<=cl'
theorem eb.refl b a:eb b a b a:=⟨by grind,by grind,rfl,Nat.le_refl _⟩
theorem eb.trans{a b c x y z}(h:eb a x b y)(k:eb b y c z):eb a x c z:=by
 refine⟨fun e f=>?_,fun e f j=>?_,by have:=h.size;have:=k.size;omega,Nat.le_trans h.le k.le⟩
 ·obtain⟨i,d,l,m⟩:=h.fwd e f
  obtain⟨n,o,p,g⟩:=k.fwd _ d
  grind
 ·obtain⟨i,d,l,m⟩:=k.bwd e f (Nat.lt_of_lt_of_le j h.le)
  obtain⟨n,o,p,g⟩:=h.bwd _ d (by omega)
  grind
structure b7(C C':Ctx)(i j:Nat):Prop where
 lt:j<C'.st.length
 row: ∀T xs',hR (ay C'.st j)=some (T,xs')->∃xs,hR (ay C.st i)=some (T,xs)/\C'.ι j=C.ι i/\xs.length<=xs'.length
 box: ∀T a',ay C'.st j= .box T a'->∃a,ay C.st i= .box T a/\C'.ι j=C.ι i
 map: ∀K V es',ay C'.st j= .map K V es'->∃es,ay C.st i= .map K V es/\C'.ι j=C.ι i/\
  ∀entries clock,C.w.heap[(C.ι i).block]? =some (.map entries clock)->∃entries' clock',C'.w.heap[(C.ι i).block]? =some (.map entries' clock')/\
   eb entries clock entries' clock'
 loop: ∀r',ay C'.st j= .loop r'->∃r,ay C.st i= .loop r/\C'.ι j=C.ι i
 iter: ∀m n ks,ay C'.st j= .iter m n ks->∃m' ks',ay C.st i= .iter m' n ks'/\C'.ι j=C.ι i
 ext: ∀t,ay C'.st j= .ext t->∃t',ay C.st i= .ext t'/\C'.ι j=C.ι i
 dq: ∀s p,ay C'.st j= .dq s p->∃p',ay C.st i= .dq s p'/\C'.ι j=C.ι i
 fit: ∀K V ks vs met,ay C'.st j= .fit K V ks vs met->∃met',ay C.st i= .fit K V ks vs met'/\C'.ι j=C.ι i
 rows: ∀T E ls pd,ay C'.st j= .rows T E ls pd->∃ls' pd',ay C.st i= .rows T E ls' pd'/\C'.ι j=C.ι i/\ls.length=ls'.length/\
  ∀k m v,mw C (C.ι i).block E k (bU ls' k) m v->mw C' (C.ι i).block E k (bU ls k) m v
theorem lA.move{C C'}(hk:bP C C'){i j lo n v}(h:b7 C C' i j)(hv:lA C i lo n v):lA C' j lo n v:=by
 refine⟨fun T xs' hx=>?_,fun T E ls pd hx=>?_⟩
 ·obtain⟨xs,h1,h2,h3⟩:=h.row T _ hx
  obtain⟨h4,h5⟩:=hv.1 T xs h1;rw[hk.P]
  grind
 ·obtain⟨ls',pd',h1,h2,h3,h4⟩:=h.rows T E ls pd hx
  have h5:=hv.2 T E _ _ h1
  grind
theorem qj.move{C C'}(hk:bP C C'){i j k off v}(h:b7 C C' i j)(hv:qj C i k off v):qj C' j k off v:=by
 refine⟨fun T xs' hx=>?_,fun T a' hx=>?_,fun m n ks hx=>?_,fun s p hx=>?_,fun K V ks vs met hx=>?_,fun T E ls pd hx=>?_⟩
 ·obtain⟨xs,h1,h2,h3⟩:=h.row T _ hx
  obtain⟨h4,h5⟩:=hv.1 T _ h1;rw[hk.P]
  grind
 ·obtain⟨a,h1,h2⟩:=h.box T a' hx
  rw[h2];exact hv.2.1 T a h1
 ·obtain⟨m',ks',h1,h2⟩:=h.iter m n _ hx
  rw[h2];exact hv.2.2.1 _ _ _ h1
 ·obtain⟨p',h1,h2⟩:=h.dq s p hx
  rw[h2];exact hv.2.2.2.1 _ _ h1
 ·obtain⟨met',h1,h2⟩:=h.fit K V _ _ _ hx
  rw[h2];exact hv.2.2.2.2.1 _ _ _ _ _ h1
 ·obtain⟨ls',pd',h1,h2,h3,_⟩:=h.rows T E _ pd hx
  rw[h2,h3];exact hv.2.2.2.2.2 _ _ _ _ h1
theorem Mc.move{C C' i j v}(h:b7 C C' i j)(hv:Mc C i v):Mc C' j v:=by
 intro K V es' hx;obtain⟨es,h1,h2,_⟩:=h.map K V _ hx;rw[h2];exact hv K V _ h1
theorem zX.move{C C' i j v}(h:b7 C C' i j)(hv:zX C i v):zX C' j v:=by
 refine⟨fun r' hx=>?_,fun t hx=>?_⟩
 ·obtain⟨r,h1,h2⟩:=h.loop _ hx
  rw[h2];exact hv.1 r h1
 ·obtain⟨r,h1,h2⟩:=h.ext t hx
  rw[h2];exact hv.2 r h1
theorem x0.move{C C' i j key v}(h:b7 C C' i j)(hv:x0 C i key v):x0 C' j key v:=by
 intro K V es' hx;obtain⟨es,h1,h2,h3⟩:=h.map K V _ hx;obtain⟨entries,clock,hh,e,he,hek,hv'⟩:=hv K V _ h1;obtain⟨entries',clock',hh',hall⟩:=h3 _ _ hh;obtain⟨e',he',hk',hb'⟩:=hall.fwd e he
 grind
@[simp] theorem B1 ρ: ∀a,bX (mO ρ a)=bX a
 | .agg l=>by rfl
 | .cC| .lit _| .ah _ _| .aJ _| .jh _ _| .bn _ _| .jx _ _| .eQ _ _ _ _=>by rfl
 | .an i _ _| .ptr i _ _ _| .mp i| .cf i| .lv i _=>by grind [mO,bX]
mutual
theorem pA(ρ:Nat->Option Nat): ∀a:AV,wid (mO ρ a)=wid a
 | .agg l=>by simp only[mO,wid];exact DN ρ l
 | .cC| .lit _| .ah _ _| .aJ _| .jh _ _| .bn _ _| .jx _ _| .eQ _ _ _ _=>by simp[mO,wid]
 | .an i _ _| .ptr i _ _ _| .mp i| .cf i| .lv i _=>by simp only[mO];split<;>simp[wid]
theorem DN(ρ:Nat->Option Nat): ∀l:List AV,eC (fP ρ l)=eC l
 |[]=>by simp[fP,eC]
 |a::l=>by simp only[fP,eC,pA ρ a,DN ρ l]
end
mutual
theorem tc{C C':Ctx}(hk:bP C C')(hl:eX C.P)(ρ:Nat->Option Nat): ∀(a:AV) (s s':Src) (o o':Nat),
  (∀i,i∈refs a->i<C.st.length->∃j,ρ i=some j/\b7 C C' i j)->
  (∀j,j<wid a->s' (o'+j)=s (o+j))->M C a s o->M C' (mO ρ a) s' o'
 | .cC,_,_,_,_,_,_,_=>by simp[mO,M]
 | .lit v,s,s',o,o',_,hs,h=>by
  simp only[mO,M] at h⊢;have:=hs 0 (by simp[wid])
  simp at this;rw[this];exact h
 | .ah E l,s,s',o,o',_,hs,h=>by
  simp only[mO,M] at h⊢;have h0:=hs 0 (by simp[wid]);simp at h0;obtain⟨h1,p,cap,h2,h3,h4⟩:=h;rw[hk.P];refine⟨h1,p,cap,by rw[h0];exact h2,h3,fun hne=>?_⟩;obtain⟨b,off,hp,hb,hm⟩:=h4 hne;exact⟨b,off,hp,hk.X b hb,fL hk hl l E _ _ _ _ h1 (fun j _=>hk.cell hb _) hm⟩
 | .agg l,s,s',o,o',hr,hs,h=>by
  simp only[mO,M] at h⊢;exact BM hk hl ρ l s s' o o' (by simpa[refs] using hr) (by simpa[wid] using hs) h
 | .aJ l,s,s',o,o',hr,hs,h=>by
  simp only[mO,M] at h⊢;have h0:=hs 0 (by simp[wid]);simp at h0;obtain⟨vs,h1,h2⟩:=h;exact⟨vs,by rw[h0];exact h1,lB hk hl ρ l _ (by simpa[refs] using hr) h2⟩
 | .an i lo n,s,s',o,o',hr,hs,h=>by
  simp only[M] at h;obtain⟨hi,v,h1,h2,h3⟩:=h;obtain⟨j,hj,hrf⟩:=hr i (by simp[refs]) hi;have h0:=hs 0 (by simp[wid]);simp at h0;simp only[mO,hj,M];exact⟨hrf.lt,v,by rw[h0];exact h1,h2,h3.move hk hrf⟩
 | .ptr i k p off,s,s',o,o',hr,hs,h=>by
  simp only[M] at h;obtain⟨hi,v,h1,h2,h3⟩:=h;obtain⟨j,hj,hrf⟩:=hr i (by simp[refs]) hi;have h0:=hs 0 (by simp[wid]);simp at h0;simp only[mO,hj,M];exact⟨hrf.lt,v,by rw[h0];exact h1,h2,h3.move hk hrf⟩
 | .jh T a,s,s',o,o',_,hs,h=>by
  simp only[mO,M] at h⊢;have h0:=hs 0 (by simp[wid]);simp at h0;obtain⟨b,off,h1,h2,h3,h4⟩:=h;rw[hk.P];exact⟨b,off,by rw[h0];exact h1,hk.X b h2,h3,l7 hk hl a T _ _ _ _ h3 (fun j _=>hk.cell h2 _) h4⟩
 | .mp i,s,s',o,o',hr,hs,h=>by
  simp only[M] at h;obtain⟨hi,v,h1,h2,h3⟩:=h;obtain⟨j,hj,hrf⟩:=hr i (by simp[refs]) hi;have h0:=hs 0 (by simp[wid]);simp at h0;simp only[mO,hj,M];exact⟨hrf.lt,v,by rw[h0];exact h1,h2,h3.move hrf⟩
 | .cf i,s,s',o,o',hr,hs,h=>by
  simp only[M] at h;obtain⟨hi,v,h1,h2,h3⟩:=h;obtain⟨j,hj,hrf⟩:=hr i (by simp[refs]) hi;have h0:=hs 0 (by simp[wid]);simp at h0;simp only[mO,hj,M];exact⟨hrf.lt,v,by rw[h0];exact h1,h2,h3.move hrf⟩
 | .lv i key,s,s',o,o',hr,hs,h=>by
  simp only[M] at h;obtain⟨hi,v,h1,h2,h3⟩:=h;obtain⟨j,hj,hrf⟩:=hr i (by simp[refs]) hi;have h0:=hs 0 (by simp[wid]);simp at h0;simp only[mO,hj,M];exact⟨hrf.lt,v,by rw[h0];exact h1,h2,h3.move hrf⟩
 | .bn f caps,s,s',o,o',hr,hs,h=>by
  simp only[mO,M] at h⊢;have h0:=hs 0 (by simp[wid]);simp at h0;obtain⟨vs,h1,h2⟩:=h;exact⟨vs,by rw[h0];exact h1,lB hk hl ρ caps _ (by simpa[refs] using hr) h2⟩
 | .jx T a,s,s',o,o',hr,hs,h=>by
  simp only[mO,M] at h⊢;have h0:=hs 0 (by simp[wid]);simp at h0;obtain⟨u,h1,h2,h3,h4⟩:=h;exact⟨u,by rw[h0];exact h1,by rw[h2,B1],by rw[h3,pA],tc hk hl ρ a _ _ _ _ (by simpa[refs] using hr) (fun j _=>rfl) h4⟩
 | .eQ K V ks vs,s,s',o,o',_,hs,h=>by
  simp only[mO,M] at h⊢;have h0:=hs 0 (by simp[wid]);simp at h0;rw[h0,hk.P];rcases h with h|⟨b,ents,clock,h1,h2,h3,h4,h5,h6,h7⟩
  ·exact .inl h
  ·exact .inr ⟨b,ents,clock,h1,hk.X b h2,by rw[hk.heap b h2];exact h3,h4,h5,h6,pC hk hl vs V _ h6 h7⟩
theorem BM{C C':Ctx}(hk:bP C C')(hl:eX C.P)(ρ:Nat->Option Nat): ∀(l:List AV) (s s':Src) (o o':Nat),
  (∀i,i∈cU l->i<C.st.length->∃j,ρ i=some j/\b7 C C' i j)->
  (∀j,j<eC l->s' (o'+j)=s (o+j))->ML C l s o->ML C' (fP ρ l) s' o'
 |[],_,_,_,_,_,_,_=>by simp[fP,ML]
 |a::l,s,s',o,o',hr,hs,h=>by
  simp only[fP,ML,eC] at h hs⊢;refine⟨tc hk hl ρ a s s' o o' (fun i hi=>hr i (by simp[cU,hi])) (fun j hj=>hs j (by omega)) h.1,?_⟩;rw[pA];refine BM hk hl ρ l s s' _ _ (fun i hi=>hr i (by simp[cU,hi])) (fun j hj=>?_) h.2;have:=hs (wid a+j) (by omega)
  rw[show o'+wid a+j=o'+(wid a+j) by omega,this];congr 1;omega
theorem lB{C C':Ctx}(hk:bP C C')(hl:eX C.P)(ρ:Nat->Option Nat): ∀(l:List AV) (vs:List Value),
  (∀i,i∈cU l->i<C.st.length->∃j,ρ i=some j/\b7 C C' i j)->MT C l vs->MT C' (fP ρ l) vs
 |[],vs,_,h=>by simpa[fP,MT] using h
 |_::_,[],_,h=>by simp[MT] at h
 | a::l,v::vs,hr,h=>by
  simp only[fP,MT] at h⊢;refine⟨?_,?_,tc hk hl ρ a _ _ _ _ (fun i hi=>hr i (by simp[cU,hi])) (fun j _=>rfl) h.2.2.1,
   lB hk hl ρ l vs (fun i hi=>hr i (by simp[cU,hi])) h.2.2.2⟩
  ·rw[B1];exact h.1.imp id (fun e=>by subst e;rfl)
  ·rw[pA];exact h.2.1.imp id (fun e=>by subst e;rfl)
end
theorem Rel.move{C C'}(hk:bP C C')(hl:eX C.P) ρ{a v}
  (hr: ∀i,i∈refs a->i<C.st.length->∃j,ρ i=some j/\b7 C C' i j) (h:Rel C a v):Rel C' (mO ρ a) v:=by
 refine⟨?_,?_,tc hk hl _ a _ _ _ _ hr (by simp) h.2.2⟩
 ·rw[B1];exact h.1.imp id fun e=>by subst e;rfl
 ·rw[pA];exact h.2.1.imp id fun e=>by subst e;rfl
mutual
theorem kK: ∀a:AV,mO some a=a
 | .agg l=>by simp only[mO,gk l]
 | .aJ l=>by simp only[mO,gk l]
 | .bn f l=>by simp only[mO,gk l]
 | .jx T a=>by simp only[mO,kK a]
 | .cC| .lit _| .ah _ _| .jh _ _| .eQ _ _ _ _=>by simp[mO]
 | .an i _ _| .ptr i _ _ _| .mp i| .cf i| .lv i _=>by simp[mO]
theorem gk: ∀l:List AV,fP some l=l
 |[]=>by simp[fP]
 |a::l=>by simp only[fP,kK a,gk l]
end
theorem M.fV{C C'}(hk:bP C C')(hl:eX C.P){a s s' o o'}
  (hr: ∀i,i∈refs a->i<C.st.length->b7 C C' i i) (hs: ∀j,j<wid a->s' (o'+j)=s (o+j)) (h:M C a s o):M C' a s' o':=by
 have:=tc hk hl some a s _ o _ (by grind) hs h
 grind [kK]
theorem Rel.fV{C C'}(hk:bP C C')(hl:eX C.P){a v}
  (hr: ∀i,i∈refs a->i<C.st.length->b7 C C' i i) (h:Rel C a v):Rel C' a v:=by
 have:=h.move hk hl some (by grind)
 grind [kK]
end Go.Dn
