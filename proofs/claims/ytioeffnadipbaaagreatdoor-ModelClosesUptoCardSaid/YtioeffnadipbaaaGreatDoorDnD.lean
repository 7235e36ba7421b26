import Derived.Test.YtioeffnadipbaaaGreatDoorDnC
namespace Go.Dn
open Go
def Cb(P:Program):List Field->Nat->Nat->Prop
 |[],n,t=>n=t
 |f::fs,n,t=>f.offset=n/\Cb P fs (n+P.cellsOf f.type) t
def tL(P:Program)(T:TypeId):Prop:=
 match P.underlying T with
 |some (.struct a)=>T<P.types.size->Cb P a.toList 0 (P.cellsOf T)
 |some (.array _ _)=>True
 |some _=>P.cellsOf T=1
 |none=>True
def ft(P:Program):Prop:=∀T,tL P T
mutual
theorem dB{P:Program}(hl:ft P): ∀(a:AV) (T:TypeId),bE P a T->wid a=P.cellsOf T
 | .lit v,T,h=>by
  have:=hl T
  simp only[bE,tL] at h this;simp only[wid];split at h<;>simp_all
 | .ah E l,T,h=>by
  have:=hl T
  simp only[bE] at h;simp only[tL,h.1] at this;simp[wid,this]
 | .agg l,T,h=>by
  have hT:=hl T;simp only[bE] at h;obtain⟨fs,h1,h2⟩:=h;simp only[tL,h1.1] at hT;have:=yQ hl l fs.toList 0 _ h2 (hT h1.2)
  simp only[wid];omega
 | .jK E a,T,h=>by
  have:=hl T
  simp only[bE] at h;simp only[tL,h.1] at this;simp[wid,this]
 | .jT U a,T,h=>by
  have:=hl T
  simp only[bE] at h;obtain⟨⟨ms,hm⟩,_⟩:=h;simp only[tL,hm] at this;simp[wid,this]
 | .fh K V ks vs,T,h=>by
  have:=hl T
  simp only[bE] at h;simp only[tL,h.1] at this;simp[wid,this]
 | .cP,_,h=>by simp[bE] at h
 | .aH _,_,h=>by simp[bE] at h
 | .ak _ _ _,_,h=>by simp[bE] at h
 | .ptr _ _ _ _,_,h=>by simp[bE] at h
 | .mp _,_,h=>by simp[bE] at h
 | .cn _,_,h=>by simp[bE] at h
 | .lZ _ _,_,h=>by simp[bE] at h
 | .bo _ _,_,h=>by simp[bE] at h
theorem yQ{P:Program}(hl:ft P): ∀(l:List AV) (fs:List Field) (n t:Nat),eB P l fs->Cb P fs n t->n+fc l=t
 |[],[],n,t,_,h=>by simpa[Cb,fc] using h
 |[],_::_,_,_,h,_=>by simp[eB] at h
 |_::_,[],_,_,h,_=>by simp[eB] at h
 |a::l,f::fs,n,t,h,hy=>by
  simp only[eB] at h;simp only[Cb] at hy;have:=yQ hl l fs _ t h.2 hy.2
  have h1:=dB hl a f.type h.1;simp only[fc];omega
end
structure bW(C C':Ctx):Prop where
 P:C'.P=C.P
 X: ∀b,C.X b->C'.X b
 heap: ∀b,C.X b->C'.w.heap[b]? =C.w.heap[b]?
theorem bW.cell{C C'}(h:bW C C'){b}(hb:C.X b) j:C'.w.cell? ⟨b,j,none⟩=C.w.cell? ⟨b,j,none⟩:=by
 unfold World.cell?;rw[h.heap b hb]
theorem bW.refl C:bW C C:=⟨rfl,fun _ h=>h,by simp⟩
theorem bW.trans{A B C}(h:bW A B)(k:bW B C):bW A C:=
 ⟨k.P.trans h.P,fun b a=>k.X b (h.X b a),fun b a=>(k.heap b (h.X b a)).trans (h.heap b a)⟩
mutual
theorem mH{C C':Ctx}(hk:bW C C')(hl:ft C.P): ∀(a:AV) (T:TypeId) (s s':Src) (o o':Nat),bE C.P a T->
  (∀j,j<wid a->s' (o'+j)=s (o+j))->M C a s o->M C' a s' o'
 | .lit v,T,s,s',o,o',_,hs,h=>by
  simp only[M] at h⊢;have:=hs 0 (by simp[wid])
  simp at this;rw[this];exact h
 | .ah E l,T,s,s',o,o',ht,hs,h=>by
  simp only[M] at h⊢;have h0:=hs 0 (by simp[wid]);simp at h0;obtain⟨h1,p,cap,h2,h3,h4⟩:=h;rw[hk.P];refine⟨h1,p,cap,by rw[h0];exact h2,h3,fun hne=>?_⟩;obtain⟨b,off,hp,hb,hm⟩:=h4 hne;refine⟨b,off,hp,hk.X b hb,?_⟩;exact gk hk hl l E _ _ _ _ h1 (fun j _=>hk.cell hb _) hm
 | .agg l,T,s,s',o,o',ht,hs,h=>by
  simp only[M] at h⊢;simp only[bE] at ht;obtain⟨fs,_,h2⟩:=ht;exact IX hk hl l fs.toList s s' o o' h2 (by simpa[wid] using hs) h
 | .jK E a,T,s,s',o,o',ht,hs,h=>by
  simp only[M] at h⊢;have h0:=hs 0 (by simp[wid]);simp at h0;simp only[bE] at ht;obtain⟨b,off,h1,h2,h3,h4⟩:=h;rw[hk.P];exact⟨b,off,by rw[h0];exact h1,hk.X b h2,h3,mH hk hl a E _ _ _ _ ht.2 (fun j _=>hk.cell h2 _) h4⟩
 | .jT U a,T,s,s',o,o',ht,hs,h=>by
  simp only[M] at h⊢;have h0:=hs 0 (by simp[wid]);simp at h0;simp only[bE] at ht;obtain⟨u,h1,h2,h3,h4⟩:=h;exact⟨u,by rw[h0];exact h1,h2,h3,mH hk hl a U _ _ _ _ ht.2 (fun j _=>rfl) h4⟩
 | .fh K V ks vs,T,s,s',o,o',ht,hs,h=>by
  simp only[M] at h⊢;have h0:=hs 0 (by simp[wid]);simp at h0;simp only[bE] at ht;rw[h0,hk.P];rcases h with h|⟨b,ents,clock,h1,h2,h3,h4,h5,h6,h7⟩
  ·exact .inl h
  ·exact .inr ⟨b,ents,clock,h1,hk.X b h2,by rw[hk.heap b h2];exact h3,h4,h5,h6,qg hk hl vs V _ h6 h7⟩
 | .cP,_,_,_,_,_,h,_,_=>by simp[bE] at h
 | .aH _,_,_,_,_,_,h,_,_=>by simp[bE] at h
 | .ak _ _ _,_,_,_,_,_,h,_,_=>by simp[bE] at h
 | .ptr _ _ _ _,_,_,_,_,_,h,_,_=>by simp[bE] at h
 | .mp _,_,_,_,_,_,h,_,_=>by simp[bE] at h
 | .cn _,_,_,_,_,_,h,_,_=>by simp[bE] at h
 | .lZ _ _,_,_,_,_,_,h,_,_=>by simp[bE] at h
 | .bo _ _,_,_,_,_,_,h,_,_=>by simp[bE] at h
theorem qg{C C':Ctx}(hk:bW C C')(hl:ft C.P): ∀(l:List AV) (T:TypeId) (vs:List Value),cu C.P l T->MT C l vs->MT C' l vs
 |[],_,vs,_,h=>by simpa[MT] using h
 |_::_,_,[],_,h=>by simp[MT] at h
 |a::l,T,v::vs,ht,h=>by
  simp only[cu] at ht;simp only[MT] at h⊢;exact⟨h.1,h.2.1,mH hk hl a T _ _ _ _ ht.1 (fun j _=>rfl) h.2.2.1,qg hk hl l T vs ht.2 h.2.2.2⟩
theorem IX{C C':Ctx}(hk:bW C C')(hl:ft C.P): ∀(l:List AV) (fs:List Field) (s s':Src) (o o':Nat),eB C.P l fs->
  (∀j,j<fc l->s' (o'+j)=s (o+j))->ML C l s o->ML C' l s' o'
 |[],_,_,_,_,_,_,_,_=>by simp[ML]
 |_::_,[],_,_,_,_,h,_,_=>by simp[eB] at h
 |a::l,f::fs,s,s',o,o',ht,hs,h=>by
  simp only[eB] at ht;simp only[ML,fc] at h hs⊢;refine⟨mH hk hl a f.type s s' o o' ht.1 (fun j hj=>hs j (by omega)) h.1,IX hk hl l fs s s' _ _ ht.2 (fun j hj=>?_) h.2⟩;have:=hs (wid a+j) (by omega)
  rw[show o'+wid a+j=o'+(wid a+j) by omega,this];congr 1;omega
theorem gk{C C':Ctx}(hk:bW C C')(hl:ft C.P): ∀(l:List AV) (T:TypeId) (s s':Src) (o o':Nat),cu C.P l T->
  (∀j,j<l.length*C.P.cellsOf T->s' (o'+j)=s (o+j))->MR C l (C.P.cellsOf T) s o->MR C' l (C.P.cellsOf T) s' o'
 |[],_,_,_,_,_,_,_,_=>by simp[MR]
 |a::l,T,s,s',o,o',ht,hs,h=>by
  simp only[cu] at ht;simp only[MR] at h⊢;have hw:=dB hl a T ht.1;have hlen:(a::l).length*C.P.cellsOf T=l.length*C.P.cellsOf T+C.P.cellsOf T:=by simp[Nat.add_mul]
  refine⟨mH hk hl a T s s' o o' ht.1 (fun j hj=>hs j (by omega)) h.1,?_⟩;refine gk hk hl l T s s' (o+C.P.cellsOf T) (o'+C.P.cellsOf T) ht.2 (fun j hj=>?_) h.2;have:=hs (C.P.cellsOf T+j) (by omega)
  rw[show o'+C.P.cellsOf T+j=o'+(C.P.cellsOf T+j) by omega,this];congr 1;omega
end
structure eE(en:Array MapEntry)(cl:Nat)(en':Array MapEntry)(cl':Nat):Prop where
 fwd: ∀e,e∈en->∃e',e'∈en'/\e'.key=e.key/\e'.born=e.born
 bwd: ∀e',e'∈en'->e'.born<cl->∃e,e∈en/\e.key=e'.key/\e.born=e'.born
 size:en'.size+cl=en.size+cl'
 le:cl<=cl'
theorem eE.refl b a:eE b a b a:=⟨by grind,by grind,rfl,Nat.le_refl _⟩
theorem eE.trans{a b c x y z}(h:eE a x b y)(k:eE b y c z):eE a x c z:=by
 refine⟨fun e f=>?_,fun e f j=>?_,by have:=h.size;have:=k.size;omega,Nat.le_trans h.le k.le⟩
 ·obtain⟨i,d,l,m⟩:=h.fwd e f
  obtain⟨n,o,p,g⟩:=k.fwd _ d
  grind
 ·obtain⟨i,d,l,m⟩:=k.bwd e f (Nat.lt_of_lt_of_le j h.le)
  obtain⟨n,o,p,g⟩:=h.bwd _ d (by omega)
  grind
structure cj(C C':Ctx)(i j:Nat):Prop where
 lt:j<C'.st.length
 row: ∀T xs',iL (ay C'.st j)=some (T,xs')->∃xs,iL (ay C.st i)=some (T,xs)/\C'.ι j=C.ι i/\xs.length<=xs'.length
 box: ∀T a',ay C'.st j= .box T a'->∃a,ay C.st i= .box T a/\C'.ι j=C.ι i
 map: ∀K V es',ay C'.st j= .map K V es'->∃es,ay C.st i= .map K V es/\C'.ι j=C.ι i/\
  ∀entries clock,C.w.heap[(C.ι i).block]? =some (.map entries clock)->∃entries' clock',C'.w.heap[(C.ι i).block]? =some (.map entries' clock')/\
   eE entries clock entries' clock'
 loop: ∀r',ay C'.st j= .loop r'->∃r,ay C.st i= .loop r/\C'.ι j=C.ι i
 iter: ∀m n ks,ay C'.st j= .iter m n ks->∃m' ks',ay C.st i= .iter m' n ks'/\C'.ι j=C.ι i
 ext: ∀t,ay C'.st j= .ext t->∃t',ay C.st i= .ext t'/\C'.ι j=C.ι i
 dD: ∀s p,ay C'.st j= .dD s p->∃p',ay C.st i= .dD s p'/\C'.ι j=C.ι i
 fit: ∀K V ks vs met,ay C'.st j= .fit K V ks vs met->∃met',ay C.st i= .fit K V ks vs met'/\C'.ι j=C.ι i
 rows: ∀T E ls pd,ay C'.st j= .rows T E ls pd->∃ls' pd',ay C.st i= .rows T E ls' pd'/\C'.ι j=C.ι i/\ls.length=ls'.length/\
  ∀k m v,mZ C (C.ι i).block E k (b8 ls' k) m v->mZ C' (C.ι i).block E k (b8 ls k) m v
theorem l7.move{C C'}(hk:bW C C'){i j lo n v}(h:cj C C' i j)(hv:l7 C i lo n v):l7 C' j lo n v:=by
 refine⟨fun T xs' hx=>?_,fun T E ls pd hx=>?_⟩
 ·obtain⟨xs,h1,h2,h3⟩:=h.row T _ hx
  obtain⟨h4,h5⟩:=hv.1 T xs h1;rw[hk.P]
  grind
 ·obtain⟨ls',pd',h1,h2,h3,h4⟩:=h.rows T E ls pd hx
  have h5:=hv.2 T E _ _ h1
  grind
theorem qS.move{C C'}(hk:bW C C'){i j k off v}(h:cj C C' i j)(hv:qS C i k off v):qS C' j k off v:=by
 refine⟨fun T xs' hx=>?_,fun T a' hx=>?_,fun m n ks hx=>?_,fun s p hx=>?_,fun K V ks vs met hx=>?_,fun T E ls pd hx=>?_⟩
 ·obtain⟨xs,h1,h2,h3⟩:=h.row T _ hx
  obtain⟨h4,h5⟩:=hv.1 T _ h1;rw[hk.P]
  grind
 ·obtain⟨a,h1,h2⟩:=h.box T a' hx
  rw[h2];exact hv.2.1 T a h1
 ·obtain⟨m',ks',h1,h2⟩:=h.iter m n _ hx
  rw[h2];exact hv.2.2.1 _ _ _ h1
 ·obtain⟨p',h1,h2⟩:=h.dD s p hx
  rw[h2];exact hv.2.2.2.1 _ _ h1
 ·obtain⟨met',h1,h2⟩:=h.fit K V _ _ _ hx
  rw[h2];exact hv.2.2.2.2.1 _ _ _ _ _ h1
 ·obtain⟨ls',pd',h1,h2,h3,_⟩:=h.rows T E _ pd hx
  rw[h2,h3];exact hv.2.2.2.2.2 _ _ _ _ h1
theorem NX.move{C C' i j v}(h:cj C C' i j)(hv:NX C i v):NX C' j v:=by
 intro K V es' hx;obtain⟨es,h1,h2,_⟩:=h.map K V _ hx;rw[h2];exact hv K V _ h1
theorem zY.move{C C' i j v}(h:cj C C' i j)(hv:zY C i v):zY C' j v:=by
 refine⟨fun r' hx=>?_,fun t hx=>?_⟩
 ·obtain⟨r,h1,h2⟩:=h.loop _ hx
  rw[h2];exact hv.1 r h1
 ·obtain⟨r,h1,h2⟩:=h.ext t hx
  rw[h2];exact hv.2 r h1
theorem w6.move{C C' i j key v}(h:cj C C' i j)(hv:w6 C i key v):w6 C' j key v:=by
 intro K V es' hx;obtain⟨es,h1,h2,h3⟩:=h.map K V _ hx;obtain⟨entries,clock,hh,e,he,hek,hv'⟩:=hv K V _ h1;obtain⟨entries',clock',hh',hall⟩:=h3 _ _ hh;obtain⟨e',he',hk',hb'⟩:=hall.fwd e he
 grind
@[simp] theorem DK ρ: ∀a,cg (nL ρ a)=cg a
 | .agg l=>by rfl
 | .cP| .lit _| .ah _ _| .aH _| .jK _ _| .bo _ _| .jT _ _| .fh _ _ _ _=>by rfl
 | .ak i _ _| .ptr i _ _ _| .mp i| .cn i| .lZ i _=>by grind [nL,cg]
mutual
theorem qA(ρ:Nat->Option Nat): ∀a:AV,wid (nL ρ a)=wid a
 | .agg l=>by simp only[nL,wid];exact Fv ρ l
 | .cP| .lit _| .ah _ _| .aH _| .jK _ _| .bo _ _| .jT _ _| .fh _ _ _ _=>by simp[nL,wid]
 | .ak i _ _| .ptr i _ _ _| .mp i| .cn i| .lZ i _=>by simp only[nL];split<;>simp[wid]
theorem Fv(ρ:Nat->Option Nat): ∀l:List AV,fc (gf ρ l)=fc l
 |[]=>by simp[gf,fc]
 |a::l=>by simp only[gf,fc,qA ρ a,Fv ρ l]
end
mutual
theorem tM{C C':Ctx}(hk:bW C C')(hl:ft C.P)(ρ:Nat->Option Nat): ∀(a:AV) (s s':Src) (o o':Nat),
  (∀i,i∈refs a->i<C.st.length->∃j,ρ i=some j/\cj C C' i j)->
  (∀j,j<wid a->s' (o'+j)=s (o+j))->M C a s o->M C' (nL ρ a) s' o'
 | .cP,_,_,_,_,_,_,_=>by simp[nL,M]
 | .lit v,s,s',o,o',_,hs,h=>by
  simp only[nL,M] at h⊢;have:=hs 0 (by simp[wid])
  simp at this;rw[this];exact h
 | .ah E l,s,s',o,o',_,hs,h=>by
  simp only[nL,M] at h⊢;have h0:=hs 0 (by simp[wid]);simp at h0;obtain⟨h1,p,cap,h2,h3,h4⟩:=h;rw[hk.P];refine⟨h1,p,cap,by rw[h0];exact h2,h3,fun hne=>?_⟩;obtain⟨b,off,hp,hb,hm⟩:=h4 hne;exact⟨b,off,hp,hk.X b hb,gk hk hl l E _ _ _ _ h1 (fun j _=>hk.cell hb _) hm⟩
 | .agg l,s,s',o,o',hr,hs,h=>by
  simp only[nL,M] at h⊢;exact Bx hk hl ρ l s s' o o' (by simpa[refs] using hr) (by simpa[wid] using hs) h
 | .aH l,s,s',o,o',hr,hs,h=>by
  simp only[nL,M] at h⊢;have h0:=hs 0 (by simp[wid]);simp at h0;obtain⟨vs,h1,h2⟩:=h;exact⟨vs,by rw[h0];exact h1,l4 hk hl ρ l _ (by simpa[refs] using hr) h2⟩
 | .ak i lo n,s,s',o,o',hr,hs,h=>by
  simp only[M] at h;obtain⟨hi,v,h1,h2,h3⟩:=h;obtain⟨j,hj,hrf⟩:=hr i (by simp[refs]) hi;have h0:=hs 0 (by simp[wid]);simp at h0;simp only[nL,hj,M];exact⟨hrf.lt,v,by rw[h0];exact h1,h2,h3.move hk hrf⟩
 | .ptr i k p off,s,s',o,o',hr,hs,h=>by
  simp only[M] at h;obtain⟨hi,v,h1,h2,h3⟩:=h;obtain⟨j,hj,hrf⟩:=hr i (by simp[refs]) hi;have h0:=hs 0 (by simp[wid]);simp at h0;simp only[nL,hj,M];exact⟨hrf.lt,v,by rw[h0];exact h1,h2,h3.move hk hrf⟩
 | .jK T a,s,s',o,o',_,hs,h=>by
  simp only[nL,M] at h⊢;have h0:=hs 0 (by simp[wid]);simp at h0;obtain⟨b,off,h1,h2,h3,h4⟩:=h;rw[hk.P];exact⟨b,off,by rw[h0];exact h1,hk.X b h2,h3,mH hk hl a T _ _ _ _ h3 (fun j _=>hk.cell h2 _) h4⟩
 | .mp i,s,s',o,o',hr,hs,h=>by
  simp only[M] at h;obtain⟨hi,v,h1,h2,h3⟩:=h;obtain⟨j,hj,hrf⟩:=hr i (by simp[refs]) hi;have h0:=hs 0 (by simp[wid]);simp at h0;simp only[nL,hj,M];exact⟨hrf.lt,v,by rw[h0];exact h1,h2,h3.move hrf⟩
 | .cn i,s,s',o,o',hr,hs,h=>by
  simp only[M] at h;obtain⟨hi,v,h1,h2,h3⟩:=h;obtain⟨j,hj,hrf⟩:=hr i (by simp[refs]) hi;have h0:=hs 0 (by simp[wid]);simp at h0;simp only[nL,hj,M];exact⟨hrf.lt,v,by rw[h0];exact h1,h2,h3.move hrf⟩
 | .lZ i key,s,s',o,o',hr,hs,h=>by
  simp only[M] at h;obtain⟨hi,v,h1,h2,h3⟩:=h;obtain⟨j,hj,hrf⟩:=hr i (by simp[refs]) hi;have h0:=hs 0 (by simp[wid]);simp at h0;simp only[nL,hj,M];exact⟨hrf.lt,v,by rw[h0];exact h1,h2,h3.move hrf⟩
 | .bo f caps,s,s',o,o',hr,hs,h=>by
  simp only[nL,M] at h⊢;have h0:=hs 0 (by simp[wid]);simp at h0;obtain⟨vs,h1,h2⟩:=h;exact⟨vs,by rw[h0];exact h1,l4 hk hl ρ caps _ (by simpa[refs] using hr) h2⟩
 | .jT T a,s,s',o,o',hr,hs,h=>by
  simp only[nL,M] at h⊢;have h0:=hs 0 (by simp[wid]);simp at h0;obtain⟨u,h1,h2,h3,h4⟩:=h;exact⟨u,by rw[h0];exact h1,by rw[h2,DK],by rw[h3,qA],tM hk hl ρ a _ _ _ _ (by simpa[refs] using hr) (fun j _=>rfl) h4⟩
 | .fh K V ks vs,s,s',o,o',_,hs,h=>by
  simp only[nL,M] at h⊢;have h0:=hs 0 (by simp[wid]);simp at h0;rw[h0,hk.P];rcases h with h|⟨b,ents,clock,h1,h2,h3,h4,h5,h6,h7⟩
  ·exact .inl h
  ·exact .inr ⟨b,ents,clock,h1,hk.X b h2,by rw[hk.heap b h2];exact h3,h4,h5,h6,qg hk hl vs V _ h6 h7⟩
theorem Bx{C C':Ctx}(hk:bW C C')(hl:ft C.P)(ρ:Nat->Option Nat): ∀(l:List AV) (s s':Src) (o o':Nat),
  (∀i,i∈df l->i<C.st.length->∃j,ρ i=some j/\cj C C' i j)->
  (∀j,j<fc l->s' (o'+j)=s (o+j))->ML C l s o->ML C' (gf ρ l) s' o'
 |[],_,_,_,_,_,_,_=>by simp[gf,ML]
 |a::l,s,s',o,o',hr,hs,h=>by
  simp only[gf,ML,fc] at h hs⊢;refine⟨tM hk hl ρ a s s' o o' (fun i hi=>hr i (by simp[df,hi])) (fun j hj=>hs j (by omega)) h.1,?_⟩;rw[qA];refine Bx hk hl ρ l s s' _ _ (fun i hi=>hr i (by simp[df,hi])) (fun j hj=>?_) h.2;have:=hs (wid a+j) (by omega)
  rw[show o'+wid a+j=o'+(wid a+j) by omega,this];congr 1;omega
theorem l4{C C':Ctx}(hk:bW C C')(hl:ft C.P)(ρ:Nat->Option Nat): ∀(l:List AV) (vs:List Value),
  (∀i,i∈df l->i<C.st.length->∃j,ρ i=some j/\cj C C' i j)->MT C l vs->MT C' (gf ρ l) vs
 |[],vs,_,h=>by simpa[gf,MT] using h
 |_::_,[],_,h=>by simp[MT] at h
 | a::l,v::vs,hr,h=>by
  simp only[gf,MT] at h⊢;refine⟨?_,?_,tM hk hl ρ a _ _ _ _ (fun i hi=>hr i (by simp[df,hi])) (fun j _=>rfl) h.2.2.1,
   l4 hk hl ρ l vs (fun i hi=>hr i (by simp[df,hi])) h.2.2.2⟩
  ·rw[DK];exact h.1.imp id (fun e=>by subst e;rfl)
  ·rw[qA];exact h.2.1.imp id (fun e=>by subst e;rfl)
end
theorem Rel.move{C C'}(hk:bW C C')(hl:ft C.P) ρ{a v}
  (hr: ∀i,i∈refs a->i<C.st.length->∃j,ρ i=some j/\cj C C' i j) (h:Rel C a v):Rel C' (nL ρ a) v:=by
 refine⟨?_,?_,tM hk hl _ a _ _ _ _ hr (by simp) h.2.2⟩
 ·rw[DK];exact h.1.imp id fun e=>by subst e;rfl
 ·rw[qA];exact h.2.1.imp id fun e=>by subst e;rfl
mutual
theorem lR: ∀a:AV,nL some a=a
 | .agg l=>by simp only[nL,gQ l]
 | .aH l=>by simp only[nL,gQ l]
 | .bo f l=>by simp only[nL,gQ l]
 | .jT T a=>by simp only[nL,lR a]
 | .cP| .lit _| .ah _ _| .jK _ _| .fh _ _ _ _=>by simp[nL]
 | .ak i _ _| .ptr i _ _ _| .mp i| .cn i| .lZ i _=>by simp[nL]
theorem gQ: ∀l:List AV,gf some l=l
 |[]=>by simp[gf]
 |a::l=>by simp only[gf,lR a,gQ l]
end
theorem M.gI{C C'}(hk:bW C C')(hl:ft C.P){a s s' o o'}
  (hr: ∀i,i∈refs a->i<C.st.length->cj C C' i i) (hs: ∀j,j<wid a->s' (o'+j)=s (o+j)) (h:M C a s o):M C' a s' o':=by
 have:=tM hk hl some a s _ o _ (by grind) hs h
 grind [lR]
theorem Rel.gI{C C'}(hk:bW C C')(hl:ft C.P){a v}
  (hr: ∀i,i∈refs a->i<C.st.length->cj C C' i i) (h:Rel C a v):Rel C' a v:=by
 have:=h.move hk hl some (by grind)
 grind [lR]
end Go.Dn
