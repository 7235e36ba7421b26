import Derived.Test.YtdpmikfheebicaaGreatDoorDnC
namespace Go.Dn
open Go
def xJ(P:Program):List Field->Nat->Nat->Prop
 |[],n,t=>n=t
 |f::fs,n,t=>f.offset=n/\xJ P fs (n+P.cellsOf f.type) t
def q9(P:Program)(T:TypeId):Prop:=
 match P.underlying T with
 |some (.struct fs)=>T<P.types.size->xJ P fs.toList 0 (P.cellsOf T)
 |some (.array _ _)=>True
 |some _=>P.cellsOf T=1
 |none=>True
def ec(P:Program):Prop:=∀T,q9 P T
mutual
theorem cU{P:Program}(hl:ec P): ∀(a:AV) (T:TypeId),bq P a T->wid a=P.cellsOf T
 | .lit v,T,h=>by
  have:=hl T
  simp only[bq,q9] at h this
  simp only[wid]
  split at h<;>simp_all
 | .ae E l,T,h=>by
  have:=hl T
  simp only[bq] at h
  simp only[q9,h.1] at this
  simp[wid,this]
 | .agg l,T,h=>by
  have hT:=hl T
  simp only[bq] at h
  obtain⟨fs,h1,h2⟩:=h
  simp only[q9,h1.1] at hT
  have:=tP hl l fs.toList 0 _ h2 (hT h1.2)
  simp only[wid]
  omega
 | .jc E a,T,h=>by
  have:=hl T
  simp only[bq] at h
  simp only[q9,h.1] at this
  simp[wid,this]
 | .iq U a,T,h=>by
  have:=hl T
  simp only[bq] at h
  obtain⟨⟨ms,hm⟩,_⟩:=h
  simp only[q9,hm] at this
  simp[wid,this]
 | .iZ K V ks vs,T,h=>by
  have:=hl T
  simp only[bq] at h
  simp only[q9,h.1] at this
  simp[wid,this]
 | .cf,_,h=>by simp[bq] at h
 | .bp _,_,h=>by simp[bq] at h
 | .az _ _ _,_,h=>by simp[bq] at h
 | .ptr _ _ _ _,_,h=>by simp[bq] at h
 | .mp _,_,h=>by simp[bq] at h
 | .cx _,_,h=>by simp[bq] at h
 | .jJ _ _,_,h=>by simp[bq] at h
 | .bP _ _,_,h=>by simp[bq] at h
theorem tP{P:Program}(hl:ec P): ∀(l:List AV) (fs:List Field) (n t:Nat),dd P l fs->xJ P fs n t->n+eF l=t
 |[],[],n,t,_,h=>by simpa[xJ,eF] using h
 |[],_::_,_,_,h,_=>by simp[dd] at h
 |_::_,[],_,_,h,_=>by simp[dd] at h
 |a::l,f::fs,n,t,h,hy=>by
  simp only[dd] at h
  simp only[xJ] at hy
  have:=tP hl l fs _ t h.2 hy.2
  have h1:=cU hl a f.type h.1
  simp only[eF]
  omega
end
structure bG(C C':Ctx):Prop where
 P:C'.P=C.P
 X: ∀b,C.X b->C'.X b
 heap: ∀b,C.X b->C'.w.heap[b]? =C.w.heap[b]?
theorem bG.cell{C C':Ctx}(h:bG C C'){b:Nat}(hb:C.X b)(j:Nat):C'.w.cell? ⟨b,j,none⟩=C.w.cell? ⟨b,j,none⟩:=by
 unfold World.cell?
 rw[h.heap b hb]
theorem bG.refl(C:Ctx):bG C C:=⟨rfl,fun _ h=>h,fun _ _=>rfl⟩
theorem bG.trans{A B C:Ctx}(h:bG A B)(k:bG B C):bG A C:=
 ⟨k.P.trans h.P,fun b hb=>k.X b (h.X b hb),fun b hb=>(k.heap b (h.X b hb)).trans (h.heap b hb)⟩
mutual
theorem lH{C C':Ctx}(hk:bG C C')(hl:ec C.P): ∀(a:AV) (T:TypeId) (s s':Src) (o o':Nat),bq C.P a T->
  (∀j,j<wid a->s' (o'+j)=s (o+j))->M C a s o->M C' a s' o'
 | .lit v,T,s,s',o,o',_,hs,h=>by
  simp only[M] at h⊢
  have:=hs 0 (by simp[wid])
  simp at this
  rw[this];exact h
 | .ae E l,T,s,s',o,o',ht,hs,h=>by
  simp only[M] at h⊢
  have h0:=hs 0 (by simp[wid])
  simp at h0
  obtain⟨h1,p,cap,h2,h3,h4⟩:=h
  rw[hk.P]
  refine⟨h1,p,cap,by rw[h0];exact h2,h3,fun hne=>?_⟩
  obtain⟨b,off,hp,hb,hm⟩:=h4 hne
  refine⟨b,off,hp,hk.X b hb,?_⟩
  exact fa hk hl l E _ _ _ _ h1 (fun j _=>hk.cell hb _) hm
 | .agg l,T,s,s',o,o',ht,hs,h=>by
  simp only[M] at h⊢
  simp only[bq] at ht
  obtain⟨fs,_,h2⟩:=ht
  exact DH hk hl l fs.toList s s' o o' h2 (by simpa[wid] using hs) h
 | .jc E a,T,s,s',o,o',ht,hs,h=>by
  simp only[M] at h⊢
  have h0:=hs 0 (by simp[wid])
  simp at h0
  simp only[bq] at ht
  obtain⟨b,off,h1,h2,h3,h4⟩:=h
  rw[hk.P]
  exact⟨b,off,by rw[h0];exact h1,hk.X b h2,h3,lH hk hl a E _ _ _ _ ht.2 (fun j _=>hk.cell h2 _) h4⟩
 | .iq U a,T,s,s',o,o',ht,hs,h=>by
  simp only[M] at h⊢
  have h0:=hs 0 (by simp[wid])
  simp at h0
  simp only[bq] at ht
  obtain⟨u,h1,h2,h3,h4⟩:=h
  exact⟨u,by rw[h0];exact h1,h2,h3,lH hk hl a U _ _ _ _ ht.2 (fun j _=>rfl) h4⟩
 | .iZ K V ks vs,T,s,s',o,o',ht,hs,h=>by
  simp only[M] at h⊢
  have h0:=hs 0 (by simp[wid])
  simp at h0
  simp only[bq] at ht
  rw[h0,hk.P]
  rcases h with h|⟨b,ents,clock,h1,h2,h3,h4,h5,h6,h7⟩
  ·exact .inl h
  ·exact .inr ⟨b,ents,clock,h1,hk.X b h2,by rw[hk.heap b h2];exact h3,h4,h5,h6,nY hk hl vs V _ h6 h7⟩
 | .cf,_,_,_,_,_,h,_,_=>by simp[bq] at h
 | .bp _,_,_,_,_,_,h,_,_=>by simp[bq] at h
 | .az _ _ _,_,_,_,_,_,h,_,_=>by simp[bq] at h
 | .ptr _ _ _ _,_,_,_,_,_,h,_,_=>by simp[bq] at h
 | .mp _,_,_,_,_,_,h,_,_=>by simp[bq] at h
 | .cx _,_,_,_,_,_,h,_,_=>by simp[bq] at h
 | .jJ _ _,_,_,_,_,_,h,_,_=>by simp[bq] at h
 | .bP _ _,_,_,_,_,_,h,_,_=>by simp[bq] at h
theorem nY{C C':Ctx}(hk:bG C C')(hl:ec C.P): ∀(l:List AV) (T:TypeId) (vs:List Value),bx C.P l T->MT C l vs->MT C' l vs
 |[],_,vs,_,h=>by simpa[MT] using h
 |_::_,_,[],_,h=>by simp[MT] at h
 |a::l,T,v::vs,ht,h=>by
  simp only[bx] at ht
  simp only[MT] at h⊢
  exact⟨h.1,h.2.1,lH hk hl a T _ _ _ _ ht.1 (fun j _=>rfl) h.2.2.1,nY hk hl l T vs ht.2 h.2.2.2⟩
theorem DH{C C':Ctx}(hk:bG C C')(hl:ec C.P): ∀(l:List AV) (fs:List Field) (s s':Src) (o o':Nat),dd C.P l fs->
  (∀j,j<eF l->s' (o'+j)=s (o+j))->ML C l s o->ML C' l s' o'
 |[],_,_,_,_,_,_,_,_=>by simp[ML]
 |_::_,[],_,_,_,_,h,_,_=>by simp[dd] at h
 |a::l,f::fs,s,s',o,o',ht,hs,h=>by
  simp only[dd] at ht
  simp only[ML,eF] at h hs⊢
  refine⟨lH hk hl a f.type s s' o o' ht.1 (fun j hj=>hs j (by omega)) h.1,DH hk hl l fs s s' _ _ ht.2 (fun j hj=>?_) h.2⟩
  have:=hs (wid a+j) (by omega)
  rw[show o'+wid a+j=o'+(wid a+j) by omega,this]
  congr 1;omega
theorem fa{C C':Ctx}(hk:bG C C')(hl:ec C.P): ∀(l:List AV) (T:TypeId) (s s':Src) (o o':Nat),bx C.P l T->
  (∀j,j<l.length*C.P.cellsOf T->s' (o'+j)=s (o+j))->MR C l (C.P.cellsOf T) s o->MR C' l (C.P.cellsOf T) s' o'
 |[],_,_,_,_,_,_,_,_=>by simp[MR]
 |a::l,T,s,s',o,o',ht,hs,h=>by
  simp only[bx] at ht
  simp only[MR] at h⊢
  have hw:=cU hl a T ht.1
  have hlen:(a::l).length*C.P.cellsOf T=l.length*C.P.cellsOf T+C.P.cellsOf T:=by simp[Nat.add_mul]
  refine⟨lH hk hl a T s s' o o' ht.1 (fun j hj=>hs j (by omega)) h.1,?_⟩
  refine fa hk hl l T s s' (o+C.P.cellsOf T) (o'+C.P.cellsOf T) ht.2 (fun j hj=>?_) h.2
  have:=hs (C.P.cellsOf T+j) (by omega)
  rw[show o'+C.P.cellsOf T+j=o'+(C.P.cellsOf T+j) by omega,this]
  congr 1;omega
end
structure dx(en:Array MapEntry)(cl:Nat)(en':Array MapEntry)(cl':Nat):Prop where
 fwd: ∀e,e∈en->∃e',e'∈en'/\e'.key=e.key/\e'.born=e.born
 bwd: ∀e',e'∈en'->e'.born<cl->∃e,e∈en/\e.key=e'.key/\e.born=e'.born
 size:en'.size+cl=en.size+cl'
 le:cl<=cl'
theorem dx.refl(en:Array MapEntry)(cl:Nat):dx en cl en cl:=⟨fun e he=>⟨e,he,rfl,rfl⟩,fun e he _=>⟨e,he,rfl,rfl⟩,rfl,Nat.le_refl _⟩
theorem dx.trans{a b c:Array MapEntry}{x y z:Nat}(h:dx a x b y)(k:dx b y c z):dx a x c z:=by
 refine⟨fun e he=>?_,fun e he hb=>?_,by have:=h.size;have:=k.size;omega,Nat.le_trans h.le k.le⟩
 ·obtain⟨e1,h1,h2,h3⟩:=h.fwd e he
  obtain⟨e2,k1,k2,k3⟩:=k.fwd e1 h1
  exact⟨e2,k1,k2.trans h2,k3.trans h3⟩
 ·obtain⟨e1,h1,h2,h3⟩:=k.bwd e he (Nat.lt_of_lt_of_le hb h.le)
  obtain⟨e2,k1,k2,k3⟩:=h.bwd e1 h1 (by omega)
  exact⟨e2,k1,k2.trans h2,k3.trans h3⟩
structure bW(C C':Ctx)(i j:Nat):Prop where
 lt:j<C'.st.length
 row: ∀T xs',gb (ar C'.st j)=some (T,xs')->∃xs,gb (ar C.st i)=some (T,xs)/\C'.ι j=C.ι i/\xs.length<=xs'.length
 box: ∀T a',ar C'.st j= .box T a'->∃a,ar C.st i= .box T a/\C'.ι j=C.ι i
 map: ∀K V es',ar C'.st j= .map K V es'->∃es,ar C.st i= .map K V es/\C'.ι j=C.ι i/\
  ∀entries clock,C.w.heap[(C.ι i).block]? =some (.map entries clock)->∃entries' clock',C'.w.heap[(C.ι i).block]? =some (.map entries' clock')/\
   dx entries clock entries' clock'
 loop: ∀r',ar C'.st j= .loop r'->∃r,ar C.st i= .loop r/\C'.ι j=C.ι i
 iter: ∀m n ks,ar C'.st j= .iter m n ks->∃m' ks',ar C.st i= .iter m' n ks'/\C'.ι j=C.ι i
 ext: ∀t,ar C'.st j= .ext t->∃t',ar C.st i= .ext t'/\C'.ι j=C.ι i
 cR: ∀s p,ar C'.st j= .cR s p->∃p',ar C.st i= .cR s p'/\C'.ι j=C.ι i
 fit: ∀K V ks vs met,ar C'.st j= .fit K V ks vs met->∃met',ar C.st i= .fit K V ks vs met'/\C'.ι j=C.ι i
 rows: ∀T E ls pd,ar C'.st j= .rows T E ls pd->∃ls' pd',ar C.st i= .rows T E ls' pd'/\C'.ι j=C.ι i/\ls.length=ls'.length/\
  ∀k m v,ll C (C.ι i).block E k (bB ls' k) m v->ll C' (C.ι i).block E k (bB ls k) m v
theorem my.move{C C':Ctx}(hk:bG C C'){i j lo n:Nat}{v:Value}(h:bW C C' i j)(hv:my C i lo n v):my C' j lo n v:=by
 refine⟨fun T xs' hx=>?_,fun T E ls pd hx=>?_⟩
 ·obtain⟨xs,h1,h2,h3⟩:=h.row T xs' hx
  obtain⟨h4,h5⟩:=hv.1 T xs h1
  rw[hk.P,h2]
  exact⟨by omega,h5⟩
 ·obtain⟨ls',pd',h1,h2,h3,h4⟩:=h.rows T E ls pd hx
  have h5:=hv.2 T E ls' pd' h1
  rw[h2]
  cases lo with
  |zero=>exact⟨by rw[h3];exact h5.1,h5.2⟩
  |succ k=>exact⟨by rw[h3];exact h5.1,h4 k n v h5.2⟩
theorem oI.move{C C':Ctx}(hk:bG C C'){i j k off:Nat}{v:Value}(h:bW C C' i j)(hv:oI C i k off v):oI C' j k off v:=by
 refine⟨fun T xs' hx=>?_,fun T a' hx=>?_,fun m n ks hx=>?_,fun s p hx=>?_,fun K V ks vs met hx=>?_,fun T E ls pd hx=>?_⟩
 ·obtain⟨xs,h1,h2,h3⟩:=h.row T xs' hx
  obtain⟨h4,h5⟩:=hv.1 T xs h1
  rw[hk.P,h2]
  exact⟨by omega,h5⟩
 ·obtain⟨a,h1,h2⟩:=h.box T a' hx
  rw[h2]
  exact hv.2.1 T a h1
 ·obtain⟨m',ks',h1,h2⟩:=h.iter m n ks hx
  rw[h2]
  exact hv.2.2.1 _ _ _ h1
 ·obtain⟨p',h1,h2⟩:=h.cR s p hx
  rw[h2]
  exact hv.2.2.2.1 _ _ h1
 ·obtain⟨met',h1,h2⟩:=h.fit K V ks vs met hx
  rw[h2]
  exact hv.2.2.2.2.1 _ _ _ _ _ h1
 ·obtain⟨ls',pd',h1,h2,h3,_⟩:=h.rows T E ls pd hx
  rw[h2,h3]
  exact hv.2.2.2.2.2 _ _ _ _ h1
theorem JB.move{C C':Ctx}{i j:Nat}{v:Value}(h:bW C C' i j)(hv:JB C i v):JB C' j v:=by
 intro K V es' hx
 obtain⟨es,h1,h2,_⟩:=h.map K V es' hx
 rw[h2];exact hv K V es h1
theorem v5.move{C C':Ctx}{i j:Nat}{v:Value}(h:bW C C' i j)(hv:v5 C i v):v5 C' j v:=by
 refine⟨fun r' hx=>?_,fun t hx=>?_⟩
 ·obtain⟨r,h1,h2⟩:=h.loop r' hx
  rw[h2];exact hv.1 r h1
 ·obtain⟨r,h1,h2⟩:=h.ext t hx
  rw[h2];exact hv.2 r h1
theorem tK.move{C C':Ctx}{i j:Nat}{key v:Value}(h:bW C C' i j)(hv:tK C i key v):tK C' j key v:=by
 intro K V es' hx
 obtain⟨es,h1,h2,h3⟩:=h.map K V es' hx
 obtain⟨entries,clock,hh,e,he,hek,hv'⟩:=hv K V es h1
 obtain⟨entries',clock',hh',hall⟩:=h3 entries clock hh
 obtain⟨e',he',hk',hb'⟩:=hall.fwd e he
 rw[h2]
 exact⟨entries',clock',hh',e',he',by rw[hk',hek],by rw[hb'];exact hv'⟩
@[simp] theorem x4 (ρ:Nat->Option Nat): ∀a:AV,bH (kD ρ a)=bH a
 | .agg l=>by simp[kD,bH]
 | .cf| .lit _| .ae _ _| .bp _| .jc _ _| .bP _ _| .iq _ _| .iZ _ _ _ _=>by simp[kD,bH]
 | .az i _ _| .ptr i _ _ _| .mp i| .cx i| .jJ i _=>by simp only[kD];split<;>simp[bH]
mutual
theorem nU(ρ:Nat->Option Nat): ∀a:AV,wid (kD ρ a)=wid a
 | .agg l=>by simp only[kD,wid];exact zO ρ l
 | .cf| .lit _| .ae _ _| .bp _| .jc _ _| .bP _ _| .iq _ _| .iZ _ _ _ _=>by simp[kD,wid]
 | .az i _ _| .ptr i _ _ _| .mp i| .cx i| .jJ i _=>by simp only[kD];split<;>simp[wid]
theorem zO(ρ:Nat->Option Nat): ∀l:List AV,eF (fB ρ l)=eF l
 |[]=>by simp[fB,eF]
 |a::l=>by simp only[fB,eF,nU ρ a,zO ρ l]
end
mutual
theorem re{C C':Ctx}(hk:bG C C')(hl:ec C.P)(ρ:Nat->Option Nat): ∀(a:AV) (s s':Src) (o o':Nat),
  (∀i,i∈refs a->i<C.st.length->∃j,ρ i=some j/\bW C C' i j)->
  (∀j,j<wid a->s' (o'+j)=s (o+j))->M C a s o->M C' (kD ρ a) s' o'
 | .cf,_,_,_,_,_,_,_=>by simp[kD,M]
 | .lit v,s,s',o,o',_,hs,h=>by
  simp only[kD,M] at h⊢
  have:=hs 0 (by simp[wid])
  simp at this
  rw[this];exact h
 | .ae E l,s,s',o,o',_,hs,h=>by
  simp only[kD,M] at h⊢
  have h0:=hs 0 (by simp[wid])
  simp at h0
  obtain⟨h1,p,cap,h2,h3,h4⟩:=h
  rw[hk.P]
  refine⟨h1,p,cap,by rw[h0];exact h2,h3,fun hne=>?_⟩
  obtain⟨b,off,hp,hb,hm⟩:=h4 hne
  exact⟨b,off,hp,hk.X b hb,fa hk hl l E _ _ _ _ h1 (fun j _=>hk.cell hb _) hm⟩
 | .agg l,s,s',o,o',hr,hs,h=>by
  simp only[kD,M] at h⊢
  exact EI hk hl ρ l s s' o o' (by simpa[refs] using hr) (by simpa[wid] using hs) h
 | .bp l,s,s',o,o',hr,hs,h=>by
  simp only[kD,M] at h⊢
  have h0:=hs 0 (by simp[wid])
  simp at h0
  obtain⟨vs,h1,h2⟩:=h
  exact⟨vs,by rw[h0];exact h1,lF hk hl ρ l _ (by simpa[refs] using hr) h2⟩
 | .az i lo n,s,s',o,o',hr,hs,h=>by
  simp only[M] at h
  obtain⟨hi,v,h1,h2,h3⟩:=h
  obtain⟨j,hj,hrf⟩:=hr i (by simp[refs]) hi
  have h0:=hs 0 (by simp[wid])
  simp at h0
  simp only[kD,hj,M]
  exact⟨hrf.lt,v,by rw[h0];exact h1,h2,h3.move hk hrf⟩
 | .ptr i k p off,s,s',o,o',hr,hs,h=>by
  simp only[M] at h
  obtain⟨hi,v,h1,h2,h3⟩:=h
  obtain⟨j,hj,hrf⟩:=hr i (by simp[refs]) hi
  have h0:=hs 0 (by simp[wid])
  simp at h0
  simp only[kD,hj,M]
  exact⟨hrf.lt,v,by rw[h0];exact h1,h2,h3.move hk hrf⟩
 | .jc T a,s,s',o,o',_,hs,h=>by
  simp only[kD,M] at h⊢
  have h0:=hs 0 (by simp[wid])
  simp at h0
  obtain⟨b,off,h1,h2,h3,h4⟩:=h
  rw[hk.P]
  exact⟨b,off,by rw[h0];exact h1,hk.X b h2,h3,lH hk hl a T _ _ _ _ h3 (fun j _=>hk.cell h2 _) h4⟩
 | .mp i,s,s',o,o',hr,hs,h=>by
  simp only[M] at h
  obtain⟨hi,v,h1,h2,h3⟩:=h
  obtain⟨j,hj,hrf⟩:=hr i (by simp[refs]) hi
  have h0:=hs 0 (by simp[wid])
  simp at h0
  simp only[kD,hj,M]
  exact⟨hrf.lt,v,by rw[h0];exact h1,h2,h3.move hrf⟩
 | .cx i,s,s',o,o',hr,hs,h=>by
  simp only[M] at h
  obtain⟨hi,v,h1,h2,h3⟩:=h
  obtain⟨j,hj,hrf⟩:=hr i (by simp[refs]) hi
  have h0:=hs 0 (by simp[wid])
  simp at h0
  simp only[kD,hj,M]
  exact⟨hrf.lt,v,by rw[h0];exact h1,h2,h3.move hrf⟩
 | .jJ i key,s,s',o,o',hr,hs,h=>by
  simp only[M] at h
  obtain⟨hi,v,h1,h2,h3⟩:=h
  obtain⟨j,hj,hrf⟩:=hr i (by simp[refs]) hi
  have h0:=hs 0 (by simp[wid])
  simp at h0
  simp only[kD,hj,M]
  exact⟨hrf.lt,v,by rw[h0];exact h1,h2,h3.move hrf⟩
 | .bP f caps,s,s',o,o',hr,hs,h=>by
  simp only[kD,M] at h⊢
  have h0:=hs 0 (by simp[wid])
  simp at h0
  obtain⟨vs,h1,h2⟩:=h
  exact⟨vs,by rw[h0];exact h1,lF hk hl ρ caps _ (by simpa[refs] using hr) h2⟩
 | .iq T a,s,s',o,o',hr,hs,h=>by
  simp only[kD,M] at h⊢
  have h0:=hs 0 (by simp[wid])
  simp at h0
  obtain⟨u,h1,h2,h3,h4⟩:=h
  exact⟨u,by rw[h0];exact h1,by rw[h2,x4],by rw[h3,nU],re hk hl ρ a _ _ _ _ (by simpa[refs] using hr) (fun j _=>rfl) h4⟩
 | .iZ K V ks vs,s,s',o,o',_,hs,h=>by
  simp only[kD,M] at h⊢
  have h0:=hs 0 (by simp[wid])
  simp at h0
  rw[h0,hk.P]
  rcases h with h|⟨b,ents,clock,h1,h2,h3,h4,h5,h6,h7⟩
  ·exact .inl h
  ·exact .inr ⟨b,ents,clock,h1,hk.X b h2,by rw[hk.heap b h2];exact h3,h4,h5,h6,nY hk hl vs V _ h6 h7⟩
theorem EI{C C':Ctx}(hk:bG C C')(hl:ec C.P)(ρ:Nat->Option Nat): ∀(l:List AV) (s s':Src) (o o':Nat),
  (∀i,i∈cB l->i<C.st.length->∃j,ρ i=some j/\bW C C' i j)->
  (∀j,j<eF l->s' (o'+j)=s (o+j))->ML C l s o->ML C' (fB ρ l) s' o'
 |[],_,_,_,_,_,_,_=>by simp[fB,ML]
 |a::l,s,s',o,o',hr,hs,h=>by
  simp only[fB,ML,eF] at h hs⊢
  refine⟨re hk hl ρ a s s' o o' (fun i hi=>hr i (by simp[cB,hi])) (fun j hj=>hs j (by omega)) h.1,?_⟩
  rw[nU]
  refine EI hk hl ρ l s s' _ _ (fun i hi=>hr i (by simp[cB,hi])) (fun j hj=>?_) h.2
  have:=hs (wid a+j) (by omega)
  rw[show o'+wid a+j=o'+(wid a+j) by omega,this]
  congr 1;omega
theorem lF{C C':Ctx}(hk:bG C C')(hl:ec C.P)(ρ:Nat->Option Nat): ∀(l:List AV) (vs:List Value),
  (∀i,i∈cB l->i<C.st.length->∃j,ρ i=some j/\bW C C' i j)->MT C l vs->MT C' (fB ρ l) vs
 |[],vs,_,h=>by simpa[fB,MT] using h
 |_::_,[],_,h=>by simp[MT] at h
 | a::l,v::vs,hr,h=>by
  simp only[fB,MT] at h⊢
  refine⟨?_,?_,re hk hl ρ a _ _ _ _ (fun i hi=>hr i (by simp[cB,hi])) (fun j _=>rfl) h.2.2.1,
   lF hk hl ρ l vs (fun i hi=>hr i (by simp[cB,hi])) h.2.2.2⟩
  ·rw[x4];exact h.1.imp id (fun e=>by subst e;rfl)
  ·rw[nU];exact h.2.1.imp id (fun e=>by subst e;rfl)
end
theorem Rel.move{C C':Ctx}(hk:bG C C')(hl:ec C.P)(ρ:Nat->Option Nat){a:AV}{v:Value}
  (hr: ∀i,i∈refs a->i<C.st.length->∃j,ρ i=some j/\bW C C' i j) (h:Rel C a v):Rel C' (kD ρ a) v:=by
 refine⟨?_,?_,re hk hl ρ a _ _ _ _ hr (fun j _=>rfl) h.2.2⟩
 ·rw[x4];exact h.1.imp id (fun e=>by subst e;rfl)
 ·rw[nU];exact h.2.1.imp id (fun e=>by subst e;rfl)
mutual
theorem lr: ∀a:AV,kD some a=a
 | .agg l=>by simp only[kD,gI l]
 | .bp l=>by simp only[kD,gI l]
 | .bP f l=>by simp only[kD,gI l]
 | .iq T a=>by simp only[kD,lr a]
 | .cf| .lit _| .ae _ _| .jc _ _| .iZ _ _ _ _=>by simp[kD]
 | .az i _ _| .ptr i _ _ _| .mp i| .cx i| .jJ i _=>by simp[kD]
theorem gI: ∀l:List AV,fB some l=l
 |[]=>by simp[fB]
 |a::l=>by simp only[fB,lr a,gI l]
end
theorem M.dV{C C':Ctx}(hk:bG C C')(hl:ec C.P){a:AV}{s s':Src}{o o':Nat}
  (hr: ∀i,i∈refs a->i<C.st.length->bW C C' i i) (hs: ∀j,j<wid a->s' (o'+j)=s (o+j)) (h:M C a s o):M C' a s' o':=by
 have:=re hk hl some a s s' o o' (fun i hi hlt=>⟨i,rfl,hr i hi hlt⟩) hs h
 rwa [lr] at this
theorem Rel.dV{C C':Ctx}(hk:bG C C')(hl:ec C.P){a:AV}{v:Value}
  (hr: ∀i,i∈refs a->i<C.st.length->bW C C' i i) (h:Rel C a v):Rel C' a v:=by
 have:=h.move hk hl some (fun i hi hlt=>⟨i,rfl,hr i hi hlt⟩)
 rwa [lr] at this
end Go.Dn
