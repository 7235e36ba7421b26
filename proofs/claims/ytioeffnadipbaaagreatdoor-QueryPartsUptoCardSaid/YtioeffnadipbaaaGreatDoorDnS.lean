import Derived.Test.YtioeffnadipbaaaGreatDoorDnR
namespace Go.Dn
open Go
theorem kG(w:World):w.drew.heap=w.heap:=rfl
theorem lP{P:Program}{T i}(h:P.info? T=some i):i.size=P.cellsOf T/\i.bytes=P.bytesOf T:=by
 grind [Program.cellsOf,Program.bytesOf]
theorem mA{a b}(h:(a+1)*(b+1)<=va):a*b<=140737488355328/\a<=140737488355328:=by
 grind [va]
theorem pR{C C'}(hl:eU C.P)(hk:bK C C'){Te}{olds news zs:List _}{xs ys}{b:Nat}(hpx:b8 C.P xs Te)(hpy:b8 C.P ys Te)
  {sx sy ox oy} (hx:xs≠[]->MR C xs (C.P.cellsOf Te) sx ox) (hy:ys≠[]->MR C ys (C.P.cellsOf Te) sy oy) (hlo:olds.length=xs.length*C.P.cellsOf Te) (hln:news.length=ys.length*C.P.cellsOf Te)
  (ho: ∀j,j<olds.length->olds[j]? =sx (ox+j)) (hn: ∀j,j<news.length->news[j]? =sy (oy+j)) {s'} (hs': ∀j,s' j=(olds++news++zs)[j]?) (_hb:b=b):
  MR C' (xs++ys) (C.P.cellsOf Te) s' 0:=by
 refine yG xs ys _ s' 0 ?_ ?_
 ·by_cases h:xs=[]
  ·grind [MR]
  ·grind [gg]
 ·by_cases h:ys=[]
  ·subst h;simp[MR]
  ·grind [gg]
theorem vU{C}(n:Inv C){T f ty}(hT:C.P.underlying T=some (.slice f)){y Z a vy}(hy:qc C.st y=some (Z,a))(hf:pC Z f=true)(hr:Rel C y vy)
  {z} (hz:iC C.P f=some z) (hb:(a.length+1)*(C.P.bytesOf f+1)<=va):
  ∃q s g,(Builtin.append_ #[T,T] ty #[.slice none 0 0,vy]).run C.P C.w= .ok q s/\Inv (C.add (.row f a) g s)/\Ext C.st.length C (C.add (.row f a) g s)/\Rel (C.add (.row f a) g s) (.ax C.st.length 0 a.length) q:=by
 obtain⟨p,c,rfl,X,Y⟩:=uc n hy hf hr;obtain⟨i,r,hi,N,Q,hcz,u⟩:=dY n hz;obtain⟨d,hd⟩:=jK u;obtain⟨J,U⟩:=lP hi;obtain⟨hb1,hb2⟩:=mA hb;have m: ∀{g:G} {s:World} {q:Value},Inv (C.add (.row f a) g s)->eF q=false->bg q=true->((g.isNil=true/\q= .slice none 0 0/\a=[])\/(g.isNil=false/\q= .slice (some ⟨g.block,0,none⟩) a.length g.cap/\a.length<=g.cap))->
   Rel (C.add (.row f a) g s) (.ax C.st.length 0 a.length) q:=fun{g s q} W ha h1 F=>by
  refine dX rfl ha ?_ W;simp only[M];refine⟨by simp[Ctx.add],_,rfl,h1,fun T0 xs A=>?_,fun _ _ _ _ A=>(by rw[br.1] at A;cases A)⟩;rw[br.1] at A;simp only[ib,an5,ao1] at A;obtain⟨rfl,rfl⟩:=A;refine⟨by omega,?_⟩;rw[br.2];rcases F with⟨I,K,L⟩|⟨I,K,L⟩
  ·exact .inl ⟨I,K,rfl,by rw[L];rfl⟩
  ·exact .inr ⟨I,g.cap,_,K, .inl (by simp),L,by omega⟩
 by_cases O:a=[]
 ·subst O
  refine⟨.slice none 0 0,C.w,⟨C.w.heap.size,0,true⟩,gu hT hd none p 0 0 c (Nat.le_refl _),?_⟩;have h:=gh n (o:= .row f []) (g:=⟨C.w.heap.size,0,true⟩) (w:=C.w) rfl (Nat.le_refl _) ⟨rfl,rfl,rfl⟩ (fun _ _=>rfl) ⟨trivial, .inl ⟨rfl,rfl⟩⟩;exact⟨h.1,h.2,m h.1 rfl rfl (.inl ⟨rfl,rfl,rfl⟩)⟩
 ·obtain⟨b,off,rfl,hm⟩:=Y O
  have B:0<a.length:=List.length_pos_iff.2 O;have l:=rG n.lay a _ off X hm;have k:=im (cellAt C.w b) off (a.length*C.P.cellsOf f);have E:=run_append_nil (P:=C.P) C.w T ty f i r hT hi N ⟨b,off,none⟩ a.length c (cV (cellAt C.w b) off (a.length*C.P.cellsOf f)) (by rw[k,J]) (fun j v F=>by
   have H:j<a.length*C.P.cellsOf f:=by
    have:=(List.getElem?_eq_some_iff.1 F).1;omega
   rw[gY l H] at F;rw[ec];exact F) B (by omega) (by rw[U];omega)
  refine⟨_,_,⟨C.w.heap.size,grownCap C.w a.length 0 f,false⟩,E,?_⟩;have D:=grownCap_ge C.w a.length 0 f;have V:=grownCap_le_maxLen C.w a.length 0 f (by unfold maxLen;omega);have R:r.cells.size=C.P.cellsOf f:=by
   rw[Q.2.1.resolve_right (by intro e;subst e;simp[bu] at u),dw n.lay _ _ u]
  have t:=bG C.w.drew (.cells ((cV (cellAt C.w b) off (a.length*C.P.cellsOf f)).toArray++Builtin.zeroCells r.cells (grownCap C.w a.length 0 f - a.length)) f);have x:=iI C.w.drew ((cV (cellAt C.w b) off (a.length*C.P.cellsOf f)).toArray++Builtin.zeroCells r.cells (grownCap C.w a.length 0 f - a.length)) f (0,0);have h:=gh n (o:= .row f a) (g:=⟨C.w.heap.size,grownCap C.w a.length 0 f,false⟩) (w:=C.w.drew.alloc (.cells ((cV (cellAt C.w b) off (a.length*C.P.cellsOf f)).toArray++Builtin.zeroCells r.cells (grownCap C.w a.length 0 f - a.length)) f)) rfl
   (by rw[db,kG];omega) ⟨rfl,rfl,rfl⟩ t (by
    refine⟨X, .inr ⟨rfl,fun h=>by have:=n.xs _ h;simp at this,_,alloc_heap_new _ _,D,V,?_,?_⟩⟩
    ·simp only[Array.size_append,List.size_toArray,size_zeroCells,R,k]
     show grownCap C.w a.length 0 f*C.P.cellsOf f=_
     rw[←Nat.add_mul];congr 1;omega
    ·have:=pR (C':=C.add (.row f a) ⟨C.w.heap.size,grownCap C.w a.length 0 f,false⟩ (C.w.drew.alloc (.cells ((cV (cellAt C.w b) off (a.length*C.P.cellsOf f)).toArray++Builtin.zeroCells r.cells (grownCap C.w a.length 0 f - a.length)) f))) n.lay (jE n t)
      (olds:=[]) (xs:=[]) (sx:=cellAt C.w b) (ox:=0) trivial X (fun h=>absurd rfl h) (fun _=>hm) (by simp) k (fun j H=>by simp at H) (fun j H=>gY l (by omega))
      (s':=cellAt (C.w.drew.alloc (.cells ((cV (cellAt C.w b) off (a.length*C.P.cellsOf f)).toArray++Builtin.zeroCells r.cells (grownCap C.w a.length 0 f - a.length)) f)) C.w.heap.size)
      (zs:=(Builtin.zeroCells r.cells (grownCap C.w a.length 0 f - a.length)).toList) (fun j=>by rw[←kG,x j,←Array.getElem?_toList];simp) (b:=0) rfl
     simp only[List.nil_append] at this;exact this)
  exact⟨h.1,h.2,m h.1 rfl rfl (.inr ⟨rfl,rfl,D⟩)⟩
theorem vV{C}(t:Inv C){T a ty}(hT:C.P.underlying T=some (.slice a)){i n xs}(l:au C.st i= .row a xs){vx}(hrx:Rel C (.ax i 0 n) vx)
  {y Ty f vy} (hy:qc C.st y=some (Ty,f)) (hf:pC Ty a=true) (hr:Rel C y vy)
  {z} (hz:iC C.P a=some z) (hb:(n+f.length+1)*(C.P.bytesOf a+1)<=va):
  ∃Z N g,(Builtin.append_ #[T,T] ty #[vx,vy]).run C.P C.w= .ok Z N/\Inv (C.app i (.row a (xs.take n++f)) g N)/\Ext C.st.length C (C.app i (.row a (xs.take n++f)) g N)/\
   Rel (C.app i (.row a (xs.take n++f)) g N) (.ax C.st.length 0 (n+f.length)) Z:=by
 obtain⟨p,c,rfl,hp,hne⟩:=uc t hy hf hr;obtain⟨ti,O,hi,hzv,hrz,hcz,X⟩:=dY t hz;obtain⟨d,hd⟩:=jK X;obtain⟨L,hib⟩:=lP hi;obtain⟨hb1,hb2⟩:=mA hb;obtain⟨B,hs⟩:=gj hrx;obtain⟨hlen,H⟩:=hs.1 a xs (by rw[l];rfl);have I:(xs.take n).length=n:=by simp;omega
 have U:=t.obj i B;rw[l] at U;obtain⟨hpx,U⟩:=U;have u:=jJ xs n hpx;have x: ∀{g:G} {N:World} {Z:Value},Inv (C.app i (.row a (xs.take n++f)) g N)->eF Z=false->bg Z=true->
   ((g.isNil=true/\Z= .slice none 0 0/\n+f.length=0)\/(g.isNil=false/\∃cap,Z= .slice (some ⟨g.block,0,none⟩) (n+f.length) cap/\n+f.length<=cap/\cap<=g.cap))->
   Rel (C.app i (.row a (xs.take n++f)) g N) (.ax C.st.length 0 (n+f.length)) Z:=fun{g N Z} hI' ha h1 H=>by
  refine dX rfl ha ?_ hI';simp only[M];refine⟨by rw[nh];omega,_,rfl,h1,fun T0 zs hx=>?_,fun _ _ _ _ hx=>(by rw[kt.1] at hx;cases hx)⟩;rw[kt.1] at hx;simp only[ib,an5,ao1] at hx;obtain⟨rfl,rfl⟩:=hx;refine⟨by rw[ao6,I];omega,?_⟩;rw[kt.2];rcases H with⟨h2,h3,h4⟩|⟨h2,cap,h3,h4,h5⟩
  ·exact .inl ⟨h2,h3,rfl,h4⟩
  ·exact .inr ⟨h2,cap,_,h3, .inl (by simp),h4,by omega⟩
 rcases H with⟨hnil,rfl,_,rfl⟩|⟨V,cap,q,rfl,hq,hc1,hc2⟩
 ·
  have hxs:xs=[]:=by
   rcases U with⟨_,h⟩|⟨h,_⟩
   ·exact h
   ·rw[hnil] at h;cases h
  subst hxs;by_cases h0:f=[]
  ·subst h0
   refine⟨.slice none 0 0,C.w,⟨C.w.heap.size,0,true⟩,gu hT hd none p 0 0 c (Nat.le_refl _),?_⟩;have h:=rN t B l (o:= .row a []) (g:=⟨C.w.heap.size,0,true⟩) (w:=C.w) (.inr rfl) (Nat.le_refl _) ⟨rfl,rfl,rfl⟩ (fun _ _ _=>rfl) ⟨trivial, .inl ⟨rfl,rfl⟩⟩;exact⟨h.1,h.2,x h.1 rfl rfl (.inl ⟨rfl,rfl,rfl⟩)⟩
  ·obtain⟨b,off,rfl,hm⟩:=hne h0
   have W:0<f.length:=List.length_pos_iff.2 h0;have r:=rG t.lay f _ off hp hm;have k:=im (cellAt C.w b) off (f.length*C.P.cellsOf a);have D:=run_append_nil (P:=C.P) C.w T ty a ti O hT hi hzv ⟨b,off,none⟩ f.length c (cV (cellAt C.w b) off (f.length*C.P.cellsOf a)) (by rw[k,L]) (fun j v H=>by
    have J:j<f.length*C.P.cellsOf a:=by
     have:=(List.getElem?_eq_some_iff.1 H).1;omega
    rw[gY r J] at H;rw[ec];exact H) W (by omega) (by rw[hib];simp only[Nat.zero_add] at hb1;omega)
   refine⟨_,_,⟨C.w.heap.size,grownCap C.w f.length 0 a,false⟩,D,?_⟩;have R:=grownCap_ge C.w f.length 0 a;have hmx:=grownCap_le_maxLen C.w f.length 0 a (by unfold maxLen;omega);have hzs:O.cells.size=C.P.cellsOf a:=by
    rw[hrz.2.1.resolve_right (by intro e;subst e;simp[bu] at X),dw t.lay _ _ X]
   have A:=iI C.w.drew ((cV (cellAt C.w b) off (f.length*C.P.cellsOf a)).toArray++Builtin.zeroCells O.cells (grownCap C.w f.length 0 a - f.length)) a (0,0);have s:=bG C.w.drew (.cells ((cV (cellAt C.w b) off (f.length*C.P.cellsOf a)).toArray++Builtin.zeroCells O.cells (grownCap C.w f.length 0 a - f.length)) a);have h:=rN t B l (o:= .row a f) (g:=⟨C.w.heap.size,grownCap C.w f.length 0 a,false⟩) (w:=C.w.drew.alloc (.cells ((cV (cellAt C.w b) off (f.length*C.P.cellsOf a)).toArray++Builtin.zeroCells O.cells (grownCap C.w f.length 0 a - f.length)) a)) (.inr rfl)
    (by rw[db,kG];omega) ⟨rfl,rfl,rfl⟩ (fun b hb _=>s b hb) (by
     refine⟨hp, .inr ⟨rfl,fun h=>by have:=t.xs _ h;simp at this,_,alloc_heap_new _ _,R,hmx,?_,?_⟩⟩
     ·simp only[Array.size_append,List.size_toArray,size_zeroCells,hzs,k]
      show grownCap C.w f.length 0 a*C.P.cellsOf a=_
      rw[←Nat.add_mul];congr 1;omega
     ·have:=pR (C':=C.app i (.row a f) ⟨C.w.heap.size,grownCap C.w f.length 0 a,false⟩ (C.w.drew.alloc (.cells ((cV (cellAt C.w b) off (f.length*C.P.cellsOf a)).toArray++Builtin.zeroCells O.cells (grownCap C.w f.length 0 a - f.length)) a))) t.lay (mz t B l (.inr rfl) (fun b hb _=>s b hb))
       (olds:=[]) (xs:=[]) (sx:=cellAt C.w b) (ox:=0) trivial hp (fun h=>absurd rfl h) (fun _=>hm) (by simp) k (fun j J=>by simp at J) (fun j J=>gY r (by omega))
       (s':=cellAt (C.w.drew.alloc (.cells ((cV (cellAt C.w b) off (f.length*C.P.cellsOf a)).toArray++Builtin.zeroCells O.cells (grownCap C.w f.length 0 a - f.length)) a)) C.w.heap.size)
       (zs:=(Builtin.zeroCells O.cells (grownCap C.w f.length 0 a - f.length)).toList) (fun j=>by rw[←kG,A j,←Array.getElem?_toList];simp) (b:=0) rfl
      simp only[List.nil_append] at this;exact this)
   exact⟨h.1,h.2,x h.1 rfl rfl (.inr ⟨rfl,_,by simp,by simpa using R,Nat.le_refl _⟩)⟩
 ·
  have hq':q=⟨(C.ι i).block,0,none⟩:=by
   rcases hq with h|⟨_,h⟩
   ·simpa using h
   ·omega
  subst hq';have hcap:cap<=(C.ι i).cap:=by omega
  rcases U with⟨h,_⟩|⟨_,hnX,m,hh,hxc,hcm,hcs,hmx⟩
  ·rw[V] at h;cases h
  have hmt:=rH xs n _ _ _ hmx;by_cases h0:f=[]
  ·subst h0
   refine⟨.slice (some ⟨(C.ι i).block,0,none⟩) n cap,C.w,⟨(C.ι i).block,(C.ι i).cap,false⟩,gu hT hd _ p n cap c hc1,?_⟩;have h:=rN t B l (o:= .row a (xs.take n++[])) (g:=⟨(C.ι i).block,(C.ι i).cap,false⟩) (w:=C.w) (.inl ⟨rfl,V⟩) (Nat.le_refl _) ⟨rfl,rfl,rfl⟩ (fun _ _ _=>rfl) (by
    have K:=mz t B l (o:= .row a (xs.take n++[])) (g:=⟨(C.ι i).block,(C.ι i).cap,false⟩) (w:=C.w) (.inl ⟨rfl,V⟩) (fun _ _ _=>rfl);refine⟨by rw[List.append_nil];exact u, .inr ⟨rfl,hnX,m,hh,by simp;omega,hcm,hcs,?_⟩⟩;rw[List.append_nil] at K⊢;have:=gg K t.lay (xs.take n) a _ (cellAt C.w (C.ι i).block) 0 0 u (fun _ _=>rfl) hmt
    exact this)
   exact⟨h.1,h.2,x h.1 rfl rfl (.inr ⟨rfl,cap,by simp,by simp;omega,hcap⟩)⟩
  ·obtain⟨b,off,rfl,hm⟩:=hne h0
   have W:0<f.length:=List.length_pos_iff.2 h0;have r:=rG t.lay f _ off hp hm;have F:=rG t.lay (xs.take n) _ 0 u hmt;rw[I] at F;have k:=im (cellAt C.w b) off (f.length*C.P.cellsOf a);have hnat: ∀j v,(cV (cellAt C.w b) off (f.length*C.P.cellsOf a))[j]? =some v->C.w.cell? ((⟨b,off,none⟩:Addr).add j)=some v:=fun j v H=>by
    have J:j<f.length*C.P.cellsOf a:=by
     have:=(List.getElem?_eq_some_iff.1 H).1;omega
    rw[gY r J] at H;rw[ec];exact H
   have hncap:n*C.P.cellsOf a<=m.size:=by rw[←hcs];exact Nat.mul_le_mul_right _ (by omega)
   by_cases Y:n+f.length<=cap
   ·have hfit:n*C.P.cellsOf a+(cV (cellAt C.w b) off (f.length*C.P.cellsOf a)).length<=m.size:=by
     rw[k,←hcs,←Nat.add_mul];exact Nat.mul_le_mul_right _ (by omega)
    have D:=run_append_room (P:=C.P) C.w T ty a ti hT hi (C.ι i).block n cap m hh ⟨b,off,none⟩ f.length c (cV (cellAt C.w b) off (f.length*C.P.cellsOf a)) (by rw[k,L]) hnat (EE r) Y (by rw[L];exact hfit);rw[L] at D;refine⟨_,_,⟨(C.ι i).block,(C.ι i).cap,false⟩,D,?_⟩;have s: ∀b',b'<C.w.heap.size->b'≠(C.ι i).block->(C.w.setRow (C.ι i).block (m.toList.take (n*C.P.cellsOf a)++cV (cellAt C.w b) off (f.length*C.P.cellsOf a)++m.toList.drop (n*C.P.cellsOf a+(cV (cellAt C.w b) off (f.length*C.P.cellsOf a)).length)).toArray).heap[b']? =C.w.heap[b']? :=fun b' _ h=>setRow_other _ _ _ _ h
    have A:=nq C.w (C.ι i).block m (m.toList.take (n*C.P.cellsOf a)++cV (cellAt C.w b) off (f.length*C.P.cellsOf a)++m.toList.drop (n*C.P.cellsOf a+(cV (cellAt C.w b) off (f.length*C.P.cellsOf a)).length)).toArray a hh;have hheap:=setRow_heap C.w (C.ι i).block m (m.toList.take (n*C.P.cellsOf a)++cV (cellAt C.w b) off (f.length*C.P.cellsOf a)++m.toList.drop (n*C.P.cellsOf a+(cV (cellAt C.w b) off (f.length*C.P.cellsOf a)).length)).toArray a (0,0) hh;generalize hw':C.w.setRow (C.ι i).block (m.toList.take (n*C.P.cellsOf a)++cV (cellAt C.w b) off (f.length*C.P.cellsOf a)++m.toList.drop (n*C.P.cellsOf a+(cV (cellAt C.w b) off (f.length*C.P.cellsOf a)).length)).toArray=N at*
    have K:=mz t B l (o:= .row a (xs.take n++f)) (g:=⟨(C.ι i).block,(C.ι i).cap,false⟩) (w:=N) (.inl ⟨rfl,V⟩) s;have h:=rN t B l (o:= .row a (xs.take n++f)) (g:=⟨(C.ι i).block,(C.ι i).cap,false⟩) (w:=N) (.inl ⟨rfl,V⟩) (by rw[←hw'];simp) (by rw[←hw'];exact setRow_os _ _ _) s (by
     refine⟨nJ _ _ u hp, .inr ⟨rfl,hnX,_,hheap,by rw[ao6,I];show _<=(C.ι i).cap;omega,hcm,?_,?_⟩⟩
     ·show(C.ι i).cap*C.P.cellsOf a=_
      rw[hcs];simp only[List.size_toArray,ao6,List.length_take,List.length_drop,Array.length_toList];omega
     ·exact pR t.lay K (olds:=m.toList.take (n*C.P.cellsOf a)) (xs:=xs.take n) (sx:=cellAt C.w (C.ι i).block) (ox:=0) u hp (fun _=>hmt) (fun _=>hm) (by rw[I];simp;omega) k
       (fun j J=>by
        simp only[List.length_take,Array.length_toList] at J;rw[Nat.zero_add,lL hh,List.getElem?_take_of_lt (by omega)];simp) (fun j J=>gY r (by omega))
       (s':=cellAt N (C.ι i).block) (zs:=m.toList.drop (n*C.P.cellsOf a+(cV (cellAt C.w b) off (f.length*C.P.cellsOf a)).length)) (fun j=>by rw[A j,List.getElem?_toArray]) (b:=0) rfl)
    exact⟨h.1,h.2,x h.1 rfl rfl (.inr ⟨rfl,cap,rfl,Y,hcap⟩)⟩
   ·have holds: ∀j v,(cV (cellAt C.w (C.ι i).block) 0 (n*C.P.cellsOf a))[j]? =some v->C.w.cell? ((⟨(C.ι i).block,0,none⟩:Addr).add j)=some v:=fun j v H=>by
     have J:j<n*C.P.cellsOf a:=by
      have:=(List.getElem?_eq_some_iff.1 H).1
      rw[im] at this;exact this
     rw[gY F J] at H;rw[ec];exact H
    have E:=im (cellAt C.w (C.ι i).block) 0 (n*C.P.cellsOf a);have D:=run_append_grow (P:=C.P) C.w T ty a ti O hT hi hzv ⟨(C.ι i).block,0,none⟩ n cap (cV (cellAt C.w (C.ι i).block) 0 (n*C.P.cellsOf a)) (by rw[E,L]) holds ⟨b,off,none⟩ f.length c
     (cV (cellAt C.w b) off (f.length*C.P.cellsOf a)) (by rw[k,L]) hnat (by omega) (by omega) (growslice_fits (by omega) (by rw[hib];exact hb1))
    refine⟨_,_,⟨C.w.heap.size,grownCap C.w (n+f.length) cap a,false⟩,D,?_⟩;have R:=grownCap_ge C.w (n+f.length) cap a;have hmx':=grownCap_le_maxLen C.w (n+f.length) cap a (by unfold maxLen;omega);have hzs:O.cells.size=C.P.cellsOf a:=by
     rw[hrz.2.1.resolve_right (by intro e;subst e;simp[bu] at X),dw t.lay _ _ X]
    generalize hcs':((cV (cellAt C.w (C.ι i).block) 0 (n*C.P.cellsOf a)).toArray++(cV (cellAt C.w b) off (f.length*C.P.cellsOf a)).toArray++Builtin.zeroCells O.cells (grownCap C.w (n+f.length) cap a - (n+f.length)))=Q at*
    have A:=iI C.w.drew Q a (0,0);have s:=bG C.w.drew (.cells Q a);have K:=mz t B l (o:= .row a (xs.take n++f)) (g:=⟨C.w.heap.size,grownCap C.w (n+f.length) cap a,false⟩) (w:=C.w.drew.alloc (.cells Q a)) (.inr rfl) (fun b hb _=>s b hb);have h:=rN t B l (o:= .row a (xs.take n++f)) (g:=⟨C.w.heap.size,grownCap C.w (n+f.length) cap a,false⟩) (w:=C.w.drew.alloc (.cells Q a)) (.inr rfl)
     (by rw[db,kG];omega) ⟨rfl,rfl,rfl⟩ (fun b hb _=>s b hb) (by
      refine⟨nJ _ _ u hp, .inr ⟨rfl,fun h=>by have:=t.xs _ h;simp at this,_,alloc_heap_new _ _,by rw[ao6,I];exact R,hmx',?_,?_⟩⟩
      ·rw[←hcs']
       simp only[Array.size_append,List.size_toArray,size_zeroCells,hzs,k,E];show grownCap C.w (n+f.length) cap a*C.P.cellsOf a=_
       rw[←Nat.add_mul,←Nat.add_mul];congr 1;omega
      ·exact pR t.lay K (olds:=cV (cellAt C.w (C.ι i).block) 0 (n*C.P.cellsOf a)) (xs:=xs.take n) (sx:=cellAt C.w (C.ι i).block) (ox:=0) u hp (fun _=>hmt) (fun _=>hm) (by rw[I];exact E) k
        (fun j J=>gY F (by omega)) (fun j J=>gY r (by omega))
        (s':=cellAt (C.w.drew.alloc (.cells Q a)) C.w.heap.size) (zs:=(Builtin.zeroCells O.cells (grownCap C.w (n+f.length) cap a - (n+f.length))).toList)
        (fun j=>by rw[←kG,A j,←hcs',←Array.getElem?_toList];simp) (b:=0) rfl)
    exact⟨h.1,h.2,x h.1 rfl rfl (.inr ⟨rfl,_,rfl,R,Nat.le_refl _⟩)⟩
end Go.Dn
