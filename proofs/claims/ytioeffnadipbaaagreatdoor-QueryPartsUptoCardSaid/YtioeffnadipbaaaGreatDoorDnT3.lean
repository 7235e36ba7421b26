import Derived.Test.YtioeffnadipbaaaGreatDoorDnT2
namespace Go.Dn
open Go
theorem LQ{P E}(h:rY P E=true):P.cellsOf E=1:=by
 grind [rY]
theorem j1: ∀l k x,(mT l k x).length=l.length
 |[],_,_=>rfl
 |_::_,0,_=>rfl
 |_::l,k+1,x=>by simp[mT,j1 l k x]
theorem tD: ∀l k x,k<l.length->ez (mT l k x) k=x
 |[],_,_,h=>by grind
 |_::_,0,_,_=>rfl
 |_::l,k+1,x,h=>tD l k x (by grind)
theorem xh: ∀l k j x,j≠k->ez (mT l k x) j=ez l j
 |[],_,_,_,_=>rfl
 |_::_,0,0,_,h=>absurd rfl h
 |_::_,0,_+1,_,_=>rfl
 |_::_,_+1,0,_,_=>rfl
 |_::l,k+1,j+1,x,h=>xh l k j x (by omega)
theorem zo{g o}(h:A6 o=true):cv g o=true:=by cases o<;>simp[A6] at h<;>rfl
theorem Ij{C C'}(hI:Inv C){i}(hi:i<C.st.length){o}(hown:cv (C.ι i) (au C.st i)=true)(e1:C'.P=C.P)(e2:C'.X=C.X)(e3:C'.ι=C.ι)(e4:C'.st=dj C.st i o)(e5:C'.mv=C.mv)
  (hsz:C.w.heap.size<=C'.w.heap.size) (hos:dT C.w C'.w) (hold: ∀b,b<C.w.heap.size->C.cls b≠(C.ι i).block->C'.w.heap[b]? =C.w.heap[b]?) (hcls: ∀b,b<C.w.heap.size->C'.cls b=C.cls b/\C'.s5 b=C.s5 b)
  (hnew: ∀b,C.w.heap.size<=b->C'.cls b=b/\C'.s5 b=C.s5 b\/C'.cls b=(C.ι i).block/\b<C'.w.heap.size) (hr:bW C C' i i) (ho:kl C' (C.ι i) o):Inv C'/\Ext C.st.length C C':=by
 have hi':=(hI.obj i hi).lt hown;have hci:=hI.eZ i hi hown;have xcls: ∀b,C.X b->C.cls b=b:=fun b hb=>by
  by_cases e:C.cls b=b
  ·exact e
  ·exact absurd hb (hI.ot b e).2.1
 have hk:bK C C':=⟨e1,fun _ h=>by rw[e2];exact h,fun b hb=>hold b (hI.xs b hb) (fun e=>hi'.2 (by rw[←e,xcls b hb];exact hb))⟩
 have hlen:C'.st.length=C.st.length:=by rw[e4,a9]
 have hn: ∀j,i≠j->au C'.st j=au C.st j:=fun j h=>by rw[e4];exact bw _ _ _ _ h
 have hs:au C'.st i=o:=by rw[e4];exact bn _ _ _ hi
 have hne: ∀j,j<C.st.length->i≠j->cv (C.ι j) (au C.st j)=true->(C.ι j).block≠(C.ι i).block:=fun j hj hij h=>hI.u0 j i hj hi (Ne.symm hij) h hown
 have hrefs: ∀j,j<C.st.length->bW C C' j j:=fun j hj=>by
  by_cases hij:i=j
  ·subst hij;exact hr
  ·refine dW hI hj (by omega) (hn j hij) (by rw[e3]) (fun h b hb=>?_)
   have hlt:=(hI.dA ⟨j,hj,h,hb.symm⟩).1;exact⟨(hcls b hlt).1,(hcls b hlt).2,hold b hlt (by rw[hb];exact hne j hj hij h)⟩
 have hh: ∀k,k<C.st.length->cv (C'.ι k) (au C'.st k)=true->cv (C.ι k) (au C.st k)=true:=fun k hk h=>by
  by_cases e:i=k
  ·subst e;exact hown
  ·rwa [hn k e,e3] at h
 refine⟨⟨by rw[e1];exact hI.lay,fun j hj=>?_,fun j k hj hk' hjk hoj hok=>?_,fun b hb=>by rw[e2] at hb;have:=hI.xs b hb;omega,fun j hj hoj=>?_,fun b hb=>?_,hI.lR hk⟩,
  ⟨hk,hsz,hos.os,hos.tape,hos.output,fun b hlt hb=>hold b hlt (fun e=>hb ⟨i,hi,hown,e.symm⟩),fun b hb=> .inl (by rw[e2] at hb;exact hb),fun b hb=>?_,hrefs,fun b=>?_,e5⟩⟩
 ·rw [hlen] at hj
  rw[e3];by_cases hij:i=j
  ·subst hij;rw[hs];exact ho
  ·rw[hn j hij]
   refine(hI.obj j hj).gr hk hI.lay (fun j hj _=>hrefs j hj) (hI.eZ j hj) ⟨fun b h' hb=>?_,fun h' b=>?_,hos,hsz,fun _ _=>e5⟩
   ·have hlt:=hI.dA ⟨j,hj,h',hb.symm⟩
    exact⟨by rw[e2];exact hlt.2,hold b hlt.1 (by rw[hb];exact hne j hj hij h')⟩
   ·have hoj:cv (C.ι j) (au C.st j)=true:=zo h'
    rcases Nat.lt_or_ge b C.w.heap.size with hlt|hge
    ·rw[(hcls b hlt).1];exact⟨Iff.rfl,fun _=>(hcls b hlt).2⟩
    ·have hbj:=((hI.obj j hj).lt hoj).1
     have h1:C.cls b≠(C.ι j).block:=by rw[hI.fresh hge];omega
     refine⟨⟨fun h=>?_,fun h=>absurd h h1⟩,fun h=>absurd h h1⟩;rcases hnew b hge with⟨h2,_⟩|⟨h2,_⟩
     ·omega
     ·exact absurd (h.symm.trans h2) (hne j hj hij hoj)
 ·rw[hlen] at hj hk'
  rw[e3];exact hI.u0 j k hj hk' hjk (hh j hj hoj) (hh k hk' hok)
 ·rw[hlen] at hj
  have h:=hh j hj hoj;rw[e3,(hcls _ ((hI.obj j hj).lt h).1).1];exact hI.eZ j hj h
 ·rcases Nat.lt_or_ge b C.w.heap.size with hlt|hge
  ·rw[(hcls b hlt).1] at hb⊢
   have:=hI.ot b hb
   exact⟨by omega,by rw[e2];exact this.2.1,by omega⟩
  ·rcases hnew b hge with⟨h2,_⟩|⟨h2,h3⟩
   ·exact absurd h2 hb
   ·exact⟨h3,by rw[e2];intro h;have:=hI.xs b h;omega,by rw[h2];omega⟩
 ·obtain⟨j,hj,ho',hb'⟩:=hb
  rw[hlen] at hj;rw[e3] at hb';rcases Nat.lt_or_ge b C.w.heap.size with hlt|hge
  ·rw[(hcls b hlt).1] at hb'
   exact .inl ⟨j,hj,hh j hj ho',hb'⟩
  ·exact .inr hge
 ·rcases Nat.lt_or_ge b C.w.heap.size with hlt|hge
  ·exact .inl (hcls b hlt)
  ·rcases hnew b hge with⟨h2,h3⟩|⟨h2,_⟩
   ·exact .inl ⟨by rw[h2,hI.fresh hge],h3⟩
   ·exact .inr ⟨hge, .inl (by rw[h2];exact hI.tI hi hown)⟩
theorem It{C}: ∀b a s o,iO b=some a->MR C b 1 s o->a.length=b.length/\∀j,j<a.length->s (o+j)=a[j]?
 |[],a,_,_,h,_=>by grind [iO]
 | .lit v::l,a,s,o,h,c=>by
  simp only[iO] at h;split at h
  ·rename_i m d
   simp only[an5] at h;simp only[MR,M] at c
   obtain⟨f,e⟩:=It l m s (o+1) d c.2
   grind
  ·cases h
 | .cK::_,_,_,_,h,_| .ad _ _::_,_,_,_,h,_| .agg _::_,_,_,_,h,_| .aK _::_,_,_,_,h,_| .ax _ _ _::_,_,_,_,h,_| .ptr _ _ _ _::_,_,_,_,h,_| .jA _ _::_,_,_,_,h,_
 | .mp _::_,_,_,_,h,_| .bJ _::_,_,_,_,h,_| .lC _ _::_,_,_,_,h,_| .bp _ _::_,_,_,_,h,_| .jz _ _::_,_,_,_,h,_| .eO _ _ _ _::_,_,_,_,h,_=>by simp[iO] at h
theorem yf: ∀b a,iO b=some a->a.length=b.length
 |[],a,h=>by grind [iO]
 | .lit v::l,a,h=>by
  simp[iO] at h;split at h
  ·rename_i m c
   simp   at h;subst h
   simp[yf l m c]
  grind
 | .cK::_,_,h| .ad _ _::_,_,h| .agg _::_,_,h| .aK _::_,_,h| .ax _ _ _::_,_,h| .ptr _ _ _ _::_,_,h| .jA _ _::_,_,h
 | .mp _::_,_,h| .bJ _::_,_,h| .lC _ _::_,_,h| .bp _ _::_,_,h| .jz _ _::_,_,h| .eO _ _ _ _::_,_,h=>by grind [iO]
theorem D3{P E}: ∀c a,iO c=some a->b8 P c E->∀v,v∈a->bu P (.lit v) E
 |[],a,h,_,v,b=>by grind [iO]
 | .lit u::l,a,h,d,v,b=>by
  simp only[iO] at h;split at h
  ·rename_i m e
   simp only[an5] at h;subst h
   rcases List.mem_cons.1 b with rfl|b
   ·exact d.1
   ·exact D3 l m e d.2 v b
  grind
 | .cK::_,_,h,_,_,_| .ad _ _::_,_,h,_,_,_| .agg _::_,_,h,_,_,_| .aK _::_,_,h,_,_,_| .ax _ _ _::_,_,h,_,_,_| .ptr _ _ _ _::_,_,h,_,_,_| .jA _ _::_,_,h,_,_,_
 | .mp _::_,_,h,_,_,_| .bJ _::_,_,h,_,_,_| .lC _ _::_,_,h,_,_,_| .bp _ _::_,_,h,_,_,_| .jz _ _::_,_,h,_,_,_| .eO _ _ _ _::_,_,h,_,_,_=>by simp[iO] at h
theorem tn{C C'}(hI:Inv C){i k}(hi:i<C.st.length){T E ls}(hst:au C.st i= .rows T E ls none)(hk:k<ls.length){vs}(hvs: ∀v,v∈vs->bu C.P (.lit v) E)(e1:C'.P=C.P)(e2:C'.X=C.X)(e3:C'.ι=C.ι)
  (e4:C'.st=dj C.st i (.rows T E (mT ls k (ez ls k++vs)) (some k))) (e5:C'.mv=C.mv) (hsz:C.w.heap.size<=C'.w.heap.size) (hos:dT C.w C'.w) (hcls: ∀b,b<C.w.heap.size->C'.cls b=C.cls b/\C'.s5 b=C.s5 b)
  (hnew: ∀b,C.w.heap.size<=b->(C'.cls b=b/\C'.s5 b=C.s5 b)\/C'.cls b=(C.ι i).block/\b<C'.w.heap.size)
  (hchg: ∀b,b<C.w.heap.size->C'.w.heap[b]? =C.w.heap[b]? \/C.cls b=(C.ι i).block/\b≠(C.ι i).block/\C.s5 b=k/\∃c c',C.w.heap[b]? =some (.cells c E (0,0))/\C'.w.heap[b]? =some (.cells c' E (0,0))/\c'.size=c.size/\∀j,j<(ez ls k).length->c'[j]? =c[j]?):
  Inv C'/\Ext C.st.length C C':=by
 have hown:cv (C.ι i) (au C.st i)=true:=by rw[hst];rfl
 have hob:=hI.obj i hi;rw[hst] at hob;obtain⟨g1,g2,g3,g4,c,g5,g6,g7⟩:=hob;have hat: ∀j,ez (mT ls k (ez ls k++vs)) j=if j=k then ez ls k++vs else ez ls j:=fun j=>by
  by_cases e:j=k
  ·rw[if_pos e,e,tD _ _ _ hk]
  ·rw[if_neg e,xh _ _ _ _ e]
 have hsub: ∀j m v,mx C (C.ι i).block E j (ez ls j) m v->mx C' (C.ι i).block E j (ez (mT ls k (ez ls k++vs)) j) m v:=fun j m v h=>by
  obtain⟨h1,h2⟩:=h;rw[hat];have hl:m<=(if j=k then ez ls k++vs else ez ls j).length:=by
   by_cases e:j=k
   ·rw[if_pos e];subst e;simp;omega
   ·rw[if_neg e];exact h1
  refine⟨hl,h2.imp id ?_⟩
  grind
 have hB:=hI.eZ i hi hown;have hBlt:=((hI.obj i hi).lt hown).1;have hbb:C'.w.heap[(C.ι i).block]? =C.w.heap[(C.ι i).block]? :=(hchg _ hBlt).resolve_right fun h=>h.2.1 rfl
 have hs:au C'.st i= .rows T E (mT ls k (ez ls k++vs)) (some k):=by rw[e4];exact bn _ _ _ hi
 refine Ij hI hi hown e1 e2 e3 e4 e5 hsz hos (fun b hlt hb=>(hchg b hlt).resolve_right fun h=>hb h.1) hcls hnew
  ⟨by rw[e4,a9];exact hi,fun T xs hx=>(by rw[hs] at hx;simp[ib] at hx),fun T b hx=>(by rw[hs] at hx;cases hx),fun _ _ _ hx=>(by rw[hs] at hx;cases hx),fun _ hx=>(by rw[hs] at hx;cases hx),fun _ _ _ hx=>(by rw[hs] at hx;cases hx),fun _ hx=>(by rw[hs] at hx;cases hx),fun _ _ hx=>(by rw[hs] at hx;cases hx),
   fun _ _ _ _ _ hx=>(by rw[hs] at hx;cases hx),fun T' E' ls' pd' hx=>?_⟩
  ⟨by rw[e2];exact g1,by rw[e1];exact g2,by rw[e1];exact g3,fun j v hv=>?_,c,by rw[hbb];exact g5,by rw[j1];exact g6,fun j hj hp=>?_⟩
 ·rw[hs] at hx
  cases hx;exact⟨ls,none,hst,by rw[e3],j1 _ _ _,hsub⟩
 ·grind
 ·rw[j1] at hj
  have e:j≠k:=fun e=>hp (by rw[e])
  obtain⟨v,h1,h2⟩:=g7 j hj (by simp);have:=hsub j _ v h2
  rw[hat,if_neg e] at this⊢;exact⟨v,h1,this⟩
theorem vW{C}(A:Inv C){T h ty J}(hT:C.P.underlying T=some (.slice h)){i k n f}(s:au C.st i= .rows J h f none){vx}(hrx:Rel C (.ax i (k+1) n) vx)
  {y Ty g vy} (hy:qc C.st y=some (Ty,g)) (hf:pC Ty h=true) (hr:Rel C y vy) {a} (Q:iO g=some a) {z} (hz:iC C.P h=some z)
  (hn:n=(ez f k).length) (N:(n+g.length+1)*(C.P.bytesOf h+1)<=va):
  ∃t C',(Builtin.append_ #[T,T] ty #[vx,vy]).run C.P C.w= .ok t C'.w/\C'.st=dj C.st i (.rows J h (mT f k (ez f k++a)) (some k))/\Inv C'/\Ext C.st.length C C'/\Rel C' (.ax i (k+1) (n+g.length)) t:=by
 obtain⟨p,c,rfl,hp,hne⟩:=uc A hy hf hr;obtain⟨ti,zv,hi,hzv,hrz,hcz,W⟩:=dY A hz;obtain⟨d,hd⟩:=jK W;obtain⟨r,hib⟩:=lP hi;obtain⟨hb1,hb2⟩:=mA N;obtain⟨q,hs⟩:=gj hrx;obtain⟨v,hle,hv⟩:=hs.2 _ _ _ _ s;have hob:=A.obj i q;rw[s] at hob;obtain⟨g1,g2,g3,g4,g5⟩:=hob;have Y:=LQ g3;rw[Y] at r;have I:=D3 g a Q hp;have D:=yf g a Q;have hown:cv (C.ι i) (au C.st i)=true:=by rw[s];rfl
 have hBlt:=((A.obj i q).lt hown).1;have one: ∀u,u∈a->u.oneCell'=true:=fun u O=>by rw[←tF];exact(flat_lit g3 (I u O)).1
 have atL:ez (mT f k (ez f k++a)) k=ez f k++a:=tD _ _ _ v;have U: ∀{C':Ctx} {t:Value},C'.st=dj C.st i (.rows J h (mT f k (ez f k++a)) (some k))->C'.ι=C.ι->Inv C'->eF t=false->bg t=true->mx C' (C.ι i).block h k (ez f k++a) (n+g.length) t->Rel C' (.ax i (k+1) (n+g.length)) t:=fun{C' t} e4 e3 hI' h1 h2 h3=>by
  refine dX rfl h1 ?_ hI';simp only[M];have hs':au C'.st i= .rows J h (mT f k (ez f k++a)) (some k):=by rw[e4];exact bn _ _ _ q
  refine⟨by rw[e4,a9];exact q,t,rfl,h2,fun T0 xs H=>(by rw[hs'] at H;simp[ib] at H),fun T0 E0 l0 p0 H=>?_⟩;rw[hs'] at H;cases H;refine⟨by rw[j1];exact v,?_⟩;rw[e3,atL];exact h3
 have X:Inv (C.dR i (.rows J h (mT f k (ez f k++a)) (some k)) C.w)/\Ext C.st.length C (C.dR i (.rows J h (mT f k (ez f k++a)) (some k)) C.w):=
  tn A q s v I rfl rfl rfl rfl rfl (Nat.le_refl _) (dT.refl _) (fun _ _=>⟨rfl,rfl⟩) (fun b N=> .inl ⟨A.fresh N,rfl⟩) (fun _ _=> .inl rfl)
 by_cases h0:g=[]
 ·subst h0
  obtain rfl:a=[]:=List.eq_nil_of_length_eq_zero D;refine⟨vx,_,?_,rfl,X.1,X.2,?_⟩
  ·rcases hv with⟨rfl,rfl⟩|⟨b,cap,m,rfl,h1,_⟩
   ·exact gu hT hd none p 0 0 c (Nat.le_refl _)
   ·exact gu hT hd _ p n cap c h1
  ·refine U rfl rfl X.1 ?_ ?_ ?_
   ·rcases hv with⟨rfl,rfl⟩|⟨b,cap,m,rfl,_⟩<;>rfl
   ·rcases hv with⟨rfl,rfl⟩|⟨b,cap,m,rfl,_⟩<;>rfl
   ·rw[List.append_nil];exact⟨hle,hv⟩
 obtain⟨b0,off,rfl,hm⟩:=hne h0;rw[Y] at hm;have hpos:0<g.length:=List.length_pos_iff.2 h0;obtain⟨_,hat⟩:=It g a _ off Q hm;have o: ∀j u,a[j]? =some u->C.w.cell? ((⟨b0,off,none⟩:Addr).add j)=some u:=fun j u O=>by
  rw[ec,←O];exact hat j (List.getElem?_eq_some_iff.1 O).1
 have hzs:zv.cells.size=1:=by
  rw[hrz.2.1.resolve_right (by intro e;subst e;simp[bu] at W),dw A.lay _ _ W,Y]
 have B: ∀(L:World) (Z:Array Value) (cap:Nat),L=C.w.drew.alloc (.cells Z h)->cap<=maxLen->n+g.length<=cap->Z.size=cap->(∀j,j<n+g.length->Z[j]? =(ez f k++a)[j]?)->
   (Builtin.append_ #[T,T] ty #[vx, .slice (some ⟨b0,off,none⟩) g.length c]).run C.P C.w= .ok (.slice (some ⟨C.w.heap.size,0,none⟩) (n+g.length) cap) L->
   ∃t C',(Builtin.append_ #[T,T] ty #[vx, .slice (some ⟨b0,off,none⟩) g.length c]).run C.P C.w= .ok t C'.w/\C'.st=dj C.st i (.rows J h (mT f k (ez f k++a)) (some k))/\Inv C'/\Ext C.st.length C C'/\Rel C' (.ax i (k+1) (n+g.length)) t:=fun L Z cap hw hc1 hc2 hc3 hc4 l=>by
  have hnw:L.heap[C.w.heap.size]? =some (.cells Z h (0,0)):=by rw[hw];exact alloc_heap_new C.w.drew _
  have hnsz:L.heap.size=C.w.heap.size+1:=by rw[hw,db];rfl
  have R:=tn (C':={C with st:=dj C.st i (.rows J h (mT f k (ez f k++a)) (some k)),w:=L,cls:=fun x=>if x=C.w.heap.size then(C.ι i).block else C.cls x,s5:=fun x=>if x=C.w.heap.size then k else C.s5 x}) A q s v I rfl rfl rfl rfl rfl
   (by show _<=L.heap.size;omega) (by subst hw;exact⟨rfl,rfl,rfl⟩) (fun b N=>⟨if_neg (by omega),if_neg (by omega)⟩) (fun b N=>?_) (fun b N=> .inl (by subst hw;exact bG C.w.drew _ b N))
  ·refine⟨_,_,l,rfl,R.1,R.2,U rfl rfl R.1 rfl rfl ⟨by rw[ao6];omega, .inr ⟨_,cap,Z,rfl,hc2,hc1,if_pos rfl,by omega,if_pos rfl,hnw,hc3.symm,hc4⟩⟩⟩
  ·by_cases e:b=C.w.heap.size
   ·exact .inr ⟨if_pos e,by show b<L.heap.size;omega⟩
   ·exact .inl ⟨(if_neg e).trans (A.fresh N),if_neg e⟩
 rcases hv with⟨rfl,rfl⟩|⟨b,cap,m,rfl,h1,h2,h3,h4,h5,h6,h7,h8⟩
 ·have hl0:ez f k=[]:=List.eq_nil_of_length_eq_zero hn.symm
  have l:=run_append_nil (P:=C.P) C.w T ty h ti zv hT hi hzv ⟨b0,off,none⟩ g.length c a (by rw[D,r,Nat.mul_one]) o hpos (by omega) (by rw[hib];simp only[Nat.zero_add] at hb1;omega);have hge:=grownCap_ge C.w g.length 0 h;refine B _ _ (grownCap C.w g.length 0 h) rfl (grownCap_le_maxLen C.w g.length 0 h (by unfold maxLen;omega)) (by omega) ?_ (fun j hj=>?_) (by rw[Nat.zero_add];exact l)
  ·simp only[Array.size_append,List.size_toArray,size_zeroCells,hzs];omega
  ·rw[hl0,List.nil_append,Array.getElem?_append_left (by simp;omega)];simp
 ·have V:(ez f k).length=n:=hn.symm
  have hold: ∀j u,(ez f k)[j]? =some u->C.w.cell? ((⟨b,0,none⟩:Addr).add j)=some u:=fun j u O=>by
   have hj:=(List.getElem?_eq_some_iff.1 O).1;rw[ec,←O,Nat.zero_add];simp only[World.cell?,h6];exact h8 j (by omega)
  by_cases F:n+g.length<=cap
  ·have l:=run_append_room (P:=C.P) C.w T ty h ti hT hi b n cap m h6 ⟨b0,off,none⟩ g.length c a (by rw[D,r,Nat.mul_one]) o one F (by rw[r,D];omega)
   rw[r,Nat.mul_one] at l;have hsp:=spliced m n a (by omega);have E:=setRow_heap C.w b m (m.toList.take n++a++m.toList.drop (n+a.length)).toArray h (0,0) h6;have K: ∀x,x≠b->(C.w.setRow b (m.toList.take n++a++m.toList.drop (n+a.length)).toArray).heap[x]? =C.w.heap[x]? :=fun x H=>setRow_other _ _ _ _ H
   have hcs:(m.toList.take n++a++m.toList.drop (n+a.length)).toArray.size=m.size:=by
    simp only[List.size_toArray,ao6,List.length_take,List.length_drop,Array.length_toList];omega
   have R:=tn (C':=C.dR i (.rows J h (mT f k (ez f k++a)) (some k)) (C.w.setRow b (m.toList.take n++a++m.toList.drop (n+a.length)).toArray)) A q s v I rfl rfl rfl rfl rfl
    (by simp[Ctx.dR]) (setRow_os _ _ _) (fun _ _=>⟨rfl,rfl⟩) (fun x H=> .inl ⟨A.fresh H,rfl⟩) (fun x H=>by
     by_cases e:x=b
     ·subst e
      exact .inr ⟨h3,h4,h5,m,_,h6,E,hcs,fun j hj=>by rw[hsp,if_neg (by omega)]⟩
     ·exact .inl (K x e))
   refine⟨_,_,l,rfl,R.1,R.2,U rfl rfl R.1 rfl rfl ⟨by rw[ao6];omega, .inr ⟨b,cap,_,rfl,F,h2,h3,h4,h5,E,by rw[hcs];exact h7,fun j hj=>?_⟩⟩⟩;rw[hsp];by_cases hj':n<=j/\j<n+a.length
   ·rw[if_pos hj',List.getElem?_append_right (by omega),V]
   ·rw[if_neg hj',h8 j (by omega),List.getElem?_append_left (by omega)]
  ·have l:=run_append_grow (P:=C.P) C.w T ty h ti zv hT hi hzv ⟨b,0,none⟩ n cap (ez f k) (by rw[r,V,Nat.mul_one]) hold ⟨b0,off,none⟩ g.length c a (by rw[D,r,Nat.mul_one]) o (by omega) (by omega) (growslice_fits (by omega) (by rw[hib];exact hb1))
   have hge:=grownCap_ge C.w (n+g.length) cap h;refine B _ _ (grownCap C.w (n+g.length) cap h) rfl (grownCap_le_maxLen C.w (n+g.length) cap h (by unfold maxLen;omega)) hge ?_ (fun j hj=>?_) l
   ·simp only[Array.size_append,List.size_toArray,size_zeroCells,hzs,V];omega
   ·rw[Array.getElem?_append_left (by simp;omega)];simp
theorem yE{C}(N:Inv C){T E i k m off}(B:i<C.st.length){q}(n:au C.st i= .rows T E q (some k)){v L}(hp:ql C i k off L)(a:Rel C (.ax i (k+1) m) v)(W:m=(ez q k).length){d}(Z:C.P.underlying T=some d)(hz:C.P.cellsOf T=1):
  ∃D,(Instr.storeAt T L v).run C.P C.w= .ok () D/\Inv (C.dR i (.rows T E q none) D)/\Ext C.st.length C (C.dR i (.rows T E q none) D):=by
 have z:=N.obj i B;rw[n] at z;obtain⟨R,U,V,Y,c,K,g6,g7⟩:=z;obtain⟨hk,_,rfl⟩:=hp.2.2.2.2.2 _ _ _ _ n;obtain⟨_,Q⟩:=gj a;obtain⟨_,s⟩:=Q.2 _ _ _ _ n;have x:eF v=false/\v.oneCell'=true:=by
  rcases s.2 with⟨rfl,_⟩|⟨b,cap,c,rfl,_⟩<;>exact⟨rfl,rfl⟩
 have f:=gZ x.1;have r:=kj Z K (v:=v) (o:=k) (by rw[f,hz];rfl) (by rw[f];show k+1<=_;omega) (by rw[f];simpa using x.2);rw[f] at r;refine⟨C.w.setRow (C.ι i).block (c.toList.take k++[v]++c.toList.drop (k+1)).toArray,r,?_⟩;have F:=spliced c k [v] (by simp;omega);have y:cv (C.ι i) (au C.st i)=true:=by rw[n];rfl
 have l: ∀b,b≠(C.ι i).block->(C.w.setRow (C.ι i).block (c.toList.take k++[v]++c.toList.drop (k+1)).toArray).heap[b]? =C.w.heap[b]? :=fun b X=>setRow_other _ _ _ _ X
 have t:=setRow_heap C.w (C.ι i).block c (c.toList.take k++[v]++c.toList.drop (k+1)).toArray T (0,0) K;have p: ∀j m u,mx C (C.ι i).block E j (ez q j) m u->mx (C.dR i (.rows T E q none) (C.w.setRow (C.ι i).block (c.toList.take k++[v]++c.toList.drop (k+1)).toArray)) (C.ι i).block E j (ez q j) m u:=fun j m u h=>by
  obtain⟨H,I⟩:=h;refine⟨H,I.imp id ?_⟩;rintro⟨b,cap,c0,h3,h4,h5,h6,O,h8,h9,J⟩;exact⟨b,cap,c0,h3,h4,h5,h6,O,h8,(l b O).trans h9,J⟩
 have g:au (C.dR i (.rows T E q none) (C.w.setRow (C.ι i).block (c.toList.take k++[v]++c.toList.drop (k+1)).toArray)).st i= .rows T E q none:=bn _ _ _ B;refine hJ N B y (by simp) (setRow_os _ _ _) l
  ⟨by simp only[Ctx.dR,a9];exact B,fun T xs a=>(by rw[g] at a;simp[ib] at a),fun T b a=>(by rw[g] at a;cases a),fun _ _ _ a=>(by rw[g] at a;cases a),fun _ a=>(by rw[g] at a;cases a),fun _ _ _ a=>(by rw[g] at a;cases a),fun _ a=>(by rw[g] at a;cases a),fun _ _ a=>(by rw[g] at a;cases a),
   fun _ _ _ _ _ a=>(by rw[g] at a;cases a),fun T' E' ls' pd' a=>(by rw[g] at a;cases a;exact⟨q,some k,n,rfl,rfl,p⟩)⟩
  ⟨R,U,V,Y,_,t,?_,fun j hj _=>?_⟩
 ·simp only[List.size_toArray,ao6,List.length_take,List.length_drop,Array.length_toList,List.length_singleton];omega
 ·have A:(c.toList.take k++[v]++c.toList.drop (k+1)).toArray[j]? =if j=k then some v else c[j]? :=by
   have:=F j
   simp only[List.length_singleton] at this;rw[this];by_cases e:j=k
   ·subst e;rw[if_pos (by omega),if_pos rfl];simp
   ·rw[if_neg (by omega),if_neg e]
  by_cases e:j=k
  ·subst e
   exact⟨v,by rw[A,if_pos rfl],by rw[←W];exact p j m v s⟩
  ·obtain⟨u,H,I⟩:=g7 j hj (by simpa using Ne.symm e)
   exact⟨u,by rw[A,if_neg e];exact H,p j _ u I⟩
end Go.Dn
