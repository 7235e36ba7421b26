import Derived.Test.YtioeffnadipbaaaGreatDoorDnT2
namespace Go.Dn
open Go
theorem Ki{P:Program}{E:TypeId}(h:qz P E=true):P.cellsOf E=1:=by
 unfold qz at h
 split at h<;>simp_all
theorem jj: ∀(l:List (List Value)) (k:Nat) (x:List Value),(lL l k x).length=l.length
 |[],_,_=>rfl
 |_::_,0,_=>rfl
 |_::l,k+1,x=>by simp[lL,jj l k x]
theorem rB: ∀(l:List (List Value)) (k:Nat) (x:List Value),k<l.length->ej (lL l k x) k=x
 |[],_,_,h=>by simp at h
 |_::_,0,_,_=>rfl
 |_::l,k+1,x,h=>rB l k x (by simpa using h)
theorem u9: ∀(l:List (List Value)) (k j:Nat) (x:List Value),j≠k->ej (lL l k x) j=ej l j
 |[],_,_,_,_=>rfl
 |_::_,0,0,_,h=>absurd rfl h
 |_::_,0,_+1,_,_=>rfl
 |_::_,_+1,0,_,_=>rfl
 |_::l,k+1,j+1,x,h=>u9 l k j x (by omega)
theorem xX{g:G}{o:Obj}(h:yz o=true):cr g o=true:=by cases o<;>simp[yz] at h<;>rfl
theorem Et{C C':Ctx}(hI:Inv C){i:Nat}(hi:i<C.st.length){o:Obj}(hown:cr (C.ι i) (an C.st i)=true)(e1:C'.P=C.P)(e2:C'.X=C.X)(e3:C'.ι=C.ι)(e4:C'.st=c9 C.st i o)(e5:C'.lr=C.lr)
  (hsz:C.w.heap.size<=C'.w.heap.size) (hos:dN C.w C'.w) (hold: ∀b,b<C.w.heap.size->C.cls b≠(C.ι i).block->C'.w.heap[b]? =C.w.heap[b]?) (hcls: ∀b,b<C.w.heap.size->C'.cls b=C.cls b/\C'.rk b=C.rk b)
  (hnew: ∀b,C.w.heap.size<=b->(C'.cls b=b/\C'.rk b=C.rk b)\/(C'.cls b=(C.ι i).block/\b<C'.w.heap.size)) (hr:bU C C' i i) (ho:jF C' (C.ι i) o):Inv C'/\Ext C.st.length C C':=by
 have hi':=(hI.obj i hi).lt hown
 have hci:=hI.eQ i hi hown
 have xcls: ∀b,C.X b->C.cls b=b:=fun b hb=>by
  by_cases e:C.cls b=b
  ·exact e
  ·exact absurd hb (hI.mT b e).2.1
 have hk:bH C C':=⟨e1,fun _ h=>by rw[e2];exact h,fun b hb=>hold b (hI.xs b hb) (fun e=>hi'.2 (by rw[←e,xcls b hb];exact hb))⟩
 have hlen:C'.st.length=C.st.length:=by rw[e4,aU]
 have hn: ∀j,i≠j->an C'.st j=an C.st j:=fun j h=>by rw[e4];exact bt _ _ _ _ h
 have hs:an C'.st i=o:=by rw[e4];exact bn _ _ _ hi
 have hne: ∀j,j<C.st.length->i≠j->cr (C.ι j) (an C.st j)=true->(C.ι j).block≠(C.ι i).block:=fun j hj hij h=>hI.s8 j i hj hi (Ne.symm hij) h hown
 have hrefs: ∀j,j<C.st.length->bU C C' j j:=fun j hj=>by
  by_cases hij:i=j
  ·subst hij;exact hr
  ·refine dM hI hj (by omega) (hn j hij) (by rw[e3]) (fun h b hb=>?_)
   have hlt:=(hI.dv ⟨j,hj,h,hb.symm⟩).1
   exact⟨(hcls b hlt).1,(hcls b hlt).2,hold b hlt (by rw[hb];exact hne j hj hij h)⟩
 have hh: ∀k,k<C.st.length->cr (C'.ι k) (an C'.st k)=true->cr (C.ι k) (an C.st k)=true:=fun k hk h=>by
  by_cases e:i=k
  ·subst e;exact hown
  ·rwa [hn k e,e3] at h
 refine⟨⟨by rw[e1];exact hI.lay,fun j hj=>?_,fun j k hj hk' hjk hoj hok=>?_,fun b hb=>by rw[e2] at hb;have:=hI.xs b hb;omega,fun j hj hoj=>?_,fun b hb=>?_,hI.kJ hk⟩,
  ⟨hk,hsz,hos.os,hos.tape,hos.output,fun b hlt hb=>hold b hlt (fun e=>hb ⟨i,hi,hown,e.symm⟩),fun b hb=> .inl (by rw[e2] at hb;exact hb),fun b hb=>?_,hrefs,fun b=>?_,e5⟩⟩
 ·rw [hlen] at hj
  rw[e3]
  by_cases hij:i=j
  ·subst hij;rw[hs];exact ho
  ·rw[hn j hij]
   refine(hI.obj j hj).eu hk hI.lay (fun j hj _=>hrefs j hj) (hI.eQ j hj) ⟨fun b h' hb=>?_,fun h' b=>?_,hos,hsz,fun _ _=>e5⟩
   ·have hlt:=hI.dv ⟨j,hj,h',hb.symm⟩
    exact⟨by rw[e2];exact hlt.2,hold b hlt.1 (by rw[hb];exact hne j hj hij h')⟩
   ·have hoj:cr (C.ι j) (an C.st j)=true:=xX h'
    rcases Nat.lt_or_ge b C.w.heap.size with hlt|hge
    ·rw[(hcls b hlt).1];exact⟨Iff.rfl,fun _=>(hcls b hlt).2⟩
    ·have hbj:=((hI.obj j hj).lt hoj).1
     have h1:C.cls b≠(C.ι j).block:=by rw[hI.fresh hge];omega
     refine⟨⟨fun h=>?_,fun h=>absurd h h1⟩,fun h=>absurd h h1⟩
     rcases hnew b hge with⟨h2,_⟩|⟨h2,_⟩
     ·omega
     ·exact absurd (h.symm.trans h2) (hne j hj hij hoj)
 ·rw[hlen] at hj hk'
  rw[e3]
  exact hI.s8 j k hj hk' hjk (hh j hj hoj) (hh k hk' hok)
 ·rw[hlen] at hj
  have h:=hh j hj hoj
  rw[e3,(hcls _ ((hI.obj j hj).lt h).1).1]
  exact hI.eQ j hj h
 ·rcases Nat.lt_or_ge b C.w.heap.size with hlt|hge
  ·rw[(hcls b hlt).1] at hb⊢
   have:=hI.mT b hb
   exact⟨by omega,by rw[e2];exact this.2.1,by omega⟩
  ·rcases hnew b hge with⟨h2,_⟩|⟨h2,h3⟩
   ·exact absurd h2 hb
   ·exact⟨h3,by rw[e2];intro h;have:=hI.xs b h;omega,by rw[h2];omega⟩
 ·obtain⟨j,hj,ho',hb'⟩:=hb
  rw[hlen] at hj
  rw[e3] at hb'
  rcases Nat.lt_or_ge b C.w.heap.size with hlt|hge
  ·rw[(hcls b hlt).1] at hb'
   exact .inl ⟨j,hj,hh j hj ho',hb'⟩
  ·exact .inr hge
 ·rcases Nat.lt_or_ge b C.w.heap.size with hlt|hge
  ·exact .inl (hcls b hlt)
  ·rcases hnew b hge with⟨h2,h3⟩|⟨h2,_⟩
   ·exact .inl ⟨by rw[h2,hI.fresh hge],h3⟩
   ·exact .inr ⟨hge, .inl (by rw[h2];exact hI.rM hi hown)⟩
theorem Ex{C:Ctx}: ∀(ys:List AV) (vs:List Value) (s:Src) (o:Nat),ia ys=some vs->MR C ys 1 s o->vs.length=ys.length/\∀j,j<vs.length->s (o+j)=vs[j]?
 |[],vs,_,_,h,_=>by simp only[ia,aa3] at h;subst h;exact⟨rfl,fun j hj=>by simp at hj⟩
 | .lit v::l,vs,s,o,h,hm=>by
  simp only[ia] at h
  split at h
  ·rename_i m hr
   simp only[aa3] at h;subst h
   simp only[MR,M] at hm
   obtain⟨h1,h2⟩:=Ex l m s (o+1) hr hm.2
   refine⟨by simp[h1],fun j hj=>?_⟩
   cases j with
   |zero=>simpa using hm.1.1
   |succ j=>
    have:=h2 j (by simpa using hj)
    rw[show o+(j+1)=o+1+j by omega,this];rfl
  ·cases h
 | .cK::_,_,_,_,h,_| .ad _ _::_,_,_,_,h,_| .agg _::_,_,_,_,h,_| .aX _::_,_,_,_,h,_| .aB _ _ _::_,_,_,_,h,_| .ptr _ _ _ _::_,_,_,_,h,_| .iY _ _::_,_,_,_,h,_
 | .mp _::_,_,_,_,h,_| .de _::_,_,_,_,h,_| .jV _ _::_,_,_,_,h,_| .bq _ _::_,_,_,_,h,_| .iN _ _::_,_,_,_,h,_| .fJ _ _ _ _::_,_,_,_,h,_=>by simp[ia] at h
theorem Aq: ∀(ys:List AV) (vs:List Value),ia ys=some vs->vs.length=ys.length
 |[],vs,h=>by simp only[ia,aa3] at h;subst h;rfl
 | .lit v::l,vs,h=>by
  simp only[ia] at h
  split at h
  ·rename_i m hr
   simp only[aa3] at h;subst h
   simp[Aq l m hr]
  ·cases h
 | .cK::_,_,h| .ad _ _::_,_,h| .agg _::_,_,h| .aX _::_,_,h| .aB _ _ _::_,_,h| .ptr _ _ _ _::_,_,h| .iY _ _::_,_,h
 | .mp _::_,_,h| .de _::_,_,h| .jV _ _::_,_,h| .bq _ _::_,_,h| .iN _ _::_,_,h| .fJ _ _ _ _::_,_,h=>by simp[ia] at h
theorem AJ{P:Program}{E:TypeId}: ∀(ys:List AV) (vs:List Value),ia ys=some vs->bC P ys E->∀v,v∈vs->br P (.lit v) E
 |[],vs,h,_,v,hv=>by simp only[ia,aa3] at h;subst h;cases hv
 | .lit u::l,vs,h,hp,v,hv=>by
  simp only[ia] at h
  split at h
  ·rename_i m hr
   simp only[aa3] at h;subst h
   simp only[bC] at hp
   rcases List.mem_cons.1 hv with rfl|hv
   ·exact hp.1
   ·exact AJ l m hr hp.2 v hv
  ·cases h
 | .cK::_,_,h,_,_,_| .ad _ _::_,_,h,_,_,_| .agg _::_,_,h,_,_,_| .aX _::_,_,h,_,_,_| .aB _ _ _::_,_,h,_,_,_| .ptr _ _ _ _::_,_,h,_,_,_| .iY _ _::_,_,h,_,_,_
 | .mp _::_,_,h,_,_,_| .de _::_,_,h,_,_,_| .jV _ _::_,_,h,_,_,_| .bq _ _::_,_,h,_,_,_| .iN _ _::_,_,h,_,_,_| .fJ _ _ _ _::_,_,h,_,_,_=>by simp[ia] at h
theorem rU{C C':Ctx}(hI:Inv C){i k:Nat}(hi:i<C.st.length){T E:TypeId}{ls:List (List Value)}(hst:an C.st i= .rows T E ls none)(hk:k<ls.length){vs:List Value}(hvs: ∀v,v∈vs->br C.P (.lit v) E)(e1:C'.P=C.P)(e2:C'.X=C.X)(e3:C'.ι=C.ι)
  (e4:C'.st=c9 C.st i (.rows T E (lL ls k (ej ls k++vs)) (some k))) (e5:C'.lr=C.lr) (hsz:C.w.heap.size<=C'.w.heap.size) (hos:dN C.w C'.w) (hcls: ∀b,b<C.w.heap.size->C'.cls b=C.cls b/\C'.rk b=C.rk b)
  (hnew: ∀b,C.w.heap.size<=b->(C'.cls b=b/\C'.rk b=C.rk b)\/(C'.cls b=(C.ι i).block/\b<C'.w.heap.size))
  (hchg: ∀b,b<C.w.heap.size->C'.w.heap[b]? =C.w.heap[b]? \/(C.cls b=(C.ι i).block/\b≠(C.ι i).block/\C.rk b=k/\∃c c',C.w.heap[b]? =some (.cells c E (0,0))/\C'.w.heap[b]? =some (.cells c' E (0,0))/\c'.size=c.size/\∀j,j<(ej ls k).length->c'[j]? =c[j]?)):
  Inv C'/\Ext C.st.length C C':=by
 have hown:cr (C.ι i) (an C.st i)=true:=by rw[hst];rfl
 have hob:=hI.obj i hi
 rw[hst] at hob
 obtain⟨g1,g2,g3,g4,c,g5,g6,g7⟩:=hob
 have hat: ∀j,ej (lL ls k (ej ls k++vs)) j=if j=k then ej ls k++vs else ej ls j:=fun j=>by
  by_cases e:j=k
  ·rw[if_pos e,e,rB _ _ _ hk]
  ·rw[if_neg e,u9 _ _ _ _ e]
 have hsub: ∀j m v,lB C (C.ι i).block E j (ej ls j) m v->lB C' (C.ι i).block E j (ej (lL ls k (ej ls k++vs)) j) m v:=fun j m v h=>by
  obtain⟨h1,h2⟩:=h
  rw[hat]
  have hl:m<=(if j=k then ej ls k++vs else ej ls j).length:=by
   by_cases e:j=k
   ·rw[if_pos e];subst e;simp;omega
   ·rw[if_neg e];exact h1
  refine⟨hl,h2.imp id ?_⟩
  grind
 have hB:=hI.eQ i hi hown
 have hBlt:=((hI.obj i hi).lt hown).1
 have hbb:C'.w.heap[(C.ι i).block]? =C.w.heap[(C.ι i).block]? :=(hchg _ hBlt).resolve_right fun h=>h.2.1 rfl
 have hs:an C'.st i= .rows T E (lL ls k (ej ls k++vs)) (some k):=by rw[e4];exact bn _ _ _ hi
 refine Et hI hi hown e1 e2 e3 e4 e5 hsz hos (fun b hlt hb=>(hchg b hlt).resolve_right fun h=>hb h.1) hcls hnew
  ⟨by rw[e4,aU];exact hi,fun T xs hx=>(by rw[hs] at hx;simp[gC] at hx),fun T b hx=>(by rw[hs] at hx;cases hx),fun _ _ _ hx=>(by rw[hs] at hx;cases hx),fun _ hx=>(by rw[hs] at hx;cases hx),fun _ _ _ hx=>(by rw[hs] at hx;cases hx),fun _ hx=>(by rw[hs] at hx;cases hx),fun _ _ hx=>(by rw[hs] at hx;cases hx),
   fun _ _ _ _ _ hx=>(by rw[hs] at hx;cases hx),fun T' E' ls' pd' hx=>?_⟩
  ⟨by rw[e2];exact g1,by rw[e1];exact g2,by rw[e1];exact g3,fun j v hv=>?_,c,by rw[hbb];exact g5,by rw[jj];exact g6,fun j hj hp=>?_⟩
 ·rw[hs] at hx
  cases hx
  exact⟨ls,none,hst,by rw[e3],jj _ _ _,hsub⟩
 ·rw[e1]
  rw[hat] at hv
  by_cases e:j=k
  ·rw[if_pos e] at hv
   rcases List.mem_append.1 hv with hv|hv
   ·exact g4 k v hv
   ·exact hvs v hv
  ·rw[if_neg e] at hv;exact g4 j v hv
 ·rw[jj] at hj
  have e:j≠k:=fun e=>hp (by rw[e])
  obtain⟨v,h1,h2⟩:=g7 j hj (by simp)
  have:=hsub j _ v h2
  rw[hat,if_neg e] at this⊢
  exact⟨v,h1,this⟩
theorem vO{C:Ctx}(hI:Inv C){T Te ty Tr:TypeId}(hT:C.P.underlying T=some (.slice Te)){i k n:Nat}{ls:List (List Value)}(hst:an C.st i= .rows Tr Te ls none){vx:Value}(hrx:Rel C (.aB i (k+1) n) vx)
  {y:AV} {Ty:Option TypeId} {ys:List AV} {vy:Value} (hy:oN C.st y=some (Ty,ys)) (hf:mV Ty Te=true) (hr:Rel C y vy) {vs:List Value} (hvs:ia ys=some vs) {z:AV} (hz:gG C.P Te=some z)
  (hn:n=(ej ls k).length) (hb:(n+ys.length+1)*(C.P.bytesOf Te+1)<=sW):
  ∃v' C',(Builtin.append_ #[T,T] ty #[vx,vy]).run C.P C.w= .ok v' C'.w/\C'.st=c9 C.st i (.rows Tr Te (lL ls k (ej ls k++vs)) (some k))/\Inv C'/\Ext C.st.length C C'/\Rel C' (.aB i (k+1) (n+ys.length)) v':=by
 obtain⟨p,c,rfl,hp,hne⟩:=rR hI hy hf hr
 obtain⟨ti,zv,hi,hzv,hrz,hcz,hpz⟩:=ec hI hz
 obtain⟨d,hd⟩:=jd hpz
 obtain⟨his,hib⟩:=kI hi
 obtain⟨hb1,hb2⟩:=lE hb
 obtain⟨hil,hs⟩:=fy hrx
 obtain⟨hkl,hle,hv⟩:=hs.2 _ _ _ _ hst
 have hob:=hI.obj i hil
 rw[hst] at hob
 obtain⟨g1,g2,g3,g4,g5⟩:=hob
 have hz1:=Ki g3
 rw[hz1] at his
 have hty:=AJ ys vs hvs hp
 have hvl:=Aq ys vs hvs
 have hown:cr (C.ι i) (an C.st i)=true:=by rw[hst];rfl
 have hBlt:=((hI.obj i hil).lt hown).1
 have one: ∀u,u∈vs->u.oneCell'=true:=fun u hu=>by rw[←rH];exact(flat_lit g3 (hty u hu)).1
 have atL:ej (lL ls k (ej ls k++vs)) k=ej ls k++vs:=rB _ _ _ hkl
 have rel: ∀{C':Ctx} {v':Value},C'.st=c9 C.st i (.rows Tr Te (lL ls k (ej ls k++vs)) (some k))->C'.ι=C.ι->Inv C'->ep v'=false->a9 v'=true->lB C' (C.ι i).block Te k (ej ls k++vs) (n+ys.length) v'->Rel C' (.aB i (k+1) (n+ys.length)) v':=fun{C' v'} e4 e3 hI' h1 h2 h3=>by
  refine dV rfl h1 ?_ hI'
  simp only[M]
  have hs':an C'.st i= .rows Tr Te (lL ls k (ej ls k++vs)) (some k):=by rw[e4];exact bn _ _ _ hil
  refine⟨by rw[e4,aU];exact hil,v',rfl,h2,fun T0 xs hx=>(by rw[hs'] at hx;simp[gC] at hx),fun T0 E0 l0 p0 hx=>?_⟩
  rw[hs'] at hx
  cases hx
  refine⟨by rw[jj];exact hkl,?_⟩
  rw[e3,atL];exact h3
 have dC:Inv (C.dC i (.rows Tr Te (lL ls k (ej ls k++vs)) (some k)) C.w)/\Ext C.st.length C (C.dC i (.rows Tr Te (lL ls k (ej ls k++vs)) (some k)) C.w):=
  rU hI hil hst hkl hty rfl rfl rfl rfl rfl (Nat.le_refl _) (dN.refl _) (fun _ _=>⟨rfl,rfl⟩) (fun b hb=> .inl ⟨hI.fresh hb,rfl⟩) (fun _ _=> .inl rfl)
 by_cases h0:ys=[]
 ·subst h0
  obtain rfl:vs=[]:=List.eq_nil_of_length_eq_zero hvl
  refine⟨vx,_,?_,rfl,dC.1,dC.2,?_⟩
  ·rcases hv with⟨rfl,rfl⟩|⟨b,cap,c0,rfl,h1,_⟩
   ·exact fN hT hd none p 0 0 c (Nat.le_refl _)
   ·exact fN hT hd _ p n cap c h1
  ·refine rel rfl rfl dC.1 ?_ ?_ ?_
   ·rcases hv with⟨rfl,rfl⟩|⟨b,cap,c0,rfl,_⟩<;>rfl
   ·rcases hv with⟨rfl,rfl⟩|⟨b,cap,c0,rfl,_⟩<;>rfl
   ·rw[List.append_nil];exact⟨hle,hv⟩
 obtain⟨b0,off,rfl,hm⟩:=hne h0
 rw[hz1] at hm
 have hpos:0<ys.length:=List.length_pos_iff.2 h0
 obtain⟨_,hat⟩:=Ex ys vs _ off hvs hm
 have hnews: ∀j u,vs[j]? =some u->C.w.cell? ((⟨b0,off,none⟩:Addr).add j)=some u:=fun j u hu=>by
  rw[eg,←hu]
  exact hat j (List.getElem?_eq_some_iff.1 hu).1
 have hzs:zv.cells.size=1:=by
  rw[hrz.2.1.resolve_right (by intro e;subst e;simp[br] at hpz),dn hI.lay _ _ hpz,hz1]
 have fresh: ∀(w':World) (cs:Array Value) (cap:Nat),w'=C.w.drew.alloc (.cells cs Te)->cap<=maxLen->n+ys.length<=cap->cs.size=cap->(∀j,j<n+ys.length->cs[j]? =(ej ls k++vs)[j]?)->
   (Builtin.append_ #[T,T] ty #[vx, .slice (some ⟨b0,off,none⟩) ys.length c]).run C.P C.w= .ok (.slice (some ⟨C.w.heap.size,0,none⟩) (n+ys.length) cap) w'->
   ∃v' C',(Builtin.append_ #[T,T] ty #[vx, .slice (some ⟨b0,off,none⟩) ys.length c]).run C.P C.w= .ok v' C'.w/\C'.st=c9 C.st i (.rows Tr Te (lL ls k (ej ls k++vs)) (some k))/\Inv C'/\Ext C.st.length C C'/\Rel C' (.aB i (k+1) (n+ys.length)) v':=fun w' cs cap hw hc1 hc2 hc3 hc4 hrun=>by
  have hnw:w'.heap[C.w.heap.size]? =some (.cells cs Te (0,0)):=by rw[hw];exact alloc_heap_new C.w.drew _
  have hnsz:w'.heap.size=C.w.heap.size+1:=by rw[hw,cn];rfl
  have hh:=rU (C':={C with st:=c9 C.st i (.rows Tr Te (lL ls k (ej ls k++vs)) (some k)),w:=w',cls:=fun x=>if x=C.w.heap.size then(C.ι i).block else C.cls x,rk:=fun x=>if x=C.w.heap.size then k else C.rk x}) hI hil hst hkl hty rfl rfl rfl rfl rfl
   (by show _<=w'.heap.size;omega) (by subst hw;exact⟨rfl,rfl,rfl⟩) (fun b hb=>⟨if_neg (by omega),if_neg (by omega)⟩) (fun b hb=>?_) (fun b hb=> .inl (by subst hw;exact bE C.w.drew _ b hb))
  ·refine⟨_,_,hrun,rfl,hh.1,hh.2,rel rfl rfl hh.1 rfl rfl ⟨by rw[ab8];omega, .inr ⟨_,cap,cs,rfl,hc2,hc1,if_pos rfl,by omega,if_pos rfl,hnw,hc3.symm,hc4⟩⟩⟩
  ·by_cases e:b=C.w.heap.size
   ·exact .inr ⟨if_pos e,by show b<w'.heap.size;omega⟩
   ·exact .inl ⟨(if_neg e).trans (hI.fresh hb),if_neg e⟩
 rcases hv with⟨rfl,rfl⟩|⟨b,cap,c0,rfl,h1,h2,h3,h4,h5,h6,h7,h8⟩
 ·have hl0:ej ls k=[]:=List.eq_nil_of_length_eq_zero hn.symm
  have hrun:=run_append_nil (P:=C.P) C.w T ty Te ti zv hT hi hzv ⟨b0,off,none⟩ ys.length c vs (by rw[hvl,his,Nat.mul_one]) hnews hpos (by omega) (by rw[hib];simp only[Nat.zero_add] at hb1;omega)
  have hge:=grownCap_ge C.w ys.length 0 Te
  refine fresh _ _ (grownCap C.w ys.length 0 Te) rfl (grownCap_le_maxLen C.w ys.length 0 Te (by unfold maxLen;omega)) (by omega) ?_ (fun j hj=>?_) (by rw[Nat.zero_add];exact hrun)
  ·simp only[Array.size_append,List.size_toArray,size_zeroCells,hzs];omega
  ·rw[hl0,List.nil_append,Array.getElem?_append_left (by simp;omega)];simp
 ·have hx0:(ej ls k).length=n:=hn.symm
  have hold: ∀j u,(ej ls k)[j]? =some u->C.w.cell? ((⟨b,0,none⟩:Addr).add j)=some u:=fun j u hu=>by
   have hj:=(List.getElem?_eq_some_iff.1 hu).1
   rw[eg,←hu,Nat.zero_add]
   simp only[World.cell?,h6]
   exact h8 j (by omega)
  by_cases hroom:n+ys.length<=cap
  ·have hrun:=run_append_room (P:=C.P) C.w T ty Te ti hT hi b n cap c0 h6 ⟨b0,off,none⟩ ys.length c vs (by rw[hvl,his,Nat.mul_one]) hnews one hroom (by rw[his,hvl];omega)
   rw[his,Nat.mul_one] at hrun
   have hsp:=spliced c0 n vs (by omega)
   have hsame:=setRow_heap C.w b c0 (c0.toList.take n++vs++c0.toList.drop (n+vs.length)).toArray Te (0,0) h6
   have hother: ∀x,x≠b->(C.w.setRow b (c0.toList.take n++vs++c0.toList.drop (n+vs.length)).toArray).heap[x]? =C.w.heap[x]? :=fun x hx=>setRow_other _ _ _ _ hx
   have hcs:(c0.toList.take n++vs++c0.toList.drop (n+vs.length)).toArray.size=c0.size:=by
    simp only[List.size_toArray,ab8,List.length_take,List.length_drop,Array.length_toList];omega
   have hh:=rU (C':=C.dC i (.rows Tr Te (lL ls k (ej ls k++vs)) (some k)) (C.w.setRow b (c0.toList.take n++vs++c0.toList.drop (n+vs.length)).toArray)) hI hil hst hkl hty rfl rfl rfl rfl rfl
    (by simp[Ctx.dC]) (setRow_os _ _ _) (fun _ _=>⟨rfl,rfl⟩) (fun x hx=> .inl ⟨hI.fresh hx,rfl⟩) (fun x hx=>by
     by_cases e:x=b
     ·subst e
      exact .inr ⟨h3,h4,h5,c0,_,h6,hsame,hcs,fun j hj=>by rw[hsp,if_neg (by omega)]⟩
     ·exact .inl (hother x e))
   refine⟨_,_,hrun,rfl,hh.1,hh.2,rel rfl rfl hh.1 rfl rfl ⟨by rw[ab8];omega, .inr ⟨b,cap,_,rfl,hroom,h2,h3,h4,h5,hsame,by rw[hcs];exact h7,fun j hj=>?_⟩⟩⟩
   rw[hsp]
   by_cases hj':n<=j/\j<n+vs.length
   ·rw[if_pos hj',List.getElem?_append_right (by omega),hx0]
   ·rw[if_neg hj',h8 j (by omega),List.getElem?_append_left (by omega)]
  ·have hrun:=run_append_grow (P:=C.P) C.w T ty Te ti zv hT hi hzv ⟨b,0,none⟩ n cap (ej ls k) (by rw[his,hx0,Nat.mul_one]) hold ⟨b0,off,none⟩ ys.length c vs (by rw[hvl,his,Nat.mul_one]) hnews (by omega) (by omega) (growslice_fits (by omega) (by rw[hib];exact hb1))
   have hge:=grownCap_ge C.w (n+ys.length) cap Te
   refine fresh _ _ (grownCap C.w (n+ys.length) cap Te) rfl (grownCap_le_maxLen C.w (n+ys.length) cap Te (by unfold maxLen;omega)) hge ?_ (fun j hj=>?_) hrun
   ·simp only[Array.size_append,List.size_toArray,size_zeroCells,hzs,hx0];omega
   ·rw[Array.getElem?_append_left (by simp;omega)];simp
theorem wF{C:Ctx}(hI:Inv C){T E:TypeId}{i k m off:Nat}(hi:i<C.st.length){ls:List (List Value)}(hst:an C.st i= .rows T E ls (some k)){v vp:Value}(hp:oZ C i k off vp)(hx:Rel C (.aB i (k+1) m) v)(hm:m=(ej ls k).length){d:TypeDesc}(hT:C.P.underlying T=some d)(hz:C.P.cellsOf T=1):
  ∃w',(Instr.storeAt T vp v).run C.P C.w= .ok () w'/\Inv (C.dC i (.rows T E ls none) w')/\Ext C.st.length C (C.dC i (.rows T E ls none) w'):=by
 have hob:=hI.obj i hi
 rw[hst] at hob
 obtain⟨g1,g2,g3,g4,c,g5,g6,g7⟩:=hob
 obtain⟨hk,_,rfl⟩:=hp.2.2.2.2.2 _ _ _ _ hst
 obtain⟨_,hs⟩:=fy hx
 obtain⟨_,hsub⟩:=hs.2 _ _ _ _ hst
 have hv1:ep v=false/\v.oneCell'=true:=by
  rcases hsub.2 with⟨rfl,_⟩|⟨b,cap,c,rfl,_⟩<;>exact⟨rfl,rfl⟩
 have hcell:=gE hv1.1
 have hrun:=jy hT g5 (v:=v) (o:=k) (by rw[hcell,hz];rfl) (by rw[hcell];show k+1<=_;omega) (by rw[hcell];simpa using hv1.2)
 rw[hcell] at hrun
 refine⟨C.w.setRow (C.ι i).block (c.toList.take k++[v]++c.toList.drop (k+1)).toArray,hrun,?_⟩
 have hsp:=spliced c k [v] (by simp;omega)
 have hown:cr (C.ι i) (an C.st i)=true:=by rw[hst];rfl
 have hother: ∀b,b≠(C.ι i).block->(C.w.setRow (C.ι i).block (c.toList.take k++[v]++c.toList.drop (k+1)).toArray).heap[b]? =C.w.heap[b]? :=fun b hb=>setRow_other _ _ _ _ hb
 have hsame:=setRow_heap C.w (C.ι i).block c (c.toList.take k++[v]++c.toList.drop (k+1)).toArray T (0,0) g5
 have eu: ∀j m u,lB C (C.ι i).block E j (ej ls j) m u->lB (C.dC i (.rows T E ls none) (C.w.setRow (C.ι i).block (c.toList.take k++[v]++c.toList.drop (k+1)).toArray)) (C.ι i).block E j (ej ls j) m u:=fun j m u h=>by
  obtain⟨h1,h2⟩:=h
  refine⟨h1,h2.imp id ?_⟩
  rintro⟨b,cap,c0,h3,h4,h5,h6,h7,h8,h9,h10⟩
  exact⟨b,cap,c0,h3,h4,h5,h6,h7,h8,(hother b h7).trans h9,h10⟩
 have hs':an (C.dC i (.rows T E ls none) (C.w.setRow (C.ι i).block (c.toList.take k++[v]++c.toList.drop (k+1)).toArray)).st i= .rows T E ls none:=bn _ _ _ hi
 refine gz hI hi hown (by simp) (setRow_os _ _ _) hother
  ⟨by simp only[Ctx.dC,aU];exact hi,fun T xs hx=>(by rw[hs'] at hx;simp[gC] at hx),fun T b hx=>(by rw[hs'] at hx;cases hx),fun _ _ _ hx=>(by rw[hs'] at hx;cases hx),fun _ hx=>(by rw[hs'] at hx;cases hx),fun _ _ _ hx=>(by rw[hs'] at hx;cases hx),fun _ hx=>(by rw[hs'] at hx;cases hx),fun _ _ hx=>(by rw[hs'] at hx;cases hx),
   fun _ _ _ _ _ hx=>(by rw[hs'] at hx;cases hx),fun T' E' ls' pd' hx=>(by rw[hs'] at hx;cases hx;exact⟨ls,some k,hst,rfl,rfl,eu⟩)⟩
  ⟨g1,g2,g3,g4,_,hsame,?_,fun j hj _=>?_⟩
 ·simp only[List.size_toArray,ab8,List.length_take,List.length_drop,Array.length_toList,List.length_singleton];omega
 ·have hat:(c.toList.take k++[v]++c.toList.drop (k+1)).toArray[j]? =if j=k then some v else c[j]? :=by
   have:=hsp j
   simp only[List.length_singleton] at this
   rw[this]
   by_cases e:j=k
   ·subst e;rw[if_pos (by omega),if_pos rfl];simp
   ·rw[if_neg (by omega),if_neg e]
  by_cases e:j=k
  ·subst e
   exact⟨v,by rw[hat,if_pos rfl],by rw[←hm];exact eu j m v hsub⟩
  ·obtain⟨u,h1,h2⟩:=g7 j hj (by simpa using Ne.symm e)
   exact⟨u,by rw[hat,if_neg e];exact h1,eu j _ u h2⟩
end Go.Dn
