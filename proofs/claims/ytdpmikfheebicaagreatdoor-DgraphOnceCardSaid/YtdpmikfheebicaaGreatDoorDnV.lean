import Derived.Test.YtdpmikfheebicaaGreatDoorDnU
namespace Go.Dn
open Go
theorem lp: ∀(l:List Nat) (i:Nat),kh i l=true↔i∈l
 |[],i=>by simp[kh]
 |j::l,i=>by simp[kh,lp l i,Nat.beq_eq]
theorem j4{ids:List Nat}: ∀{l:List Nat},AY ids l=true->∀i,i∈l->i∈ids
 |[],_,i,h=>by simp at h
 |j::l,h,i,hi=>by
  simp only[AY,aa1] at h
  rcases List.mem_cons.1 hi with rfl|hi
  ·exact(lp _ _).1 h.1
  ·exact j4 h.2 i hi
theorem lI{n:Nat}: ∀{l:List Nat},Ee n l=true->∀i,i∈l->i<n
 |[],_,i,h=>by simp at h
 |j::l,h,i,hi=>by
  simp only[Ee,aa1,aa0] at h
  rcases List.mem_cons.1 hi with rfl|hi
  ·exact h.1
  ·exact lI h.2 i hi
theorem kt: ∀{l:List Nat},yW l=true->l.Nodup
 |[],_=>by simp
 |j::l,h=>by
  simp only[yW,aa1,Bool.not_eq_true'] at h
  rw[List.nodup_cons]
  exact⟨fun hm=>by rw[(lp _ _).2 hm] at h;simp at h,kt h.2⟩
theorem qa: ∀{ids:List Nat} {i n j:Nat},jn i ids n=some j->∃k,j=n+k/\ids[k]? =some i
 |[],_,_,_,h=>by simp[jn] at h
 | a::ids,i,n,j,h=>by
  simp only[jn] at h
  cases hb:Nat.beq i a with
  |true=>
   rw[hb] at h
   simp only[aa7,aa3] at h
   exact⟨0,by omega,by simp[Nat.eq_of_beq_eq_true hb]⟩
  |false=>
   rw[hb] at h
   simp only[aa5] at h
   obtain⟨k,h1,h2⟩:=qa h
   exact⟨k+1,by omega,by simpa using h2⟩
theorem nb: ∀{ids:List Nat} {i:Nat} (n:Nat),i∈ids->∃j,jn i ids n=some j
 |[],_,_,h=>by simp at h
 | a::ids,i,n,h=>by
  simp only[jn]
  cases hb:Nat.beq i a with
  |true=>exact⟨n,rfl⟩
  |false=>
   simp only[aa5]
   rcases List.mem_cons.1 h with rfl|h
   ·rw[Nat.beq_refl] at hb;cases hb
   ·exact nb (n+1) h
theorem qJ{st:List Obj}: ∀{ids:List Nat} {k i:Nat},ids[k]? =some i->ar (gQ st ids) k=ar st i
 |[],_,_,h=>by simp at h
 |a::ids,0,i,h=>by simp at h;subst h;rfl
 |a::ids,k+1,i,h=>by simp only[gQ,ar];exact qJ (by simpa using h)
theorem jF{st:List Obj}: ∀ids:List Nat,(gQ st ids).length=ids.length
 |[]=>rfl
 |a::ids=>by simp[gQ,jF ids]
theorem gP(ρ:Nat->Option Nat): ∀l:List Obj,(gJ ρ l).length=l.length
 |[]=>rfl
 |a::l=>by simp[gJ,gP ρ l]
theorem nH(ρ:Nat->Option Nat): ∀(l:List Obj) (k:Nat),ar (gJ ρ l) k=eu ρ (ar l k)
 |[],_=>rfl
 |a::l,0=>rfl
 |a::l,k+1=>by simp only[gJ,ar];exact nH ρ l k
theorem o7{st:List Obj}: ∀{ids:List Nat} {i j:Nat},i∈ids->j∈xb (ar st i)->j∈vd st ids
 |[],_,_,h,_=>by simp at h
 |a::ids,i,j,h,hj=>by
  simp only[vd,List.mem_append]
  rcases List.mem_cons.1 h with rfl|h
  ·exact .inl hj
  ·exact .inr (o7 h hj)
theorem x1(ρ:Nat->Option Nat)(o:Obj):gb (eu ρ o)=gb o:=by cases o<;>rfl
theorem zW: ∀{n i:Nat},i<n->i∈upto n
 |0,_,h=>by omega
 |n+1,i,h=>by
  simp only[upto,List.mem_append,List.mem_singleton]
  rcases Nat.lt_or_ge i n with h'|h'
  ·exact .inl (zW h')
  ·exact .inr (by omega)
theorem pQ{ids:List Nat}: ∀{l:List Nat},sl ids l=true->∀i,i∈l->jn i ids 0=some i
 |[],_,_,h=>by simp at h
 | j::l,h,i,hi=>by
  simp only[sl,aa1] at h
  rcases List.mem_cons.1 hi with rfl|hi
  ·have:=h.1
   split at this
   ·rename_i k hk;rw[hk,Nat.eq_of_beq_eq_true this]
   ·cases this
  ·exact pQ h.2 i hi
def Ctx.by(C:Ctx)(ids:List Nat):Ctx:={C with st:=gJ (fun i=>jn i ids 0) (gQ C.st ids),ι:=fun k=>C.ι (ids.getD k 0)}
theorem lG{C:Ctx}{ids:List Nat}{k i:Nat}(h:ids[k]? =some i):ar (C.by ids).st k=eu (fun i=>jn i ids 0) (ar C.st i)/\(C.by ids).ι k=C.ι i:=by
 refine⟨?_,?_⟩
 ·simp only[Ctx.by];rw[nH,qJ h]
 ·simp only[Ctx.by];rw[List.getD_eq_getElem?_getD,h];rfl
theorem nt{C:Ctx}{ids:List Nat}:(C.by ids).st.length=ids.length:=by simp[Ctx.by,gP,jF]
theorem lb{C:Ctx}{ids:List Nat}{i j:Nat}(h:jn i ids 0=some j):bW C (C.by ids) i j:=by
 obtain⟨k,hk,hi⟩:=qa h
 obtain rfl:j=k:=by omega
 obtain⟨h1,h2⟩:=lG (C:=C) hi
 refine⟨by rw[nt];exact(List.getElem?_eq_some_iff.1 hi).1,fun T xs hx=>?_,fun T a hx=>?_,fun K V es hx=>?_,fun r hx=>?_,fun m n ks hx=>?_,fun t hx=>?_,fun s p hx=>?_,fun K V ks vs met hx=>?_,fun T E ls pd hx=>?_⟩
 ·rw[h1,x1] at hx;exact⟨xs,hx,h2,Nat.le_refl _⟩
 ·rw[h1] at hx
  cases ho:ar C.st i<;>rw[ho] at hx<;>simp[eu] at hx
  obtain⟨rfl,_⟩:=hx
  exact⟨_,rfl,h2⟩
 ·rw[h1] at hx
  cases ho:ar C.st i<;>rw[ho] at hx<;>simp[eu] at hx
  obtain⟨rfl,rfl,rfl⟩:=hx
  exact⟨_,rfl,h2,fun ents clock hh=>⟨ents,clock,hh,dx.refl _ _⟩⟩
 ·rw[h1] at hx
  cases ho:ar C.st i<;>rw[ho] at hx<;>simp[eu] at hx
  exact⟨_,rfl,h2⟩
 ·rw[h1] at hx
  cases ho:ar C.st i<;>rw[ho] at hx<;>simp[eu] at hx
  obtain⟨_,rfl,_⟩:=hx
  exact⟨_,_,rfl,h2⟩
 ·rw[h1] at hx
  cases ho:ar C.st i<;>rw[ho] at hx<;>simp[eu] at hx
  exact⟨_,rfl,h2⟩
 ·rw[h1] at hx
  cases ho:ar C.st i<;>rw[ho] at hx<;>simp[eu] at hx
  obtain⟨rfl,_⟩:=hx
  exact⟨_,rfl,h2⟩
 ·rw[h1] at hx
  cases ho:ar C.st i<;>rw[ho] at hx<;>simp[eu] at hx
  obtain⟨rfl,rfl,rfl,rfl,_⟩:=hx
  exact⟨_,rfl,h2⟩
 ·rw[h1] at hx
  cases ho:ar C.st i<;>rw[ho] at hx<;>simp[eu] at hx
  obtain⟨rfl,rfl,rfl,_⟩:=hx
  exact⟨_,_,rfl,h2,rfl,fun _ _ _ h=>h⟩
theorem vf{C:Ctx}(hI:Inv C){base:Nat}{roots ids:List Nat}(hok:oz base C.st roots ids=true):Inv (C.by ids)/\Ext base C (C.by ids)/\(∀i,i∈roots->∃j,jn i ids 0=some j):=by
 simp only[oz,aa1] at hok
 obtain⟨⟨⟨⟨h1,h2⟩,h3⟩,h4⟩,h5⟩:=hok
 have hnd:=kt h1
 have hk:bG C (C.by ids):=⟨rfl,fun _ h=>h,fun _ _=>rfl⟩
 have hat: ∀k,k<ids.length->∃i,ids[k]? =some i/\i<C.st.length:=fun k hk=>⟨ids[k],by simp[hk],lI h2 _ (List.getElem_mem hk)⟩
 refine⟨⟨hI.lay,fun k hk'=>?_,fun k l hk' hl hkl hok hol=>?_,hI.xs,fun k hk' hok=>?_,hI.oe,hI.lh hk⟩,⟨hk,Nat.le_refl _,rfl,rfl,rfl,fun _ _ _=>rfl,fun b hb=> .inl hb,fun b hb=>?_,fun i hi=>lb (pQ h3 i (zW hi)),fun _=> .inl ⟨rfl,rfl⟩,rfl⟩,fun i hi=>nb 0 (j4 h4 i hi)⟩
 ·rw[nt] at hk'
  obtain⟨i,hi,hlt⟩:=hat k hk'
  obtain⟨g1,g2⟩:=lG (C:=C) hi
  rw[g1,g2]
  have hmem:i∈ids:=List.mem_iff_getElem?.2 ⟨k,hi⟩
  refine(hI.obj i hlt).move hk hI.lay _ (fun j hj hlt'=>?_) (hI.eG i hlt) ⟨fun b ho hb=>⟨(hI.df ⟨i,hlt,ho,hb.symm⟩).2,rfl⟩,fun _ _=>⟨Iff.rfl,fun _=>rfl⟩,dw.refl _,Nat.le_refl _,fun _ _=>rfl⟩
  obtain⟨m,hm⟩:=nb (ids:=ids) 0 (j4 h5 j (o7 hmem hj))
  exact⟨m,hm,lb hm⟩
 ·rw[nt] at hk' hl
  obtain⟨i,hi,hlt⟩:=hat k hk'
  obtain⟨j,hj,hlt'⟩:=hat l hl
  obtain⟨g1,g2⟩:=lG (C:=C) hi
  obtain⟨g3,g4⟩:=lG (C:=C) hj
  rw[g1,g2,dg] at hok
  rw[g3,g4,dg] at hol
  rw[g2,g4]
  refine hI.pg i j hlt hlt' (fun e=>hkl ?_) hok hol
  subst e
  obtain⟨_,e1⟩:=List.getElem?_eq_some_iff.1 hi
  obtain⟨_,e2⟩:=List.getElem?_eq_some_iff.1 hj
  exact(List.getElem_inj hnd).1 (e1.trans e2.symm)
 ·rw[nt] at hk'
  obtain⟨i,hi,hlt⟩:=hat k hk'
  obtain⟨g1,g2⟩:=lG (C:=C) hi
  rw[g1,g2,dg] at hok
  rw[g2]
  exact hI.eG i hlt hok
 ·obtain⟨k,hk',ho,hb'⟩:=hb
  rw[nt] at hk'
  obtain⟨i,hi,hlt⟩:=hat k hk'
  obtain⟨g1,g2⟩:=lG (C:=C) hi
  rw[g1,g2,dg] at ho
  rw[g2] at hb'
  exact .inl ⟨i,hlt,ho,hb'⟩
theorem jj(live:List (Nat×Option TypeId)): ∀(l:List AV) (n:Nat),(fm live l n).length=l.length
 |[],_=>rfl
 |a::l,n=>by simp[fm,jj live l]
theorem qt(live:List (Nat×Option TypeId)): ∀(l:List AV) (n i:Nat),nth (fm live l n) i=nth l i\/nth (fm live l n) i= .cf
 |[],_,_=> .inl rfl
 |a::l,n,0=>by
  simp only[fm,nth]
  cases fm.memL n live
  ·exact .inr rfl
  ·exact .inl rfl
 |a::l,n,i+1=>by simp only[fm,nth];exact qt live l (n+1) i
theorem z0{C:Ctx}{live:List (Nat×Option TypeId)}{a9:List AV}{tmps:Array Value}(h:fK C a9 tmps):fK C (fm live a9 0) tmps:=by
 refine⟨by rw[jj];exact h.1,fun i hi=>?_⟩
 rw[jj] at hi
 rcases qt live a9 0 i with h'|h'
 ·rw[h'];exact h.2 i hi
 ·rw[h'];exact lq _
theorem DB{C:Ctx}(hI:Inv C)(T:TypeId):Inv (C.add (.row T []) ⟨C.w.heap.size,0,true⟩ C.w)/\Ext C.st.length C (C.add (.row T []) ⟨C.w.heap.size,0,true⟩ C.w):=
 fM hI (o:= .row T []) (g:=⟨C.w.heap.size,0,true⟩) (w:=C.w) rfl (Nat.le_refl _) ⟨rfl,rfl,rfl⟩ (fun _ _=>rfl) ⟨trivial, .inl ⟨rfl,rfl⟩⟩
theorem w8{C:Ctx}(T:TypeId):my (C.add (.row T []) ⟨C.w.heap.size,0,true⟩ C.w) C.st.length 0 0 (.slice none 0 0):=by
 refine⟨fun T0 xs hx=>?_,fun _ _ _ _ hx=>(by rw[bm.1] at hx;cases hx)⟩
 rw[bm.1] at hx
 simp only[gb,aa3,aa9] at hx
 obtain⟨rfl,rfl⟩:=hx
 rw[bm.2]
 exact⟨by simp, .inl ⟨rfl,rfl,rfl,rfl⟩⟩
theorem jR: ∀(live:List (Nat×Option TypeId)) {C:Ctx} {s:S} {a:Act},Inv C->cW C s a->∃C',C'.w=C.w/\Inv C'/\cW C' (jA live s) a/\Ext C.st.length C C'
 |[],C,s,a,hI,hs=>⟨C,rfl,hI,hs,Ext.refl C (Nat.le_refl _)⟩
 |(r,none)::l,C,s,a,hI,hs=>by simp only[jA];exact jR l hI hs
 | (r,some T)::l,C,s,a,hI,hs=>by
  simp only[jA]
  split
  ·rename_i hr
   have hsame:a.tmps.setIfInBounds r (a.tmps.getD r undef)=a.tmps:=by
    apply Array.ext_getElem?
    intro k
    by_cases hk:r=k
    ·subst hk
     by_cases hlt':r<a.tmps.size
     ·simp[hlt']
     ·simp[hlt']
    ·rw[Array.getElem?_setIfInBounds_ne hk]
   split
   ·have hv:Rel C (.ae (T - Kv) []) (a.tmps.getD r undef):=by
     rcases Nat.lt_or_ge r s.a9.length with hlt|hge
     ·have hv:=hs.a9.2 r hlt
      rw[hr] at hv
      rw[aL hv]
      refine dT rfl rfl ?_ hI
      simp only[M]
      exact⟨trivial,none,0,rfl,Nat.le_refl _,fun h=>absurd rfl h⟩
     ·rw[lW _ _ hge] at hr;cases hr
    have hput:=hs.a9.put hv (d:=r)
    rw[hsame] at hput
    obtain⟨C',g1,g2,g3,g4⟩:=jR l (s:={a9:=bQ s.a9 r (.ae (T - Kv) []),st:=s.st}) (a:=a) hI ⟨hs.st,hput⟩
    exact⟨C',g1,g2,g3,g4⟩
   obtain⟨h1,h2⟩:=DB hI T
   have hst:=hs.step hI h2
   rcases Nat.lt_or_ge r s.a9.length with hlt|hge
   ·have hv:=hs.a9.2 r hlt
    rw[hr] at hv
    have hv':=aL hv
    have hrel:Rel (C.add (.row T []) ⟨C.w.heap.size,0,true⟩ C.w) (.az C.st.length 0 0) (a.tmps.getD r undef):=by
     rw[hv']
     refine dT rfl rfl ?_ h1
     simp only[M]
     exact⟨by simp[Ctx.add],_,rfl,rfl,w8 T⟩
    have hput:=hst.a9.put hrel (d:=r)
    rw[hsame] at hput
    obtain⟨C',g1,g2,g3,g4⟩:=jR l (s:={a9:=bQ s.a9 r (.az s.st.length 0 0),st:=s.st++[.row T []]}) (a:=a) h1
     ⟨by simp[Ctx.add,hs.st],by rw[←hs.st];exact hput⟩
    exact⟨C',g1,g2,g3,h2.trans g4 (by simp[Ctx.add])⟩
   ·rw[lW _ _ hge] at hr;cases hr
  ·exact jR l hI hs
theorem F9{C:Ctx}{s:S}{a:Act}(P:Program)(i:Nat)(hI:Inv C)(hs:cW C s a): ∃C',C'.w=C.w/\Inv C'/\cW C' (CS P i s) a/\Ext C.st.length C C':=by
 unfold CS
 split
 ·rename_i Tb hst
  split
  ·rename_i Te _
   obtain⟨h1,h2⟩:=DB hI Te
   rw[←hs.st] at hst
   have hi:i<C.st.length:=by
    rcases Nat.lt_or_ge i C.st.length with h|h
    ·exact h
    ·rw[eD _ _ h] at hst;cases hst
   generalize hC1:C.add (.row Te []) ⟨C.w.heap.size,0,true⟩ C.w=C1 at*
   have hw1:C1.w=C.w:=by rw[←hC1];rfl
   have hl1:C1.st.length=C.st.length+1:=by rw[←hC1];simp[Ctx.add]
   have hn1:ar C1.st i= .box Tb (.lit (.slice none 0 0)):=by rw[←hC1,(cu hi).1];exact hst
   have hι1:C1.ι i=C.ι i:=by rw[←hC1];exact(cu hi).2
   have hslc:my C1 C.st.length 0 0 (.slice none 0 0):=by rw[←hC1];exact w8 Te
   have hob:=h1.obj i (by omega)
   rw[hn1] at hob
   obtain⟨g1,g2,c,e,g3,g4,g5⟩:=hob
   have hr:bW C1 (C1.dy i (.box Tb (.az C.st.length 0 0)) C1.w) i i:=pJ (by omega) hn1 Tb _ rfl rfl
   have hk:bG C1 (C1.dy i (.box Tb (.az C.st.length 0 0)) C1.w):=⟨rfl,fun _ h=>h,fun _ _=>rfl⟩
   have hupd:=gV h1 (i:=i) (by omega) (o:= .box Tb (.az C.st.length 0 0)) (w:=C1.w) (by rw[hn1];rfl) rfl ⟨rfl,rfl,rfl⟩ (fun _ _=>rfl) hr (by
    refine⟨g1,rfl,c,e,g3,by simpa[wid] using g4,?_⟩
    simp only[M] at g5⊢
    refine⟨by simp only[Ctx.dy,aV];omega,_,g5.1,rfl,?_⟩
    refine my.move hk (ep h1 (by omega) (by simp only[Ctx.dy,aV];omega) (bO _ _ _ _ (by omega)) rfl (fun _ _ _=>⟨rfl,rfl,rfl⟩)) hslc)
   refine⟨C1.dy i (.box Tb (.az C.st.length 0 0)) C1.w,hw1,hupd.1,?_,h2.trans hupd.2 (by omega)⟩
   have:=(hs.step hI h2).step h1 hupd.2
   refine⟨?_,this.a9⟩
   simp only[Ctx.dy,←hC1,Ctx.add,hs.st]
   have: ∀(l m:List Obj) (i:Nat) (x:Obj),i<l.length->da (l++m) i x=da l i x++m:=by
    intro l;induction l with
    |nil=>intro m i x h;simp at h
    |cons a l ih=>
     intro m i x h
     cases i with
     |zero=>rfl
     |succ i=>simp only[List.cons_append,da];rw[ih m i x (by simpa using h)]
   exact this _ _ _ _ (by rw[←hs.st];exact hi)
  ·exact⟨C,rfl,hI,hs,Ext.refl C (Nat.le_refl _)⟩
 ·exact⟨C,rfl,hI,hs,Ext.refl C (Nat.le_refl _)⟩
theorem mW(P:Program): ∀(is:List Nat) {C:Ctx} {s:S} {a:Act},Inv C->cW C s a->∃C',C'.w=C.w/\Inv C'/\cW C' (nz P is s) a/\Ext C.st.length C C'
 |[],C,s,a,hI,hs=>⟨C,rfl,hI,hs,Ext.refl C (Nat.le_refl _)⟩
 |i::is,C,s,a,hI,hs=>by
  simp only[nz]
  obtain⟨C1,g1,g2,g3,g4⟩:=F9 P i hI hs
  obtain⟨C2,g5,g6,g7,g8⟩:=mW P is g2 g3
  refine⟨C2,g5.trans g1,g6,g7,g4.trans g8 ?_⟩
  rcases Nat.eq_zero_or_pos C.st.length with h|h
  ·omega
  ·have:=(g4.refs (C.st.length - 1) (by omega)).lt;omega
theorem te{C:Ctx}{s:S}{a:Act}(P:Program)(live:List (Nat×Option TypeId)){base:Nat}(hI:Inv C)(hs:cW C s a)(hb:base<=s.st.length)(hok:iL P live base s=true):
  ∃C',C'.w=C.w/\Inv C'/\cW C' (canon P live base s) a/\Ext base C C'/\base<=(canon P live base s).st.length:=by
 obtain⟨C1,g1,g2,g3,g4⟩:=jR live hI (s:={s with a9:=fm live s.a9 0}) ⟨hs.st,z0 hs.a9⟩
 obtain⟨C2,g5,g6,g7,g8⟩:=mW P (upto (jA live {s with a9:=fm live s.a9 0}).st.length) g2 g3
 have hpre:cW C2 (gk P live s) a:=g7
 unfold iL at hok
 rw[←hpre.st] at hok
 obtain⟨h1,h2,h3⟩:=vf g6 hok
 have hl1:C.st.length<=C1.st.length:=by
  rcases Nat.eq_zero_or_pos C.st.length with h|h
  ·omega
  ·have:=(g4.refs (C.st.length - 1) (by omega)).lt;omega
 have hl2:C1.st.length<=C2.st.length:=by
  rcases Nat.eq_zero_or_pos C1.st.length with h|h
  ·omega
  ·have:=(g8.refs (C1.st.length - 1) (by omega)).lt;omega
 have hsl:s.st.length=C.st.length:=by rw[hs.st]
 refine⟨C2.by (gf base C2.st (cB (gk P live s).a9)),g5.trans g1,h1,?_,(g4.mono (by omega)).trans ((g8.mono (by omega)).trans h2 (Nat.le_refl _)) (Nat.le_refl _),?_⟩
 ·refine⟨?_,?_⟩
  ·simp only[canon,sH,Ctx.by,hpre.st]
  ·simp only[canon,sH]
   rw[←hpre.st]
   exact hpre.a9.move h2.keeps g6.lay _ (fun i hi _=>by obtain⟨j,hj⟩:=h3 i hi;exact⟨j,hj,lb hj⟩)
 ·have hrefs:=h2.refs
  have e:(canon P live base s).st.length=(C2.by (gf base C2.st (cB (gk P live s).a9))).st.length:=by
   simp only[canon,sH,Ctx.by,hpre.st]
  rw[e]
  rcases Nat.eq_zero_or_pos base with h|h
  ·omega
  ·have:=(hrefs (base - 1) (by omega)).lt;omega
end Go.Dn
