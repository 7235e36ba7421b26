import Derived.Test.YtioeffnadipbaaaGreatDoorDnO
namespace Go.Dn
open Go
theorem jy{P:Program}{w:World}{T:TypeId}{d:TypeDesc}(hT:P.underlying T=some d){b o:Nat}{cur:Array Value}{e:TypeId}{v:Value}(hh:w.heap[b]? =some (.cells cur e (0,0)))
  (hsz:v.cells.size=P.cellsOf T) (hle:o+v.cells.size<=cur.size) (h1: ∀u,u∈v.cells.toList->u.oneCell'=true):
  (Instr.storeAt T (.pointer (some ⟨b,o,none⟩)) v).run P w= .ok () (w.setRow b (cur.toList.take o++v.cells.toList++cur.toList.drop (o+v.cells.size)).toArray):=by
 have hst:=run_storeCells_at P b o e v.cells.toList 0 cur w hh (by simpa using hle) h1
 simp only[Nat.add_zero,Array.length_toList] at hst
 simp[Instr.storeAt,Instr.sureAddr,storeVar,run_sizeOf hT,hsz,hst]
theorem setRow_os(w:World)(g:Nat)(cs:Array Value):dN w (w.setRow g cs):=⟨rfl,rfl,rfl⟩
theorem mq(w:World)(g:Nat)(cur cs:Array Value)(e:TypeId)(hh:w.heap[g]? =some (.cells cur e (0,0)))(j:Nat):cellAt (w.setRow g cs) g j=cs[j]? :=by
 have:=setRow_heap w g cur cs e (0,0) hh
 simp[cellAt,World.cell?,this]
theorem lb{w:World}{g:Nat}{cur:Array Value}{e:TypeId}{fz:Nat×Nat}(hh:w.heap[g]? =some (.cells cur e fz))(j:Nat):cellAt w g j=cur[j]? :=by
 simp[cellAt,World.cell?,hh]
theorem qj{C:Ctx}(hI:Inv C){x:AV}{v:Value}(hr:Rel C x v){s:Src}{o:Nat}(hs: ∀j,j<v.cells.size->s (o+j)=v.cells[j]?)(hj:x≠ .cK):M C x s o:=
 jv hI (fun j hj'=>by rw[Nat.zero_add];exact hs j (by rw[hr.2.1.resolve_right hj];exact hj')) hr.2.2
theorem jT{C:Ctx}{i:Nat}(hi:i<C.st.length){T:TypeId}{a:AV}(h:an C.st i= .box T a){o:Obj}{w:World}(T':TypeId)(a':AV)(ho:o= .box T' a')(hT:T'=T):bU C (C.dC i o w) i i:=by
 subst ho;subst hT
 have hs:an (C.dC i (.box T' a') w).st i= .box T' a':=bn _ _ _ hi
 refine⟨by simp only[Ctx.dC,aU];exact hi,fun T xs hx=>?_,fun T b hx=>?_,fun K V es hx=>?_,fun r hx=>?_,fun m n ks hx=>?_,fun t hx=>?_,fun s p hx=>?_,fun K V ks vs met hx=>?_,fun T E ls pd hx=>?_⟩
 ·rw[hs] at hx;simp[gC] at hx
 ·rw[hs] at hx;cases hx;exact⟨a,h,rfl⟩
 ·rw[hs] at hx;cases hx
 ·rw[hs] at hx;cases hx
 ·rw[hs] at hx;cases hx
 ·rw[hs] at hx;cases hx
 ·rw[hs] at hx;cases hx
 ·rw[hs] at hx;cases hx
 ·rw[hs] at hx;cases hx
theorem qO{C:Ctx}{i:Nat}(hi:i<C.st.length){T:TypeId}{xs ys:List AV}(h:an C.st i= .row T xs){w:World}(hl:xs.length<=ys.length):bU C (C.dC i (.row T ys) w) i i:=by
 have hs:an (C.dC i (.row T ys) w).st i= .row T ys:=bn _ _ _ hi
 refine⟨by simp only[Ctx.dC,aU];exact hi,fun T xs hx=>?_,fun T b hx=>?_,fun K V es hx=>?_,fun r hx=>?_,fun m n ks hx=>?_,fun t hx=>?_,fun s p hx=>?_,fun K V ks vs met hx=>?_,fun T E ls pd hx=>?_⟩
 ·rw[hs] at hx;simp only[gC,aa3,aa9] at hx
  obtain⟨rfl,rfl⟩:=hx
  exact⟨_,by rw[h];rfl,rfl,hl⟩
 ·rw[hs] at hx;cases hx
 ·rw[hs] at hx;cases hx
 ·rw[hs] at hx;cases hx
 ·rw[hs] at hx;cases hx
 ·rw[hs] at hx;cases hx
 ·rw[hs] at hx;cases hx
 ·rw[hs] at hx;cases hx
 ·rw[hs] at hx;cases hx
theorem DF{C:Ctx}(hI:Inv C){x:AV}{z:Nat}(hx1:wid x=z): ∀(l:List AV) (k:Nat) (s s':Src) (o:Nat),(∀a,a∈l->wid a=z)->k<l.length->MR C l z s o->M C x s' (o+k*z)->
  (∀j,j<l.length*z-> ¬ (k*z<=j/\j<k*z+z)->s' (o+j)=s (o+j))->MR C (bJ l k x) z s' o
 |[],_,_,_,_,_,h,_,_,_=>by simp at h
 | a::l,0,s,s',o,hw,_,h,hx,hs=>by
  simp only[MR] at h
  simp only[bJ,MR]
  refine⟨by simpa using hx,?_⟩
  exact go l s s' (o+z) (fun b hb=>hw b (by simp[hb])) h.2 (fun j hj=>by
   have:=hs (z+j) (by simp only[List.length_cons,Nat.add_mul];omega) (by omega)
   rw[show o+z+j=o+(z+j) by omega,this])
 |a::l,k+1,s,s',o,hw,hk,h,hx,hs=>by
  simp only[MR] at h
  simp only[bJ,MR]
  have hwa:=hw a (by simp)
  refine⟨jv hI (fun j hj=>hs j (by simp only[List.length_cons,Nat.add_mul];omega) (by rw[Nat.add_mul];omega)) h.1,?_⟩
  refine DF hI hx1 l k s s' (o+z) (fun b hb=>hw b (by simp[hb])) (by simpa using hk) h.2 (by rwa [show o+z+k*z=o+(k+1)*z by rw[Nat.add_mul];omega]) (fun j hj hnj=>?_)
  have:=hs (z+j) (by simp only[List.length_cons,Nat.add_mul];omega) (by rw[Nat.add_mul];omega)
  rw[show o+z+j=o+(z+j) by omega,this]
where
 go: ∀(l:List AV) (s s':Src) (o:Nat),(∀a,a∈l->wid a=z)->MR C l z s o->(∀j,j<l.length*z->s' (o+j)=s (o+j))->MR C l z s' o
  |[],_,_,_,_,_,_=>by simp[MR]
  |a::l,s,s',o,hw,h,hs=>by
   simp only[MR] at h⊢
   have hwa:=hw a (by simp)
   refine⟨jv hI (fun j hj=>hs j (by simp only[List.length_cons,Nat.add_mul];omega)) h.1,go l s s' (o+z) (fun b hb=>hw b (by simp[hb])) h.2 (fun j hj=>?_)⟩
   have:=hs (z+j) (by simp only[List.length_cons,Nat.add_mul];omega)
   rw[show o+z+j=o+(z+j) by omega,this]
theorem r9{P:Program}(hl:eI P){T:TypeId}: ∀(l:List AV),bC P l T->∀a,a∈l->wid a=P.cellsOf T
 |[],_,a,ha=>by simp at ha
 |b::l,h,a,ha=>by
  simp only[bC] at h
  rcases List.mem_cons.1 ha with rfl|ha
  ·exact dn hl _ _ h.1
  ·exact r9 hl l h.2 a ha
theorem l5{P:Program}{T:TypeId}: ∀(l:List AV) (k:Nat) (x:AV),bC P l T->br P x T->bC P (bJ l k x) T
 |[],_,_,_,_=>by simp[bJ,bC]
 |a::l,0,x,h,hx=>by simp only[bC] at h;simp only[bJ,bC];exact⟨hx,h.2⟩
 |a::l,k+1,x,h,hx=>by simp only[bC] at h;simp only[bJ,bC];exact⟨h.1,l5 l k x h.2 hx⟩
theorem tU{C:Ctx}(hI:Inv C){i j:Nat}{o:Obj}{w:World}(hi:i<C.st.length)(hown:cr (C.ι i) (an C.st i)=true)(hold: ∀b,b≠(C.ι i).block->w.heap[b]? =C.w.heap[b]?)(hj:j<C.st.length)(hij:i≠j):bU C (C.dC i o w) j j:=
 dM hI hj (by simp only[Ctx.dC,aU];exact hj) (bt _ _ _ _ hij) rfl fun h b hb=>⟨rfl,rfl,hold b fun e=>hI.s8 j i hj hi (Ne.symm hij) h hown (by rw[←hb,e,hI.eQ i hi hown])⟩
theorem GD{C:Ctx}(hI:Inv C){i:Nat}(hi:i<C.st.length){Tb T:TypeId}{a x:AV}{path:List Nat}{off:Nat}(hst:an C.st i= .box Tb a){v vp:Value}(hx:Rel C x v)(hp:oZ C i 0 off vp)
  (h1:mL a path=true) (h2:gH a path=off) (h3:wid x=C.P.cellsOf T) (h4:wid (lT a path)=C.P.cellsOf T) (h5:cQ x=true) {d:TypeDesc} (h6:C.P.underlying T=some d):
  ∃w',(Instr.storeAt T vp v).run C.P C.w= .ok () w'/\Inv (C.dC i (.box Tb (fF a path x)) w')/\Ext C.st.length C (C.dC i (.box Tb (fF a path x)) w'):=by
 have hob:=hI.obj i hi
 rw[hst] at hob
 obtain⟨g1,g2,cur,e,g3,⟨g4,g42,g43⟩,g5⟩:=hob
 obtain⟨_,rfl⟩:=hp.2.1 Tb a hst
 have hnj:x≠ .cK:=by intro e;subst e;simp[cQ] at h5
 have hsz:=hx.2.1.resolve_right hnj
 have hle:=oH path a h1
 have hwx:wid x=wid (lT a path):=by omega
 have hrun:=jy h6 g3 (v:=v) (o:=off) (by omega) (by omega) (pV h5 hx)
 refine⟨_,hrun,?_⟩
 have hsp:=spliced cur off v.cells.toList (by simp;omega)
 simp only[Array.length_toList] at hsp
 have hsrc: ∀j,cellAt (C.w.setRow (C.ι i).block (cur.toList.take off++v.cells.toList++cur.toList.drop (off+v.cells.size)).toArray) (C.ι i).block j=if off<=j/\j<off+v.cells.size then v.cells[j - off]? else cellAt C.w (C.ι i).block j:=fun j=>by
  rw[mq _ _ cur _ e g3,hsp,lb g3];simp
 have hM:M C (fF a path x) (cellAt (C.w.setRow (C.ι i).block (cur.toList.take off++v.cells.toList++cur.toList.drop (off+v.cells.size)).toArray) (C.ι i).block) 0:=by
  refine zV hI path a (cellAt C.w (C.ι i).block) _ 0 h1 hwx g5 ?_ (fun j hj hnj=>?_)
  ·refine qj hI hx (fun j hj=>?_) hnj
   rw[hsrc,h2,Nat.zero_add,if_pos (by omega)]
   congr 1;omega
  ·rw[hsrc,if_neg (by omega)]
 have hown:cr (C.ι i) (an C.st i)=true:=by rw[hst];rfl
 have hr:bU C (C.dC i (.box Tb (fF a path x)) (C.w.setRow (C.ι i).block (cur.toList.take off++v.cells.toList++cur.toList.drop (off+v.cells.size)).toArray)) i i:=jT hi hst Tb _ rfl rfl
 refine gz hI hi hown (by simp) (setRow_os _ _ _) (fun b hb=>setRow_other _ _ _ _ hb) hr ?_
 have hk:bH C (C.dC i (.box Tb (fF a path x)) (C.w.setRow (C.ι i).block (cur.toList.take off++v.cells.toList++cur.toList.drop (off+v.cells.size)).toArray)):=
  ⟨rfl,fun _ h=>h,fun b hb=>setRow_other _ _ _ _ (fun e=>g1 (e▸hb))⟩
 refine⟨g1,pS path a x h1 g2 h5,_,e,setRow_heap _ _ cur _ e (0,0) g3,?_,?_⟩
 ·rw[lJ path a x h1 hwx]
  simp only[List.size_toArray,ab8,List.length_take,List.length_drop,Array.length_toList]
  exact⟨by omega,by omega,g43⟩
 ·refine M.eu hk hI.lay (fun j _ hlt=>?_) (fun _ _=>rfl) hM
  by_cases hij:i=j
  ·subst hij;exact hr
  ·exact tU hI hi hown (fun b hb=>setRow_other _ _ _ _ hb) hlt hij
theorem Hr{C:Ctx}(hI:Inv C){i k:Nat}(hi:i<C.st.length){Tr T:TypeId}{xs:List AV}{x:AV}{path:List Nat}{off:Nat}(hst:an C.st i= .row Tr xs){v vp:Value}(hx:Rel C x v)(hp:oZ C i k off vp)
  (h1:mL (expand C.P bX Tr (nth xs k)) path=true) (h2:gH (expand C.P bX Tr (nth xs k)) path=off) (h3:wid x=C.P.cellsOf T) (h4:wid (lT (expand C.P bX Tr (nth xs k)) path)=C.P.cellsOf T)
  (h5:cQ x=true) (h7:ux C.P (fF (expand C.P bX Tr (nth xs k)) path x) Tr=true) {d:TypeDesc} (h6:C.P.underlying T=some d):
  ∃w',(Instr.storeAt T vp v).run C.P C.w= .ok () w'/\Inv (C.dC i (.row Tr (bJ xs k (fF (expand C.P bX Tr (nth xs k)) path x))) w')/\
   Ext C.st.length C (C.dC i (.row Tr (bJ xs k (fF (expand C.P bX Tr (nth xs k)) path x))) w'):=by
 have hob:=hI.obj i hi
 rw[hst] at hob
 obtain⟨hk,rfl⟩:=hp.1 Tr xs (by rw[hst];rfl)
 obtain⟨g0,⟨_,g9⟩|⟨g2,g1,cur,g3,g4,g5,g6,g7⟩⟩:=hob
 ·subst g9;simp at hk
 obtain⟨z,hz⟩: ∃z,z=C.P.cellsOf Tr:=⟨_,rfl⟩
 obtain⟨a,ha⟩: ∃a,a=expand C.P bX Tr (nth xs k):=⟨_,rfl⟩
 rw[←hz] at g6 g7⊢
 rw[←ha] at h1 h2 h4 h7⊢
 have hnj:x≠ .cK:=by intro e;subst e;simp[cQ] at h5
 have hsz:=hx.2.1.resolve_right hnj
 have hle:=oH path a h1
 have hwx:wid x=wid (lT a path):=by omega
 have hpk:=nF xs k Tr hk g0
 have hMk:=Bg xs k z _ 0 hk g7
 obtain⟨hE,hTE⟩:=lN hI.lay bX Tr _ _ _ hpk hMk
 rw[←ha] at hE hTE
 have hwa:wid a=z:=by rw[hz];exact dn hI.lay _ _ hTE
 have hkz:k*z+z<=xs.length*z:=by
  have:=Nat.mul_le_mul_right z (show k+1<=xs.length by omega)
  rw[Nat.add_mul] at this;omega
 have hcz:xs.length*z<=cur.size:=by rw[←g6];exact Nat.mul_le_mul_right _ g4
 have hrun:=jy h6 g3 (v:=v) (o:=k*z+off) (by omega) (by omega) (pV h5 hx)
 refine⟨_,hrun,?_⟩
 have hsp:=spliced cur (k*z+off) v.cells.toList (by simp;omega)
 simp only[Array.length_toList] at hsp
 have hsrc: ∀j,cellAt (C.w.setRow (C.ι i).block (cur.toList.take (k*z+off)++v.cells.toList++cur.toList.drop (k*z+off+v.cells.size)).toArray) (C.ι i).block j=if k*z+off<=j/\j<k*z+off+v.cells.size then v.cells[j - (k*z+off)]? else cellAt C.w (C.ι i).block j:=fun j=>by
  rw[mq _ _ cur _ Tr g3,hsp,lb g3];simp
 generalize hw':C.w.setRow (C.ι i).block (cur.toList.take (k*z+off)++v.cells.toList++cur.toList.drop (k*z+off+v.cells.size)).toArray=w' at*
 have hM:M C (fF a path x) (cellAt w' (C.ι i).block) (k*z):=by
  refine zV hI path a (cellAt C.w (C.ι i).block) _ (k*z) h1 hwx (by simpa using hE) ?_ (fun j hj hnj=>?_)
  ·refine qj hI hx (fun j hj=>?_) hnj
   rw[hsrc,h2,if_pos (by omega)]
   congr 1;omega
  ·rw[hsrc,if_neg (by omega)]
 have hpt:=gn _ _ _ _ h7 hM
 have hMR:MR C (bJ xs k (fF a path x)) z (cellAt w' (C.ι i).block) 0:=
  DF hI (by rw[lJ path a x h1 hwx,hwa]) xs k _ _ 0 (fun b hb=>by rw[hz];exact r9 hI.lay xs g0 b hb) hk g7 (by simpa using hM) (fun j hj hnj=>by rw[hsrc,if_neg (by omega)])
 have hown:cr (C.ι i) (an C.st i)=true:=by rw[hst];simp[cr,g2]
 have hr:bU C (C.dC i (.row Tr (bJ xs k (fF a path x))) w') i i:=qO hi hst (by rw[eD];exact Nat.le_refl _)
 have hother: ∀b,b≠(C.ι i).block->w'.heap[b]? =C.w.heap[b]? :=fun b hb=>by rw[←hw'];exact setRow_other _ _ _ _ hb
 refine gz hI hi hown (by rw[←hw'];simp) (by rw[←hw'];exact setRow_os _ _ _) hother hr ?_
 have hkp:bH C (C.dC i (.row Tr (bJ xs k (fF a path x))) w'):=⟨rfl,fun _ h=>h,fun b hb=>hother b (fun e=>g1 (e▸hb))⟩
 refine⟨l5 xs k _ g0 hpt, .inr ⟨g2,g1,(cur.toList.take (k*z+off)++v.cells.toList++cur.toList.drop (k*z+off+v.cells.size)).toArray,?_,by rw[eD];exact g4,g5,?_,?_⟩⟩
 ·rw[show(C.dC i (.row Tr (bJ xs k (fF a path x))) w').w=w' from rfl,←hw']
  exact setRow_heap _ _ cur _ Tr (0,0) g3
 ·show(C.ι i).cap*C.P.cellsOf Tr=_
  rw[←hz,g6]
  simp only[List.size_toArray,ab8,List.length_take,List.length_drop,Array.length_toList]
  omega
 ·have:=fI hkp hI.lay (bJ xs k (fF a path x)) Tr (cellAt w' (C.ι i).block) (cellAt w' (C.ι i).block) 0 0 (l5 xs k _ g0 hpt) (fun _ _=>rfl) (by rw[←hz];exact hMR)
  exact this
end Go.Dn
