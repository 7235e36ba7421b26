import Derived.Test.YtdpmikfheebicaaGreatDoorDnM
namespace Go.Dn
open Go
def Stepped(C:Ctx)(act:Act)(dst:Option Tmp)(r:Result Next)(K:S->Prop):Prop:=
 ∃v w',(r= .ok (.value v) w'\/(r= .ok .skip w'/\v=undef))/\∃C' s',C'.w=w'/\C'.P=C.P/\Inv C'/\cW C' s' (act.put dst v)/\Ext C.st.length C C'/\K s'
theorem qY(v:Value):a0 v=v.oneCell':=by cases v<;>rfl
mutual
theorem Dz{C:Ctx}: ∀(a:AV) (s:Src) (o:Nat),cq a=true->M C a s o->∀j,j<wid a->∃v,s (o+j)=some v/\a0 v=true
 | .agg l,s,o,hs,h,j,hj=>by
  simp only[cq] at hs;simp only[M] at h;simp only[wid] at hj
  exact Aj l s o hs h j hj
 | .cf,_,_,hs,_,_,_| .bp _,_,_,hs,_,_,_=>by simp[cq] at hs
 | .lit v,s,o,hs,h,j,hj=>by
  simp only[wid] at hj;obtain rfl:j=0:=by omega
  exact fN (a:= .lit v) rfl hs h
 | .ae T l,s,o,hs,h,j,hj=>by simp only[wid] at hj;obtain rfl:j=0:=(by omega);exact fN (a:= .ae T l) rfl hs h
 | .az i lo n,s,o,hs,h,j,hj=>by simp only[wid] at hj;obtain rfl:j=0:=(by omega);exact fN (a:= .az i lo n) rfl hs h
 | .ptr i k p f,s,o,hs,h,j,hj=>by simp only[wid] at hj;obtain rfl:j=0:=(by omega);exact fN (a:= .ptr i k p f) rfl hs h
 | .jc T a,s,o,hs,h,j,hj=>by simp only[wid] at hj;obtain rfl:j=0:=(by omega);exact fN (a:= .jc T a) rfl hs h
 | .mp i,s,o,hs,h,j,hj=>by simp only[wid] at hj;obtain rfl:j=0:=(by omega);exact fN (a:= .mp i) rfl hs h
 | .cx i,s,o,hs,h,j,hj=>by simp only[wid] at hj;obtain rfl:j=0:=(by omega);exact fN (a:= .cx i) rfl hs h
 | .jJ i k,s,o,hs,h,j,hj=>by simp only[wid] at hj;obtain rfl:j=0:=(by omega);exact fN (a:= .jJ i k) rfl hs h
 | .bP f l,s,o,hs,h,j,hj=>by simp only[wid] at hj;obtain rfl:j=0:=(by omega);exact fN (a:= .bP f l) rfl hs h
 | .iq T a,s,o,hs,h,j,hj=>by simp only[wid] at hj;obtain rfl:j=0:=(by omega);exact fN (a:= .iq T a) rfl hs h
 | .iZ K V ks vs,s,o,hs,h,j,hj=>by simp only[wid] at hj;obtain rfl:j=0:=(by omega);exact fN (a:= .iZ K V ks vs) rfl hs h
theorem Aj{C:Ctx}: ∀(l:List AV) (s:Src) (o:Nat),dG l=true->ML C l s o->∀j,j<eF l->∃v,s (o+j)=some v/\a0 v=true
 |[],_,_,_,_,j,hj=>by simp[eF] at hj
 | a::l,s,o,hs,h,j,hj=>by
  simp only[dG,aa1] at hs
  simp only[ML] at h
  simp only[eF] at hj
  rcases Nat.lt_or_ge j (wid a) with hlt|hge
  ·exact Dz a s o hs.1 h.1 j hlt
  ·obtain⟨v,h1,h2⟩:=Aj l s (o+wid a) hs.2 h.2 (j - wid a) (by omega)
   exact⟨v,by rw[←h1];congr 1;omega,h2⟩
end
theorem oP{C:Ctx}{a:AV}{v:Value}(hs:cq a=true)(hr:Rel C a v): ∀u,u∈v.cells.toList->u.oneCell'=true:=by
 intro u hu
 obtain⟨j,hj,rfl⟩:=List.getElem_of_mem hu
 have hnj:a≠ .cf:=by intro e;subst e;simp[cq] at hs
 have hsz:=hr.2.1.resolve_right hnj
 simp only[Array.length_toList] at hj
 obtain⟨w,h1,h2⟩:=Dz a _ 0 hs hr.2.2 j (by omega)
 simp only[Nat.zero_add] at h1
 have:v.cells[j]=w:=by
  rw[Array.getElem?_eq_getElem hj] at h1
  exact Option.some.inj h1
 simp only[Array.getElem_toList]
 rw[this,←qY];exact h2
theorem bF(w:World)(o:Go.Obj)(b:Nat)(h:b<w.heap.size):(w.alloc o).heap[b]? =w.heap[b]? :=by
 show(w.heap.push o)[b]? =_
 rw[Array.getElem?_push,if_neg (by omega)]
theorem alloc_heap_new(w:World)(o:Go.Obj):(w.alloc o).heap[w.heap.size]? =some o:=by
 show(w.heap.push o)[w.heap.size]? =_
 simp
theorem cv(w:World)(o:Go.Obj):(w.alloc o).heap.size=w.heap.size+1:=by
 show(w.heap.push o).size=_
 simp
theorem gW(w:World)(o:Go.Obj):dw w (w.alloc o):=⟨rfl,rfl,rfl⟩
theorem jQ{C:Ctx}(hI:Inv C){o:Obj}{g:G}{w:World}(hold: ∀b,b<C.w.heap.size->w.heap[b]? =C.w.heap[b]?):bG C (C.add o g w):=
 ⟨rfl,fun _ h=>h,fun b hb=>hold b (hI.xs b hb)⟩
theorem uT{C:Ctx}(hI:Inv C){o:Obj}{g:G}{w:World}(hold: ∀b,b<C.w.heap.size->w.heap[b]? =C.w.heap[b]?){i:Nat}(hi:i<C.st.length):bW C (C.add o g w) i i:=
 ep hI hi (by simp[Ctx.add];omega) (cu hi).1 (cu hi).2 (fun h b hb=>⟨rfl,rfl,hold _ (hI.df ⟨i,hi,h,hb.symm⟩).1⟩)
theorem iH(w:World)(cs:Array Value)(T:TypeId)(fz:Nat×Nat)(j:Nat):cellAt (w.alloc (.cells cs T fz)) w.heap.size j=cs[j]? :=by
 simp only[cellAt,World.cell?,alloc_heap_new];simp
theorem Du{C:Ctx}(hI:Inv C){T:TypeId}{a:AV}{v:Value}(hr:Rel C a v)(hs:cq a=true):
  Inv (C.add (.box T a) ⟨C.w.heap.size,0,false⟩ (C.w.alloc (.cells v.cells T)))/\Ext C.st.length C (C.add (.box T a) ⟨C.w.heap.size,0,false⟩ (C.w.alloc (.cells v.cells T)))/\
  Rel (C.add (.box T a) ⟨C.w.heap.size,0,false⟩ (C.w.alloc (.cells v.cells T))) (.ptr C.st.length 0 [] 0) (.pointer (some ⟨C.w.heap.size,0,none⟩)):=by
 have hnj:a≠ .cf:=by intro e;subst e;simp[cq] at hs
 have hold:=bF C.w (.cells v.cells T)
 have hsz:=hr.2.1.resolve_right hnj
 have h:=fM hI (o:= .box T a) (g:=⟨C.w.heap.size,0,false⟩) (w:=C.w.alloc (.cells v.cells T)) rfl (by rw[cv];omega) (gW _ _) hold (by
  refine⟨fun h=>by have:=hI.xs _ h;simp at this,hs,v.cells,T,alloc_heap_new _ _,by omega,?_⟩
  exact M.dV (jQ hI hold) hI.lay (fun i _ hlt=>uT hI hold hlt) (fun j _=>by simp only[Nat.zero_add];exact iH _ _ _ _ _) hr.2.2)
 refine⟨h.1,h.2,dT rfl rfl ?_ h.1⟩
 simp only[M]
 refine⟨by simp[Ctx.add],_,rfl,rfl,fun T0 xs hx=>?_,fun T0 b hx=>?_,fun _ _ _ hx=>(by rw[bm.1] at hx;cases hx),fun _ _ hx=>(by rw[bm.1] at hx;cases hx),fun _ _ _ _ _ hx=>(by rw[bm.1] at hx;cases hx),fun _ _ _ _ hx=>(by rw[bm.1] at hx;cases hx)⟩
 ·rw[bm.1] at hx;simp[gb] at hx
 ·rw[bm.1] at hx;rw[bm.2];exact⟨rfl,rfl⟩
mutual
theorem oO{P:Program}: ∀(a:AV) (T:TypeId),bq P a T->cq a=true
 | .lit v,T,h=>by
  simp only[bq] at h
  simp only[cq]
  split at h<;>first
   |(obtain⟨_,rfl⟩:=h;rfl)
   |(subst h;rfl)
   |exact h.elim
   |exact h
 | .ae _ _,_,_=>by simp[cq]
 | .agg l,T,h=>by
  simp only[bq] at h
  obtain⟨fs,_,h⟩:=h
  simp only[cq];exact rL l _ h
 | .jc _ _,_,_=>by simp[cq]
 | .iq _ _,_,_=>by simp[cq]
 | .iZ _ _ _ _,_,_=>by simp[cq]
 | .cf,_,h| .bp _,_,h| .az _ _ _,_,h| .ptr _ _ _ _,_,h| .mp _,_,h| .cx _,_,h| .jJ _ _,_,h| .bP _ _,_,h=>by simp[bq] at h
theorem rL{P:Program}: ∀(l:List AV) (fs:List Field),dd P l fs->dG l=true
 |[],_,_=>by simp[dG]
 |_::_,[],h=>by simp[dd] at h
 |a::l,f::fs,h=>by
  simp only[dd] at h
  simp only[dG,aa1]
  exact⟨oO a _ h.1,rL l fs h.2⟩
end
theorem Stepped.mk'{C C':Ctx}(hI:Inv C){s:S}{act:Act}(hs:cW C s act){dst:Option Tmp}{r:Result Next}{K:S->Prop}{x:AV}{v:Value}
  (hr:r= .ok (.value v) C'.w\/(r= .ok .skip C'.w/\v=undef)) (hI':Inv C') (he:Ext C.st.length C C') (hx:Rel C' x v) (hK:K (put {s with st:=C'.st} dst x)):Stepped C act dst r K:=
 ⟨v,C'.w,hr,C',_,rfl,he.keeps.P,hI',(hs.step hI he).put hx,he,hK⟩
theorem vg{P:Program}{w:World}(T:TypeId)(v:Value):(newVar T v).run P w= .ok ⟨w.heap.size,0,none⟩ (w.alloc (.cells v.cells T)):=by
 simp[newVar,newRow]
theorem zi{C:Ctx}(hI:Inv C){s:S}{act:Act}(hs:cW C s act){dst:Option Tmp}{T:TypeId}{z:AV}{K:S->Prop}(hz:fS C.P T=some z)
  (hK:K (put {s with st:=s.st++[.box T z]} dst (.ptr s.st.length 0 [] 0))) {o:Oper} (ho:o.op= .alloc T):Stepped C act dst ((execOp act.eval o).run C.P C.w) K:=by
 obtain⟨i,zv,hi,hzv,hrz,hc,hpz⟩:=dt hI hz
 obtain⟨h1,h2,h3⟩:=Du hI (T:=T) hrz (oO _ _ hpz)
 refine Stepped.mk' hI hs (v:= .pointer (some ⟨C.w.heap.size,0,none⟩)) (.inl ?_) h1 h2 h3 (by simpa[Ctx.add,hs.st] using hK)
 simp[execOp,ho,Instr.alloc,iT hi hzv,vg];rfl
theorem Fb{C:Ctx}(hI:Inv C){s:S}{act:Act}(hs:cW C s act){dst:Option Tmp}{T:TypeId}{x:Operand}{K:S->Prop}(hsol:cq (ev s x)=true)
  (hK:K (put {s with st:=s.st++[.box T (ev s x)]} dst (.ptr s.st.length 0 [] 0))) {o:Oper} (ho:o.op= .box T x):Stepped C act dst ((execOp act.eval o).run C.P C.w) K:=by
 obtain⟨h1,h2,h3⟩:=Du hI (T:=T) (bj hs x) hsol
 refine Stepped.mk' hI hs (v:= .pointer (some ⟨C.w.heap.size,0,none⟩)) (.inl ?_) h1 h2 h3 (by simpa[Ctx.add,hs.st] using hK)
 simp[execOp,ho,Instr.box,vg];rfl
theorem vH{C:Ctx}(hI:Inv C){s:S}{act:Act}(hs:cW C s act){dst:Option Tmp}{T Kt Vt:TypeId}{K:S->Prop}(_hT:C.P.underlying T=some (.map Kt Vt))
  (hK:K (put {s with st:=s.st++[.map Kt Vt []]} dst (.mp s.st.length))) {o:Oper} (ho:o.op= .makeMap T none):Stepped C act dst ((execOp act.eval o).run C.P C.w) K:=by
 have hold:=bF C.w (.map #[] 0)
 have h:=fM hI (o:= .map Kt Vt []) (g:=⟨C.w.heap.size,0,false⟩) (w:=C.w.alloc (.map #[] 0)) rfl (by rw[cv];omega) (gW _ _) hold (by
  refine⟨fun h=>by have:=hI.xs _ h;simp at this, #[],0,alloc_heap_new _ _,by simp[bX],⟨by simp,by simp,by simp,by simp⟩⟩)
 refine Stepped.mk' hI hs (v:= .map (some C.w.heap.size)) (x:= .mp C.st.length) (.inl ?_) h.1 h.2 (dT rfl rfl ?_ h.1) (by simpa[Ctx.add,hs.st] using hK)
 ·simp[execOp,ho,Instr.makeMap];rfl
 ·simp only[M]
  refine⟨by simp[Ctx.add],_,rfl,rfl,fun K' V' es hx=>?_⟩
  rw[bm.2]
end Go.Dn
