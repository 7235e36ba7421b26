import Derived.Test.YthaiinlfnommnaaGreatDoorDnM
namespace Go.Dn
open Go
def Stepped(C:Ctx)(act:Act)(dst:Option Tmp)(r:Result Next)(K:S->Prop):Prop:=
 ∃v w',(r= .ok (.value v) w'\/(r= .ok .skip w'/\v=undef))/\∃C' s',C'.w=w'/\C'.P=C.P/\Inv C'/\dv C' s' (act.put dst v)/\Ext C.st.length C C'/\K s'
theorem sc(v:Value):bm v=v.oneCell':=by cases v<;>rfl
mutual
theorem Ga{C:Ctx}: ∀(a:AV) (s:Src) (o:Nat),cZ a=true->M C a s o->∀j,j<wid a->∃v,s (o+j)=some v/\bm v=true
 | .agg l,s,o,hs,h,j,hj=>by
  simp only[cZ] at hs;simp only[M] at h;simp only[wid] at hj
  exact Dg l s o hs h j hj
 | .cP,_,_,hs,_,_,_| .bp _,_,_,hs,_,_,_=>by simp[cZ] at hs
 | .lit v,s,o,hs,h,j,hj=>by
  simp only[wid] at hj;obtain rfl:j=0:=by omega
  exact gQ (a:= .lit v) rfl hs h
 | .ad T l,s,o,hs,h,j,hj=>by simp only[wid] at hj;obtain rfl:j=0:=(by omega);exact gQ (a:= .ad T l) rfl hs h
 | .ar i lo n,s,o,hs,h,j,hj=>by simp only[wid] at hj;obtain rfl:j=0:=(by omega);exact gQ (a:= .ar i lo n) rfl hs h
 | .ptr i k p f,s,o,hs,h,j,hj=>by simp only[wid] at hj;obtain rfl:j=0:=(by omega);exact gQ (a:= .ptr i k p f) rfl hs h
 | .jX T a,s,o,hs,h,j,hj=>by simp only[wid] at hj;obtain rfl:j=0:=(by omega);exact gQ (a:= .jX T a) rfl hs h
 | .mp i,s,o,hs,h,j,hj=>by simp only[wid] at hj;obtain rfl:j=0:=(by omega);exact gQ (a:= .mp i) rfl hs h
 | .cK i,s,o,hs,h,j,hj=>by simp only[wid] at hj;obtain rfl:j=0:=(by omega);exact gQ (a:= .cK i) rfl hs h
 | .kx i k,s,o,hs,h,j,hj=>by simp only[wid] at hj;obtain rfl:j=0:=(by omega);exact gQ (a:= .kx i k) rfl hs h
 | .bQ f l,s,o,hs,h,j,hj=>by simp only[wid] at hj;obtain rfl:j=0:=(by omega);exact gQ (a:= .bQ f l) rfl hs h
 | .jq T a,s,o,hs,h,j,hj=>by simp only[wid] at hj;obtain rfl:j=0:=(by omega);exact gQ (a:= .jq T a) rfl hs h
 | .jJ K V ks vs,s,o,hs,h,j,hj=>by simp only[wid] at hj;obtain rfl:j=0:=(by omega);exact gQ (a:= .jJ K V ks vs) rfl hs h
theorem Dg{C:Ctx}: ∀(l:List AV) (s:Src) (o:Nat),dM l=true->ML C l s o->∀j,j<eU l->∃v,s (o+j)=some v/\bm v=true
 |[],_,_,_,_,j,hj=>by simp[eU] at hj
 | a::l,s,o,hs,h,j,hj=>by
  simp only[dM,aa3] at hs
  simp only[ML] at h
  simp only[eU] at hj
  rcases Nat.lt_or_ge j (wid a) with hlt|hge
  ·exact Ga a s o hs.1 h.1 j hlt
  ·obtain⟨v,h1,h2⟩:=Dg l s (o+wid a) hs.2 h.2 (j - wid a) (by omega)
   exact⟨v,by rw[←h1];congr 1;omega,h2⟩
end
theorem qj{C:Ctx}{a:AV}{v:Value}(hs:cZ a=true)(hr:Rel C a v): ∀u,u∈v.cells.toList->u.oneCell'=true:=by
 intro u hu
 obtain⟨j,hj,rfl⟩:=List.getElem_of_mem hu
 have hnj:a≠ .cP:=by intro e;subst e;simp[cZ] at hs
 have hsz:=hr.2.1.resolve_right hnj
 simp only[Array.length_toList] at hj
 obtain⟨w,h1,h2⟩:=Ga a _ 0 hs hr.2.2 j (by omega)
 simp only[Nat.zero_add] at h1
 have:v.cells[j]=w:=by
  rw[Array.getElem?_eq_getElem hj] at h1
  exact Option.some.inj h1
 simp only[Array.getElem_toList]
 rw[this,←sc];exact h2
theorem bW(w:World)(o:Go.Obj)(b:Nat)(h:b<w.heap.size):(w.alloc o).heap[b]? =w.heap[b]? :=by
 show(w.heap.push o)[b]? =_
 rw[Array.getElem?_push,if_neg (by omega)]
theorem alloc_heap_new(w:World)(o:Go.Obj):(w.alloc o).heap[w.heap.size]? =some o:=by
 show(w.heap.push o)[w.heap.size]? =_
 simp
theorem dh(w:World)(o:Go.Obj):(w.alloc o).heap.size=w.heap.size+1:=by
 show(w.heap.push o).size=_
 simp
theorem ji(w:World)(o:Go.Obj):ea w (w.alloc o):=⟨rfl,rfl,rfl⟩
theorem ko{C:Ctx}(hI:Inv C){o:Obj}{g:G}{w:World}(hold: ∀b,b<C.w.heap.size->w.heap[b]? =C.w.heap[b]?):b8 C (C.add o g w):=
 ⟨rfl,fun _ h=>h,fun b hb=>hold b (hI.xs b hb)⟩
theorem uM{C:Ctx}(hI:Inv C){o:Obj}{g:G}{w:World}(hold: ∀b,b<C.w.heap.size->w.heap[b]? =C.w.heap[b]?){i:Nat}(hi:i<C.st.length):ck C (C.add o g w) i i:=
 ej hI hi (by simp[Ctx.add];omega) (cW hi).1 (cW hi).2 (fun h b hb=>⟨rfl,rfl,hold _ (hI.dK ⟨i,hi,h,hb.symm⟩).1⟩)
theorem jx(w:World)(cs:Array Value)(T:TypeId)(fz:Nat×Nat)(j:Nat):cellAt (w.alloc (.cells cs T fz)) w.heap.size j=cs[j]? :=by
 simp only[cellAt,World.cell?,alloc_heap_new];simp
theorem Hc{C:Ctx}(hI:Inv C){T:TypeId}{a:AV}{v:Value}(hr:Rel C a v)(hs:cZ a=true):
  Inv (C.add (.box T a) ⟨C.w.heap.size,0,false⟩ (C.w.alloc (.cells v.cells T)))/\Ext C.st.length C (C.add (.box T a) ⟨C.w.heap.size,0,false⟩ (C.w.alloc (.cells v.cells T)))/\
  Rel (C.add (.box T a) ⟨C.w.heap.size,0,false⟩ (C.w.alloc (.cells v.cells T))) (.ptr C.st.length 0 [] 0) (.pointer (some ⟨C.w.heap.size,0,none⟩)):=by
 have hnj:a≠ .cP:=by intro e;subst e;simp[cZ] at hs
 have hold:=bW C.w (.cells v.cells T)
 have hsz:=hr.2.1.resolve_right hnj
 have h:=gL hI (o:= .box T a) (g:=⟨C.w.heap.size,0,false⟩) (w:=C.w.alloc (.cells v.cells T)) rfl (by rw[dh];omega) (ji _ _) hold (by
  refine⟨fun h=>by have:=hI.xs _ h;simp at this,hs,v.cells,T,alloc_heap_new _ _,by omega,?_⟩
  exact M.eQ (ko hI hold) hI.lay (fun i _ hlt=>uM hI hold hlt) (fun j _=>by simp only[Nat.zero_add];exact jx _ _ _ _ _) hr.2.2)
 refine⟨h.1,h.2,eM rfl rfl ?_ h.1⟩
 simp only[M]
 refine⟨by simp[Ctx.add],_,rfl,rfl,fun T0 xs hx=>?_,fun T0 b hx=>?_,fun _ _ _ hx=>(by rw[bC.1] at hx;cases hx),fun _ _ hx=>(by rw[bC.1] at hx;cases hx),fun _ _ _ _ _ hx=>(by rw[bC.1] at hx;cases hx),fun _ _ _ _ hx=>(by rw[bC.1] at hx;cases hx)⟩
 ·rw[bC.1] at hx;simp[ia] at hx
 ·rw[bC.1] at hx;rw[bC.2];exact⟨rfl,rfl⟩
mutual
theorem qk{P:Program}: ∀(a:AV) (T:TypeId),bG P a T->cZ a=true
 | .lit v,T,h=>by
  simp only[bG] at h
  simp only[cZ]
  split at h<;>first
   |(obtain⟨_,rfl⟩:=h;rfl)
   |(subst h;rfl)
   |exact h.elim
   |exact h
 | .ad _ _,_,_=>by simp[cZ]
 | .agg l,T,h=>by
  simp only[bG] at h
  obtain⟨fs,_,h⟩:=h
  simp only[cZ];exact sZ l _ h
 | .jX _ _,_,_=>by simp[cZ]
 | .jq _ _,_,_=>by simp[cZ]
 | .jJ _ _ _ _,_,_=>by simp[cZ]
 | .cP,_,h| .bp _,_,h| .ar _ _ _,_,h| .ptr _ _ _ _,_,h| .mp _,_,h| .cK _,_,h| .kx _ _,_,h| .bQ _ _,_,h=>by simp[bG] at h
theorem sZ{P:Program}: ∀(l:List AV) (fs:List Field),dI P l fs->dM l=true
 |[],_,_=>by simp[dM]
 |_::_,[],h=>by simp[dI] at h
 |a::l,f::fs,h=>by
  simp only[dI] at h
  simp only[dM,aa3]
  exact⟨qk a _ h.1,sZ l fs h.2⟩
end
theorem Stepped.mk'{C C':Ctx}(hI:Inv C){s:S}{act:Act}(hs:dv C s act){dst:Option Tmp}{r:Result Next}{K:S->Prop}{x:AV}{v:Value}
  (hr:r= .ok (.value v) C'.w\/(r= .ok .skip C'.w/\v=undef)) (hI':Inv C') (he:Ext C.st.length C C') (hx:Rel C' x v) (hK:K (put {s with st:=C'.st} dst x)):Stepped C act dst r K:=
 ⟨v,C'.w,hr,C',_,rfl,he.keeps.P,hI',(hs.step hI he).put hx,he,hK⟩
theorem vl{P:Program}{w:World}(T:TypeId)(v:Value):(newVar T v).run P w= .ok ⟨w.heap.size,0,none⟩ (w.alloc (.cells v.cells T)):=by
 simp[newVar,newRow]
theorem Cw{C:Ctx}(hI:Inv C){s:S}{act:Act}(hs:dv C s act){dst:Option Tmp}{T:TypeId}{z:AV}{K:S->Prop}(hz:gT C.P T=some z)
  (hK:K (put {s with st:=s.st++[.box T z]} dst (.ptr s.st.length 0 [] 0))) {o:Oper} (ho:o.op= .alloc T):Stepped C act dst ((execOp act.eval o).run C.P C.w) K:=by
 obtain⟨i,zv,hi,hzv,hrz,hc,hpz⟩:=dU hI hz
 obtain⟨h1,h2,h3⟩:=Hc hI (T:=T) hrz (qk _ _ hpz)
 refine Stepped.mk' hI hs (v:= .pointer (some ⟨C.w.heap.size,0,none⟩)) (.inl ?_) h1 h2 h3 (by simpa[Ctx.add,hs.st] using hK)
 simp[execOp,ho,Instr.alloc,jK hi hzv,vl];rfl
theorem IT{C:Ctx}(hI:Inv C){s:S}{act:Act}(hs:dv C s act){dst:Option Tmp}{T:TypeId}{x:Operand}{K:S->Prop}(hsol:cZ (ev s x)=true)
  (hK:K (put {s with st:=s.st++[.box T (ev s x)]} dst (.ptr s.st.length 0 [] 0))) {o:Oper} (ho:o.op= .box T x):Stepped C act dst ((execOp act.eval o).run C.P C.w) K:=by
 obtain⟨h1,h2,h3⟩:=Hc hI (T:=T) (bx hs x) hsol
 refine Stepped.mk' hI hs (v:= .pointer (some ⟨C.w.heap.size,0,none⟩)) (.inl ?_) h1 h2 h3 (by simpa[Ctx.add,hs.st] using hK)
 simp[execOp,ho,Instr.box,vl];rfl
theorem xp{C:Ctx}(hI:Inv C){s:S}{act:Act}(hs:dv C s act){dst:Option Tmp}{T Kt Vt:TypeId}{K:S->Prop}(_hT:C.P.underlying T=some (.map Kt Vt))
  (hK:K (put {s with st:=s.st++[.map Kt Vt []]} dst (.mp s.st.length))) {o:Oper} (ho:o.op= .makeMap T none):Stepped C act dst ((execOp act.eval o).run C.P C.w) K:=by
 have hold:=bW C.w (.map #[] 0)
 have h:=gL hI (o:= .map Kt Vt []) (g:=⟨C.w.heap.size,0,false⟩) (w:=C.w.alloc (.map #[] 0)) rfl (by rw[dh];omega) (ji _ _) hold (by
  refine⟨fun h=>by have:=hI.xs _ h;simp at this, #[],0,alloc_heap_new _ _,by simp[ct],⟨by simp,by simp,by simp,by simp⟩⟩)
 refine Stepped.mk' hI hs (v:= .map (some C.w.heap.size)) (x:= .mp C.st.length) (.inl ?_) h.1 h.2 (eM rfl rfl ?_ h.1) (by simpa[Ctx.add,hs.st] using hK)
 ·simp[execOp,ho,Instr.makeMap];rfl
 ·simp only[M]
  refine⟨by simp[Ctx.add],_,rfl,rfl,fun K' V' es hx=>?_⟩
  rw[bC.2]
end Go.Dn
