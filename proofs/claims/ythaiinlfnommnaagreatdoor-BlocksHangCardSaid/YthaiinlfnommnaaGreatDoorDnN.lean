import Derived.Test.YthaiinlfnommnaaGreatDoorDnM
namespace Go.Dn
open Go
def Stepped(C:Ctx)(act:Act)(dst:Option Tmp)(r:Result Next)(K:S->Prop):Prop:=
 ∃v w',(r= .ok (.value v) w'\/(r= .ok .skip w'/\v=undef))/\∃C' s',C'.w=w'/\C'.P=C.P/\Inv C'/\dt C' s' (act.put dst v)/\Ext C.st.length C C'/\K s'
theorem r6(v:Value):bg v=v.oneCell':=by cases v<;>rfl
mutual
theorem FH{C:Ctx}: ∀(a:AV) (s:Src) (o:Nat),cO a=true->M C a s o->∀j,j<wid a->∃v,s (o+j)=some v/\bg v=true
 | .agg l,s,o,hs,h,j,hj=>by
  simp only[cO] at hs;simp only[M] at h;simp only[wid] at hj
  exact Cl l s o hs h j hj
 | .cG,_,_,hs,_,_,_| .bh _,_,_,hs,_,_,_=>by simp[cO] at hs
 | .lit v,s,o,hs,h,j,hj=>by
  simp only[wid] at hj;obtain rfl:j=0:=by omega
  exact gQ (a:= .lit v) rfl hs h
 | .ad T l,s,o,hs,h,j,hj=>by simp only[wid] at hj;obtain rfl:j=0:=(by omega);exact gQ (a:= .ad T l) rfl hs h
 | .an i lo n,s,o,hs,h,j,hj=>by simp only[wid] at hj;obtain rfl:j=0:=(by omega);exact gQ (a:= .an i lo n) rfl hs h
 | .ptr i k p f,s,o,hs,h,j,hj=>by simp only[wid] at hj;obtain rfl:j=0:=(by omega);exact gQ (a:= .ptr i k p f) rfl hs h
 | .jS T a,s,o,hs,h,j,hj=>by simp only[wid] at hj;obtain rfl:j=0:=(by omega);exact gQ (a:= .jS T a) rfl hs h
 | .mp i,s,o,hs,h,j,hj=>by simp only[wid] at hj;obtain rfl:j=0:=(by omega);exact gQ (a:= .mp i) rfl hs h
 | .cD i,s,o,hs,h,j,hj=>by simp only[wid] at hj;obtain rfl:j=0:=(by omega);exact gQ (a:= .cD i) rfl hs h
 | .ku i k,s,o,hs,h,j,hj=>by simp only[wid] at hj;obtain rfl:j=0:=(by omega);exact gQ (a:= .ku i k) rfl hs h
 | .bL f l,s,o,hs,h,j,hj=>by simp only[wid] at hj;obtain rfl:j=0:=(by omega);exact gQ (a:= .bL f l) rfl hs h
 | .jj T a,s,o,hs,h,j,hj=>by simp only[wid] at hj;obtain rfl:j=0:=(by omega);exact gQ (a:= .jj T a) rfl hs h
 | .jE K V ks vs,s,o,hs,h,j,hj=>by simp only[wid] at hj;obtain rfl:j=0:=(by omega);exact gQ (a:= .jE K V ks vs) rfl hs h
theorem Cl{C:Ctx}: ∀(l:List AV) (s:Src) (o:Nat),dI l=true->ML C l s o->∀j,j<eQ l->∃v,s (o+j)=some v/\bg v=true
 |[],_,_,_,_,j,hj=>by simp[eQ] at hj
 | a::l,s,o,hs,h,j,hj=>by
  simp only[dI,aa2] at hs
  simp only[ML] at h
  simp only[eQ] at hj
  rcases Nat.lt_or_ge j (wid a) with hlt|hge
  ·exact FH a s o hs.1 h.1 j hlt
  ·obtain⟨v,h1,h2⟩:=Cl l s (o+wid a) hs.2 h.2 (j - wid a) (by omega)
   exact⟨v,by rw[←h1];congr 1;omega,h2⟩
end
theorem pR{C:Ctx}{a:AV}{v:Value}(hs:cO a=true)(hr:Rel C a v): ∀u,u∈v.cells.toList->u.oneCell'=true:=by
 intro u hu
 obtain⟨j,hj,rfl⟩:=List.getElem_of_mem hu
 have hnj:a≠ .cG:=by intro e;subst e;simp[cO] at hs
 have hsz:=hr.2.1.resolve_right hnj
 simp only[Array.length_toList] at hj
 obtain⟨w,h1,h2⟩:=FH a _ 0 hs hr.2.2 j (by omega)
 simp only[Nat.zero_add] at h1
 have:v.cells[j]=w:=by
  rw[Array.getElem?_eq_getElem hj] at h1
  exact Option.some.inj h1
 simp only[Array.getElem_toList]
 rw[this,←r6];exact h2
theorem bU(w:World)(o:Go.Obj)(b:Nat)(h:b<w.heap.size):(w.alloc o).heap[b]? =w.heap[b]? :=by
 show(w.heap.push o)[b]? =_
 rw[Array.getElem?_push,if_neg (by omega)]
theorem alloc_heap_new(w:World)(o:Go.Obj):(w.alloc o).heap[w.heap.size]? =some o:=by
 show(w.heap.push o)[w.heap.size]? =_
 simp
theorem de(w:World)(o:Go.Obj):(w.alloc o).heap.size=w.heap.size+1:=by
 show(w.heap.push o).size=_
 simp
theorem iS(w:World)(o:Go.Obj):dY w (w.alloc o):=⟨rfl,rfl,rfl⟩
theorem kx{C:Ctx}(hI:Inv C){o:Obj}{g:G}{w:World}(hold: ∀b,b<C.w.heap.size->w.heap[b]? =C.w.heap[b]?):bQ C (C.add o g w):=
 ⟨rfl,fun _ h=>h,fun b hb=>hold b (hI.xs b hb)⟩
theorem wy{C:Ctx}(hI:Inv C){o:Obj}{g:G}{w:World}(hold: ∀b,b<C.w.heap.size->w.heap[b]? =C.w.heap[b]?){i:Nat}(hi:i<C.st.length):cd C (C.add o g w) i i:=
 ee hI hi (by simp[Ctx.add];omega) (cL hi).1 (cL hi).2 (fun h b hb=>⟨rfl,rfl,hold _ (hI.dJ ⟨i,hi,h,hb.symm⟩).1⟩)
theorem jw(w:World)(cs:Array Value)(T:TypeId)(fz:Nat×Nat)(j:Nat):cellAt (w.alloc (.cells cs T fz)) w.heap.size j=cs[j]? :=by
 simp only[cellAt,World.cell?,alloc_heap_new];simp
theorem G1{C:Ctx}(hI:Inv C){T:TypeId}{a:AV}{v:Value}(hr:Rel C a v)(hs:cO a=true):
  Inv (C.add (.box T a) ⟨C.w.heap.size,0,false⟩ (C.w.alloc (.cells v.cells T)))/\Ext C.st.length C (C.add (.box T a) ⟨C.w.heap.size,0,false⟩ (C.w.alloc (.cells v.cells T)))/\
  Rel (C.add (.box T a) ⟨C.w.heap.size,0,false⟩ (C.w.alloc (.cells v.cells T))) (.ptr C.st.length 0 [] 0) (.pointer (some ⟨C.w.heap.size,0,none⟩)):=by
 have hnj:a≠ .cG:=by intro e;subst e;simp[cO] at hs
 have hold:=bU C.w (.cells v.cells T)
 have hsz:=hr.2.1.resolve_right hnj
 have h:=gN hI (o:= .box T a) (g:=⟨C.w.heap.size,0,false⟩) (w:=C.w.alloc (.cells v.cells T)) rfl (by rw[de];omega) (iS _ _) hold (by
  refine⟨fun h=>by have:=hI.xs _ h;simp at this,hs,v.cells,T,alloc_heap_new _ _,by omega,?_⟩
  exact M.keep (kx hI hold) hI.lay (fun i _ hlt=>wy hI hold hlt) (fun j _=>by simp only[Nat.zero_add];exact jw _ _ _ _ _) hr.2.2)
 refine⟨h.1,h.2,eH rfl rfl ?_ h.1⟩
 simp only[M]
 refine⟨by simp[Ctx.add],_,rfl,rfl,fun T0 xs hx=>?_,fun T0 b hx=>?_,fun _ _ _ hx=>(by rw[bx.1] at hx;cases hx),fun _ _ hx=>(by rw[bx.1] at hx;cases hx),fun _ _ _ _ _ hx=>(by rw[bx.1] at hx;cases hx),fun _ _ _ _ hx=>(by rw[bx.1] at hx;cases hx)⟩
 ·rw[bx.1] at hx;simp[hJ] at hx
 ·rw[bx.1] at hx;rw[bx.2];exact⟨rfl,rfl⟩
mutual
theorem qs{P:Program}: ∀(a:AV) (T:TypeId),bC P a T->cO a=true
 | .lit v,T,h=>by
  simp only[bC] at h
  simp only[cO]
  split at h<;>first
   |(obtain⟨_,rfl⟩:=h;rfl)
   |(subst h;rfl)
   |exact h.elim
   |exact h
 | .ad _ _,_,_=>by simp[cO]
 | .agg l,T,h=>by
  simp only[bC] at h
  obtain⟨fs,_,h⟩:=h
  simp only[cO];exact tn l _ h
 | .jS _ _,_,_=>by simp[cO]
 | .jj _ _,_,_=>by simp[cO]
 | .jE _ _ _ _,_,_=>by simp[cO]
 | .cG,_,h| .bh _,_,h| .an _ _ _,_,h| .ptr _ _ _ _,_,h| .mp _,_,h| .cD _,_,h| .ku _ _,_,h| .bL _ _,_,h=>by simp[bC] at h
theorem tn{P:Program}: ∀(l:List AV) (fs:List Field),dG P l fs->dI l=true
 |[],_,_=>by simp[dI]
 |_::_,[],h=>by simp[dG] at h
 |a::l,f::fs,h=>by
  simp only[dG] at h
  simp only[dI,aa2]
  exact⟨qs a _ h.1,tn l fs h.2⟩
end
theorem Stepped.mk'{C C':Ctx}(hI:Inv C){s:S}{act:Act}(hs:dt C s act){dst:Option Tmp}{r:Result Next}{K:S->Prop}{x:AV}{v:Value}
  (hr:r= .ok (.value v) C'.w\/(r= .ok .skip C'.w/\v=undef)) (hI':Inv C') (he:Ext C.st.length C C') (hx:Rel C' x v) (hK:K (put {s with st:=C'.st} dst x)):Stepped C act dst r K:=
 ⟨v,C'.w,hr,C',_,rfl,he.keeps.P,hI',(hs.step hI he).put hx,he,hK⟩
theorem xg{P:Program}{w:World}(T:TypeId)(v:Value):(newVar T v).run P w= .ok ⟨w.heap.size,0,none⟩ (w.alloc (.cells v.cells T)):=by
 simp[newVar,newRow]
theorem Bc{C:Ctx}(hI:Inv C){s:S}{act:Act}(hs:dt C s act){dst:Option Tmp}{T:TypeId}{z:AV}{K:S->Prop}(hz:gS C.P T=some z)
  (hK:K (put {s with st:=s.st++[.box T z]} dst (.ptr s.st.length 0 [] 0))) {o:Oper} (ho:o.op= .alloc T):Stepped C act dst ((execOp act.eval o).run C.P C.w) K:=by
 obtain⟨i,zv,hi,hzv,hrz,hc,hpz⟩:=dS hI hz
 obtain⟨h1,h2,h3⟩:=G1 hI (T:=T) hrz (qs _ _ hpz)
 refine Stepped.mk' hI hs (v:= .pointer (some ⟨C.w.heap.size,0,none⟩)) (.inl ?_) h1 h2 h3 (by simpa[Ctx.add,hs.st] using hK)
 simp[execOp,ho,Instr.alloc,jL hi hzv,xg];rfl
theorem Ir{C:Ctx}(hI:Inv C){s:S}{act:Act}(hs:dt C s act){dst:Option Tmp}{T:TypeId}{x:Operand}{K:S->Prop}(hsol:cO (ev s x)=true)
  (hK:K (put {s with st:=s.st++[.box T (ev s x)]} dst (.ptr s.st.length 0 [] 0))) {o:Oper} (ho:o.op= .box T x):Stepped C act dst ((execOp act.eval o).run C.P C.w) K:=by
 obtain⟨h1,h2,h3⟩:=G1 hI (T:=T) (bu hs x) hsol
 refine Stepped.mk' hI hs (v:= .pointer (some ⟨C.w.heap.size,0,none⟩)) (.inl ?_) h1 h2 h3 (by simpa[Ctx.add,hs.st] using hK)
 simp[execOp,ho,Instr.box,xg];rfl
theorem xE{C:Ctx}(hI:Inv C){s:S}{act:Act}(hs:dt C s act){dst:Option Tmp}{T Kt Vt:TypeId}{K:S->Prop}(_hT:C.P.underlying T=some (.map Kt Vt))
  (hK:K (put {s with st:=s.st++[.map Kt Vt []]} dst (.mp s.st.length))) {o:Oper} (ho:o.op= .makeMap T none):Stepped C act dst ((execOp act.eval o).run C.P C.w) K:=by
 have hold:=bU C.w (.map #[] 0)
 have h:=gN hI (o:= .map Kt Vt []) (g:=⟨C.w.heap.size,0,false⟩) (w:=C.w.alloc (.map #[] 0)) rfl (by rw[de];omega) (iS _ _) hold (by
  refine⟨fun h=>by have:=hI.xs _ h;simp at this, #[],0,alloc_heap_new _ _,by simp[cn],⟨by simp,by simp,by simp,by simp⟩⟩)
 refine Stepped.mk' hI hs (v:= .map (some C.w.heap.size)) (x:= .mp C.st.length) (.inl ?_) h.1 h.2 (eH rfl rfl ?_ h.1) (by simpa[Ctx.add,hs.st] using hK)
 ·simp[execOp,ho,Instr.makeMap];rfl
 ·simp only[M]
  refine⟨by simp[Ctx.add],_,rfl,rfl,fun K' V' es hx=>?_⟩
  rw[bx.2]
end Go.Dn
