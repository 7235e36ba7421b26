import Derived.Test.YtioeffnadipbaaaGreatDoorDnM
namespace Go.Dn
open Go
def Stepped(C:Ctx)(act:Act)(dst:Option Tmp)(r:Result Next)(K:S->Prop):Prop:=
 ∃v w',(r= .ok (.value v) w'\/(r= .ok .skip w'/\v=undef))/\∃C' s',C'.w=w'/\C'.P=C.P/\Inv C'/\db C' s' (act.put dst v)/\Ext C.st.length C C'/\K s'
theorem rH(v:Value):a9 v=v.oneCell':=by cases v<;>rfl
mutual
theorem D4{C:Ctx}: ∀(a:AV) (s:Src) (o:Nat),cQ a=true->M C a s o->∀j,j<wid a->∃v,s (o+j)=some v/\a9 v=true
 | .agg l,s,o,hs,h,j,hj=>by
  simp only[cQ] at hs;simp only[M] at h;simp only[wid] at hj
  exact AG l s o hs h j hj
 | .cK,_,_,hs,_,_,_| .aX _,_,_,hs,_,_,_=>by simp[cQ] at hs
 | .lit v,s,o,hs,h,j,hj=>by
  simp only[wid] at hj;obtain rfl:j=0:=by omega
  exact gF (a:= .lit v) rfl hs h
 | .ad T l,s,o,hs,h,j,hj=>by simp only[wid] at hj;obtain rfl:j=0:=(by omega);exact gF (a:= .ad T l) rfl hs h
 | .aB i lo n,s,o,hs,h,j,hj=>by simp only[wid] at hj;obtain rfl:j=0:=(by omega);exact gF (a:= .aB i lo n) rfl hs h
 | .ptr i k p f,s,o,hs,h,j,hj=>by simp only[wid] at hj;obtain rfl:j=0:=(by omega);exact gF (a:= .ptr i k p f) rfl hs h
 | .iY T a,s,o,hs,h,j,hj=>by simp only[wid] at hj;obtain rfl:j=0:=(by omega);exact gF (a:= .iY T a) rfl hs h
 | .mp i,s,o,hs,h,j,hj=>by simp only[wid] at hj;obtain rfl:j=0:=(by omega);exact gF (a:= .mp i) rfl hs h
 | .de i,s,o,hs,h,j,hj=>by simp only[wid] at hj;obtain rfl:j=0:=(by omega);exact gF (a:= .de i) rfl hs h
 | .jV i k,s,o,hs,h,j,hj=>by simp only[wid] at hj;obtain rfl:j=0:=(by omega);exact gF (a:= .jV i k) rfl hs h
 | .bq f l,s,o,hs,h,j,hj=>by simp only[wid] at hj;obtain rfl:j=0:=(by omega);exact gF (a:= .bq f l) rfl hs h
 | .iN T a,s,o,hs,h,j,hj=>by simp only[wid] at hj;obtain rfl:j=0:=(by omega);exact gF (a:= .iN T a) rfl hs h
 | .fJ K V ks vs,s,o,hs,h,j,hj=>by simp only[wid] at hj;obtain rfl:j=0:=(by omega);exact gF (a:= .fJ K V ks vs) rfl hs h
theorem AG{C:Ctx}: ∀(l:List AV) (s:Src) (o:Nat),dA l=true->ML C l s o->∀j,j<eH l->∃v,s (o+j)=some v/\a9 v=true
 |[],_,_,_,_,j,hj=>by simp[eH] at hj
 | a::l,s,o,hs,h,j,hj=>by
  simp only[dA,aa1] at hs
  simp only[ML] at h
  simp only[eH] at hj
  rcases Nat.lt_or_ge j (wid a) with hlt|hge
  ·exact D4 a s o hs.1 h.1 j hlt
  ·obtain⟨v,h1,h2⟩:=AG l s (o+wid a) hs.2 h.2 (j - wid a) (by omega)
   exact⟨v,by rw[←h1];congr 1;omega,h2⟩
end
theorem pV{C:Ctx}{a:AV}{v:Value}(hs:cQ a=true)(hr:Rel C a v): ∀u,u∈v.cells.toList->u.oneCell'=true:=by
 intro u hu
 obtain⟨j,hj,rfl⟩:=List.getElem_of_mem hu
 have hnj:a≠ .cK:=by intro e;subst e;simp[cQ] at hs
 have hsz:=hr.2.1.resolve_right hnj
 simp only[Array.length_toList] at hj
 obtain⟨w,h1,h2⟩:=D4 a _ 0 hs hr.2.2 j (by omega)
 grind [rH]
theorem bE(w:World)(o:Go.Obj)(b:Nat)(h:b<w.heap.size):(w.alloc o).heap[b]? =w.heap[b]? :=by
 show(w.heap.push o)[b]? =_
 rw[Array.getElem?_push,if_neg (by omega)]
theorem alloc_heap_new(w:World)(o:Go.Obj):(w.alloc o).heap[w.heap.size]? =some o:=by
 show(w.heap.push o)[w.heap.size]? =_
 simp
theorem cn(w:World)(o:Go.Obj):(w.alloc o).heap.size=w.heap.size+1:=by
 show(w.heap.push o).size=_
 simp
theorem gl(w:World)(o:Go.Obj):dN w (w.alloc o):=⟨rfl,rfl,rfl⟩
theorem iQ{C:Ctx}(hI:Inv C){o:Obj}{g:G}{w:World}(hold: ∀b,b<C.w.heap.size->w.heap[b]? =C.w.heap[b]?):bH C (C.add o g w):=
 ⟨rfl,fun _ h=>h,fun b hb=>hold b (hI.xs b hb)⟩
theorem v9{C:Ctx}(hI:Inv C){o:Obj}{g:G}{w:World}(hold: ∀b,b<C.w.heap.size->w.heap[b]? =C.w.heap[b]?){i:Nat}(hi:i<C.st.length):bU C (C.add o g w) i i:=
 dM hI hi (by simp[Ctx.add];omega) (cu hi).1 (cu hi).2 (fun h b hb=>⟨rfl,rfl,hold _ (hI.dv ⟨i,hi,h,hb.symm⟩).1⟩)
theorem hJ(w:World)(cs:Array Value)(T:TypeId)(fz:Nat×Nat)(j:Nat):cellAt (w.alloc (.cells cs T fz)) w.heap.size j=cs[j]? :=by
 simp only[cellAt,World.cell?,alloc_heap_new];simp
theorem Ei{C:Ctx}(hI:Inv C){T:TypeId}{a:AV}{v:Value}(hr:Rel C a v)(hs:cQ a=true):
  Inv (C.add (.box T a) ⟨C.w.heap.size,0,false⟩ (C.w.alloc (.cells v.cells T)))/\Ext C.st.length C (C.add (.box T a) ⟨C.w.heap.size,0,false⟩ (C.w.alloc (.cells v.cells T)))/\
  Rel (C.add (.box T a) ⟨C.w.heap.size,0,false⟩ (C.w.alloc (.cells v.cells T))) (.ptr C.st.length 0 [] 0) (.pointer (some ⟨C.w.heap.size,0,none⟩)):=by
 have hnj:a≠ .cK:=by intro e;subst e;simp[cQ] at hs
 have hold:=bE C.w (.cells v.cells T)
 have hsz:=hr.2.1.resolve_right hnj
 have h:=fx hI (o:= .box T a) (g:=⟨C.w.heap.size,0,false⟩) (w:=C.w.alloc (.cells v.cells T)) rfl (by rw[cn];omega) (gl _ _) hold (by
  refine⟨fun h=>by have:=hI.xs _ h;simp at this,hs,v.cells,T,alloc_heap_new _ _,⟨by omega,by omega,rfl⟩,?_⟩
  exact M.eu (iQ hI hold) hI.lay (fun i _ hlt=>v9 hI hold hlt) (fun j _=>by simp only[Nat.zero_add];exact hJ _ _ _ _ _) hr.2.2)
 refine⟨h.1,h.2,dV rfl rfl ?_ h.1⟩
 simp only[M]
 refine⟨by simp[Ctx.add],_,rfl,rfl,fun T0 xs hx=>?_,fun T0 b hx=>?_,fun _ _ _ hx=>(by rw[bp.1] at hx;cases hx),fun _ _ hx=>(by rw[bp.1] at hx;cases hx),fun _ _ _ _ _ hx=>(by rw[bp.1] at hx;cases hx),fun _ _ _ _ hx=>(by rw[bp.1] at hx;cases hx)⟩
 ·rw[bp.1] at hx;simp[gC] at hx
 ·rw[bp.1] at hx;rw[bp.2];exact⟨rfl,rfl⟩
mutual
theorem pW{P:Program}: ∀(a:AV) (T:TypeId),br P a T->cQ a=true
 | .lit v,T,h=>by
  simp only[br] at h
  simp only[cQ]
  split at h<;>first
   |(obtain⟨_,rfl⟩:=h;rfl)
   |(subst h;rfl)
   |exact h.elim
   |exact h
 | .ad _ _,_,_=>by simp[cQ]
 | .agg l,T,h=>by
  simp only[br] at h
  obtain⟨fs,_,h⟩:=h
  simp only[cQ];exact sJ l _ h
 | .iY _ _,_,_=>by simp[cQ]
 | .iN _ _,_,_=>by simp[cQ]
 | .fJ _ _ _ _,_,_=>by simp[cQ]
 | .cK,_,h| .aX _,_,h| .aB _ _ _,_,h| .ptr _ _ _ _,_,h| .mp _,_,h| .de _,_,h| .jV _ _,_,h| .bq _ _,_,h=>by simp[br] at h
theorem sJ{P:Program}: ∀(l:List AV) (fs:List Field),dy P l fs->dA l=true
 |[],_,_=>by simp[dA]
 |_::_,[],h=>by simp[dy] at h
 |a::l,f::fs,h=>by
  simp only[dy] at h
  simp only[dA,aa1]
  exact⟨pW a _ h.1,sJ l fs h.2⟩
end
theorem Stepped.mk'{C C':Ctx}(hI:Inv C){s:S}{act:Act}(hs:db C s act){dst:Option Tmp}{r:Result Next}{K:S->Prop}{x:AV}{v:Value}
  (hr:r= .ok (.value v) C'.w\/(r= .ok .skip C'.w/\v=undef)) (hI':Inv C') (he:Ext C.st.length C C') (hx:Rel C' x v) (hK:K (put {s with st:=C'.st} dst x)):Stepped C act dst r K:=
 ⟨v,C'.w,hr,C',_,rfl,he.keeps.P,hI',(hs.step hI he).put hx,he,hK⟩
theorem po{P:Program}{w:World}(T:TypeId)(v:Value):(newVar T v).run P w= .ok ⟨w.heap.size,0,none⟩ (w.alloc (.cells v.cells T)):=by
 simp[newVar,newRow]
theorem Bv{C:Ctx}(hI:Inv C){s:S}{act:Act}(hs:db C s act){dst:Option Tmp}{T:TypeId}{z:AV}{K:S->Prop}(hz:gG C.P T=some z)
  (hK:K (put {s with st:=s.st++[.box T z]} dst (.ptr s.st.length 0 [] 0))) {o:Oper} (ho:o.op= .alloc T):Stepped C act dst ((execOp act.eval o).run C.P C.w) K:=by
 obtain⟨i,zv,hi,hzv,hrz,hc,hpz⟩:=ec hI hz
 obtain⟨h1,h2,h3⟩:=Ei hI (T:=T) hrz (pW _ _ hpz)
 refine Stepped.mk' hI hs (v:= .pointer (some ⟨C.w.heap.size,0,none⟩)) (.inl ?_) h1 h2 h3 (by simpa[Ctx.add,hs.st] using hK)
 simp[execOp,ho,Instr.alloc,jq hi hzv,po];rfl
theorem G9{C:Ctx}(hI:Inv C){s:S}{act:Act}(hs:db C s act){dst:Option Tmp}{T:TypeId}{x:Operand}{K:S->Prop}(hsol:cQ (ev s x)=true)
  (hK:K (put {s with st:=s.st++[.box T (ev s x)]} dst (.ptr s.st.length 0 [] 0))) {o:Oper} (ho:o.op= .box T x):Stepped C act dst ((execOp act.eval o).run C.P C.w) K:=by
 obtain⟨h1,h2,h3⟩:=Ei hI (T:=T) (bm hs x) hsol
 refine Stepped.mk' hI hs (v:= .pointer (some ⟨C.w.heap.size,0,none⟩)) (.inl ?_) h1 h2 h3 (by simpa[Ctx.add,hs.st] using hK)
 simp[execOp,ho,Instr.box,po];rfl
theorem Pz{A:Ctx}(hI:Inv A){X:Nat->Prop}(h1: ∀b,Own A b-> ¬ X b)(h2: ∀b,A.cls b≠b-> ¬ X b)(h3: ∀b,X b->b<A.w.heap.size):
  Inv {A with X:=fun b=>A.X b\/X b}/\bH A {A with X:=fun b=>A.X b\/X b}/\(∀i,i<A.st.length->bU A {A with X:=fun b=>A.X b\/X b} i i):=by
 have hk:bH A {A with X:=fun b=>A.X b\/X b}:=⟨rfl,fun _ h=> .inl h,fun _ _=>rfl⟩
 have hrefs: ∀i,i<A.st.length->bU A {A with X:=fun b=>A.X b\/X b} i i:=fun i hi=>dM hI hi hi rfl rfl (fun _ _ _=>⟨rfl,rfl,rfl⟩)
 refine⟨⟨hI.lay,fun j hj=>?_,hI.s8,fun b hb=>hb.elim (hI.xs b) (h3 b),hI.eQ,fun b hb=>⟨(hI.mT b hb).1,fun hx=>hx.elim (hI.mT b hb).2.1 (h2 b hb),(hI.mT b hb).2.2⟩,hI.kJ hk⟩,hk,hrefs⟩
 exact(hI.obj j hj).eu hk hI.lay (fun j hj _=>hrefs j hj) (hI.eQ j hj) ⟨fun b ho hb=>⟨fun hx=>hx.elim (hI.dv ⟨j,hj,ho,hb.symm⟩).2 (h1 b ⟨j,hj,ho,hb.symm⟩),rfl⟩,fun _ _=>⟨Iff.rfl,fun _=>rfl⟩,dN.refl _,Nat.le_refl _,fun _ _=>rfl⟩
theorem Gu{C:Ctx}(hI:Inv C){s:S}{act:Act}(hs:db C s act){dst:Option Tmp}{T:TypeId}{x:Operand}{K:S->Prop}(hc:ux C.P (ev s x) T=true)
  (hK:K (put {s with st:=s.st++[.dead]} dst (.iY T (ev s x)))) {o:Oper} (ho:o.op= .box T x):Stepped C act dst ((execOp act.eval o).run C.P C.w) K:=by
 have hr:=bm hs x
 generalize ev s x=a at hc hK hr
 generalize hv:act.eval x=v at hr
 have hp:=gn a T _ _ hc hr.2.2
 have hold:=bE C.w (.cells v.cells T)
 obtain⟨h1,h2⟩:=fx hI (o:= .dead) (g:=⟨C.w.heap.size,0,false⟩) (w:=C.w.alloc (.cells v.cells T)) rfl (by rw[cn];omega) (gl _ _) hold trivial
 have hfr:C.cls C.w.heap.size=C.w.heap.size:=hI.fresh (Nat.le_refl _)
 obtain⟨x1,x2,x3⟩:=Pz h1 (X:=fun b=>b=C.w.heap.size) (by
  rintro b ⟨i,hi,ho,hb⟩ rfl
  by_cases hi':i<C.st.length
  ·rw[(cu hi').1,(cu hi').2] at ho
   rw[(cu hi').2] at hb
   have:=((hI.obj i hi').lt ho).1
   rw[hb] at this
   rw[show(C.add .dead ⟨C.w.heap.size,0,false⟩ (C.w.alloc (.cells v.cells T))).cls C.w.heap.size=C.cls C.w.heap.size from rfl,hfr] at this
   omega
  ·have:i=C.st.length:=by simp[Ctx.add] at hi;omega
   subst this
   rw[bp.1] at ho
   simp[cr] at ho) (by rintro b hb rfl;exact hb hfr) (by rintro b rfl;show _<(C.w.alloc _).heap.size;rw[cn];omega)
 have hE:Ext C.st.length C {C.add .dead ⟨C.w.heap.size,0,false⟩ (C.w.alloc (.cells v.cells T)) with X:=fun b=>C.X b\/b=C.w.heap.size}:=
  ⟨h2.keeps.trans x2,h2.size,h2.os,h2.tape,h2.output,h2.frame,fun b hb=>hb.elim (h2.oQ b) (fun e=> .inr (.inr (by omega))),h2.fV,fun i hi=>(h2.refs i hi).trans (x3 i (h2.refs i hi).lt),h2.cls,h2.lr⟩
 refine Stepped.mk' hI hs (v:= .pointer (some ⟨C.w.heap.size,0,none⟩)) (x:= .iY T a) (.inl ?_) x1 hE (dV rfl rfl ?_ x1) (by simpa[Ctx.add,hs.st] using hK)
 ·simp[execOp,ho,Instr.box,po,hv];rfl
 ·simp only[M]
  refine⟨C.w.heap.size,0,rfl, .inr rfl,hp,lk hE.keeps hI.lay a T _ _ 0 0 hp (fun j _=>?_) hr.2.2⟩
  simp only[Nat.zero_add];exact hJ _ _ _ _ _
theorem wA{C:Ctx}(hI:Inv C){s:S}{act:Act}(hs:db C s act){dst:Option Tmp}{T Kt Vt:TypeId}{K:S->Prop}(_hT:C.P.underlying T=some (.map Kt Vt))
  (hK:K (put {s with st:=s.st++[.map Kt Vt []]} dst (.mp s.st.length))) {o:Oper} (ho:o.op= .makeMap T none):Stepped C act dst ((execOp act.eval o).run C.P C.w) K:=by
 have hold:=bE C.w (.map #[] 0)
 have h:=fx hI (o:= .map Kt Vt []) (g:=⟨C.w.heap.size,0,false⟩) (w:=C.w.alloc (.map #[] 0)) rfl (by rw[cn];omega) (gl _ _) hold (by
  refine⟨fun h=>by have:=hI.xs _ h;simp at this, #[],0,alloc_heap_new _ _,by simp[bZ],⟨by simp,by simp,by simp,by simp⟩⟩)
 refine Stepped.mk' hI hs (v:= .map (some C.w.heap.size)) (x:= .mp C.st.length) (.inl ?_) h.1 h.2 (dV rfl rfl ?_ h.1) (by simpa[Ctx.add,hs.st] using hK)
 ·simp[execOp,ho,Instr.makeMap];rfl
 ·simp only[M]
  refine⟨by simp[Ctx.add],_,rfl,rfl,fun K' V' es hx=>?_⟩
  rw[bp.2]
end Go.Dn
