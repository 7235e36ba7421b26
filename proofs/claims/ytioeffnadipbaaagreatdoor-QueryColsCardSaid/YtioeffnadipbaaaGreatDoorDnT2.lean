import Derived.Test.YtioeffnadipbaaaGreatDoorDnT
import Derived.Maps.RangeRun
namespace Go.Dn
open Go
open Go.ChangeMaps (setBlock)
theorem bZ.length{C:Ctx}{V:TypeId}: ∀{es:List (Value×AV)} {ents:List MapEntry},bZ C V es ents->es.length=ents.length
 |[],[],_=>rfl
 |[],_::_,h=>by simp[bZ] at h
 |_::_,[],h=>by simp[bZ] at h
 |(k,a)::es,e::ents,h=>by
  simp only[bZ] at h
  simp[bZ.length h.2.2.2]
theorem bZ.mem{C:Ctx}{V:TypeId}: ∀{es:List (Value×AV)} {ents:List MapEntry},bZ C V es ents->∀e,e∈ents->∃a,(e.key,a)∈es/\br C.P a V/\Rel C a e.val
 |[],[],_,e,he=>by simp at he
 |[],_::_,h,_,_=>by simp[bZ] at h
 |_::_,[],h,_,_=>by simp[bZ] at h
 | (k,a)::es,e0::ents,h,e,he=>by
  simp only[bZ] at h
  rcases List.mem_cons.1 he with rfl|he
  ·exact⟨a,by rw[h.1];simp,h.2.1,h.2.2.1⟩
  ·obtain⟨a',h1,h2⟩:=bZ.mem h.2.2.2 e he
   exact⟨a',by simp[h1],h2⟩
theorem bZ.seen{C:Ctx}{V:TypeId}{ks:List Value}: ∀{es:List (Value×AV)} {ents:List MapEntry},bZ C V es ents->(∀e,e∈ents->qH ks e.key=true)->oJ ks es=true
 |[],[],_,_=>rfl
 |[],_::_,h,_=>by simp[bZ] at h
 |_::_,[],h,_=>by simp[bZ] at h
 |(k,a)::es,e0::ents,h,hk=>by
  simp only[bZ] at h
  simp only[oJ,aa1]
  exact⟨by have:=hk e0 (by simp);rwa [h.1] at this,bZ.seen h.2.2.2 (fun e he=>hk e (by simp[he]))⟩
theorem Cw(s u:ByteArray):(s==u)=(u==s):=by
 cases s with|mk a=>cases u with|mk b=>exact(show(a==b)=(b==a) from Bool.eq_iff_iff.2 (by simp only[beq_iff_eq];exact eq_comm))
theorem CW(a b:Value):dm a b=dm b a:=by
 cases a<;>cases b<;>first
  |rfl
  |(simp only[dm];exact Cw _ _)
  |(simp only[dm];rw[Bool.eq_iff_iff];simp only[aa1,beq_iff_eq];exact⟨fun h=>⟨h.1.symm,h.2.symm⟩,fun h=>⟨h.1.symm,h.2.symm⟩⟩)
  |(simp only[dm];rw[Bool.eq_iff_iff];simp only[beq_iff_eq];exact eq_comm)
theorem H7{P:Program}{K:TypeId}{ents:List MapEntry}{clock:Nat}(h:k9 P K ents clock){e e':MapEntry}(he:e∈ents)(he':e'∈ents):(e'.born==e.born)=dm e.key e'.key:=by
 obtain⟨i,hi⟩:=List.mem_iff_getElem?.1 he
 obtain⟨j,hj⟩:=List.mem_iff_getElem?.1 he'
 obtain⟨hil,hie⟩:=List.getElem?_eq_some_iff.1 hi
 obtain⟨hjl,hje⟩:=List.getElem?_eq_some_iff.1 hj
 rcases Nat.lt_trichotomy i j with hlt|heq|hlt
 ·have a:=List.pairwise_iff_getElem.1 h.apart i j hil hjl hlt
  have b:=List.pairwise_iff_getElem.1 h.born i j hil hjl hlt
  rw[hie,hje] at a b
  rw[CW,a]
  simp;omega
 ·subst heq
  rw[hie] at hje;subst hje
  rw[ko (h.keys e he)];simp
 ·have a:=List.pairwise_iff_getElem.1 h.apart j i hjl hil hlt
  have b:=List.pairwise_iff_getElem.1 h.born j i hjl hil hlt
  rw[hie,hje] at a b
  rw[a]
  simp;omega
theorem GG{C:Ctx}(hI:Inv C){i:Nat}(hi:i<C.st.length){K V T Kt Vt:TypeId}{es:List (Value×AV)}(hst:an C.st i= .map K V es)(hT:C.P.underlying T=some (.map Kt Vt)):
  ∃w',(Instr.range T (.map (some (C.ι i).block))).run C.P C.w= .ok (.pointer (some ⟨C.w.heap.size,0,none⟩)) w'/\Inv (C.add (.iter i es.length []) ⟨C.w.heap.size,0,false⟩ w')/\Ext C.st.length C (C.add (.iter i es.length []) ⟨C.w.heap.size,0,false⟩ w')/\
   Rel (C.add (.iter i es.length []) ⟨C.w.heap.size,0,false⟩ w') (.ptr C.st.length 0 [] 0) (.pointer (some ⟨C.w.heap.size,0,none⟩)):=by
 obtain⟨entries,clock,hh,hent,hmap⟩:=mF hI hi hst
 have hlt:=(Array.getElem?_eq_some_iff.1 hh).1
 have hold:=bE C.w (.mapIter (some (C.ι i).block) clock #[] clock)
 have hlen:=hent.length
 have h:=fx hI (o:= .iter i es.length []) (g:=⟨C.w.heap.size,0,false⟩) (w:=C.w.alloc (.mapIter (some (C.ι i).block) clock #[] clock)) rfl (by rw[cn];omega) (gl _ _) hold (by
  refine⟨fun h=>by have:=hI.xs _ h;simp at this,by simp[Ctx.add];omega,_,_,_,_,alloc_heap_new _ _,fun h=>(by cases h),fun K' V' es' hx=>?_⟩
  rw[(cu hi).1,hst] at hx
  cases hx
  rw[(cu hi).2]
  refine⟨rfl,entries,clock,(hold _ hlt).trans hh,⟨by rw[hlen];simp,Nat.le_refl _,Nat.le_refl _,fun e _ _=>by simp[qH],fun k r hx=>by cases hx⟩⟩)
 refine⟨_,run_range_map C.w T Kt Vt _ entries clock hT hh,h.1,h.2,dV rfl rfl ?_ h.1⟩
 simp only[M]
 exact⟨by simp[Ctx.add],_,rfl,rfl,fun T0 xs hx=>(by rw[bp.1] at hx;simp[gC] at hx),fun T0 b hx=>(by rw[bp.1] at hx;cases hx),fun _ _ _ hx=>(by rw[bp.2]),fun _ _ hx=>(by rw[bp.1] at hx;cases hx),fun _ _ _ _ _ hx=>(by rw[bp.1] at hx;cases hx),fun _ _ _ _ hx=>(by rw[bp.1] at hx;cases hx)⟩
theorem F5{C:Ctx}(hI:Inv C){T Kt Vt:TypeId}(hT:C.P.underlying T=some (.map Kt Vt)):
  ∃w',(Instr.range T (.map none)).run C.P C.w= .ok (.pointer (some ⟨C.w.heap.size,0,none⟩)) w'/\Inv (C.add (.iter C.st.length 0 [.map none]) ⟨C.w.heap.size,0,false⟩ w')/\Ext C.st.length C (C.add (.iter C.st.length 0 [.map none]) ⟨C.w.heap.size,0,false⟩ w')/\
   Rel (C.add (.iter C.st.length 0 [.map none]) ⟨C.w.heap.size,0,false⟩ w') (.ptr C.st.length 0 [] 0) (.pointer (some ⟨C.w.heap.size,0,none⟩)):=by
 have hold:=bE C.w (.mapIter none 0 #[] 0)
 have h:=fx hI (o:= .iter C.st.length 0 [.map none]) (g:=⟨C.w.heap.size,0,false⟩) (w:=C.w.alloc (.mapIter none 0 #[] 0)) rfl (by rw[cn];omega) (gl _ _) hold (by
  refine⟨fun h=>by have:=hI.xs _ h;simp at this,by simp[Ctx.add],_,_,_,_,alloc_heap_new _ _,fun _=>rfl,fun K' V' es' hx=>?_⟩
  rw[bp.1] at hx
  cases hx)
 refine⟨_,run_range_nilMap C.w T Kt Vt hT,h.1,h.2,dV rfl rfl ?_ h.1⟩
 simp only[M]
 exact⟨by simp[Ctx.add],_,rfl,rfl,fun T0 xs hx=>(by rw[bp.1] at hx;simp[gC] at hx),fun T0 b hx=>(by rw[bp.1] at hx;cases hx),fun _ _ _ hx=>(by rw[bp.2]),fun _ _ hx=>(by rw[bp.1] at hx;cases hx),fun _ _ _ _ _ hx=>(by rw[bp.1] at hx;cases hx),fun _ _ _ _ hx=>(by rw[bp.1] at hx;cases hx)⟩
theorem K3{C:Ctx}(hI:Inv C){i j n:Nat}(hj:j<C.st.length)(hsj:an C.st j= .iter i n [.map none])(ty:TypeId):
  (Instr.next (.pointer (some ⟨(C.ι j).block,0,none⟩)) false ty).run C.P C.w= .ok (.tuple #[.bool false]) C.w:=by
 have hob:=hI.obj j hj
 rw[hsj] at hob
 obtain⟨hX,hi,m,since,seen,stepped,h1,h2⟩:=hob
 obtain rfl:=h2.1 rfl
 simp[Instr.next,getObj,Sem.run,h1,Result.andThen]
theorem Gz{C:Ctx}(hI:Inv C){T:TypeId}(hT:C.P.underlying T=some .string)(b:ByteArray):
  ∃w',(Instr.range T (.string b)).run C.P C.w= .ok (.pointer (some ⟨C.w.heap.size,0,none⟩)) w'/\Inv (C.add (.dq b 0) ⟨C.w.heap.size,0,false⟩ w')/\Ext C.st.length C (C.add (.dq b 0) ⟨C.w.heap.size,0,false⟩ w')/\
   Rel (C.add (.dq b 0) ⟨C.w.heap.size,0,false⟩ w') (.ptr C.st.length 0 [] 0) (.pointer (some ⟨C.w.heap.size,0,none⟩)):=by
 have hold:=bE C.w (.stringIter b 0)
 have h:=fx hI (o:= .dq b 0) (g:=⟨C.w.heap.size,0,false⟩) (w:=C.w.alloc (.stringIter b 0)) rfl (by rw[cn];omega) (gl _ _) hold
  ⟨fun h=>by have:=hI.xs _ h;simp at this,alloc_heap_new _ _⟩
 refine⟨_,by simp[Instr.range,run_underlying hT],h.1,h.2,dV rfl rfl ?_ h.1⟩
 simp only[M]
 exact⟨by simp[Ctx.add],_,rfl,rfl,fun T0 xs hx=>(by rw[bp.1] at hx;simp[gC] at hx),fun T0 b hx=>(by rw[bp.1] at hx;cases hx),fun _ _ _ hx=>(by rw[bp.1] at hx;cases hx),fun _ _ _=>(by rw[bp.2]),fun _ _ _ _ _ hx=>(by rw[bp.1] at hx;cases hx),fun _ _ _ _ hx=>(by rw[bp.1] at hx;cases hx)⟩
theorem JE{C:Ctx}(hI:Inv C){j:Nat}(hj:j<C.st.length){b:ByteArray}{p:Nat}(hsj:an C.st j= .dq b p)(ty:TypeId):
  (p<b.size->∃w',(Instr.next (.pointer (some ⟨(C.ι j).block,0,none⟩)) true ty).run C.P C.w= .ok (.tuple #[.bool true, .int .i64 p, .int .i32 (Utf8.decode b p).1]) w'/\
   Inv (C.dC j (.dq b (p+(Utf8.decode b p).2)) w')/\Ext C.st.length C (C.dC j (.dq b (p+(Utf8.decode b p).2)) w'))/\
  (¬ p<b.size->(Instr.next (.pointer (some ⟨(C.ι j).block,0,none⟩)) true ty).run C.P C.w= .ok (.tuple #[.bool false]) C.w):=by
 have hob:=hI.obj j hj
 rw[hsj] at hob
 obtain⟨hX,hh⟩:=hob
 refine⟨fun hlt=>?_,fun hge=>?_⟩
 ·have hown:cr (C.ι j) (an C.st j)=true:=by rw[hsj];rfl
  have hB:=(Array.getElem?_eq_some_iff.1 hh).1
  have hother: ∀k,k≠(C.ι j).block->(C.w.putObj (C.ι j).block (.stringIter b (p+(Utf8.decode b p).2))).heap[k]? =C.w.heap[k]? :=fun k hk=>World.putObj_heap_other hk
  have hs:an (C.dC j (.dq b (p+(Utf8.decode b p).2)) (C.w.putObj (C.ι j).block (.stringIter b (p+(Utf8.decode b p).2)))).st j= .dq b (p+(Utf8.decode b p).2):=bn _ _ _ hj
  refine⟨C.w.putObj (C.ι j).block (.stringIter b (p+(Utf8.decode b p).2)),?_,gz hI hj hown World.putObj_size ⟨rfl,rfl,rfl⟩ hother
   ⟨by simp only[Ctx.dC,aU];exact hj,fun T xs hx=>(by rw[hs] at hx;simp[gC] at hx),fun T b hx=>(by rw[hs] at hx;cases hx),fun _ _ _ hx=>(by rw[hs] at hx;cases hx),fun _ hx=>(by rw[hs] at hx;cases hx),fun _ _ _ hx=>(by rw[hs] at hx;cases hx),fun _ hx=>(by rw[hs] at hx;cases hx),fun s q hx=>(by rw[hs] at hx;cases hx;exact⟨_,hsj,rfl⟩),fun _ _ _ _ _ hx=>(by rw[hs] at hx;cases hx),fun _ _ _ _ hx=>(by rw[hs] at hx;cases hx)⟩
   ⟨hX,World.putObj_heap_same hB⟩⟩
  simp[Instr.next,getObj,setObj,Sem.run,hh,Result.andThen,hlt,World.putObj,goInt]
 ·simp[Instr.next,getObj,Sem.run,hh,Result.andThen,hge]
theorem gU: ∀(l:List AV) (lo n:Nat) (z:AV),(cO l lo n z).length=l.length
 |[],_,_,_=>rfl
 |_::_,0,0,_=>rfl
 |_::l,0,n+1,z=>by simp[cO,gU l 0 n z]
 |_::l,lo+1,n,z=>by simp[cO,gU l lo n z]
theorem sj: ∀(l:List AV) (lo:Nat) (z:AV),cO l lo 0 z=l
 |[],_,_=>rfl
 |_::_,0,_=>rfl
 |a::l,lo+1,z=>by simp[cO,sj l lo z]
theorem pB: ∀(l:List AV) (lo n:Nat) (z:AV) (k:Nat),k<l.length->nth (cO l lo n z) k=if lo<=k/\k<lo+n then z else nth l k
 |[],_,_,_,k,h=>by simp at h
 |a::l,0,0,z,k,h=>by rw[if_neg (by omega)];rfl
 |a::l,0,n+1,z,0,h=>by rw[if_pos (by omega)];rfl
 |a::l,0,n+1,z,k+1,h=>by
  have:=pB l 0 n z k (by simpa using h)
  show nth (cO l 0 n z) k=if 0<=k+1/\k+1<0+(n+1) then z else nth l k
  rw[this]
  by_cases h':k<n
  ·rw[if_pos (by omega),if_pos (by omega)]
  ·rw[if_neg (by omega),if_neg (by omega)]
 |a::l,lo+1,n,z,0,h=>by rw[if_neg (by omega)];rfl
 |a::l,lo+1,n,z,k+1,h=>by
  have:=pB l lo n z k (by simpa using h)
  show nth (cO l lo n z) k=if lo+1<=k+1/\k+1<lo+1+n then z else nth l k
  rw[this]
  by_cases h':lo<=k/\k<lo+n
  ·rw[if_pos h',if_pos (by omega)]
  ·rw[if_neg h',if_neg (by omega)]
theorem mv{P:Program}{T:TypeId}{z:AV}(hz:br P z T): ∀(l:List AV) (lo n:Nat),bC P l T->bC P (cO l lo n z) T
 |[],_,_,h=>h
 |_::_,0,0,h=>h
 |_::l,0,n+1,h=>by simp only[bC] at h;simp only[cO,bC];exact⟨hz,mv hz l 0 n h.2⟩
 |_::l,lo+1,n,h=>by simp only[bC] at h;simp only[cO,bC];exact⟨h.1,mv hz l lo n h.2⟩
theorem NL{C:Ctx}{z:Nat}: ∀(l:List AV) (s:Src) (o:Nat),(∀k,k<l.length->M C (nth l k) s (o+k*z))->MR C l z s o
 |[],_,_,_=>by simp[MR]
 |a::l,s,o,h=>by
  simp only[MR]
  refine⟨by have:=h 0 (by simp);simpa[nth] using this,NL l s (o+z) (fun k hk=>?_)⟩
  have:=h (k+1) (by simpa using hk)
  simp only[nth] at this
  rwa [show o+(k+1)*z=o+z+k*z by rw[Nat.add_mul];omega] at this
theorem x7: ∀(l:List Obj) (i:Nat),c9 l i (an l i)=l
 |[],_=>rfl
 |_::_,0=>rfl
 |a::l,i+1=>by simp only[c9,an];rw[x7 l i]
theorem KD{C:Ctx}{i:Nat}{o:Obj}(h:an C.st i=o):C.dC i o C.w=C:=by
 subst h
 simp only[Ctx.dC,x7]
theorem GA{C:Ctx}(hI:Inv C){i lo n:Nat}(hi:i<C.st.length){T Te ty:TypeId}{xs:List AV}{z:AV}(hT:C.P.underlying T=some (.slice Te))(hrow:an C.st i= .row Te xs)(hz:gG C.P Te=some z)(hpos:0<C.P.cellsOf Te){v:Value}
  (hv:kH C i lo n v): ∃w',(Builtin.clear_ #[T] ty #[v]).run C.P C.w= .ok (.tuple #[]) w'/\Inv (C.dC i (.row Te (cO xs lo n z)) w')/\Ext C.st.length C (C.dC i (.row Te (cO xs lo n z)) w'):=by
 obtain⟨hlen,hv'⟩:=hv.1 Te xs (by rw[hrow];rfl)
 by_cases hn:n=0
 ·subst hn
  refine⟨C.w,?_,by rw[sj,KD hrow];exact⟨hI,Ext.refl C (Nat.le_refl _)⟩⟩
  rcases hv' with⟨_,rfl,_,_⟩|⟨_,cap,q,rfl,_⟩
  ·simp[Builtin.clear_,run_underlying hT]
  ·simp[Builtin.clear_,run_underlying hT]
 ·have hob:=hI.obj i hi
  rw[hrow] at hob
  obtain⟨g0,⟨_,g9⟩|⟨g2,g1,cur,g3,g4,g5,g6,g7⟩⟩:=hob
  ·subst g9;simp at hlen;omega
  rcases hv' with⟨_,rfl,_,e⟩|⟨_,cap,q,rfl,hq,hc1,hc2⟩
  ·exact absurd e hn
  have hq':q=⟨(C.ι i).block,lo*C.P.cellsOf Te,none⟩:=by
   rcases hq with h|⟨h,_⟩
   ·exact h
   ·omega
  subst hq'
  obtain⟨ti,zv,hti,hzv,hrz,hcz,hpz⟩:=ec hI hz
  have hwz:wid z=C.P.cellsOf Te:=dn hI.lay _ _ hpz
  have hzs:zv.cells.size=C.P.cellsOf Te:=by rw[hrz.2.1.resolve_right (by intro e;subst e;simp[br] at hpz),hwz]
  have hzj:z≠ .cK:=by intro e;subst e;simp[br] at hpz
  generalize hZ:C.P.cellsOf Te=Z at*
  have hlz:(lo+n)*Z<=xs.length*Z:=Nat.mul_le_mul_right _ hlen
  have hcz2:xs.length*Z<=cur.size:=by rw[←g6];exact Nat.mul_le_mul_right _ g4
  have hadd:(lo+n)*Z=lo*Z+n*Z:=Nat.add_mul _ _ _
  have hzl:(Builtin.zeroCells zv.cells n).toList.length=n*Z:=by simp[Builtin.zeroCells,hzs]
  have hzat: ∀j,j<n*Z->(Builtin.zeroCells zv.cells n).toList[j]? =zv.cells[j % Z]? :=fun j hj=>by
   have hm:j % Z<zv.cells.size:=by rw[hzs];exact Nat.mod_lt _ (by omega)
   simp only[Builtin.zeroCells,hzs,Array.toList_map,List.getElem?_map,Array.toList_range,List.getElem?_range hj,Option.map_some]
   rw[Array.getElem?_eq_getElem hm,getElem!_pos zv.cells (j % Z) hm]
  have hone: ∀u,u∈(Builtin.zeroCells zv.cells n).toList->u.oneCell'=true:=fun u hu=>by
   obtain⟨j,hj,e⟩:=List.getElem_of_mem hu
   have h1:=hzat j (by rw[←hzl];exact hj)
   rw[ab6 hj,e] at h1
   have hm:j % Z<zv.cells.size:=by rw[hzs];exact Nat.mod_lt _ (by omega)
   rw[Array.getElem?_eq_getElem hm] at h1
   have hsol:cQ z=true:=pW _ _ hpz
   exact pV hsol hrz u (by rw[Option.some.inj h1];simp)
  have hst:=run_storeCells_at C.P (C.ι i).block (lo*Z) Te (Builtin.zeroCells zv.cells n).toList 0 cur C.w g3 (by rw[hzl];omega) hone
  simp only[Nat.add_zero,hzl] at hst
  refine⟨C.w.setRow (C.ι i).block (cur.toList.take (lo*Z)++(Builtin.zeroCells zv.cells n).toList++cur.toList.drop (lo*Z+n*Z)).toArray,?_,?_⟩
  ·obtain⟨m,rfl⟩: ∃m,n=m+1:=⟨n - 1,by omega⟩
   simp only[Builtin.clear_]
   simp only[Sem.run_bind,List.getElem?_toArray,List.getElem?_cons_zero,run_underlying hT,Result.andThen_ok,jq hti hzv,hst,Sem.run_pure]
  ·generalize hw':C.w.setRow (C.ι i).block (cur.toList.take (lo*Z)++(Builtin.zeroCells zv.cells n).toList++cur.toList.drop (lo*Z+n*Z)).toArray=w' at*
   have hsp:=spliced cur (lo*Z) (Builtin.zeroCells zv.cells n).toList (by rw[hzl];omega)
   rw[hzl] at hsp
   have hsrc: ∀j,cellAt w' (C.ι i).block j=if lo*Z<=j/\j<lo*Z+n*Z then(Builtin.zeroCells zv.cells n).toList[j - lo*Z]? else cellAt C.w (C.ι i).block j:=fun j=>by
    rw[←hw',mq _ _ cur _ Te g3,hsp,lb g3]
   have hMR:MR C (cO xs lo n z) Z (cellAt w' (C.ι i).block) 0:=by
    refine NL _ _ _ (fun k hk=>?_)
    rw[gU] at hk
    rw[pB xs lo n z k hk,Nat.zero_add]
    by_cases h':lo<=k/\k<lo+n
    ·rw[if_pos h']
     refine qj hI hrz (fun j hj=>?_) hzj
     rw[hzs] at hj
     have h1:lo*Z<=k*Z:=Nat.mul_le_mul_right _ h'.1
     have h2:(k - lo)*Z+Z<=n*Z:=by
      have:=Nat.mul_le_mul_right Z (show k - lo+1<=n by omega)
      rwa [Nat.add_mul,Nat.one_mul] at this
     have h3:k*Z=lo*Z+(k - lo)*Z:=by rw[←Nat.add_mul];congr 1;omega
     rw[hsrc,if_pos (by omega),hzat _ (by omega)]
     congr 1
     rw[show k*Z+j - lo*Z=j+Z*(k - lo) by rw[Nat.mul_comm Z];omega,Nat.add_mul_mod_self_left,Nat.mod_eq_of_lt hj]
    ·rw[if_neg h']
     have hMk:=Bg xs k Z _ 0 hk g7
     rw[Nat.zero_add] at hMk
     have hpk:=nF xs k Te hk g0
     have hwk:wid (nth xs k)=Z:=by rw[dn hI.lay _ _ hpk,hZ]
     refine jv hI (fun j hj=>?_) hMk
     rw[hwk] at hj
     rw[hsrc,if_neg ?_]
     rintro⟨a1,a2⟩
     rcases Nat.lt_or_ge k lo with h|h
     ·have:=Nat.mul_le_mul_right Z (show k+1<=lo by omega)
      rw[Nat.add_mul,Nat.one_mul] at this
      omega
     ·have:=Nat.mul_le_mul_right Z (show lo+n<=k by omega)
      omega
   have hown:cr (C.ι i) (an C.st i)=true:=by rw[hrow];simp[cr,g2]
   have hr:bU C (C.dC i (.row Te (cO xs lo n z)) w') i i:=qO hi hrow (by rw[gU];exact Nat.le_refl _)
   have hother: ∀b,b≠(C.ι i).block->w'.heap[b]? =C.w.heap[b]? :=fun b hb=>by rw[←hw'];exact setRow_other _ _ _ _ hb
   refine gz hI hi hown (by rw[←hw'];simp) (by rw[←hw'];exact setRow_os _ _ _) hother hr ?_
   have hkp:bH C (C.dC i (.row Te (cO xs lo n z)) w'):=⟨rfl,fun _ h=>h,fun b hb=>hother b (fun e=>g1 (e▸hb))⟩
   have hpt:=mv hpz xs lo n g0
   refine⟨hpt, .inr ⟨g2,g1,(cur.toList.take (lo*Z)++(Builtin.zeroCells zv.cells n).toList++cur.toList.drop (lo*Z+n*Z)).toArray,?_,by rw[gU];exact g4,g5,?_,?_⟩⟩
   ·rw[show(C.dC i (.row Te (cO xs lo n z)) w').w=w' from rfl,←hw']
    exact setRow_heap _ _ cur _ Te (0,0) g3
   ·show(C.ι i).cap*C.P.cellsOf Te=_
    rw[hZ,g6]
    simp only[List.size_toArray,ab8,List.length_take,List.length_drop,hzl,Array.length_toList]
    omega
   ·show MR _ _ (C.P.cellsOf Te) _ _
    exact fI hkp hI.lay _ Te _ _ 0 0 hpt (fun _ _=>rfl) (by rw[hZ];exact hMR)
theorem AF{C:Ctx}(hI:Inv C){i j n:Nat}(hj:j<C.st.length){ks:List Value}(hsj:an C.st j= .iter i n ks){K V:TypeId}{es:List (Value×AV)}(hst:an C.st i= .map K V es)(hn:es.length=n):
  i<C.st.length/\ ¬ C.X (C.ι j).block/\∃since seen entries clock,C.w.heap[(C.ι j).block]? =some (.mapIter (some (C.ι i).block) since seen clock)/\C.w.heap[(C.ι i).block]? =some (.map entries clock)/\
   bZ C V es entries.toList/\k9 C.P K entries.toList clock/\NA entries clock since seen clock n ks/\since=clock:=by
 have hob:=hI.obj j hj
 rw[hsj] at hob
 obtain⟨hX,hi,m,since,seen,stepped,h1,h2⟩:=hob
 obtain⟨rfl,entries,clock,hh,hp⟩:=h2.2 K V es hst
 obtain⟨entries',clock',hh',hent,hmap⟩:=mF hI hi hst
 rw[hh] at hh';cases hh'
 have hlen:=hent.length
 have hsz:=hp.size
 have h3:=hp.Qi
 have h4:=hp.Qj
 have hsz':entries.size=n:=by rw[←hn,hlen];simp
 obtain rfl:since=clock:=by omega
 grind
theorem Ae{C:Ctx}{B b since n:Nat}{seen:Array Nat}{entries:Array MapEntry}{K:TypeId}{ks:List Value}(h1:C.w.heap[B]? =some (.mapIter (some b) since seen since))(hh:C.w.heap[b]? =some (.map entries since))(hmap:k9 C.P K entries.toList since)(hp:NA entries since since seen since n ks)(ty:TypeId):
  ((∀e,e∈entries.toList->qH ks e.key=true)/\(Instr.next (.pointer (some ⟨B,0,none⟩)) false ty).run C.P C.w= .ok (.tuple #[.bool false]) C.w)\/
  ∃e w',e∈entries.toList/\qH ks e.key=false/\(Instr.next (.pointer (some ⟨B,0,none⟩)) false ty).run C.P C.w= .ok (.tuple #[.bool true,e.key,e.val]) w'/\w'.heap.size=C.w.heap.size/\dN C.w w'/\
   (∀x,x≠B->w'.heap[x]? =C.w.heap[x]?)/\w'.heap[B]? =some (.mapIter (some b) since (seen.push e.born) since)/\NA entries since since (seen.push e.born) since n (e.key::ks):=by
 rcases run_next_at (P:=C.P) C.w ty B b since since seen entries since h1 hh (fun x hx=>hmap.clock x hx) (Nat.le_refl _) with⟨h0,hr⟩|⟨e,he,w1,hw1,hr⟩
 ·refine .inl ⟨fun e he=>?_,hr⟩
  have hm:=hp.met e (by simpa using he) (hmap.clock e he)
  rw[←hm]
  cases hc:seen.contains e.born with
  |true=>rfl
  |false=>
   have:e∈leftOf entries seen:=by unfold leftOf;simp only[Array.mem_filter];exact⟨by simpa using he,by simp only[hc];rfl⟩
   have hpos:=Array.size_pos_of_mem this
   omega
 ·have he':e∈entries.toList/\seen.contains e.born=false:=by
   have:=he
   unfold leftOf at this
   simp only[Array.toList_filter,List.mem_filter,Bool.not_eq_true'] at this
   exact this
  obtain⟨hem,hes⟩:=he'
  have hm:=hp.met e (by simpa using hem) (hmap.clock e hem)
  have hheap1:w1.heap=C.w.heap:=by rcases hw1 with rfl|rfl<;>rfl
  have hos1:dN C.w w1:=by rcases hw1 with rfl|rfl<;>exact⟨rfl,rfl,rfl⟩
  have hltj:=(Array.getElem?_eq_some_iff.1 h1).1
  refine .inr ⟨e,_,hem,by rw[←hm];exact hes,hr,by show(w1.heap.set! _ _).size=_;rw[hheap1];simp,⟨hos1.os,hos1.tape,hos1.output⟩,fun x hx=>?_,?_,⟨hp.size,hp.Qi,hp.Qj,fun e2 he2 hb2=>?_,fun k r hx=>?_⟩⟩
  ·rw[←hheap1]
   show(w1.heap.set! _ _)[x]? =_
   simp[Array.getElem?_setIfInBounds_ne (Ne.symm hx)]
  ·show(w1.heap.set! _ _)[_]? =_
   rw[hheap1]
   simp[hltj]
  ·simp only[qH]
   rw[Array.contains_push,hp.met e2 he2 hb2,H7 hmap hem (by simpa using he2),Bool.or_comm]
  ·cases hx
   exact⟨e,seen,by simpa using hem,rfl,rfl⟩
theorem I8{C:Ctx}(hI:Inv C){i j n:Nat}(hj:j<C.st.length){ks:List Value}(hsj:an C.st j= .iter i n ks){K V:TypeId}{es:List (Value×AV)}(hst:an C.st i= .map K V es)(hn:es.length=n)(ty:TypeId):
  (oJ ks es=true/\(Instr.next (.pointer (some ⟨(C.ι j).block,0,none⟩)) false ty).run C.P C.w= .ok (.tuple #[.bool false]) C.w)\/
  ∃k a v w',(k,a)∈es/\qH ks k=false/\plainKey C.P K k=true/\(Instr.next (.pointer (some ⟨(C.ι j).block,0,none⟩)) false ty).run C.P C.w= .ok (.tuple #[.bool true,k,v]) w'/\
   Inv (C.dC j (.iter i n (k::ks)) w')/\Ext C.st.length C (C.dC j (.iter i n (k::ks)) w')/\br C.P a V/\Rel (C.dC j (.iter i n (k::ks)) w') a v:=by
 obtain⟨hi,hX,since,seen,entries,clock,h1,hh,hent,hmap,hp,rfl⟩:=AF hI hj hsj hst hn
 have hij:i≠j:=by intro e;subst e;rw[hst] at hsj;cases hsj
 have hownj:cr (C.ι j) (an C.st j)=true:=by rw[hsj];rfl
 have howni:cr (C.ι i) (an C.st i)=true:=by rw[hst];rfl
 have hbne:(C.ι i).block≠(C.ι j).block:=hI.s8 i j hi hj hij howni hownj
 rcases Ae h1 hh hmap hp ty with⟨h0,hr⟩|⟨e,w',hem,hes,hr,hsz,hos,hother,hsame,hp'⟩
 ·exact .inl ⟨hent.seen h0,hr⟩
 ·obtain⟨a,ha,hpa,hra⟩:=hent.mem e hem
  have hk:bH C (C.dC j (.iter i n (e.key::ks)) w'):=⟨rfl,fun _ h=>h,fun b hb=>hother b (fun e=>hX (e▸hb))⟩
  have hs:an (C.dC j (.iter i n (e.key::ks)) w').st j= .iter i n (e.key::ks):=bn _ _ _ hj
  have hup:=gz hI hj (o:= .iter i n (e.key::ks)) (w:=w') hownj hsz hos hother
   ⟨by simp only[Ctx.dC,aU];exact hj,fun T xs hx=>(by rw[hs] at hx;simp[gC] at hx),fun T b hx=>(by rw[hs] at hx;cases hx),fun _ _ _ hx=>(by rw[hs] at hx;cases hx),fun _ hx=>(by rw[hs] at hx;cases hx),
    fun m n' ks' hx=>(by rw[hs] at hx;cases hx;exact⟨_,_,hsj,rfl⟩),fun _ hx=>(by rw[hs] at hx;cases hx),fun _ _ hx=>(by rw[hs] at hx;cases hx),fun _ _ _ _ _ hx=>(by rw[hs] at hx;cases hx),fun _ _ _ _ hx=>(by rw[hs] at hx;cases hx)⟩
   (by
    refine⟨hX,by simp only[Ctx.dC,aU];exact hi,_,_,_,_,hsame,fun h=>(by
     have hpk:=hmap.keys e hem
     simp only[List.cons.injEq] at h
     rw[h.1] at hpk;cases hpk),fun K' V' es' hx=>?_⟩
    exact⟨rfl,entries,since,(hother _ hbne).trans hh,hp'⟩)
  exact .inr ⟨e.key,a,e.val,_,ha,hes,hmap.keys e hem,hr,hup.1,hup.2,hpa,hra.pure hk hI.lay hpa⟩
theorem Gv{C:Ctx}(hI:Inv C){K V T Kt Vt:TypeId}{ks:List Value}{vs:List AV}{v:Value}(hr:Rel C (.fJ K V ks vs) v)(hT:C.P.underlying T=some (.map Kt Vt)):
  ∃w',(Instr.range T v).run C.P C.w= .ok (.pointer (some ⟨C.w.heap.size,0,none⟩)) w'/\Inv (C.add (.fit K V ks vs []) ⟨C.w.heap.size,0,false⟩ w')/\Ext C.st.length C (C.add (.fit K V ks vs []) ⟨C.w.heap.size,0,false⟩ w')/\
   Rel (C.add (.fit K V ks vs []) ⟨C.w.heap.size,0,false⟩ w') (.ptr C.st.length 0 [] 0) (.pointer (some ⟨C.w.heap.size,0,none⟩)):=by
 have fin: ∀o,(Instr.range T v).run C.P C.w= .ok (.pointer (some ⟨C.w.heap.size,0,none⟩)) (C.w.alloc o)->jF (C.add (.fit K V ks vs []) ⟨C.w.heap.size,0,false⟩ (C.w.alloc o)) ⟨C.w.heap.size,0,false⟩ (.fit K V ks vs [])->
   ∃w',(Instr.range T v).run C.P C.w= .ok (.pointer (some ⟨C.w.heap.size,0,none⟩)) w'/\Inv (C.add (.fit K V ks vs []) ⟨C.w.heap.size,0,false⟩ w')/\Ext C.st.length C (C.add (.fit K V ks vs []) ⟨C.w.heap.size,0,false⟩ w')/\
    Rel (C.add (.fit K V ks vs []) ⟨C.w.heap.size,0,false⟩ w') (.ptr C.st.length 0 [] 0) (.pointer (some ⟨C.w.heap.size,0,none⟩)):=fun o hrun ho=>by
  have h:=fx hI (o:= .fit K V ks vs []) (g:=⟨C.w.heap.size,0,false⟩) (w:=C.w.alloc o) rfl (by rw[cn];omega) (gl _ _) (bE _ _) ho
  refine⟨_,hrun,h.1,h.2,dV rfl rfl ?_ h.1⟩
  simp only[M]
  exact⟨by simp[Ctx.add],_,rfl,rfl,fun T0 xs hx=>(by rw[bp.1] at hx;simp[gC] at hx),fun T0 b hx=>(by rw[bp.1] at hx;cases hx),fun _ _ _ hx=>(by rw[bp.1] at hx;cases hx),fun _ _ hx=>(by rw[bp.1] at hx;cases hx),fun _ _ _ _ _ _=>(by rw[bp.2]),fun _ _ _ _ hx=>(by rw[bp.1] at hx;cases hx)⟩
 obtain⟨b,ents,clock,rfl,hX,hh,hmap,rfl,hp,hmt⟩:=tq hr
 ·have hold:=bE C.w (.mapIter (some b) clock #[] clock)
  refine fin _ (run_range_map C.w T Kt Vt _ ents clock hT hh) ⟨fun h=>by have:=hI.xs _ h;simp at this,_,_,_,_,alloc_heap_new _ _, .inr ⟨b,ents,clock,rfl,hX,(hold _ (hI.xs b hX)).trans hh,hmap,rfl,hp,oM (iQ hI hold) hI.lay _ _ _ hp hmt,?_⟩⟩
  exact⟨by simp,Nat.le_refl _,Nat.le_refl _,fun e _ _=>by simp[qH],fun k r hx=>by cases hx⟩
theorem Lj{C:Ctx}(hI:Inv C){j:Nat}(hj:j<C.st.length){K V:TypeId}{ks met:List Value}{vs:List AV}(hsj:an C.st j= .fit K V ks vs met)(ty:TypeId):
  (oJ met (ks.zip vs)=true/\(Instr.next (.pointer (some ⟨(C.ι j).block,0,none⟩)) false ty).run C.P C.w= .ok (.tuple #[.bool false]) C.w)\/
  ∃k a v w',(k,a)∈ks.zip vs/\qH met k=false/\plainKey C.P K k=true/\(Instr.next (.pointer (some ⟨(C.ι j).block,0,none⟩)) false ty).run C.P C.w= .ok (.tuple #[.bool true,k,v]) w'/\
   Inv (C.dC j (.fit K V ks vs (k::met)) w')/\Ext C.st.length C (C.dC j (.fit K V ks vs (k::met)) w')/\br C.P a V/\Rel (C.dC j (.fit K V ks vs (k::met)) w') a v:=by
 have hob:=hI.obj j hj
 rw[hsj] at hob
 obtain⟨hX,m,since,seen,stepped,h1,⟨rfl,rfl,rfl,rfl⟩|⟨b,entries,clock,rfl,hXb,hh,hmap,rfl,hpv,hmt,hp⟩⟩:=hob
 ·refine .inl ⟨rfl,?_⟩
  simp[Instr.next,getObj,Sem.run,h1,Result.andThen]
 ·have hsz:=hp.size
  have h3:=hp.Qi
  have h4:=hp.Qj
  simp only[List.length_map,Array.length_toList] at hsz
  obtain rfl:since=clock:=by omega
  obtain rfl:stepped=since:=by omega
  have hent:=uD _ _ hpv hmt
  have hownj:cr (C.ι j) (an C.st j)=true:=by rw[hsj];rfl
  rcases Ae h1 hh hmap hp ty with⟨h0,hr⟩|⟨e,w',hem,hes,hr,hsz',hos,hother,hsame,hp'⟩
  ·exact .inl ⟨hent.seen h0,hr⟩
  ·obtain⟨a,ha,hpa,hra⟩:=hent.mem e hem
   have hk:bH C (C.dC j (.fit K V (entries.toList.map (·.key)) vs (e.key::met)) w'):=⟨rfl,fun _ h=>h,fun b hb=>hother b (fun e=>hX (e▸hb))⟩
   have hs:an (C.dC j (.fit K V (entries.toList.map (·.key)) vs (e.key::met)) w').st j= .fit K V (entries.toList.map (·.key)) vs (e.key::met):=bn _ _ _ hj
   have hup:=gz hI hj (o:= .fit K V (entries.toList.map (·.key)) vs (e.key::met)) (w:=w') hownj hsz' hos hother
    ⟨by simp only[Ctx.dC,aU];exact hj,fun T xs hx=>(by rw[hs] at hx;simp[gC] at hx),fun T b hx=>(by rw[hs] at hx;cases hx),fun _ _ _ hx=>(by rw[hs] at hx;cases hx),fun _ hx=>(by rw[hs] at hx;cases hx),
     fun m n' ks' hx=>(by rw[hs] at hx;cases hx),fun _ hx=>(by rw[hs] at hx;cases hx),fun _ _ hx=>(by rw[hs] at hx;cases hx),fun _ _ _ _ _ hx=>(by rw[hs] at hx;cases hx;exact⟨_,hsj,rfl⟩),fun _ _ _ _ hx=>(by rw[hs] at hx;cases hx)⟩
    ⟨hX,_,_,_,_,hsame, .inr ⟨b,entries,_,rfl,hXb,(hother _ (fun e=>hX (e▸hXb))).trans hh,hmap,rfl,hpv,oM hk hI.lay _ _ _ hpv hmt,hp'⟩⟩
   exact .inr ⟨e.key,a,e.val,_,ha,hes,hmap.keys e hem,hr,hup.1,hup.2,hpa,hra.pure hk hI.lay hpa⟩
theorem uc{C:Ctx}{K V:TypeId}{k:Value}{z:AV}(hk:plainKey C.P K k=true): ∀{es:List (Value×AV)} {ents:List MapEntry},bZ C V es ents->ents.Pairwise (fun e e'=>dm e'.key e.key=false)->∀e,e∈ents->e.key=k->
  br C.P (dO es k z) V/\Rel C (dO es k z) e.val
 |[],[],_,_,e,he,_=>by simp at he
 |[],_::_,h,_,_,_,_=>by simp[bZ] at h
 |_::_,[],h,_,_,_,_=>by simp[bZ] at h
 | (k0,a)::es,e0::ents,h,hp,e,he,hek=>by
  simp only[bZ] at h
  rw[List.pairwise_cons] at hp
  simp only[dO]
  rcases List.mem_cons.1 he with rfl|he
  ·rw[←h.1,hek,ko hk];exact⟨h.2.1,h.2.2.1⟩
  ·have:=hp.1 e he
   rw[hek,h.1] at this
   rw[this]
   exact uc hk h.2.2.2 hp.2 e he hek
theorem Hm{C:Ctx}(hI:Inv C){i j n:Nat}(hj:j<C.st.length){k:Value}{ks:List Value}(hsj:an C.st j= .iter i n (k::ks)){K V:TypeId}{es:List (Value×AV)}(hst:an C.st i= .map K V es)(hn:es.length=n)(z:AV):
  ∃v,(Instr.entry (.pointer (some ⟨(C.ι j).block,0,none⟩))).run C.P C.w= .ok (.tuple #[k,v]) C.w/\plainKey C.P K k=true/\br C.P (dO es k z) V/\Rel C (dO es k z) v:=by
 obtain⟨hi,hX,since,seen,entries,clock,h1,hh,hent,hmap,hp,rfl⟩:=AF hI hj hsj hst hn
 obtain⟨e,s',he,rfl,rfl⟩:=hp.last _ _ rfl
 have he':e∈entries.toList:=by simpa using he
 have hnd:(entries.toList.map (·.born)).Nodup:=by
  rw[List.Nodup,List.pairwise_map]
  exact hmap.born.imp (fun h=>by omega)
 refine⟨e.val,run_entry_at C.w _ _ since s' entries since e h1 hh he' hnd,hmap.keys e he',?_⟩
 exact uc (hmap.keys e he') hent hmap.apart e he' rfl
theorem Hb{C:Ctx}(hI:Inv C){j:Nat}(hj:j<C.st.length){K V:TypeId}{k:Value}{ks met:List Value}{vs:List AV}(hsj:an C.st j= .fit K V ks vs (k::met))(z:AV):
  ∃v,(Instr.entry (.pointer (some ⟨(C.ι j).block,0,none⟩))).run C.P C.w= .ok (.tuple #[k,v]) C.w/\plainKey C.P K k=true/\br C.P (dO (ks.zip vs) k z) V/\Rel C (dO (ks.zip vs) k z) v:=by
 have hob:=hI.obj j hj
 rw[hsj] at hob
 obtain⟨hX,m,since,seen,stepped,h1,⟨_,_,_,hm⟩|⟨b,entries,clock,rfl,hXb,hh,hmap,rfl,hpv,hmt,hp⟩⟩:=hob
 ·cases hm
 ·have hsz:=hp.size
  have h3:=hp.Qi
  have h4:=hp.Qj
  simp only[List.length_map,Array.length_toList] at hsz
  obtain rfl:since=clock:=by omega
  obtain rfl:stepped=since:=by omega
  have hent:=uD _ _ hpv hmt
  obtain⟨e,s',he,rfl,rfl⟩:=hp.last _ _ rfl
  have he':e∈entries.toList:=by simpa using he
  have hnd:(entries.toList.map (·.born)).Nodup:=by
   rw[List.Nodup,List.pairwise_map]
   exact hmap.born.imp (fun h=>by omega)
  refine⟨e.val,run_entry_at C.w _ _ _ s' entries _ e h1 hh he' hnd,hmap.keys e he',?_⟩
  exact uc (hmap.keys e he') hent hmap.apart e he' rfl
end Go.Dn
