import Derived.Test.YtioeffnadipbaaaGreatDoorDnT
import Derived.Maps.RangeRun
namespace Go.Dn
open Go
open Go.ChangeMaps (setBlock)
theorem cF.length{C V}: ∀{c b},cF C V c b->c.length=b.length
 |[],[],_=>rfl
 |[],_::_,h=>by grind [cF]
 |_::_,[],h=>by grind [cF]
 |(k,a)::c,e::b,h=>by
  simp[cF.length h.2.2.2]
theorem cF.mem{C V}: ∀{d b},cF C V d b->∀e,e∈b->∃a,(e.key,a)∈d/\bE C.P a V/\Rel C a e.val
 |[],[],_,e,c=>by grind
 |[],_::_,h,_,_=>by grind [cF]
 |_::_,[],h,_,_=>by grind
 | (k,a)::d,g::b,h,e,c=>by
  simp[cF] at h;rcases List.mem_cons.1 c with rfl|c
  ·grind
  ·obtain⟨i,j,f⟩:=cF.mem h.2.2.2 e c
   grind
theorem cF.seen{C V d}: ∀{c b},cF C V c b->(∀e,e∈b->k8 d e.key=true)->kQ d c=true
 |[],[],_,_=>rfl
 |[],_::_,h,_=>by rfl
 |_::_,[],h,_=>by grind [cF]
 |(k,a)::c,g::b,h,f=>by
  simp[cF] at h;simp[kQ];exact⟨by grind,cF.seen h.2.2.2 (by grind)⟩
theorem GS(s u:ByteArray):(s==u)=(u==s):=by
 cases s with|mk a=>cases u with|mk b=>exact show(a==b)=(b==a) from Bool.eq_iff_iff.2 (by grind)
theorem Hl a b:eP a b=eP b a:=by
 cases a<;>cases b<;>first
  |rfl
  |(exact GS _ _)
  |grind [eP]
  |rfl
theorem Og{P K d k}(h:l5 P K d k){e o}(q:e∈d)(p:o∈d):(o.born==e.born)=eP e.key o.key:=by
 obtain⟨i,s⟩:=List.mem_iff_getElem?.1 q;obtain⟨j,r⟩:=List.mem_iff_getElem?.1 p;obtain⟨g,n⟩:=List.getElem?_eq_some_iff.1 s;obtain⟨f,l⟩:=List.getElem?_eq_some_iff.1 r;rcases Nat.lt_trichotomy i j with c|m|c
 ·have a:=List.pairwise_iff_getElem.1 h.apart i j g f c
  have b:=List.pairwise_iff_getElem.1 h.born i j g f c
  grind [Hl]
 ·subst m
  rw[n] at l;subst l
  rw[lH (h.keys e q)];simp
 ·have a:=List.pairwise_iff_getElem.1 h.apart j i f g c
  have b:=List.pairwise_iff_getElem.1 h.born j i f g c
  grind
theorem Ms{C}(q:Inv C){i}(s:i<C.st.length){K V T x v l}(n:ay C.st i= .map K V l)(B:C.P.underlying T=some (.map x v)):
  ∃p,(Instr.range T (.map (some (C.ι i).block))).run C.P C.w= .ok (.pointer (some ⟨C.w.heap.size,0,none⟩)) p/\Inv (C.add (.iter i l.length []) ⟨C.w.heap.size,0,false⟩ p)/\Ext C.st.length C (C.add (.iter i l.length []) ⟨C.w.heap.size,0,false⟩ p)/\
   Rel (C.add (.iter i l.length []) ⟨C.w.heap.size,0,false⟩ p) (.ptr C.st.length 0 [] 0) (.pointer (some ⟨C.w.heap.size,0,none⟩)):=by
 obtain⟨d,c,u,m,y⟩:=og q s n;have t:=(Array.getElem?_eq_some_iff.1 u).1;have f:=bL C.w (.mapIter (some (C.ι i).block) c #[] c);have j:=m.length;have h:=gm q (o:= .iter i l.length []) (g:=⟨C.w.heap.size,0,false⟩)  rfl (by rw[dd];omega) (ia _ _) f (by
  refine⟨fun h=>by have:=q.xs _ h;simp at this,by simp[Ctx.add];omega,_,_,_,_,alloc_heap_new _ _,fun h=>(by cases h),fun D E A a=>?_⟩;rw[(cD s).1,n] at a;cases a;rw[(cD s).2];refine⟨rfl,d,c,(f _ t).trans u,⟨by rw[j];simp,Nat.le_refl _,Nat.le_refl _,fun e _ _=>by simp[k8],fun k r a=>by cases a⟩⟩)
 refine⟨_,run_range_map C.w T x v _ d c B u,h.1,h.2,eu rfl rfl ?_ h.1⟩;simp only[M];exact⟨by simp[Ctx.add],_,rfl,rfl,fun z xs a=>(by rw[bC.1] at a;simp[iL] at a),fun z b a=>(by rw[bC.1] at a;cases a),fun _ _ _ a=>(by rw[bC.2]),fun _ _ a=>(by rw[bC.1] at a;cases a),fun _ _ _ _ _ a=>(by rw[bC.1] at a;cases a),fun _ _ _ _ a=>(by rw[bC.1] at a;cases a)⟩
theorem Mr{C}(e:Inv C){T f i}(j:C.P.underlying T=some (.map f i)):
  ∃d,(Instr.range T (.map none)).run C.P C.w= .ok (.pointer (some ⟨C.w.heap.size,0,none⟩)) d/\Inv (C.add (.iter C.st.length 0 [.map none]) ⟨C.w.heap.size,0,false⟩ d)/\Ext C.st.length C (C.add (.iter C.st.length 0 [.map none]) ⟨C.w.heap.size,0,false⟩ d)/\
   Rel (C.add (.iter C.st.length 0 [.map none]) ⟨C.w.heap.size,0,false⟩ d) (.ptr C.st.length 0 [] 0) (.pointer (some ⟨C.w.heap.size,0,none⟩)):=by
 have c:=bL C.w (.mapIter none 0 #[] 0);have h:=gm e (o:= .iter C.st.length 0 [.map none]) (g:=⟨C.w.heap.size,0,false⟩)  rfl (by simp) (ia _ _) c (by
  refine⟨fun h=>by have:=e.xs _ h;simp at this,by simp[Ctx.add],_,_,_,_,alloc_heap_new _ _,fun _=>rfl,fun m n l a=>?_⟩;rw[bC.1] at a;cases a)
 refine⟨_,run_range_nilMap C.w T f i j,h.1,h.2,eu rfl rfl ?_ h.1⟩;simp only[M];exact⟨by simp[Ctx.add],_,rfl,rfl,fun k xs a=>(by grind [bC,iL]),fun k b a=>(by grind [bC]),fun _ _ _ a=>(by rw[bC.2]),fun _ _ a=>(by rw[bC.1] at a;cases a),fun _ _ _ _ _ a=>(by rw[bC.1] at a;cases a),fun _ _ _ _ a=>(by grind [bC])⟩
theorem Pt{C}(g:Inv C){i j n}(f:j<C.st.length)(c:ay C.st j= .iter i n [.map none]) ty:
  (Instr.next (.pointer (some ⟨(C.ι j).block,0,none⟩)) false ty).run C.P C.w= .ok (.tuple #[.bool false]) C.w:=by
 have a:=g.obj j f;rw[c] at a;obtain⟨l,k,m,d,seen,b,h,e⟩:=a;obtain rfl:=e.1 rfl;simp[Instr.next,getObj,Sem.run,h]
theorem Mt{C}(e:Inv C){T}(f:C.P.underlying T=some .string) b:
  ∃d,(Instr.range T (.string b)).run C.P C.w= .ok (.pointer (some ⟨C.w.heap.size,0,none⟩)) d/\Inv (C.add (.dD b 0) ⟨C.w.heap.size,0,false⟩ d)/\Ext C.st.length C (C.add (.dD b 0) ⟨C.w.heap.size,0,false⟩ d)/\
   Rel (C.add (.dD b 0) ⟨C.w.heap.size,0,false⟩ d) (.ptr C.st.length 0 [] 0) (.pointer (some ⟨C.w.heap.size,0,none⟩)):=by
 have c:=bL C.w (.stringIter b 0);have h:=gm e (o:= .dD b 0) (g:=⟨C.w.heap.size,0,false⟩)  rfl (by simp) (ia _ _) c
  ⟨fun h=>by have:=e.xs _ h;simp at this,alloc_heap_new _ _⟩
 refine⟨_,by simp[Instr.range,run_underlying f],h.1,h.2,eu rfl rfl ?_ h.1⟩;simp only[M];exact⟨by simp[Ctx.add],_,rfl,rfl,fun i xs a=>(by grind [bC,iL]),fun i b a=>(by rw[bC.1] at a;cases a),fun _ _ _ a=>(by rw[bC.1] at a;cases a),fun _ _ _=>(by rw[bC.2]),fun _ _ _ _ _ a=>(by rw[bC.1] at a;cases a),fun _ _ _ _ a=>(by rw[bC.1] at a;cases a)⟩
theorem Pv{C}(o:Inv C){j}(h:j<C.st.length){b p}(e:ay C.st j= .dD b p) ty:
  (p<b.size->∃m,(Instr.next (.pointer (some ⟨(C.ι j).block,0,none⟩)) true ty).run C.P C.w= .ok (.tuple #[.bool true, .int .i64 p, .int .i32 (Utf8.decode b p).1]) m/\
   Inv (C.eD j (.dD b (p+(Utf8.decode b p).2)) m)/\Ext C.st.length C (C.eD j (.dD b (p+(Utf8.decode b p).2)) m))/\
  (¬ p<b.size->(Instr.next (.pointer (some ⟨(C.ι j).block,0,none⟩)) true ty).run C.P C.w= .ok (.tuple #[.bool false]) C.w):=by
 have f:=o.obj j h;rw[e] at f;obtain⟨r,n⟩:=f;refine⟨fun i=>?_,fun l=>?_⟩
 ·have g:cC (C.ι j) (ay C.st j)=true:=by rw[e];rfl
  have t:=(Array.getElem?_eq_some_iff.1 n).1;have c: ∀k,k≠(C.ι j).block->(C.w.putObj (C.ι j).block (.stringIter b (p+(Utf8.decode b p).2))).heap[k]? =C.w.heap[k]? :=fun k u=>World.putObj_heap_other u
  have d:ay (C.eD j (.dD b (p+(Utf8.decode b p).2)) (C.w.putObj (C.ι j).block (.stringIter b (p+(Utf8.decode b p).2)))).st j= .dD b (p+(Utf8.decode b p).2):=bw _ _ _ h;refine⟨_,?_,jj o h g World.putObj_size ⟨rfl,rfl,rfl⟩ c
   ⟨by simp only[Ctx.eD,bc];exact h,fun T xs a=>(by rw[d] at a;simp[iL] at a),fun T b a=>(by rw[d] at a;cases a),fun _ _ _ a=>(by rw[d] at a;cases a),fun _ a=>(by rw[d] at a;cases a),fun _ _ _ a=>(by rw[d] at a;cases a),fun _ a=>(by rw[d] at a;cases a),fun s q a=>(by rw[d] at a;cases a;exact⟨_,e,rfl⟩),fun _ _ _ _ _ a=>(by rw[d] at a;cases a),fun _ _ _ _ a=>(by rw[d] at a;cases a)⟩
   ⟨r,World.putObj_heap_same t⟩⟩
  simp[Instr.next,getObj,setObj,Sem.run,n,Result.andThen,i,World.putObj,goInt]
 ·simp[Instr.next,getObj,Sem.run,n,Result.andThen,l]
theorem iU: ∀l lo n z,(dt l lo n z).length=l.length
 |[],_,_,_=>rfl
 |_::_,0,0,_=>rfl
 |_::l,0,n+1,z=>by simp[dt,iU l 0 n z]
 |_::l,lo+1,n,z=>by simp[dt,iU l _ n z]
theorem vl: ∀l lo z,dt l lo 0 z=l
 |[],_,_=>rfl
 |_::_,0,_=>rfl
 |a::l,lo+1,z=>by simp[dt,vl l _ z]
theorem rJ: ∀l lo n z k,k<l.length->nth (dt l lo n z) k=if lo<=k/\k<lo+n then z else nth l k
 |[],_,_,_,k,h=>by grind
 |a::l,0,0,z,k,h=>by rfl
 |a::l,0,n+1,z,0,h=>by rfl
 |a::l,0,n+1,z,k+1,h=>by
  have:=rJ l 0 n z k (by grind)
  grind [nth,dt]
 |a::l,lo+1,n,z,0,h=>by rfl
 |a::l,lo+1,n,z,k+1,h=>by
  have:=rJ l lo n z k (by grind)
  grind [nth,dt]
theorem om{P T z}(a:bE P z T): ∀l lo n,cu P l T->cu P (dt l lo n z) T
 |[],_,_,h=>h
 |_::_,0,0,h=>h
 |_::l,0,n+1,h=>by exact⟨a,om a l 0 n h.2⟩
 |_::l,lo+1,n,h=>by exact⟨h.1,om a l _ n h.2⟩
theorem Vr{C z}: ∀l s o,(∀k,k<l.length->M C (nth l k) s (o+k*z))->MR C l z s o
 |[],_,_,_=>by simp[MR]
 |a::l,s,o,h=>by
  refine⟨by have:=h 0 (by simp);grind [nth],Vr l s _ fun k b=>?_⟩;have:=h (k+1) (by grind)
  grind [nth]
theorem Bb: ∀l i,dv l i (ay l i)=l
 |[],_=>rfl
 |_::_,0=>rfl
 |a::l,i+1=>by simp[dv,ay];rw[Bb l i]
theorem RU{C:Ctx}{i o}(h:ay C.st i=o):C.eD i o C.w=C:=by
 subst h;simp[Ctx.eD,Bb]
theorem Lm{C}(t:Inv C){i lo n}(hi:i<C.st.length){T c ty xs z}(hT:C.P.underlying T=some (.slice c))(d:ay C.st i= .row c xs)(hz:je C.P c=some z)(hpos:0<C.P.cellsOf c){v}
  (hv:l7 C i lo n v): ∃o,(Builtin.clear_ #[T] ty #[v]).run C.P C.w= .ok (.tuple #[]) o/\Inv (C.eD i (.row c (dt xs lo n z)) o)/\Ext C.st.length C (C.eD i (.row c (dt xs lo n z)) o):=by
 obtain⟨y,E⟩:=hv.1 c xs (by rw[d];rfl);by_cases hn:n=0
 ·subst hn
  refine⟨C.w,?_,by rw[vl,RU d];exact⟨t,Ext.refl C (Nat.le_refl _)⟩⟩;rcases E with⟨_,rfl,_,_⟩|⟨_,cap,q,rfl,_⟩
  ·simp[Builtin.clear_,run_underlying hT]
  ·simp[Builtin.clear_,run_underlying hT]
 ·have K:=t.obj i hi
  rw[d] at K;obtain⟨g0,⟨_,g9⟩|⟨g2,g1,a,V,g4,g5,g6,g7⟩⟩:=K
  ·subst g9;simp at y;omega
  rcases E with⟨_,rfl,_,e⟩|⟨_,cap,q,rfl,hq,hc1,hc2⟩
  ·exact absurd e hn
  have hq':q=⟨(C.ι i).block,lo*C.P.cellsOf c,none⟩:=by
   rcases hq with h|⟨h,_⟩
   ·exact h
   ·omega
  subst hq';obtain⟨ti,f,X,hzv,D,hcz,s⟩:=ez t hz;have W:wid z=C.P.cellsOf c:=dB t.lay _ _ s;have p:f.cells.size=C.P.cellsOf c:=by rw[D.2.1.resolve_right (by intro e;subst e;simp[bE] at s),W]
  have hzj:z≠ .cP:=by intro e;subst e;simp[bE] at s
  generalize hZ:C.P.cellsOf c=Z at*
  have hlz:(lo+n)*Z<=xs.length*Z:=Nat.mul_le_mul_right _ y;have hcz2:xs.length*Z<=a.size:=by rw[←g6];exact Nat.mul_le_mul_right _ g4
  have hadd:(lo+n)*Z=lo*Z+n*Z:=Nat.add_mul _ _ _;have l:(Builtin.zeroCells f.cells n).toList.length=n*Z:=by simp[Builtin.zeroCells,p]
  have A: ∀j,j<n*Z->(Builtin.zeroCells f.cells n).toList[j]? =f.cells[j % Z]? :=fun j x=>by
   have R:j % Z<f.cells.size:=by rw[p];exact Nat.mod_lt _ (by omega)
   simp only[Builtin.zeroCells,p,Array.toList_map,List.getElem?_map,Array.toList_range,List.getElem?_range x,Option.map_some];rw[Array.getElem?_eq_getElem R,getElem!_pos f.cells (j % Z) R]
  have H: ∀u,u∈(Builtin.zeroCells f.cells n).toList->u.oneCell'=true:=fun u hu=>by
   obtain⟨j,x,e⟩:=List.getElem_of_mem hu;have Q:=A j (by rw[←l];exact x);rw[aE0 x,e] at Q;have R:j % Z<f.cells.size:=by rw[p];exact Nat.mod_lt _ (by omega)
   rw[Array.getElem?_eq_getElem R] at Q;have I:cX z=true:=rM _ _ s;exact rq I D u (by rw[Option.some.inj Q];simp)
  have J:=run_storeCells_at C.P (C.ι i).block (lo*Z) c (Builtin.zeroCells f.cells n).toList 0 a C.w V (by rw[l];omega) H;simp only[Nat.add_zero,l] at J;refine⟨C.w.setRow (C.ι i).block (a.toList.take (lo*Z)++(Builtin.zeroCells f.cells n).toList++a.toList.drop (lo*Z+n*Z)).toArray,?_,?_⟩
  ·obtain⟨m,rfl⟩: ∃m,n=m+1:=⟨n - 1,by omega⟩
   simp only[Builtin.clear_];simp only[Sem.run_bind,List.getElem?_toArray,List.getElem?_cons_zero,run_underlying hT,Result.andThen_ok,jM X hzv,J,Sem.run_pure]
  ·generalize r:C.w.setRow (C.ι i).block (a.toList.take (lo*Z)++(Builtin.zeroCells f.cells n).toList++a.toList.drop (lo*Z+n*Z)).toArray=o at*
   have F:=spliced a (lo*Z) (Builtin.zeroCells f.cells n).toList (by rw[l];omega);rw[l] at F;have B: ∀j,cellAt o (C.ι i).block j=if lo*Z<=j/\j<lo*Z+n*Z then(Builtin.zeroCells f.cells n).toList[j - lo*Z]? else cellAt C.w (C.ι i).block j:=fun j=>by
    rw[←r,nS _ _ a _ c V,F,mc V]
   have hMR:MR C (dt xs lo n z) Z (cellAt o (C.ι i).block) 0:=by
    refine Vr _ _ _ (fun k U=>?_);rw[iU] at U;rw[rJ xs lo n z k U,Nat.zero_add];by_cases Y:lo<=k/\k<lo+n
    ·rw[if_pos Y]
     refine r9 t D (fun j x=>?_) hzj;rw[p] at x;have Q:lo*Z<=k*Z:=Nat.mul_le_mul_right _ Y.1;have h2:(k - lo)*Z+Z<=n*Z:=by
      have:=Nat.mul_le_mul_right Z (show k - lo+1<=n by omega)
      rwa [Nat.add_mul,Nat.one_mul] at this
     have h3:k*Z=lo*Z+(k - lo)*Z:=by rw[←Nat.add_mul];congr 1;omega
     rw[B,if_pos (by omega),A _ (by omega)];congr 1
     rw[show k*Z+j - lo*Z=j+Z*(k - lo) by rw[Nat.mul_comm Z];omega,Nat.add_mul_mod_self_left,Nat.mod_eq_of_lt x]
    ·rw[if_neg Y]
     have L:=DW xs k Z _ 0 U g7;rw[Nat.zero_add] at L;have hpk:=pK xs k c U g0;have hwk:wid (nth xs k)=Z:=by rw[dB t.lay _ _ hpk,hZ]
     refine kB t (fun j x=>?_) L;rw[hwk] at x;rw[B,if_neg ?_];rintro⟨a1,a2⟩;rcases Nat.lt_or_ge k lo with h|h
     ·have:=Nat.mul_le_mul_right Z (show k+1<=lo by omega)
      rw[Nat.add_mul,Nat.one_mul] at this;omega
     ·have:=Nat.mul_le_mul_right Z (show lo+n<=k by omega)
      omega
   have N:cC (C.ι i) (ay C.st i)=true:=by rw[d];simp[cC,g2]
   have hr:cj C (C.eD i (.row c (dt xs lo n z)) o) i i:=td hi d (by rw[iU];exact Nat.le_refl _);have g: ∀b,b≠(C.ι i).block->o.heap[b]? =C.w.heap[b]? :=fun b hb=>by rw[←r];exact setRow_other _ _ _ _ hb
   refine jj t hi N (by rw[←r];simp) (by rw[←r];exact setRow_os _ _ _) g hr ?_;have hkp:bW C (C.eD i (.row c (dt xs lo n z)) o):=⟨rfl,fun _ h=>h,fun b hb=>g b (fun e=>g1 (e▸hb))⟩
   have O:=om s xs lo n g0;refine⟨O, .inr ⟨g2,g1,(a.toList.take (lo*Z)++(Builtin.zeroCells f.cells n).toList++a.toList.drop (lo*Z+n*Z)).toArray,?_,by rw[iU];exact g4,g5,?_,?_⟩⟩
   ·rw[show(C.eD i (.row c (dt xs lo n z)) o).w=o from rfl,←r]
    exact setRow_heap _ _ a _ c (0,0) V
   ·show(C.ι i).cap*C.P.cellsOf c=_
    rw[hZ,g6];simp only[List.size_toArray,aE1,List.length_take,List.length_drop,l,Array.length_toList];omega
   ·show MR _ _ (C.P.cellsOf c) _ _
    exact gk hkp t.lay _ c _ _ 0 0 O (fun _ _=>rfl) (by rw[hZ];exact hMR)
theorem Eu{C}(hI:Inv C){i j n}(hj:j<C.st.length){ks}(hsj:ay C.st j= .iter i n ks){K V es}(hst:ay C.st i= .map K V es)(hn:es.length=n):
  i<C.st.length/\ ¬ C.X (C.ι j).block/\∃since seen entries clock,C.w.heap[(C.ι j).block]? =some (.mapIter (some (C.ι i).block) since seen clock)/\C.w.heap[(C.ι i).block]? =some (.map entries clock)/\
   cF C V es entries.toList/\l5 C.P K entries.toList clock/\Vp entries clock since seen clock n ks/\since=clock:=by
 have hob:=hI.obj j hj;rw[hsj] at hob;obtain⟨hX,hi,m,since,seen,stepped,h1,h2⟩:=hob;obtain⟨rfl,entries,clock,hh,hp⟩:=h2.2 K V es hst;obtain⟨entries',clock',hh',hent,hmap⟩:=og hI hi hst;have hlen:=hent.length;have hsz:=hp.size;have h3:=hp.ZH;have h4:=hp.ZI;have hsz':entries.size=n:=by grind
 obtain rfl:=by omega
 grind
theorem EP{C:Ctx}{B b a n seen c K t}(E:C.w.heap[B]? =some (.mapIter (some b) a seen a))(H:C.w.heap[b]? =some (.map c a))(f:l5 C.P K c.toList a)(i:Vp c a a seen a n t) ty:
  ((∀e,e∈c.toList->k8 t e.key=true)/\(Instr.next (.pointer (some ⟨B,0,none⟩)) false ty).run C.P C.w= .ok (.tuple #[.bool false]) C.w)\/
  ∃e l,e∈c.toList/\k8 t e.key=false/\(Instr.next (.pointer (some ⟨B,0,none⟩)) false ty).run C.P C.w= .ok (.tuple #[.bool true,e.key,e.val]) l/\l.heap.size=C.w.heap.size/\er C.w l/\
   (∀x,x≠B->l.heap[x]? =C.w.heap[x]?)/\l.heap[B]? =some (.mapIter (some b) a (seen.push e.born) a)/\Vp c a a (seen.push e.born) a n (e.key::t):=by
 rcases run_next_at (P:=C.P) C.w ty B b a a seen c a E H (fun x m=>f.clock x m) (Nat.le_refl _) with⟨J,A⟩|⟨e,j,o,p,A⟩
 ·refine .inl ⟨fun e j=>?_,A⟩
  have u:=i.met e (by simpa using j) (f.clock e j);rw[←u];cases F:seen.contains e.born with
  |true=>rfl
  |false=>
   have:e∈leftOf c seen:=by unfold leftOf;simp only[Array.mem_filter];exact⟨by simpa using j,by simp only[F];rfl⟩
   have D:=Array.size_pos_of_mem this;omega
 ·have y:e∈c.toList/\seen.contains e.born=false:=by
   have:=j
   unfold leftOf at this
   grind
  obtain⟨h,z⟩:=y;have u:=i.met e (by simpa using h) (f.clock e h);have d:o.heap=C.w.heap:=by rcases p with rfl|rfl<;>rfl
  have g:er C.w o:=by rcases p with rfl|rfl<;>exact⟨rfl,rfl,rfl⟩
  have s:=(Array.getElem?_eq_some_iff.1 E).1;refine .inr ⟨e,_,h,by rw[←u];exact z,A,by show(o.heap.set! _ _).size=_;rw[d];simp,⟨g.os,g.tape,g.output⟩,fun x m=>?_,?_,⟨i.size,i.ZH,i.ZI,fun I q v=>?_,fun k r m=>?_⟩⟩
  ·rw[←d]
   show(o.heap.set! _ _)[x]? =_
   simp[Array.getElem?_setIfInBounds_ne (Ne.symm m)]
  ·show(o.heap.set! _ _)[_]? =_
   rw[d];simp[s]
  ·simp only[k8]
   rw[Array.contains_push,i.met I q v,Og f h (by simpa using q),Bool.or_comm]
  ·cases m
   exact⟨e,seen,by simpa using h,rfl,rfl⟩
theorem Pu{C}(I:Inv C){i j n}(B:j<C.st.length){q}(g:ay C.st j= .iter i n q){K V J}(x:ay C.st i= .map K V J)(hn:J.length=n) ty:
  kQ q J=true/\(Instr.next (.pointer (some ⟨(C.ι j).block,0,none⟩)) false ty).run C.P C.w= .ok (.tuple #[.bool false]) C.w\/
  ∃k a v t,(k,a)∈J/\k8 q k=false/\plainKey C.P K k=true/\(Instr.next (.pointer (some ⟨(C.ι j).block,0,none⟩)) false ty).run C.P C.w= .ok (.tuple #[.bool true,k,v]) t/\
   Inv (C.eD j (.iter i n (k::q)) t)/\Ext C.st.length C (C.eD j (.iter i n (k::q)) t)/\bE C.P a V/\Rel (C.eD j (.iter i n (k::q)) t) a v:=by
 obtain⟨Z,Y,A,seen,l,X,h1,hh,s,p,hp,rfl⟩:=Eu I B g x hn;have N:i≠j:=by intro e;subst e;rw[x] at g;cases g
 have f:cC (C.ι j) (ay C.st j)=true:=by rw[g];rfl
 have y:cC (C.ι i) (ay C.st i)=true:=by rw[x];rfl
 have E:(C.ι i).block≠(C.ι j).block:=I.tH i j Z B N y f;rcases EP h1 hh p hp ty with⟨h0,Q⟩|⟨e,t,u,R,Q,L,O,d,z,U⟩
 ·exact .inl ⟨s.seen h0,Q⟩
 ·obtain⟨a,ha,D,W⟩:=s.mem e u
  have hk:bW C (C.eD j (.iter i n (e.key::q)) t):=⟨rfl,fun _ h=>h,fun b hb=>d b (fun e=>Y (e▸hb))⟩
  have r:ay (C.eD j (.iter i n (e.key::q)) t).st j= .iter i n (e.key::q):=bw _ _ _ B;have F:=jj I B (o:= .iter i n (e.key::q)) (w:=t) f L O d
   ⟨by simp only[Ctx.eD,bc];exact B,fun T xs c=>(by rw[r] at c;simp[iL] at c),fun T b c=>(by rw[r] at c;cases c),fun _ _ _ c=>(by rw[r] at c;cases c),fun _ c=>(by rw[r] at c;cases c),
    fun m n' ks' c=>(by rw[r] at c;cases c;exact⟨_,_,g,rfl⟩),fun _ c=>(by rw[r] at c;cases c),fun _ _ c=>(by rw[r] at c;cases c),fun _ _ _ _ _ c=>(by rw[r] at c;cases c),fun _ _ _ _ c=>(by rw[r] at c;cases c)⟩
   (by
    refine⟨Y,by simp only[Ctx.eD,bc];exact Z,_,_,_,_,z,fun h=>(by
     have H:=p.keys e u;simp only[List.cons.injEq] at h;rw[h.1] at H;cases H),fun K' V' es' c=>?_⟩
    exact⟨rfl,l,A,(d _ E).trans hh,U⟩)
  exact .inr ⟨e.key,a,e.val,_,ha,R,p.keys e u,Q,F.1,F.2,D,W.pure hk I.lay D⟩
theorem Mq{C}(g:Inv C){K V T t q l i v}(A:Rel C (.fh K V l i) v)(x:C.P.underlying T=some (.map t q)):
  ∃j,(Instr.range T v).run C.P C.w= .ok (.pointer (some ⟨C.w.heap.size,0,none⟩)) j/\Inv (C.add (.fit K V l i []) ⟨C.w.heap.size,0,false⟩ j)/\Ext C.st.length C (C.add (.fit K V l i []) ⟨C.w.heap.size,0,false⟩ j)/\
   Rel (C.add (.fit K V l i []) ⟨C.w.heap.size,0,false⟩ j) (.ptr C.st.length 0 [] 0) (.pointer (some ⟨C.w.heap.size,0,none⟩)):=by
 have m: ∀o,(Instr.range T v).run C.P C.w= .ok _ (C.w.alloc o)->kL _ ⟨C.w.heap.size,0,false⟩ (.fit K V l i [])->
   ∃j,(Instr.range T v).run C.P C.w= .ok (.pointer (some ⟨C.w.heap.size,0,none⟩)) j/\Inv _/\Ext C.st.length C _/\
    Rel _ (.ptr C.st.length 0 [] 0) (.pointer (some ⟨C.w.heap.size,0,none⟩)):=fun o p B=>by
  have h:=gm g (o:= .fit K V l i [])  (w:=C.w.alloc o) rfl (by rw[dd];omega) (ia _ _) (bL _ _) B;refine⟨_,p,h.1,h.2,eu rfl rfl ?_ h.1⟩;simp only[M];exact⟨by simp[Ctx.add],_,rfl,rfl,fun D xs c=>(by rw[bC.1] at c;simp[iL] at c),fun D b c=>(by rw[bC.1] at c;cases c),fun _ _ _ c=>(by rw[bC.1] at c;cases c),fun _ _ c=>(by rw[bC.1] at c;cases c),fun _ _ _ _ _ _=>(by rw[bC.2]),fun _ _ _ _ c=>(by rw[bC.1] at c;cases c)⟩
 rcases wO A with⟨_,rfl,rfl,rfl⟩|⟨b,d,a,rfl,y,u,n,rfl,z,s⟩
 ·refine m _ (run_range_nilMap C.w T t q x) ⟨fun h=>by have:=g.xs _ h;simp at this,_,_,_,_,alloc_heap_new _ _, .inl ⟨rfl,rfl,rfl,rfl⟩⟩
 ·have f:=bL C.w (.mapIter (some b) a #[] a)
  refine m _ (run_range_map C.w T t q _ d a x u) ⟨fun h=>by have:=g.xs _ h;simp at this,_,_,_,_,alloc_heap_new _ _, .inr ⟨b,d,a,rfl,y,(f _ (g.xs b y)).trans u,n,rfl,z,qg (j1 g f) g.lay _ _ _ z s,?_⟩⟩;exact⟨by simp,Nat.le_refl _,Nat.le_refl _,fun e _ _=>by simp[k8],fun k r c=>by cases c⟩
theorem Ps{C}(L:Inv C){j}(O:j<C.st.length){K V A f p}(z:ay C.st j= .fit K V A p f) ty:
  kQ f (A.zip p)=true/\(Instr.next (.pointer (some ⟨(C.ι j).block,0,none⟩)) false ty).run C.P C.w= .ok (.tuple #[.bool false]) C.w\/
  ∃k a v r,(k,a)∈A.zip p/\k8 f k=false/\plainKey C.P K k=true/\(Instr.next (.pointer (some ⟨(C.ι j).block,0,none⟩)) false ty).run C.P C.w= .ok (.tuple #[.bool true,k,v]) r/\
   Inv (C.eD j (.fit K V A p (k::f)) r)/\Ext C.st.length C (C.eD j (.fit K V A p (k::f)) r)/\bE C.P a V/\Rel (C.eD j (.fit K V A p (k::f)) r) a v:=by
 have E:=L.obj j O;rw[z] at E;obtain⟨U,m,i,seen,n,h1,⟨rfl,rfl,rfl,rfl⟩|⟨b,c,t,rfl,B,hh,l,rfl,u,D,N⟩⟩:=E
 ·refine .inl ⟨rfl,?_⟩
  simp[Instr.next,getObj,Sem.run,h1,Result.andThen]
 ·have Q:=N.size
  have h3:=N.ZH;have h4:=N.ZI;simp only[List.length_map,Array.length_toList] at Q;obtain rfl:i=t:=by omega
  obtain rfl:n=i:=by omega
  have s:=xz _ _ u D;have y:cC (C.ι j) (ay C.st j)=true:=by rw[z];rfl
  rcases EP h1 hh l N ty with⟨h0,R⟩|⟨e,r,I,W,R,J,X,g,x,Y⟩
  ·exact .inl ⟨s.seen h0,R⟩
  ·obtain⟨a,ha,F,Z⟩:=s.mem e I
   have hk:bW C (C.eD j (.fit K V (c.toList.map (·.key)) p (e.key::f)) r):=⟨rfl,fun _ h=>h,fun b hb=>g b (fun e=>U (e▸hb))⟩
   have q:ay (C.eD j (.fit K V (c.toList.map (·.key)) p (e.key::f)) r).st j= .fit K V (c.toList.map (·.key)) p (e.key::f):=bw _ _ _ O;have H:=jj L O (o:= .fit K V (c.toList.map (·.key)) p (e.key::f)) (w:=r) y J X g
    ⟨by simp only[Ctx.eD,bc];exact O,fun T xs d=>(by rw[q] at d;simp[iL] at d),fun T b d=>(by rw[q] at d;cases d),fun _ _ _ d=>(by rw[q] at d;cases d),fun _ d=>(by rw[q] at d;cases d),
     fun m n' ks' d=>(by rw[q] at d;cases d),fun _ d=>(by rw[q] at d;cases d),fun _ _ d=>(by rw[q] at d;cases d),fun _ _ _ _ _ d=>(by rw[q] at d;cases d;exact⟨_,z,rfl⟩),fun _ _ _ _ d=>(by rw[q] at d;cases d)⟩
    ⟨U,_,_,_,_,x, .inr ⟨b,c,_,rfl,B,(g _ (fun e=>U (e▸B))).trans hh,l,rfl,u,qg hk L.lay _ _ _ u D,Y⟩⟩
   exact .inr ⟨e.key,a,e.val,_,ha,W,l.keys e I,R,H.1,H.2,F,Z.pure hk L.lay F⟩
theorem xJ{C K V k z}(i:plainKey C.P K k=true): ∀{f b},cF C V f b->b.Pairwise (fun e j=>eP j.key e.key=false)->∀e,e∈b->e.key=k->
  bE C.P (dj f k z) V/\Rel C (dj f k z) e.val
 |[],[],_,_,e,d,_=>by grind
 |[],_::_,h,_,_,_,_=>by grind [cF]
 |_::_,[],h,_,_,_,_=>by grind
 | (m,a)::f,l::b,h,g,e,d,c=>by
  simp[cF] at h;rw[List.pairwise_cons] at g;simp[dj];rcases List.mem_cons.1 d with rfl|d
  ·grind [lH]
  ·have:=g.1 e d
   rw[c,h.1] at this;rw[this];exact xJ i h.2.2.2 g.2 e d c
theorem Lu{C}(hI:Inv C){i j n}(hj:j<C.st.length){k ks}(hsj:ay C.st j= .iter i n (k::ks)){K V es}(hst:ay C.st i= .map K V es)(hn:es.length=n) z:
  ∃v,(Instr.entry (.pointer (some ⟨(C.ι j).block,0,none⟩))).run C.P C.w= .ok (.tuple #[k,v]) C.w/\plainKey C.P K k=true/\bE C.P (dj es k z) V/\Rel C (dj es k z) v:=by
 obtain⟨hi,hX,since,seen,entries,clock,h1,hh,hent,hmap,hp,rfl⟩:=Eu hI hj hsj hst hn;obtain⟨e,s',he,rfl,rfl⟩:=hp.last _ _ rfl;have he':e∈entries.toList:=by grind
 have hnd:(entries.toList.map (·.born)).Nodup:=by
  rw[List.Nodup,List.pairwise_map];exact hmap.born.imp (by omega)
 refine⟨e.val,run_entry_at C.w _ _ _ s' _ _ e h1 hh he' hnd,hmap.keys e he',?_⟩;exact xJ (hmap.keys e he') hent hmap.apart e he' rfl
theorem Ls{C}(hI:Inv C){j}(hj:j<C.st.length){K V k ks met vs}(hsj:ay C.st j= .fit K V ks vs (k::met)) z:
  ∃v,(Instr.entry (.pointer (some ⟨(C.ι j).block,0,none⟩))).run C.P C.w= .ok (.tuple #[k,v]) C.w/\plainKey C.P K k=true/\bE C.P (dj (ks.zip vs) k z) V/\Rel C (dj (ks.zip vs) k z) v:=by
 have hob:=hI.obj j hj;rw[hsj] at hob;obtain⟨hX,m,since,seen,stepped,h1,⟨_,_,_,hm⟩|⟨b,entries,clock,rfl,hXb,hh,hmap,rfl,hpv,hmt,hp⟩⟩:=hob
 ·cases hm
 ·have hsz:=hp.size
  have h3:=hp.ZH;have h4:=hp.ZI;simp only[List.length_map,Array.length_toList] at hsz;obtain rfl:since=clock:=by omega
  obtain rfl:stepped=since:=by omega
  have hent:=xz _ _ hpv hmt;obtain⟨e,s',he,rfl,rfl⟩:=hp.last _ _ rfl;have he':e∈entries.toList:=by simpa using he
  have hnd:(entries.toList.map (·.born)).Nodup:=by
   rw[List.Nodup,List.pairwise_map];exact hmap.born.imp (by grind)
  refine⟨e.val,run_entry_at C.w _ _ _ s' entries _ e h1 hh he' hnd,hmap.keys e he',?_⟩;exact xJ (hmap.keys e he') hent hmap.apart e he' rfl
end Go.Dn
