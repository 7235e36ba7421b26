import Derived.Test.YtioeffnadipbaaaGreatDoorDnT
import Derived.Maps.RangeRun
namespace Go.Dn
open Go
open Go.ChangeMaps (setBlock)
theorem cE.length{C V}: ∀{c b},cE C V c b->c.length=b.length
 |[],[],_=>rfl
 |[],_::_,h=>by grind [cE]
 |_::_,[],h=>by grind [cE]
 |(k,a)::c,e::b,h=>by
  simp[cE.length h.2.2.2]
theorem cE.mem{C V}: ∀{d b},cE C V d b->∀e,e∈b->∃a,(e.key,a)∈d/\bu C.P a V/\Rel C a e.val
 |[],[],_,e,c=>by grind
 |[],_::_,h,_,_=>by grind [cE]
 |_::_,[],h,_,_=>by grind
 | (k,a)::d,g::b,h,e,c=>by
  simp[cE] at h;rcases List.mem_cons.1 c with rfl|c
  ·grind
  ·obtain⟨i,j,f⟩:=cE.mem h.2.2.2 e c
   grind
theorem cE.seen{C V d}: ∀{c b},cE C V c b->(∀e,e∈b->r8 d e.key=true)->pK d c=true
 |[],[],_,_=>rfl
 |[],_::_,h,_=>by rfl
 |_::_,[],h,_=>by grind [cE]
 |(k,a)::c,g::b,h,f=>by
  simp[cE] at h;simp[pK];exact⟨by grind,cE.seen h.2.2.2 (by grind)⟩
theorem EC(s u:ByteArray):(s==u)=(u==s):=by
 cases s with|mk a=>cases u with|mk b=>exact show(a==b)=(b==a) from Bool.eq_iff_iff.2 (by grind)
theorem E6 a b:eM a b=eM b a:=by
 cases a<;>cases b<;>first
  |rfl
  |(exact EC _ _)
  |grind [eM]
  |rfl
theorem Lx{P K d k}(h:lF P K d k){e o}(q:e∈d)(p:o∈d):(o.born==e.born)=eM e.key o.key:=by
 obtain⟨i,s⟩:=List.mem_iff_getElem?.1 q;obtain⟨j,r⟩:=List.mem_iff_getElem?.1 p;obtain⟨g,n⟩:=List.getElem?_eq_some_iff.1 s;obtain⟨f,l⟩:=List.getElem?_eq_some_iff.1 r;rcases Nat.lt_trichotomy i j with c|m|c
 ·have a:=List.pairwise_iff_getElem.1 h.apart i j g f c
  have b:=List.pairwise_iff_getElem.1 h.born i j g f c
  grind [E6]
 ·subst m
  rw[n] at l;subst l
  rw[kZ (h.keys e q)];simp
 ·have a:=List.pairwise_iff_getElem.1 h.apart j i f g c
  have b:=List.pairwise_iff_getElem.1 h.born j i f g c
  grind
theorem JV{C}(q:Inv C){i}(s:i<C.st.length){K V T x v l}(n:au C.st i= .map K V l)(B:C.P.underlying T=some (.map x v)):
  ∃p,(Instr.range T (.map (some (C.ι i).block))).run C.P C.w= .ok (.pointer (some ⟨C.w.heap.size,0,none⟩)) p/\Inv (C.add (.iter i l.length []) ⟨C.w.heap.size,0,false⟩ p)/\Ext C.st.length C (C.add (.iter i l.length []) ⟨C.w.heap.size,0,false⟩ p)/\
   Rel (C.add (.iter i l.length []) ⟨C.w.heap.size,0,false⟩ p) (.ptr C.st.length 0 [] 0) (.pointer (some ⟨C.w.heap.size,0,none⟩)):=by
 obtain⟨d,c,u,m,y⟩:=nH q s n;have t:=(Array.getElem?_eq_some_iff.1 u).1;have f:=bG C.w (.mapIter (some (C.ι i).block) c #[] c);have j:=m.length;have h:=gh q (o:= .iter i l.length []) (g:=⟨C.w.heap.size,0,false⟩)  rfl (by rw[db];omega) (gL _ _) f (by
  refine⟨fun h=>by have:=q.xs _ h;simp at this,by simp[Ctx.add];omega,_,_,_,_,alloc_heap_new _ _,fun h=>(by cases h),fun D E A a=>?_⟩;rw[(cw s).1,n] at a;cases a;rw[(cw s).2];refine⟨rfl,d,c,(f _ t).trans u,⟨by rw[j];simp,Nat.le_refl _,Nat.le_refl _,fun e _ _=>by simp[r8],fun k r a=>by cases a⟩⟩)
 refine⟨_,run_range_map C.w T x v _ d c B u,h.1,h.2,dX rfl rfl ?_ h.1⟩;simp only[M];exact⟨by simp[Ctx.add],_,rfl,rfl,fun z xs a=>(by rw[br.1] at a;simp[ib] at a),fun z b a=>(by rw[br.1] at a;cases a),fun _ _ _ a=>(by rw[br.2]),fun _ _ a=>(by rw[br.1] at a;cases a),fun _ _ _ _ _ a=>(by rw[br.1] at a;cases a),fun _ _ _ _ a=>(by rw[br.1] at a;cases a)⟩
theorem JU{C}(e:Inv C){T f i}(j:C.P.underlying T=some (.map f i)):
  ∃d,(Instr.range T (.map none)).run C.P C.w= .ok (.pointer (some ⟨C.w.heap.size,0,none⟩)) d/\Inv (C.add (.iter C.st.length 0 [.map none]) ⟨C.w.heap.size,0,false⟩ d)/\Ext C.st.length C (C.add (.iter C.st.length 0 [.map none]) ⟨C.w.heap.size,0,false⟩ d)/\
   Rel (C.add (.iter C.st.length 0 [.map none]) ⟨C.w.heap.size,0,false⟩ d) (.ptr C.st.length 0 [] 0) (.pointer (some ⟨C.w.heap.size,0,none⟩)):=by
 have c:=bG C.w (.mapIter none 0 #[] 0);have h:=gh e (o:= .iter C.st.length 0 [.map none]) (g:=⟨C.w.heap.size,0,false⟩)  rfl (by simp) (gL _ _) c (by
  refine⟨fun h=>by have:=e.xs _ h;simp at this,by simp[Ctx.add],_,_,_,_,alloc_heap_new _ _,fun _=>rfl,fun m n l a=>?_⟩;rw[br.1] at a;cases a)
 refine⟨_,run_range_nilMap C.w T f i j,h.1,h.2,dX rfl rfl ?_ h.1⟩;simp only[M];exact⟨by simp[Ctx.add],_,rfl,rfl,fun k xs a=>(by grind [br,ib]),fun k b a=>(by grind [br]),fun _ _ _ a=>(by rw[br.2]),fun _ _ a=>(by rw[br.1] at a;cases a),fun _ _ _ _ _ a=>(by rw[br.1] at a;cases a),fun _ _ _ _ a=>(by grind [br])⟩
theorem Mv{C}(g:Inv C){i j n}(f:j<C.st.length)(c:au C.st j= .iter i n [.map none]) ty:
  (Instr.next (.pointer (some ⟨(C.ι j).block,0,none⟩)) false ty).run C.P C.w= .ok (.tuple #[.bool false]) C.w:=by
 have a:=g.obj j f;rw[c] at a;obtain⟨l,k,m,d,seen,b,h,e⟩:=a;obtain rfl:=e.1 rfl;simp[Instr.next,getObj,Sem.run,h]
theorem JW{C}(e:Inv C){T}(f:C.P.underlying T=some .string) b:
  ∃d,(Instr.range T (.string b)).run C.P C.w= .ok (.pointer (some ⟨C.w.heap.size,0,none⟩)) d/\Inv (C.add (.dy b 0) ⟨C.w.heap.size,0,false⟩ d)/\Ext C.st.length C (C.add (.dy b 0) ⟨C.w.heap.size,0,false⟩ d)/\
   Rel (C.add (.dy b 0) ⟨C.w.heap.size,0,false⟩ d) (.ptr C.st.length 0 [] 0) (.pointer (some ⟨C.w.heap.size,0,none⟩)):=by
 have c:=bG C.w (.stringIter b 0);have h:=gh e (o:= .dy b 0) (g:=⟨C.w.heap.size,0,false⟩)  rfl (by simp) (gL _ _) c
  ⟨fun h=>by have:=e.xs _ h;simp at this,alloc_heap_new _ _⟩
 refine⟨_,by simp[Instr.range,run_underlying f],h.1,h.2,dX rfl rfl ?_ h.1⟩;simp only[M];exact⟨by simp[Ctx.add],_,rfl,rfl,fun i xs a=>(by grind [br,ib]),fun i b a=>(by rw[br.1] at a;cases a),fun _ _ _ a=>(by rw[br.1] at a;cases a),fun _ _ _=>(by rw[br.2]),fun _ _ _ _ _ a=>(by rw[br.1] at a;cases a),fun _ _ _ _ a=>(by rw[br.1] at a;cases a)⟩
theorem Mx{C}(o:Inv C){j}(h:j<C.st.length){b p}(e:au C.st j= .dy b p) ty:
  (p<b.size->∃m,(Instr.next (.pointer (some ⟨(C.ι j).block,0,none⟩)) true ty).run C.P C.w= .ok (.tuple #[.bool true, .int .i64 p, .int .i32 (Utf8.decode b p).1]) m/\
   Inv (C.dR j (.dy b (p+(Utf8.decode b p).2)) m)/\Ext C.st.length C (C.dR j (.dy b (p+(Utf8.decode b p).2)) m))/\
  (¬ p<b.size->(Instr.next (.pointer (some ⟨(C.ι j).block,0,none⟩)) true ty).run C.P C.w= .ok (.tuple #[.bool false]) C.w):=by
 have f:=o.obj j h;rw[e] at f;obtain⟨r,n⟩:=f;refine⟨fun i=>?_,fun l=>?_⟩
 ·have g:cv (C.ι j) (au C.st j)=true:=by rw[e];rfl
  have t:=(Array.getElem?_eq_some_iff.1 n).1;have c: ∀k,k≠(C.ι j).block->(C.w.putObj (C.ι j).block (.stringIter b (p+(Utf8.decode b p).2))).heap[k]? =C.w.heap[k]? :=fun k u=>World.putObj_heap_other u
  have d:au (C.dR j (.dy b (p+(Utf8.decode b p).2)) (C.w.putObj (C.ι j).block (.stringIter b (p+(Utf8.decode b p).2)))).st j= .dy b (p+(Utf8.decode b p).2):=bn _ _ _ h;refine⟨_,?_,hJ o h g World.putObj_size ⟨rfl,rfl,rfl⟩ c
   ⟨by simp only[Ctx.dR,a9];exact h,fun T xs a=>(by rw[d] at a;simp[ib] at a),fun T b a=>(by rw[d] at a;cases a),fun _ _ _ a=>(by rw[d] at a;cases a),fun _ a=>(by rw[d] at a;cases a),fun _ _ _ a=>(by rw[d] at a;cases a),fun _ a=>(by rw[d] at a;cases a),fun s q a=>(by rw[d] at a;cases a;exact⟨_,e,rfl⟩),fun _ _ _ _ _ a=>(by rw[d] at a;cases a),fun _ _ _ _ a=>(by rw[d] at a;cases a)⟩
   ⟨r,World.putObj_heap_same t⟩⟩
  simp[Instr.next,getObj,setObj,Sem.run,n,Result.andThen,i,World.putObj,goInt]
 ·simp[Instr.next,getObj,Sem.run,n,Result.andThen,l]
theorem ir: ∀l lo n z,(di l lo n z).length=l.length
 |[],_,_,_=>rfl
 |_::_,0,0,_=>rfl
 |_::l,0,n+1,z=>by simp[di,ir l 0 n z]
 |_::l,lo+1,n,z=>by simp[di,ir l _ n z]
theorem uz: ∀l lo z,di l lo 0 z=l
 |[],_,_=>rfl
 |_::_,0,_=>rfl
 |a::l,lo+1,z=>by simp[di,uz l _ z]
theorem q8: ∀l lo n z k,k<l.length->nth (di l lo n z) k=if lo<=k/\k<lo+n then z else nth l k
 |[],_,_,_,k,h=>by grind
 |a::l,0,0,z,k,h=>by rfl
 |a::l,0,n+1,z,0,h=>by rfl
 |a::l,0,n+1,z,k+1,h=>by
  have:=q8 l 0 n z k (by grind)
  grind [nth,di]
 |a::l,lo+1,n,z,0,h=>by rfl
 |a::l,lo+1,n,z,k+1,h=>by
  have:=q8 l lo n z k (by grind)
  grind [nth,di]
theorem nK{P T z}(a:bu P z T): ∀l lo n,b8 P l T->b8 P (di l lo n z) T
 |[],_,_,h=>h
 |_::_,0,0,h=>h
 |_::l,0,n+1,h=>by exact⟨a,nK a l 0 n h.2⟩
 |_::l,lo+1,n,h=>by exact⟨h.1,nK a l _ n h.2⟩
theorem RG{C z}: ∀l s o,(∀k,k<l.length->M C (nth l k) s (o+k*z))->MR C l z s o
 |[],_,_,_=>by simp[MR]
 |a::l,s,o,h=>by
  refine⟨by have:=h 0 (by simp);grind [nth],RG l s _ fun k b=>?_⟩;have:=h (k+1) (by grind)
  grind [nth]
theorem zK: ∀l i,dj l i (au l i)=l
 |[],_=>rfl
 |_::_,0=>rfl
 |a::l,i+1=>by simp[dj,au];rw[zK l i]
theorem ON{C:Ctx}{i o}(h:au C.st i=o):C.dR i o C.w=C:=by
 subst h;simp[Ctx.dR,zK]
theorem IX{C}(t:Inv C){i lo n}(hi:i<C.st.length){T c ty xs z}(hT:C.P.underlying T=some (.slice c))(d:au C.st i= .row c xs)(hz:iC C.P c=some z)(hpos:0<C.P.cellsOf c){v}
  (hv:lH C i lo n v): ∃o,(Builtin.clear_ #[T] ty #[v]).run C.P C.w= .ok (.tuple #[]) o/\Inv (C.dR i (.row c (di xs lo n z)) o)/\Ext C.st.length C (C.dR i (.row c (di xs lo n z)) o):=by
 obtain⟨y,E⟩:=hv.1 c xs (by rw[d];rfl);by_cases hn:n=0
 ·subst hn
  refine⟨C.w,?_,by rw[uz,ON d];exact⟨t,Ext.refl C (Nat.le_refl _)⟩⟩;rcases E with⟨_,rfl,_,_⟩|⟨_,cap,q,rfl,_⟩
  ·simp[Builtin.clear_,run_underlying hT]
  ·simp[Builtin.clear_,run_underlying hT]
 ·have K:=t.obj i hi
  rw[d] at K;obtain⟨g0,⟨_,g9⟩|⟨g2,g1,a,V,g4,g5,g6,g7⟩⟩:=K
  ·subst g9;simp at y;omega
  rcases E with⟨_,rfl,_,e⟩|⟨_,cap,q,rfl,hq,hc1,hc2⟩
  ·exact absurd e hn
  have hq':q=⟨(C.ι i).block,lo*C.P.cellsOf c,none⟩:=by
   rcases hq with h|⟨h,_⟩
   ·exact h
   ·omega
  subst hq';obtain⟨ti,f,X,hzv,D,hcz,s⟩:=dY t hz;have W:wid z=C.P.cellsOf c:=dw t.lay _ _ s;have p:f.cells.size=C.P.cellsOf c:=by rw[D.2.1.resolve_right (by intro e;subst e;simp[bu] at s),W]
  have hzj:z≠ .cK:=by intro e;subst e;simp[bu] at s
  generalize hZ:C.P.cellsOf c=Z at*
  have hlz:(lo+n)*Z<=xs.length*Z:=Nat.mul_le_mul_right _ y;have hcz2:xs.length*Z<=a.size:=by rw[←g6];exact Nat.mul_le_mul_right _ g4
  have hadd:(lo+n)*Z=lo*Z+n*Z:=Nat.add_mul _ _ _;have l:(Builtin.zeroCells f.cells n).toList.length=n*Z:=by simp[Builtin.zeroCells,p]
  have A: ∀j,j<n*Z->(Builtin.zeroCells f.cells n).toList[j]? =f.cells[j % Z]? :=fun j x=>by
   have R:j % Z<f.cells.size:=by rw[p];exact Nat.mod_lt _ (by omega)
   simp only[Builtin.zeroCells,p,Array.toList_map,List.getElem?_map,Array.toList_range,List.getElem?_range x,Option.map_some];rw[Array.getElem?_eq_getElem R,getElem!_pos f.cells (j % Z) R]
  have H: ∀u,u∈(Builtin.zeroCells f.cells n).toList->u.oneCell'=true:=fun u hu=>by
   obtain⟨j,x,e⟩:=List.getElem_of_mem hu;have Q:=A j (by rw[←l];exact x);rw[ao5 x,e] at Q;have R:j % Z<f.cells.size:=by rw[p];exact Nat.mod_lt _ (by omega)
   rw[Array.getElem?_eq_getElem R] at Q;have I:cR z=true:=rf _ _ s;exact qM I D u (by rw[Option.some.inj Q];simp)
  have J:=run_storeCells_at C.P (C.ι i).block (lo*Z) c (Builtin.zeroCells f.cells n).toList 0 a C.w V (by rw[l];omega) H;simp only[Nat.add_zero,l] at J;refine⟨C.w.setRow (C.ι i).block (a.toList.take (lo*Z)++(Builtin.zeroCells f.cells n).toList++a.toList.drop (lo*Z+n*Z)).toArray,?_,?_⟩
  ·obtain⟨m,rfl⟩: ∃m,n=m+1:=⟨n - 1,by omega⟩
   simp only[Builtin.clear_];simp only[Sem.run_bind,List.getElem?_toArray,List.getElem?_cons_zero,run_underlying hT,Result.andThen_ok,jq X hzv,J,Sem.run_pure]
  ·generalize r:C.w.setRow (C.ι i).block (a.toList.take (lo*Z)++(Builtin.zeroCells f.cells n).toList++a.toList.drop (lo*Z+n*Z)).toArray=o at*
   have F:=spliced a (lo*Z) (Builtin.zeroCells f.cells n).toList (by rw[l];omega);rw[l] at F;have B: ∀j,cellAt o (C.ι i).block j=if lo*Z<=j/\j<lo*Z+n*Z then(Builtin.zeroCells f.cells n).toList[j - lo*Z]? else cellAt C.w (C.ι i).block j:=fun j=>by
    rw[←r,nq _ _ a _ c V,F,lL V]
   have hMR:MR C (di xs lo n z) Z (cellAt o (C.ι i).block) 0:=by
    refine RG _ _ _ (fun k U=>?_);rw[ir] at U;rw[q8 xs lo n z k U,Nat.zero_add];by_cases Y:lo<=k/\k<lo+n
    ·rw[if_pos Y]
     refine rI t D (fun j x=>?_) hzj;rw[p] at x;have Q:lo*Z<=k*Z:=Nat.mul_le_mul_right _ Y.1;have h2:(k - lo)*Z+Z<=n*Z:=by
      have:=Nat.mul_le_mul_right Z (show k - lo+1<=n by omega)
      rwa [Nat.add_mul,Nat.one_mul] at this
     have h3:k*Z=lo*Z+(k - lo)*Z:=by rw[←Nat.add_mul];congr 1;omega
     rw[B,if_pos (by omega),A _ (by omega)];congr 1
     rw[show k*Z+j - lo*Z=j+Z*(k - lo) by rw[Nat.mul_comm Z];omega,Nat.add_mul_mod_self_left,Nat.mod_eq_of_lt x]
    ·rw[if_neg Y]
     have L:=Cd xs k Z _ 0 U g7;rw[Nat.zero_add] at L;have hpk:=o5 xs k c U g0;have hwk:wid (nth xs k)=Z:=by rw[dw t.lay _ _ hpk,hZ]
     refine j5 t (fun j x=>?_) L;rw[hwk] at x;rw[B,if_neg ?_];rintro⟨a1,a2⟩;rcases Nat.lt_or_ge k lo with h|h
     ·have:=Nat.mul_le_mul_right Z (show k+1<=lo by omega)
      rw[Nat.add_mul,Nat.one_mul] at this;omega
     ·have:=Nat.mul_le_mul_right Z (show lo+n<=k by omega)
      omega
   have N:cv (C.ι i) (au C.st i)=true:=by rw[d];simp[cv,g2]
   have hr:bW C (C.dR i (.row c (di xs lo n z)) o) i i:=sE hi d (by rw[ir];exact Nat.le_refl _);have g: ∀b,b≠(C.ι i).block->o.heap[b]? =C.w.heap[b]? :=fun b hb=>by rw[←r];exact setRow_other _ _ _ _ hb
   refine hJ t hi N (by rw[←r];simp) (by rw[←r];exact setRow_os _ _ _) g hr ?_;have hkp:bK C (C.dR i (.row c (di xs lo n z)) o):=⟨rfl,fun _ h=>h,fun b hb=>g b (fun e=>g1 (e▸hb))⟩
   have O:=nK s xs lo n g0;refine⟨O, .inr ⟨g2,g1,(a.toList.take (lo*Z)++(Builtin.zeroCells f.cells n).toList++a.toList.drop (lo*Z+n*Z)).toArray,?_,by rw[ir];exact g4,g5,?_,?_⟩⟩
   ·rw[show(C.dR i (.row c (di xs lo n z)) o).w=o from rfl,←r]
    exact setRow_heap _ _ a _ c (0,0) V
   ·show(C.ι i).cap*C.P.cellsOf c=_
    rw[hZ,g6];simp only[List.size_toArray,ao6,List.length_take,List.length_drop,l,Array.length_toList];omega
   ·show MR _ _ (C.P.cellsOf c) _ _
    exact gg hkp t.lay _ c _ _ 0 0 O (fun _ _=>rfl) (by rw[hZ];exact hMR)
theorem CJ{C}(hI:Inv C){i j n}(hj:j<C.st.length){ks}(hsj:au C.st j= .iter i n ks){K V es}(hst:au C.st i= .map K V es)(hn:es.length=n):
  i<C.st.length/\ ¬ C.X (C.ι j).block/\∃since seen entries clock,C.w.heap[(C.ι j).block]? =some (.mapIter (some (C.ι i).block) since seen clock)/\C.w.heap[(C.ι i).block]? =some (.map entries clock)/\
   cE C V es entries.toList/\lF C.P K entries.toList clock/\RF entries clock since seen clock n ks/\since=clock:=by
 have hob:=hI.obj j hj;rw[hsj] at hob;obtain⟨hX,hi,m,since,seen,stepped,h1,h2⟩:=hob;obtain⟨rfl,entries,clock,hh,hp⟩:=h2.2 K V es hst;obtain⟨entries',clock',hh',hent,hmap⟩:=nH hI hi hst;have hlen:=hent.length;have hsz:=hp.size;have h3:=hp.VB;have h4:=hp.VC;have hsz':entries.size=n:=by grind
 obtain rfl:=by omega
 grind
theorem CU{C:Ctx}{B b a n seen c K t}(E:C.w.heap[B]? =some (.mapIter (some b) a seen a))(H:C.w.heap[b]? =some (.map c a))(f:lF C.P K c.toList a)(i:RF c a a seen a n t) ty:
  ((∀e,e∈c.toList->r8 t e.key=true)/\(Instr.next (.pointer (some ⟨B,0,none⟩)) false ty).run C.P C.w= .ok (.tuple #[.bool false]) C.w)\/
  ∃e l,e∈c.toList/\r8 t e.key=false/\(Instr.next (.pointer (some ⟨B,0,none⟩)) false ty).run C.P C.w= .ok (.tuple #[.bool true,e.key,e.val]) l/\l.heap.size=C.w.heap.size/\dT C.w l/\
   (∀x,x≠B->l.heap[x]? =C.w.heap[x]?)/\l.heap[B]? =some (.mapIter (some b) a (seen.push e.born) a)/\RF c a a (seen.push e.born) a n (e.key::t):=by
 rcases run_next_at (P:=C.P) C.w ty B b a a seen c a E H (fun x m=>f.clock x m) (Nat.le_refl _) with⟨J,A⟩|⟨e,j,o,p,A⟩
 ·refine .inl ⟨fun e j=>?_,A⟩
  have u:=i.met e (by simpa using j) (f.clock e j);rw[←u];cases F:seen.contains e.born with
  |true=>rfl
  |false=>
   have:e∈leftOf c seen:=by unfold leftOf;simp only[Array.mem_filter];exact⟨by simpa using j,by simp only[F];rfl⟩
   have D:=Array.size_pos_of_mem this;omega
 ·have y:e∈c.toList/\seen.contains e.born=false:=by
   have:=j
   unfold leftOf at this
   grind
  obtain⟨h,z⟩:=y;have u:=i.met e (by simpa using h) (f.clock e h);have d:o.heap=C.w.heap:=by rcases p with rfl|rfl<;>rfl
  have g:dT C.w o:=by rcases p with rfl|rfl<;>exact⟨rfl,rfl,rfl⟩
  have s:=(Array.getElem?_eq_some_iff.1 E).1;refine .inr ⟨e,_,h,by rw[←u];exact z,A,by show(o.heap.set! _ _).size=_;rw[d];simp,⟨g.os,g.tape,g.output⟩,fun x m=>?_,?_,⟨i.size,i.VB,i.VC,fun I q v=>?_,fun k r m=>?_⟩⟩
  ·rw[←d]
   show(o.heap.set! _ _)[x]? =_
   simp[Array.getElem?_setIfInBounds_ne (Ne.symm m)]
  ·show(o.heap.set! _ _)[_]? =_
   rw[d];simp[s]
  ·simp only[r8]
   rw[Array.contains_push,i.met I q v,Lx f h (by simpa using q),Bool.or_comm]
  ·cases m
   exact⟨e,seen,by simpa using h,rfl,rfl⟩
theorem Mw{C}(I:Inv C){i j n}(B:j<C.st.length){q}(g:au C.st j= .iter i n q){K V J}(x:au C.st i= .map K V J)(hn:J.length=n) ty:
  pK q J=true/\(Instr.next (.pointer (some ⟨(C.ι j).block,0,none⟩)) false ty).run C.P C.w= .ok (.tuple #[.bool false]) C.w\/
  ∃k a v t,(k,a)∈J/\r8 q k=false/\plainKey C.P K k=true/\(Instr.next (.pointer (some ⟨(C.ι j).block,0,none⟩)) false ty).run C.P C.w= .ok (.tuple #[.bool true,k,v]) t/\
   Inv (C.dR j (.iter i n (k::q)) t)/\Ext C.st.length C (C.dR j (.iter i n (k::q)) t)/\bu C.P a V/\Rel (C.dR j (.iter i n (k::q)) t) a v:=by
 obtain⟨Z,Y,A,seen,l,X,h1,hh,s,p,hp,rfl⟩:=CJ I B g x hn;have N:i≠j:=by intro e;subst e;rw[x] at g;cases g
 have f:cv (C.ι j) (au C.st j)=true:=by rw[g];rfl
 have y:cv (C.ι i) (au C.st i)=true:=by rw[x];rfl
 have E:(C.ι i).block≠(C.ι j).block:=I.u0 i j Z B N y f;rcases CU h1 hh p hp ty with⟨h0,Q⟩|⟨e,t,u,R,Q,L,O,d,z,U⟩
 ·exact .inl ⟨s.seen h0,Q⟩
 ·obtain⟨a,ha,D,W⟩:=s.mem e u
  have hk:bK C (C.dR j (.iter i n (e.key::q)) t):=⟨rfl,fun _ h=>h,fun b hb=>d b (fun e=>Y (e▸hb))⟩
  have r:au (C.dR j (.iter i n (e.key::q)) t).st j= .iter i n (e.key::q):=bn _ _ _ B;have F:=hJ I B (o:= .iter i n (e.key::q)) (w:=t) f L O d
   ⟨by simp only[Ctx.dR,a9];exact B,fun T xs c=>(by rw[r] at c;simp[ib] at c),fun T b c=>(by rw[r] at c;cases c),fun _ _ _ c=>(by rw[r] at c;cases c),fun _ c=>(by rw[r] at c;cases c),
    fun m n' ks' c=>(by rw[r] at c;cases c;exact⟨_,_,g,rfl⟩),fun _ c=>(by rw[r] at c;cases c),fun _ _ c=>(by rw[r] at c;cases c),fun _ _ _ _ _ c=>(by rw[r] at c;cases c),fun _ _ _ _ c=>(by rw[r] at c;cases c)⟩
   (by
    refine⟨Y,by simp only[Ctx.dR,a9];exact Z,_,_,_,_,z,fun h=>(by
     have H:=p.keys e u;simp only[List.cons.injEq] at h;rw[h.1] at H;cases H),fun K' V' es' c=>?_⟩
    exact⟨rfl,l,A,(d _ E).trans hh,U⟩)
  exact .inr ⟨e.key,a,e.val,_,ha,R,p.keys e u,Q,F.1,F.2,D,W.pure hk I.lay D⟩
theorem JT{C}(g:Inv C){K V T t q l i v}(A:Rel C (.eO K V l i) v)(x:C.P.underlying T=some (.map t q)):
  ∃j,(Instr.range T v).run C.P C.w= .ok (.pointer (some ⟨C.w.heap.size,0,none⟩)) j/\Inv (C.add (.fit K V l i []) ⟨C.w.heap.size,0,false⟩ j)/\Ext C.st.length C (C.add (.fit K V l i []) ⟨C.w.heap.size,0,false⟩ j)/\
   Rel (C.add (.fit K V l i []) ⟨C.w.heap.size,0,false⟩ j) (.ptr C.st.length 0 [] 0) (.pointer (some ⟨C.w.heap.size,0,none⟩)):=by
 have m: ∀o,(Instr.range T v).run C.P C.w= .ok _ (C.w.alloc o)->kl _ ⟨C.w.heap.size,0,false⟩ (.fit K V l i [])->
   ∃j,(Instr.range T v).run C.P C.w= .ok (.pointer (some ⟨C.w.heap.size,0,none⟩)) j/\Inv _/\Ext C.st.length C _/\
    Rel _ (.ptr C.st.length 0 [] 0) (.pointer (some ⟨C.w.heap.size,0,none⟩)):=fun o p B=>by
  have h:=gh g (o:= .fit K V l i [])  (w:=C.w.alloc o) rfl (by rw[db];omega) (gL _ _) (bG _ _) B;refine⟨_,p,h.1,h.2,dX rfl rfl ?_ h.1⟩;simp only[M];exact⟨by simp[Ctx.add],_,rfl,rfl,fun D xs c=>(by rw[br.1] at c;simp[ib] at c),fun D b c=>(by rw[br.1] at c;cases c),fun _ _ _ c=>(by rw[br.1] at c;cases c),fun _ _ c=>(by rw[br.1] at c;cases c),fun _ _ _ _ _ _=>(by rw[br.2]),fun _ _ _ _ c=>(by rw[br.1] at c;cases c)⟩
 rcases vw A with⟨_,rfl,rfl,rfl⟩|⟨b,d,a,rfl,y,u,n,rfl,z,s⟩
 ·refine m _ (run_range_nilMap C.w T t q x) ⟨fun h=>by have:=g.xs _ h;simp at this,_,_,_,_,alloc_heap_new _ _, .inl ⟨rfl,rfl,rfl,rfl⟩⟩
 ·have f:=bG C.w (.mapIter (some b) a #[] a)
  refine m _ (run_range_map C.w T t q _ d a x u) ⟨fun h=>by have:=g.xs _ h;simp at this,_,_,_,_,alloc_heap_new _ _, .inr ⟨b,d,a,rfl,y,(f _ (g.xs b y)).trans u,n,rfl,z,pJ (jE g f) g.lay _ _ _ z s,?_⟩⟩;exact⟨by simp,Nat.le_refl _,Nat.le_refl _,fun e _ _=>by simp[r8],fun k r c=>by cases c⟩
theorem Mu{C}(L:Inv C){j}(O:j<C.st.length){K V A f p}(z:au C.st j= .fit K V A p f) ty:
  pK f (A.zip p)=true/\(Instr.next (.pointer (some ⟨(C.ι j).block,0,none⟩)) false ty).run C.P C.w= .ok (.tuple #[.bool false]) C.w\/
  ∃k a v r,(k,a)∈A.zip p/\r8 f k=false/\plainKey C.P K k=true/\(Instr.next (.pointer (some ⟨(C.ι j).block,0,none⟩)) false ty).run C.P C.w= .ok (.tuple #[.bool true,k,v]) r/\
   Inv (C.dR j (.fit K V A p (k::f)) r)/\Ext C.st.length C (C.dR j (.fit K V A p (k::f)) r)/\bu C.P a V/\Rel (C.dR j (.fit K V A p (k::f)) r) a v:=by
 have E:=L.obj j O;rw[z] at E;obtain⟨U,m,i,seen,n,h1,⟨rfl,rfl,rfl,rfl⟩|⟨b,c,t,rfl,B,hh,l,rfl,u,D,N⟩⟩:=E
 ·refine .inl ⟨rfl,?_⟩
  simp[Instr.next,getObj,Sem.run,h1,Result.andThen]
 ·have Q:=N.size
  have h3:=N.VB;have h4:=N.VC;simp only[List.length_map,Array.length_toList] at Q;obtain rfl:i=t:=by omega
  obtain rfl:n=i:=by omega
  have s:=wq _ _ u D;have y:cv (C.ι j) (au C.st j)=true:=by rw[z];rfl
  rcases CU h1 hh l N ty with⟨h0,R⟩|⟨e,r,I,W,R,J,X,g,x,Y⟩
  ·exact .inl ⟨s.seen h0,R⟩
  ·obtain⟨a,ha,F,Z⟩:=s.mem e I
   have hk:bK C (C.dR j (.fit K V (c.toList.map (·.key)) p (e.key::f)) r):=⟨rfl,fun _ h=>h,fun b hb=>g b (fun e=>U (e▸hb))⟩
   have q:au (C.dR j (.fit K V (c.toList.map (·.key)) p (e.key::f)) r).st j= .fit K V (c.toList.map (·.key)) p (e.key::f):=bn _ _ _ O;have H:=hJ L O (o:= .fit K V (c.toList.map (·.key)) p (e.key::f)) (w:=r) y J X g
    ⟨by simp only[Ctx.dR,a9];exact O,fun T xs d=>(by rw[q] at d;simp[ib] at d),fun T b d=>(by rw[q] at d;cases d),fun _ _ _ d=>(by rw[q] at d;cases d),fun _ d=>(by rw[q] at d;cases d),
     fun m n' ks' d=>(by rw[q] at d;cases d),fun _ d=>(by rw[q] at d;cases d),fun _ _ d=>(by rw[q] at d;cases d),fun _ _ _ _ _ d=>(by rw[q] at d;cases d;exact⟨_,z,rfl⟩),fun _ _ _ _ d=>(by rw[q] at d;cases d)⟩
    ⟨U,_,_,_,_,x, .inr ⟨b,c,_,rfl,B,(g _ (fun e=>U (e▸B))).trans hh,l,rfl,u,pJ hk L.lay _ _ _ u D,Y⟩⟩
   exact .inr ⟨e.key,a,e.val,_,ha,W,l.keys e I,R,H.1,H.2,F,Z.pure hk L.lay F⟩
theorem wD{C K V k z}(i:plainKey C.P K k=true): ∀{f b},cE C V f b->b.Pairwise (fun e j=>eM j.key e.key=false)->∀e,e∈b->e.key=k->
  bu C.P (de f k z) V/\Rel C (de f k z) e.val
 |[],[],_,_,e,d,_=>by grind
 |[],_::_,h,_,_,_,_=>by grind [cE]
 |_::_,[],h,_,_,_,_=>by grind
 | (m,a)::f,l::b,h,g,e,d,c=>by
  simp[cE] at h;rw[List.pairwise_cons] at g;simp[de];rcases List.mem_cons.1 d with rfl|d
  ·grind [kZ]
  ·have:=g.1 e d
   rw[c,h.1] at this;rw[this];exact wD i h.2.2.2 g.2 e d c
theorem I6{C}(hI:Inv C){i j n}(hj:j<C.st.length){k ks}(hsj:au C.st j= .iter i n (k::ks)){K V es}(hst:au C.st i= .map K V es)(hn:es.length=n) z:
  ∃v,(Instr.entry (.pointer (some ⟨(C.ι j).block,0,none⟩))).run C.P C.w= .ok (.tuple #[k,v]) C.w/\plainKey C.P K k=true/\bu C.P (de es k z) V/\Rel C (de es k z) v:=by
 obtain⟨hi,hX,since,seen,entries,clock,h1,hh,hent,hmap,hp,rfl⟩:=CJ hI hj hsj hst hn;obtain⟨e,s',he,rfl,rfl⟩:=hp.last _ _ rfl;have he':e∈entries.toList:=by grind
 have hnd:(entries.toList.map (·.born)).Nodup:=by
  rw[List.Nodup,List.pairwise_map];exact hmap.born.imp (by omega)
 refine⟨e.val,run_entry_at C.w _ _ _ s' _ _ e h1 hh he' hnd,hmap.keys e he',?_⟩;exact wD (hmap.keys e he') hent hmap.apart e he' rfl
theorem I5{C}(hI:Inv C){j}(hj:j<C.st.length){K V k ks met vs}(hsj:au C.st j= .fit K V ks vs (k::met)) z:
  ∃v,(Instr.entry (.pointer (some ⟨(C.ι j).block,0,none⟩))).run C.P C.w= .ok (.tuple #[k,v]) C.w/\plainKey C.P K k=true/\bu C.P (de (ks.zip vs) k z) V/\Rel C (de (ks.zip vs) k z) v:=by
 have hob:=hI.obj j hj;rw[hsj] at hob;obtain⟨hX,m,since,seen,stepped,h1,⟨_,_,_,hm⟩|⟨b,entries,clock,rfl,hXb,hh,hmap,rfl,hpv,hmt,hp⟩⟩:=hob
 ·cases hm
 ·have hsz:=hp.size
  have h3:=hp.VB;have h4:=hp.VC;simp only[List.length_map,Array.length_toList] at hsz;obtain rfl:since=clock:=by omega
  obtain rfl:stepped=since:=by omega
  have hent:=wq _ _ hpv hmt;obtain⟨e,s',he,rfl,rfl⟩:=hp.last _ _ rfl;have he':e∈entries.toList:=by simpa using he
  have hnd:(entries.toList.map (·.born)).Nodup:=by
   rw[List.Nodup,List.pairwise_map];exact hmap.born.imp (by grind)
  refine⟨e.val,run_entry_at C.w _ _ _ s' entries _ e h1 hh he' hnd,hmap.keys e he',?_⟩;exact wD (hmap.keys e he') hent hmap.apart e he' rfl
end Go.Dn
