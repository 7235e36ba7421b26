import Derived.Test.YtioeffnadipbaaaGreatDoorDnS
namespace Go.Dn
open Go
theorem RH{C z}: ∀l s o,(∀k,k<l.length->M C (nth l k) s (o+k*z))->MR C l z s o
 |[],_,_,_=>by simp[MR]
 |a::l,s,o,h=>by
  refine⟨by simpa[nth] using h 0 (by simp),RH l s _ fun k b=>?_⟩;have:=h (k+1) (by grind)
  grind [nth]
theorem qv a: ∀n k,k<n->nth (List.replicate n a) k=a
 |0,_,h=>by omega
 |n+1,0,_=>rfl
 |n+1,k+1,h=>by exact qv a n k (by omega)
theorem kh{P T a}(h:bu P a T): ∀n,b8 P (List.replicate n a) T
 |0=>by simp[b8]
 |n+1=>by exact⟨h,kh h n⟩
theorem OS(a:Array Value) m j(b:j<m)(c:0<a.size):((Array.range m).map fun x=>a[x % a.size]!)[j]? =a[j % a.size]? :=by
 grind [Nat.mod_lt]
theorem Ce{C}(i:Inv C){T z a}(g:Rel C z a)(c:bu C.P z T)(p:0<C.P.cellsOf T) n m(l:n*C.P.cellsOf T<=m){s}
  (o: ∀j,j<n*C.P.cellsOf T->s j=((Array.range m).map fun x=>a.cells[x % a.cells.size]!)[j]?):MR C (List.replicate n z) (C.P.cellsOf T) s 0:=by
 have f:z≠ .cK:=by intro e;subst e;simp[bu] at c
 have h:a.cells.size=C.P.cellsOf T:=by rw[g.2.1.resolve_right f,dw i.lay _ _ c]
 refine RH _ _ _ (fun k b=>?_);simp only[List.length_replicate] at b;rw[qv _ _ _ b,Nat.zero_add];have d:=by
  have:=Nat.mul_le_mul_right (C.P.cellsOf T) (show k+1<=n by omega)
  omega
 grind [rI,OS,Nat.add_comm,Nat.add_mul_mod_self_right,Nat.mod_eq_of_lt]
theorem HU{C:Ctx}{T xs g w}(c:Inv (C.add (.row T xs) g w)){n}(d:n=xs.length)(e:g.isNil=false)(b:n<=g.cap):
  Rel (C.add (.row T xs) g w) (.ax C.st.length 0 n) (.slice (some ⟨g.block,0,none⟩) n g.cap):=by
 refine dX rfl rfl ?_ c;refine⟨by simp[Ctx.add],_,rfl,rfl,fun f h a=>?_,fun _ _ _ _ a=>by grind [br]⟩
 grind [br,ib]
theorem qu{C}(q:Inv C){T a}(m:C.P.underlying T=some (.slice a)){n c z h j}(g:C.P.info? a=some j)(k:j.zero=some h)(o:Rel C z h)(i:bu C.P z a)(p:0<C.P.cellsOf a)(A:0<=n)(y:n<=c)(u:(c.toNat+1)*(C.P.bytesOf a+1)<=va):
  (Instr.makeSlice T (.int .i64 n) (.int .i64 c)).run C.P C.w= .ok (.slice (some ⟨C.w.heap.size,0,none⟩) n.toNat c.toNat) (C.w.alloc (.cells ((Array.range (c.toNat*C.P.cellsOf a)).map fun x=>h.cells[x % h.cells.size]!) a)):=by
 obtain⟨d,hd⟩:=jK i;obtain⟨r,s⟩:=lP g;obtain⟨t,v⟩:=mA u;have b:IntKind.i64.wrap n=n:=IntWalk.i64_in n (by omega);have f:IntKind.i64.wrap c=c:=IntWalk.i64_in c (by omega);have e: ¬ ((j.bytes:Int)*c>281474976710656):=by grind
 by_cases l:c.toNat*C.P.cellsOf a=0
 ·have:c.toNat=0:=by
   grind [Nat.mul_eq_zero]
  simp[Instr.makeSlice,run_underlying m,asInt,asIntOf,typeInfo,g,b,f,e,show ¬ c<0 by omega,show ¬ n<0 by omega,show ¬ c<n by omega,run_sizeOf hd,this,newRow];simp[show Array.range 0= #[] from rfl]
 ·simp[Instr.makeSlice,run_underlying m,asInt,asIntOf,typeInfo,g,b,f,e,show ¬ c<0 by omega,show ¬ n<0 by omega,show ¬ c<n by omega,run_sizeOf hd,l,newRow,jq g k]
theorem yw{C}(e:Inv C){T a}(E:C.P.underlying T=some (.slice a)){n c z}(D:iC C.P a=some z)(d:0<C.P.cellsOf a)(v:0<=n)(B:n<=c)(u:(c.toNat+1)*(C.P.bytesOf a+1)<=va):
  ∃p g,(Instr.makeSlice T (.int .i64 n) (.int .i64 c)).run C.P C.w= .ok (.slice (some ⟨g.block,0,none⟩) n.toNat g.cap) p/\Inv (C.add (.row a (gm z n.toNat)) g p)/\Ext C.st.length C (C.add (.row a (gm z n.toNat)) g p)/\
   Rel (C.add (.row a (gm z n.toNat)) g p) (.ax C.st.length 0 n.toNat) (.slice (some ⟨g.block,0,none⟩) n.toNat g.cap):=by
 obtain⟨I,m,F,r,k,H,f⟩:=dY e D;obtain⟨y,A⟩:=mA u;refine⟨_,⟨C.w.heap.size,c.toNat,false⟩,qu e E F r k f d v B u,?_⟩;have b:=bG C.w (.cells ((Array.range (c.toNat*C.P.cellsOf a)).map fun x=>m.cells[x % m.cells.size]!) a);have i:=iI C.w ((Array.range (c.toNat*C.P.cellsOf a)).map fun x=>m.cells[x % m.cells.size]!) a (0,0);have q:n.toNat*C.P.cellsOf a<=c.toNat*C.P.cellsOf a:=Nat.mul_le_mul_right _ (by omega);have t:=jE e b (o:= .row a (gm z n.toNat)) (g:=⟨C.w.heap.size,c.toNat,false⟩);have s:=Ce e k f d n.toNat (c.toNat*C.P.cellsOf a) q  (fun j _=>i j);have l:=kh f n.toNat;have h:=gh e (o:= .row a (gm z n.toNat)) (g:=⟨C.w.heap.size,c.toNat,false⟩) rfl (by rw[db];omega) (gL _ _) b (by
  refine⟨l, .inr ⟨rfl,fun h=>by have:=e.xs _ h;simp at this,_,alloc_heap_new _ _,by simp[gm];omega,by unfold maxLen;show c.toNat<=_;omega,by simp[Ctx.add],?_⟩⟩;exact gg t e.lay _ a _ _ 0 0 l (fun _ _=>rfl) s)
 exact⟨h.1,h.2,HU h.1 (by simp[gm]) rfl (by show n.toNat<=c.toNat;omega)⟩
theorem lf: ∀n k,ez (List.replicate n []) k=[]
 |0,_=>rfl
 |_+1,0=>rfl
 |n+1,k+1=>lf n k
theorem A1{C}(f:Inv C){T a E}(y:C.P.underlying T=some (.slice a))(j:C.P.underlying a=some (.slice E))(B:rY C.P E=true)(q:C.P.cellsOf a=1){n c}(s:iC C.P a=some (.lit (.slice none 0 0)))(A:0<=n)(D:n<=c)(u:(c.toNat+1)*(C.P.bytesOf a+1)<=va):
  ∃v i g,(Instr.makeSlice T (.int .i64 n) (.int .i64 c)).run C.P C.w= .ok v i/\eF v=false/\Inv (C.add (.rows a E (List.replicate n.toNat []) none) g i)/\Ext C.st.length C (C.add (.rows a E (List.replicate n.toNat []) none) g i)/\
   Rel (C.add (.rows a E (List.replicate n.toNat []) none) g i) (.ax C.st.length 0 n.toNat) v:=by
 obtain⟨J,L,t,l,b,z,p⟩:=dY f s;obtain rfl:=aL b;refine⟨_,_,⟨C.w.heap.size,0,false⟩,qu f y t l b p (by omega) A D u,rfl,?_⟩;rw[q,Nat.mul_one];have d:=bG C.w (.cells ((Array.range c.toNat).map fun x=>(Value.slice none 0 0).cells[x % (Value.slice none 0 0).cells.size]!) a);have h:=gh f (o:= .rows a E (List.replicate n.toNat []) none) (g:=⟨C.w.heap.size,0,false⟩) rfl (by rw[db];omega) (gL _ _) d (by
  refine⟨fun h=>by have:=f.xs _ h;simp at this,j,B,fun k v r=>(by rw[lf] at r;cases r),_,alloc_heap_new _ _,by simp;omega,fun k F _=>⟨.slice none 0 0,?_,?_⟩⟩
  ·simp only[List.length_replicate] at F
   have m:k<c.toNat:=by omega
   simp[m,Value.cells,Nat.mod_one]
  ·rw[lf]
   exact⟨Nat.le_refl _, .inl ⟨rfl,rfl⟩⟩)
 refine⟨h.1,h.2,dX rfl rfl ?_ h.1⟩;simp only[M];refine⟨by simp[Ctx.add],_,rfl,rfl,fun H K e=>(by rw[br.1] at e;simp[ib] at e),fun H N O I e=>?_⟩;rw[br.1] at e;cases e;rw[br.2];exact⟨by simp,c.toNat,rfl,by omega⟩
theorem qy{C u}(H:Inv C)(z:Inv u)(F:bK C u)(V:u.w=C.w){s d}(W:dh C s d){c}(y:List _)(Y: ∀i,i∈y->i<C.st.length->yl C i->u.X (C.ι i).block):
  ∀ps l m I cells,lr C.P c C.st l (fj s ps)=some (m,I)->b8 C.P l c->MR u l (C.P.cellsOf c) (fun j=>cells[j]?) 0->cells.size=l.length*C.P.cellsOf c->(∀i,i∈I->i∈y)->
   ∃b,Instr.fill (fun i=>some (i*C.P.cellsOf c,C.P.cellsOf c)) cells (ps.map fun p=>(p.1,d.eval p.2))=some b/\b.size=l.length*C.P.cellsOf c/\m.length=l.length/\b8 C.P m c/\MR u m (C.P.cellsOf c) (fun j=>b[j]?) 0
 |[],l,m,I,cells,h,J,U,r,_=>by
  simp only[fj,lr,an5,ao1] at h;obtain⟨rfl,rfl⟩:=h;exact⟨cells,rfl,r,rfl,J,U⟩
 | (i, o)::ps,l,m,I,cells,h,J,U,r,g=>by
  simp only[fj,lr] at h;split at h
  ·rename_i n O
   split at h
   ·rename_i Q
    simp only[an3,an2] at Q;split at h
    ·rename_i m' L A
     simp only[an5,ao1] at h;obtain⟨rfl,rfl⟩:=h;have K:=bo W o;have v:=o7 H F V O (fun j B N hn=>Y j (g j (List.mem_append_left _ B)) N hn) K;have q:bu C.P n c:=by
      have:=iq (C:=u) n c _ _ (by rw[F.P];exact Q.1) v.2.2
      rwa [F.P] at this
     have D:wid n=C.P.cellsOf c:=dw H.lay _ _ q;have t:n≠ .cK:=by intro e;subst e;simp[bu] at q
     have R:(d.eval o).cells.size=C.P.cellsOf c:=by rw[v.2.1.resolve_right t,D]
     have hiz:i*C.P.cellsOf c+C.P.cellsOf c<=l.length*C.P.cellsOf c:=by
      have:=Nat.mul_le_mul_right (C.P.cellsOf c) (show i+1<=l.length by omega)
      rw[Nat.add_mul] at this;omega
     have k: ∀j,((d.eval o).cells.zipIdx.foldl (fun f (x:Value×Nat)=>f.setIfInBounds (i*C.P.cellsOf c+x.2) x.1) cells)[j]? =if i*C.P.cellsOf c<=j/\j<i*C.P.cellsOf c+C.P.cellsOf c then(d.eval o).cells[j - i*C.P.cellsOf c]? else cells[j]? :=fun j=>by
      have:=kV (i*C.P.cellsOf c) (d.eval o).cells.toList 0 cells j (by simp;omega)
      simp only[Nat.add_zero,Array.length_toList,R] at this;have e:((d.eval o).cells.zipIdx.foldl (fun f (x:Value×Nat)=>f.setIfInBounds (i*C.P.cellsOf c+x.2) x.1) cells)=(((d.eval o).cells.toList.zipIdx 0).foldl (fun f (x:Value×Nat)=>f.setIfInBounds (i*C.P.cellsOf c+x.2) x.1) cells):=by
       rw[←Array.foldl_toList];simp
      rw[e,this];simp
     have T:=Ew z D l i (fun j=>cells[j]?) (fun j=>((d.eval o).cells.zipIdx.foldl (fun f (x:Value×Nat)=>f.setIfInBounds (i*C.P.cellsOf c+x.2) x.1) cells)[j]?) 0 (fun a ha=>tL H.lay l J a ha) Q.2 U
      (by rw[Nat.zero_add];exact rI z v (fun j B=>by rw[k,if_pos (by omega)];congr 1;omega) t) (fun j B t=>by rw[Nat.zero_add,k,if_neg (by omega)])
     have E:((d.eval o).cells.zipIdx.foldl (fun f (x:Value×Nat)=>f.setIfInBounds (i*C.P.cellsOf c+x.2) x.1) cells).size=(bQ l i n).length*C.P.cellsOf c:=by
      rw[←Array.foldl_toList,oL,fY,r]
     obtain⟨b,g1,Z,g3,g4,g5⟩:=qy H z F V W y Y ps (bQ l i n) m' L _ A (nL l i n J q) T E (fun j B=>g j (List.mem_append_right _ B));rw[fY] at Z g3;refine⟨b,?_,Z,g3,g4,g5⟩;simp only[ao9,Instr.fill];rw[if_neg (by simp;omega)];exact g1
    ·simp at h
   ·simp at h
  ·simp at h
theorem v5{C:Ctx}(hI:Inv C){s:S}{act:Act}(hs:dh C s act){T Te:TypeId}(hT:C.P.underlying T=some (.slice Te)){len:Nat}{parts:Array (Nat×Operand)}{z:AV}(hz:iC C.P Te=some z)(hpos:0<C.P.cellsOf Te)
  {m:List AV} {is:List Nat} (hp:lr C.P Te C.st (gm z len) (fj s parts.toList)=some (m,is)) (hb:len*C.P.cellsOf Te<=16777216):
  ∃C' v,(Instr.buildSlice T len (parts.map fun x=>(x.1,act.eval x.2))).run C.P C.w= .ok v C'.w/\C'.st=cQ C.st is++[.row Te m]/\Inv C'/\Ext C.st.length C C'/\Rel C' (.ax C.st.length 0 len) v:=by
 obtain⟨ti,zv,hi,hzv,hrz,hcz,hpz⟩:=dY hI hz;obtain⟨d,hd⟩:=jK hpz;have hzs:zv.cells.size=C.P.cellsOf Te:=by
  rw[hrz.2.1.resolve_right (by intro e;subst e;simp[bu] at hpz),dw hI.lay _ _ hpz]
 obtain⟨C1,f1,f2,f3,f4,f5,f6⟩:=mI is hI;have hl1:C1.st.length=C.st.length:=by rw[f1,iD]
 have hrz1:Rel C1 z zv:=hrz.pure f5.keeps hI.lay hpz;have hMR:=Ce f4 hrz1 (by rw[f5.keeps.P];exact hpz) (by rw[f5.keeps.P];exact hpos) len (len*C.P.cellsOf Te) (by rw[f5.keeps.P];omega) (s:=fun j=>((Array.range (len*C.P.cellsOf Te)).map fun x=>zv.cells[x % zv.cells.size]!)[j]?) (fun j _=>rfl);rw[f5.keeps.P] at hMR;obtain⟨cells',g1,g2,g3,g4,g5⟩:=fillAll hI f4 f5.keeps f2 hs f6 hp (kh hpz len) hMR;have hml:m.length=len:=by rw[g3];simp[gm]
 have hold:=bG C1.w (.cells cells' Te);have hkk:=jE f4 hold (o:= .row Te m) (g:=⟨C1.w.heap.size,len,false⟩);have h:=gh f4 (o:= .row Te m) (g:=⟨C1.w.heap.size,len,false⟩) rfl (by rw[db];omega) (gL _ _) hold (by
  refine⟨by show b8 C1.P m Te;rw[f5.keeps.P];exact g4, .inr ⟨rfl,fun h=>by have:=f4.xs _ h;simp at this,cells',alloc_heap_new _ _,by show m.length<=len;omega,?_,?_,?_⟩⟩
  ·unfold maxLen;show len<=_
   have:len*1<=len*C.P.cellsOf Te:=Nat.mul_le_mul_left _ hpos
   omega
  ·show len*C1.P.cellsOf Te=_
   rw[f5.keeps.P,g2];simp[gm]
  ·have:=gg hkk f4.lay m Te (fun j=>cells'[j]?) (cellAt (C1.w.alloc (.cells cells' Te)) C1.w.heap.size) 0 0 (by rw[f5.keeps.P];exact g4) (fun j _=>by rw[Nat.zero_add];exact iI _ _ _ _ _) (by rw[f5.keeps.P];exact g5)
   exact this)
 refine⟨C1.add (.row Te m) ⟨C1.w.heap.size,len,false⟩ (C1.w.alloc (.cells cells' Te)), .slice (some ⟨C1.w.heap.size,0,none⟩) len len,?_,by simp[Ctx.add,f1],h.1,f5.trans h.2 (by omega),?_⟩
 ·have e1:(Ctx.add C1 (.row Te m) ⟨C1.w.heap.size,len,false⟩ (C1.w.alloc (.cells cells' Te))).w=C1.w.alloc (.cells cells' Te):=rfl
  rw[e1,f2];unfold Instr.buildSlice;by_cases hc0:len*C.P.cellsOf Te=0
  ·have hl0:len=0:=by
    rcases Nat.mul_eq_zero.1 hc0 with h|h
    ·exact h
    ·omega
   subst hl0;simp only[Nat.zero_mul,show Array.range 0= #[] from rfl,Array.map_empty] at g1;simp only[Sem.run_bind,run_underlying hT,Result.andThen_ok,run_sizeOf hd,Nat.zero_mul];simp[g1,newRow,show Array.range 0= #[] from rfl]
  ·simp only[Sem.run_bind,run_underlying hT,Result.andThen_ok,run_sizeOf hd]
   rw[if_neg (by omega)];simp[hc0,jq hi hzv,g1,newRow]
 ·have:=HU h.1 (n:=len) (by omega) rfl (Nat.le_refl _)
  rw[hl1] at this;exact this
where
 fillAll {C C1:Ctx} (hI:Inv C) (hI1:Inv C1) (hk:bK C C1) (hw:C1.w=C.w) {s:S} {act:Act} (hs:dh C s act) {Te:TypeId} {is:List Nat}
   (hX: ∀i,i∈is->i<C.st.length->yl C i->C1.X (C.ι i).block) {ps:List (Nat×Operand)} {l m:List AV} {cells:Array Value}
   (h:lr C.P Te C.st l (fj s ps)=some (m,is)) (hp:b8 C.P l Te) (hm:MR C1 l (C.P.cellsOf Te) (fun j=>cells[j]?) 0) (hsz:cells.size=l.length*C.P.cellsOf Te:=by simp[gm]):
   ∃cells':Array Value,Instr.fill (fun i=>some (i*C.P.cellsOf Te,C.P.cellsOf Te)) cells (ps.map fun p=>(p.1,act.eval p.2))=some cells'/\cells'.size=l.length*C.P.cellsOf Te/\m.length=l.length/\b8 C.P m Te/\MR C1 m (C.P.cellsOf Te) (fun j=>cells'[j]?) 0:=
  qy hI hI1 hk hw hs is hX ps l m is cells h hp hm hsz (fun _ h=>h)
end Go.Dn
