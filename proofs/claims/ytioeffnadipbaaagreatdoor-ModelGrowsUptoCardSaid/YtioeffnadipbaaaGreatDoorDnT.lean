import Derived.Test.YtioeffnadipbaaaGreatDoorDnS
namespace Go.Dn
open Go
theorem S6{C z}: ∀l s o,(∀k,k<l.length->M C (nth l k) s (o+k*z))->MR C l z s o
 |[],_,_,_=>by simp[MR]
 |a::l,s,o,h=>by
  refine⟨by simpa[nth] using h 0 (by simp),S6 l s _ fun k b=>?_⟩;have:=h (k+1) (by grind)
  grind [nth]
theorem p8 a: ∀n k,k<n->nth (List.replicate n a) k=a
 |0,_,h=>by omega
 |n+1,0,_=>rfl
 |n+1,k+1,h=>by exact p8 a n k (by omega)
theorem j8{P T a}(h:bB P a T): ∀n,ck P (List.replicate n a) T
 |0=>by simp[ck]
 |n+1=>by exact⟨h,j8 h n⟩
theorem P2(a:Array Value) m j(b:j<m)(c:0<a.size):((Array.range m).map fun x=>a[x % a.size]!)[j]? =a[j % a.size]? :=by
 grind [Nat.mod_lt]
theorem Cj{C}(i:Inv C){T z a}(g:Rel C z a)(c:bB C.P z T)(p:0<C.P.cellsOf T) n m(l:n*C.P.cellsOf T<=m){s}
  (o: ∀j,j<n*C.P.cellsOf T->s j=((Array.range m).map fun x=>a.cells[x % a.cells.size]!)[j]?):MR C (List.replicate n z) (C.P.cellsOf T) s 0:=by
 have f:z≠ .cB:=by intro e;subst e;simp[bB] at c
 have h:a.cells.size=C.P.cellsOf T:=by rw[g.2.1.resolve_right f,dp i.lay _ _ c]
 refine S6 _ _ _ (fun k b=>?_);simp only[List.length_replicate] at b;rw[p8 _ _ _ b,Nat.zero_add];have d:=by
  have:=Nat.mul_le_mul_right (C.P.cellsOf T) (show k+1<=n by omega)
  omega
 grind [qW,P2,Nat.add_comm,Nat.add_mul_mod_self_right,Nat.mod_eq_of_lt]
theorem IX{C:Ctx}{T xs g w}(c:Inv (C.add (.row T xs) g w)){n}(d:n=xs.length)(e:g.isNil=false)(b:n<=g.cap):
  Rel (C.add (.row T xs) g w) (.ak C.st.length 0 n) (.slice (some ⟨g.block,0,none⟩) n g.cap):=by
 refine dR rfl rfl ?_ c;refine⟨by simp[Ctx.add],_,rfl,rfl,fun f h a=>?_,fun _ _ _ _ a=>by grind [bw]⟩
 grind [bw,gX]
theorem pZ{C}(q:Inv C){T a}(m:C.P.underlying T=some (.slice a)){n c z h j}(g:C.P.info? a=some j)(k:j.zero=some h)(o:Rel C z h)(i:bB C.P z a)(p:0<C.P.cellsOf a)(A:0<=n)(y:n<=c)(u:(c.toNat+1)*(C.P.bytesOf a+1)<=uG):
  (Instr.makeSlice T (.int .i64 n) (.int .i64 c)).run C.P C.w= .ok (.slice (some ⟨C.w.heap.size,0,none⟩) n.toNat c.toNat) (C.w.alloc (.cells ((Array.range (c.toNat*C.P.cellsOf a)).map fun x=>h.cells[x % h.cells.size]!) a)):=by
 obtain⟨d,hd⟩:=jF i;obtain⟨r,s⟩:=lG g;obtain⟨t,v⟩:=mj u;have b:IntKind.i64.wrap n=n:=IntWalk.i64_in n (by omega);have f:IntKind.i64.wrap c=c:=IntWalk.i64_in c (by omega);have e: ¬ ((j.bytes:Int)*c>281474976710656):=by grind
 by_cases l:c.toNat*C.P.cellsOf a=0
 ·have:c.toNat=0:=by
   grind [Nat.mul_eq_zero]
  simp[Instr.makeSlice,run_underlying m,asInt,asIntOf,typeInfo,g,b,f,e,show ¬ c<0 by omega,show ¬ n<0 by omega,show ¬ c<n by omega,run_sizeOf hd,this,newRow];simp[show Array.range 0= #[] from rfl]
 ·simp[Instr.makeSlice,run_underlying m,asInt,asIntOf,typeInfo,g,b,f,e,show ¬ c<0 by omega,show ¬ n<0 by omega,show ¬ c<n by omega,run_sizeOf hd,l,newRow,jm g k]
theorem yu{C}(e:Inv C){T a}(E:C.P.underlying T=some (.slice a)){n c z}(D:iq C.P a=some z)(d:0<C.P.cellsOf a)(v:0<=n)(B:n<=c)(u:(c.toNat+1)*(C.P.bytesOf a+1)<=uG):
  ∃p g,(Instr.makeSlice T (.int .i64 n) (.int .i64 c)).run C.P C.w= .ok (.slice (some ⟨g.block,0,none⟩) n.toNat g.cap) p/\Inv (C.add (.row a (fT z n.toNat)) g p)/\Ext C.st.length C (C.add (.row a (fT z n.toNat)) g p)/\
   Rel (C.add (.row a (fT z n.toNat)) g p) (.ak C.st.length 0 n.toNat) (.slice (some ⟨g.block,0,none⟩) n.toNat g.cap):=by
 obtain⟨I,m,F,r,k,H,f⟩:=dT e D;obtain⟨y,A⟩:=mj u;refine⟨_,⟨C.w.heap.size,c.toNat,false⟩,pZ e E F r k f d v B u,?_⟩;have b:=bI C.w (.cells ((Array.range (c.toNat*C.P.cellsOf a)).map fun x=>m.cells[x % m.cells.size]!) a);have i:=iC C.w ((Array.range (c.toNat*C.P.cellsOf a)).map fun x=>m.cells[x % m.cells.size]!) a (0,0);have q:n.toNat*C.P.cellsOf a<=c.toNat*C.P.cellsOf a:=Nat.mul_le_mul_right _ (by omega);have t:=jy e b (o:= .row a (fT z n.toNat)) (g:=⟨C.w.heap.size,c.toNat,false⟩);have s:=Cj e k f d n.toNat (c.toNat*C.P.cellsOf a) q  (fun j _=>i j);have l:=j8 f n.toNat;have h:=fL e (o:= .row a (fT z n.toNat)) (g:=⟨C.w.heap.size,c.toNat,false⟩) rfl (by rw[cW];omega) (gA _ _) b (by
  refine⟨l, .inr ⟨rfl,fun h=>by have:=e.xs _ h;simp at this,_,alloc_heap_new _ _,by simp[fT];omega,by unfold maxLen;show c.toNat<=_;omega,by simp[Ctx.add],?_⟩⟩;exact fJ t e.lay _ a _ _ 0 0 l (fun _ _=>rfl) s)
 exact⟨h.1,h.2,IX h.1 (by simp[fT]) rfl (by show n.toNat<=c.toNat;omega)⟩
theorem kW: ∀n k,bW (List.replicate n []) k=[]
 |0,_=>rfl
 |_+1,0=>rfl
 |n+1,k+1=>kW n k
theorem AW{C}(f:Inv C){T a E}(y:C.P.underlying T=some (.slice a))(j:C.P.underlying a=some (.slice E))(B:rl C.P E=true)(q:C.P.cellsOf a=1){n c}(s:iq C.P a=some (.lit (.slice none 0 0)))(A:0<=n)(D:n<=c)(u:(c.toNat+1)*(C.P.bytesOf a+1)<=uG):
  ∃v i g,(Instr.makeSlice T (.int .i64 n) (.int .i64 c)).run C.P C.w= .ok v i/\ew v=false/\Inv (C.add (.rows a E (List.replicate n.toNat []) none) g i)/\Ext C.st.length C (C.add (.rows a E (List.replicate n.toNat []) none) g i)/\
   Rel (C.add (.rows a E (List.replicate n.toNat []) none) g i) (.ak C.st.length 0 n.toNat) v:=by
 obtain⟨J,L,t,l,b,z,p⟩:=dT f s;obtain rfl:=aX b;refine⟨_,_,⟨C.w.heap.size,0,false⟩,pZ f y t l b p (by omega) A D u,rfl,?_⟩;rw[q,Nat.mul_one];have d:=bI C.w (.cells ((Array.range c.toNat).map fun x=>(Value.slice none 0 0).cells[x % (Value.slice none 0 0).cells.size]!) a);have h:=fL f (o:= .rows a E (List.replicate n.toNat []) none) (g:=⟨C.w.heap.size,0,false⟩) rfl (by rw[cW];omega) (gA _ _) d (by
  refine⟨fun h=>by have:=f.xs _ h;simp at this,j,B,fun k v r=>(by rw[kW] at r;cases r),_,alloc_heap_new _ _,by simp;omega,fun k F _=>⟨.slice none 0 0,?_,?_⟩⟩
  ·simp only[List.length_replicate] at F
   have m:k<c.toNat:=by omega
   simp[m,Value.cells,Nat.mod_one]
  ·rw[kW]
   exact⟨Nat.le_refl _, .inl ⟨rfl,rfl⟩⟩)
 refine⟨h.1,h.2,dR rfl rfl ?_ h.1⟩;simp only[M];refine⟨by simp[Ctx.add],_,rfl,rfl,fun H K e=>(by rw[bw.1] at e;simp[gX] at e),fun H N O I e=>?_⟩;rw[bw.1] at e;cases e;rw[bw.2];exact⟨by simp,c.toNat,rfl,by omega⟩
theorem qb{C u}(H:Inv C)(z:Inv u)(F:bP C u)(V:u.w=C.w){s d}(W:db C s d){c}(y:List _)(Y: ∀i,i∈y->i<C.st.length->yi C i->u.X (C.ι i).block):
  ∀ps l m I cells,la C.P c C.st l (ff s ps)=some (m,I)->ck C.P l c->MR u l (C.P.cellsOf c) (fun j=>cells[j]?) 0->cells.size=l.length*C.P.cellsOf c->(∀i,i∈I->i∈y)->
   ∃b,Instr.fill (fun i=>some (i*C.P.cellsOf c,C.P.cellsOf c)) cells (ps.map fun p=>(p.1,d.eval p.2))=some b/\b.size=l.length*C.P.cellsOf c/\m.length=l.length/\ck C.P m c/\MR u m (C.P.cellsOf c) (fun j=>b[j]?) 0
 |[],l,m,I,cells,h,J,U,r,_=>by
  simp only[ff,la,ar7,as3] at h;obtain⟨rfl,rfl⟩:=h;exact⟨cells,rfl,r,rfl,J,U⟩
 | (i, o)::ps,l,m,I,cells,h,J,U,r,g=>by
  simp only[ff,la] at h;split at h
  ·rename_i n O
   split at h
   ·rename_i Q
    simp only[ar5,ar4] at Q;split at h
    ·rename_i m' L A
     simp only[ar7,as3] at h;obtain⟨rfl,rfl⟩:=h;have K:=bt W o;have v:=oP H F V O (fun j B N hn=>Y j (g j (List.mem_append_left _ B)) N hn) K;have q:bB C.P n c:=by
      have:=ib (C:=u) n c _ _ (by rw[F.P];exact Q.1) v.2.2
      rwa [F.P] at this
     have D:wid n=C.P.cellsOf c:=dp H.lay _ _ q;have t:n≠ .cB:=by intro e;subst e;simp[bB] at q
     have R:(d.eval o).cells.size=C.P.cellsOf c:=by rw[v.2.1.resolve_right t,D]
     have hiz:i*C.P.cellsOf c+C.P.cellsOf c<=l.length*C.P.cellsOf c:=by
      have:=Nat.mul_le_mul_right (C.P.cellsOf c) (show i+1<=l.length by omega)
      rw[Nat.add_mul] at this;omega
     have k: ∀j,((d.eval o).cells.zipIdx.foldl (fun f (x:Value×Nat)=>f.setIfInBounds (i*C.P.cellsOf c+x.2) x.1) cells)[j]? =if i*C.P.cellsOf c<=j/\j<i*C.P.cellsOf c+C.P.cellsOf c then(d.eval o).cells[j - i*C.P.cellsOf c]? else cells[j]? :=fun j=>by
      have:=kM (i*C.P.cellsOf c) (d.eval o).cells.toList 0 cells j (by simp;omega)
      simp only[Nat.add_zero,Array.length_toList,R] at this;have e:((d.eval o).cells.zipIdx.foldl (fun f (x:Value×Nat)=>f.setIfInBounds (i*C.P.cellsOf c+x.2) x.1) cells)=(((d.eval o).cells.toList.zipIdx 0).foldl (fun f (x:Value×Nat)=>f.setIfInBounds (i*C.P.cellsOf c+x.2) x.1) cells):=by
       rw[←Array.foldl_toList];simp
      rw[e,this];simp
     have T:=ES z D l i (fun j=>cells[j]?) (fun j=>((d.eval o).cells.zipIdx.foldl (fun f (x:Value×Nat)=>f.setIfInBounds (i*C.P.cellsOf c+x.2) x.1) cells)[j]?) 0 (fun a ha=>tg H.lay l J a ha) Q.2 U
      (by rw[Nat.zero_add];exact qW z v (fun j B=>by rw[k,if_pos (by omega)];congr 1;omega) t) (fun j B t=>by rw[Nat.zero_add,k,if_neg (by omega)])
     have E:((d.eval o).cells.zipIdx.foldl (fun f (x:Value×Nat)=>f.setIfInBounds (i*C.P.cellsOf c+x.2) x.1) cells).size=(bH l i n).length*C.P.cellsOf c:=by
      rw[←Array.foldl_toList,oq,fH,r]
     obtain⟨b,g1,Z,g3,g4,g5⟩:=qb H z F V W y Y ps (bH l i n) m' L _ A (nq l i n J q) T E (fun j B=>g j (List.mem_append_right _ B));rw[fH] at Z g3;refine⟨b,?_,Z,g3,g4,g5⟩;simp only[at3,Instr.fill];rw[if_neg (by simp;omega)];exact g1
    ·simp at h
   ·simp at h
  ·simp at h
theorem vM{C:Ctx}(hI:Inv C){s:S}{act:Act}(hs:db C s act){T Te:TypeId}(hT:C.P.underlying T=some (.slice Te)){len:Nat}{parts:Array (Nat×Operand)}{z:AV}(hz:iq C.P Te=some z)(hpos:0<C.P.cellsOf Te)
  {m:List AV} {is:List Nat} (hp:la C.P Te C.st (fT z len) (ff s parts.toList)=some (m,is)) (hb:len*C.P.cellsOf Te<=16777216):
  ∃C' v,(Instr.buildSlice T len (parts.map fun x=>(x.1,act.eval x.2))).run C.P C.w= .ok v C'.w/\C'.st=cF C.st is++[.row Te m]/\Inv C'/\Ext C.st.length C C'/\Rel C' (.ak C.st.length 0 len) v:=by
 obtain⟨ti,zv,hi,hzv,hrz,hcz,hpz⟩:=dT hI hz;obtain⟨d,hd⟩:=jF hpz;have hzs:zv.cells.size=C.P.cellsOf Te:=by
  rw[hrz.2.1.resolve_right (by intro e;subst e;simp[bB] at hpz),dp hI.lay _ _ hpz]
 obtain⟨C1,f1,f2,f3,f4,f5,f6⟩:=mr is hI;have hl1:C1.st.length=C.st.length:=by rw[f1,iu]
 have hrz1:Rel C1 z zv:=hrz.pure f5.keeps hI.lay hpz;have hMR:=Cj f4 hrz1 (by rw[f5.keeps.P];exact hpz) (by rw[f5.keeps.P];exact hpos) len (len*C.P.cellsOf Te) (by rw[f5.keeps.P];omega) (s:=fun j=>((Array.range (len*C.P.cellsOf Te)).map fun x=>zv.cells[x % zv.cells.size]!)[j]?) (fun j _=>rfl);rw[f5.keeps.P] at hMR;obtain⟨cells',g1,g2,g3,g4,g5⟩:=fillAll hI f4 f5.keeps f2 hs f6 hp (j8 hpz len) hMR;have hml:m.length=len:=by rw[g3];simp[fT]
 have hold:=bI C1.w (.cells cells' Te);have hkk:=jy f4 hold (o:= .row Te m) (g:=⟨C1.w.heap.size,len,false⟩);have h:=fL f4 (o:= .row Te m) (g:=⟨C1.w.heap.size,len,false⟩) rfl (by rw[cW];omega) (gA _ _) hold (by
  refine⟨by show ck C1.P m Te;rw[f5.keeps.P];exact g4, .inr ⟨rfl,fun h=>by have:=f4.xs _ h;simp at this,cells',alloc_heap_new _ _,by show m.length<=len;omega,?_,?_,?_⟩⟩
  ·unfold maxLen;show len<=_
   have:len*1<=len*C.P.cellsOf Te:=Nat.mul_le_mul_left _ hpos
   omega
  ·show len*C1.P.cellsOf Te=_
   rw[f5.keeps.P,g2];simp[fT]
  ·have:=fJ hkk f4.lay m Te (fun j=>cells'[j]?) (cellAt (C1.w.alloc (.cells cells' Te)) C1.w.heap.size) 0 0 (by rw[f5.keeps.P];exact g4) (fun j _=>by rw[Nat.zero_add];exact iC _ _ _ _ _) (by rw[f5.keeps.P];exact g5)
   exact this)
 refine⟨C1.add (.row Te m) ⟨C1.w.heap.size,len,false⟩ (C1.w.alloc (.cells cells' Te)), .slice (some ⟨C1.w.heap.size,0,none⟩) len len,?_,by simp[Ctx.add,f1],h.1,f5.trans h.2 (by omega),?_⟩
 ·have e1:(Ctx.add C1 (.row Te m) ⟨C1.w.heap.size,len,false⟩ (C1.w.alloc (.cells cells' Te))).w=C1.w.alloc (.cells cells' Te):=rfl
  rw[e1,f2];unfold Instr.buildSlice;by_cases hc0:len*C.P.cellsOf Te=0
  ·have hl0:len=0:=by
    rcases Nat.mul_eq_zero.1 hc0 with h|h
    ·exact h
    ·omega
   subst hl0;simp only[Nat.zero_mul,show Array.range 0= #[] from rfl,Array.map_empty] at g1;simp only[Sem.run_bind,run_underlying hT,Result.andThen_ok,run_sizeOf hd,Nat.zero_mul];simp[g1,newRow,show Array.range 0= #[] from rfl]
  ·simp only[Sem.run_bind,run_underlying hT,Result.andThen_ok,run_sizeOf hd]
   rw[if_neg (by omega)];simp[hc0,jm hi hzv,g1,newRow]
 ·have:=IX h.1 (n:=len) (by omega) rfl (Nat.le_refl _)
  rw[hl1] at this;exact this
where
 fillAll {C C1:Ctx} (hI:Inv C) (hI1:Inv C1) (hk:bP C C1) (hw:C1.w=C.w) {s:S} {act:Act} (hs:db C s act) {Te:TypeId} {is:List Nat}
   (hX: ∀i,i∈is->i<C.st.length->yi C i->C1.X (C.ι i).block) {ps:List (Nat×Operand)} {l m:List AV} {cells:Array Value}
   (h:la C.P Te C.st l (ff s ps)=some (m,is)) (hp:ck C.P l Te) (hm:MR C1 l (C.P.cellsOf Te) (fun j=>cells[j]?) 0) (hsz:cells.size=l.length*C.P.cellsOf Te:=by simp[fT]):
   ∃cells':Array Value,Instr.fill (fun i=>some (i*C.P.cellsOf Te,C.P.cellsOf Te)) cells (ps.map fun p=>(p.1,act.eval p.2))=some cells'/\cells'.size=l.length*C.P.cellsOf Te/\m.length=l.length/\ck C.P m Te/\MR C1 m (C.P.cellsOf Te) (fun j=>cells'[j]?) 0:=
  qb hI hI1 hk hw hs is hX ps l m is cells h hp hm hsz (fun _ h=>h)
end Go.Dn
