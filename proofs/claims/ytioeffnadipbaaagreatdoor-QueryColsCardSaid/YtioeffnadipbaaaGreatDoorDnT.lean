import Derived.Test.YtioeffnadipbaaaGreatDoorDnS
namespace Go.Dn
open Go
theorem Og{C:Ctx}{z:Nat}: ∀(l:List AV) (s:Src) (o:Nat),(∀k,k<l.length->M C (nth l k) s (o+k*z))->MR C l z s o
 |[],_,_,_=>by simp[MR]
 |a::l,s,o,h=>by
  simp only[MR]
  refine⟨by simpa[nth] using h 0 (by simp),Og l s (o+z) (fun k hk=>?_)⟩
  have:=h (k+1) (by simpa using hk)
  simp only[nth] at this
  rwa [show o+z+k*z=o+(k+1)*z by rw[Nat.add_mul];omega]
theorem oY(a:AV): ∀(n k:Nat),k<n->nth (List.replicate n a) k=a
 |0,_,h=>by omega
 |n+1,0,_=>rfl
 |n+1,k+1,h=>by simp only[List.replicate_succ,nth];exact oY a n k (by omega)
theorem js{P:Program}{T:TypeId}{a:AV}(h:br P a T): ∀n,bC P (List.replicate n a) T
 |0=>by simp[bC]
 |n+1=>by simp only[List.replicate_succ,bC];exact⟨h,js h n⟩
theorem JL(zero:Array Value)(m j:Nat)(hj:j<m)(hz:0<zero.size):((Array.range m).map fun x=>zero[x % zero.size]!)[j]? =zero[j % zero.size]? :=by
 have:j % zero.size<zero.size:=Nat.mod_lt _ hz
 simp[hj,this]
theorem Ah{C:Ctx}(hI:Inv C){T:TypeId}{z:AV}{zv:Value}(hr:Rel C z zv)(hp:br C.P z T)(hz:0<C.P.cellsOf T)(n m:Nat)(hm:n*C.P.cellsOf T<=m){s:Src}
  (hs: ∀j,j<n*C.P.cellsOf T->s j=((Array.range m).map fun x=>zv.cells[x % zv.cells.size]!)[j]?):MR C (List.replicate n z) (C.P.cellsOf T) s 0:=by
 have hj:z≠ .cK:=by intro e;subst e;simp[br] at hp
 have hsz:zv.cells.size=C.P.cellsOf T:=by rw[hr.2.1.resolve_right hj,dn hI.lay _ _ hp]
 refine Og _ _ _ (fun k hk=>?_)
 simp only[List.length_replicate] at hk
 rw[oY _ _ _ hk,Nat.zero_add]
 have hk1:k*C.P.cellsOf T+C.P.cellsOf T<=n*C.P.cellsOf T:=by
  have:=Nat.mul_le_mul_right (C.P.cellsOf T) (show k+1<=n by omega)
  rw[Nat.add_mul] at this;omega
 refine qj hI hr (fun j hj=>?_) hj
 rw[hs _ (by omega),JL _ _ _ (by omega) (by omega)]
 congr 1
 rw[hsz,Nat.add_comm,Nat.add_mul_mod_self_right,Nat.mod_eq_of_lt (by omega)]
theorem DX{C:Ctx}{T:TypeId}{xs:List AV}{g:G}{w:World}(hI:Inv (C.add (.row T xs) g w)){n:Nat}(hn:n=xs.length)(hg:g.isNil=false)(hle:n<=g.cap):
  Rel (C.add (.row T xs) g w) (.aB C.st.length 0 n) (.slice (some ⟨g.block,0,none⟩) n g.cap):=by
 refine dV rfl rfl ?_ hI
 simp only[M]
 refine⟨by simp[Ctx.add],_,rfl,rfl,fun T0 ys hx=>?_,fun _ _ _ _ hx=>(by rw[bp.1] at hx;cases hx)⟩
 grind [bp.1,gC,bp.2]
theorem pe{C:Ctx}(_hI:Inv C){T Te:TypeId}(hT:C.P.underlying T=some (.slice Te)){n c:Int}{z:AV}{zv:Value}{ti:TypeInfo}(hi:C.P.info? Te=some ti)(hzv:ti.zero=some zv)(_hrz:Rel C z zv)(hpz:br C.P z Te)(hpos:0<C.P.cellsOf Te)(h0:0<=n)(h1:n<=c)(hb:(c.toNat+1)*(C.P.bytesOf Te+1)<=sW):
  (Instr.makeSlice T (.int .i64 n) (.int .i64 c)).run C.P C.w= .ok (.slice (some ⟨C.w.heap.size,0,none⟩) n.toNat c.toNat) (C.w.alloc (.cells ((Array.range (c.toNat*C.P.cellsOf Te)).map fun x=>zv.cells[x % zv.cells.size]!) Te)):=by
 obtain⟨d,hd⟩:=jd hpz
 obtain⟨his,hib⟩:=kI hi
 obtain⟨hb1,hb2⟩:=lE hb
 have hwn:IntKind.i64.wrap n=n:=IntWalk.i64_in n (by omega)
 have hwc:IntKind.i64.wrap c=c:=IntWalk.i64_in c (by omega)
 have hbc: ¬ ((ti.bytes:Int)*c>281474976710656):=by grind
 by_cases hc0:c.toNat*C.P.cellsOf Te=0
 ·have:c.toNat=0:=by
   rcases Nat.mul_eq_zero.1 hc0 with h|h
   ·exact h
   ·omega
  simp[Instr.makeSlice,run_underlying hT,asInt,asIntOf,typeInfo,hi,hwn,hwc,hbc,show ¬ c<0 by omega,show ¬ n<0 by omega,show ¬ c<n by omega,run_sizeOf hd,this,newRow]
  simp[show Array.range 0= #[] from rfl]
 ·simp[Instr.makeSlice,run_underlying hT,asInt,asIntOf,typeInfo,hi,hwn,hwc,hbc,show ¬ c<0 by omega,show ¬ n<0 by omega,show ¬ c<n by omega,run_sizeOf hd,hc0,newRow,jq hi hzv]
theorem wO{C:Ctx}(hI:Inv C){T Te:TypeId}(hT:C.P.underlying T=some (.slice Te)){n c:Int}{z:AV}(hz:gG C.P Te=some z)(hpos:0<C.P.cellsOf Te)(h0:0<=n)(h1:n<=c)(hb:(c.toNat+1)*(C.P.bytesOf Te+1)<=sW):
  ∃w' g,(Instr.makeSlice T (.int .i64 n) (.int .i64 c)).run C.P C.w= .ok (.slice (some ⟨g.block,0,none⟩) n.toNat g.cap) w'/\Inv (C.add (.row Te (eM z n.toNat)) g w')/\Ext C.st.length C (C.add (.row Te (eM z n.toNat)) g w')/\
   Rel (C.add (.row Te (eM z n.toNat)) g w') (.aB C.st.length 0 n.toNat) (.slice (some ⟨g.block,0,none⟩) n.toNat g.cap):=by
 obtain⟨ti,zv,hi,hzv,hrz,hcz,hpz⟩:=ec hI hz
 obtain⟨hb1,hb2⟩:=lE hb
 refine⟨C.w.alloc (.cells ((Array.range (c.toNat*C.P.cellsOf Te)).map fun x=>zv.cells[x % zv.cells.size]!) Te),⟨C.w.heap.size,c.toNat,false⟩,pe hI hT hi hzv hrz hpz hpos h0 h1 hb,?_⟩
 have hold:=bE C.w (.cells ((Array.range (c.toNat*C.P.cellsOf Te)).map fun x=>zv.cells[x % zv.cells.size]!) Te)
 have hcell:=hJ C.w ((Array.range (c.toNat*C.P.cellsOf Te)).map fun x=>zv.cells[x % zv.cells.size]!) Te (0,0)
 have hle:n.toNat*C.P.cellsOf Te<=c.toNat*C.P.cellsOf Te:=Nat.mul_le_mul_right _ (by omega)
 have hkk:=iQ hI hold (o:= .row Te (eM z n.toNat)) (g:=⟨C.w.heap.size,c.toNat,false⟩)
 have hMR:=Ah hI hrz hpz hpos n.toNat (c.toNat*C.P.cellsOf Te) hle (s:=cellAt (C.w.alloc (.cells ((Array.range (c.toNat*C.P.cellsOf Te)).map fun x=>zv.cells[x % zv.cells.size]!) Te)) C.w.heap.size) (fun j _=>hcell j)
 have hpl:=js hpz n.toNat
 have h:=fx hI (o:= .row Te (eM z n.toNat)) (g:=⟨C.w.heap.size,c.toNat,false⟩) rfl (by rw[cn];omega) (gl _ _) hold (by
  refine⟨hpl, .inr ⟨rfl,fun h=>by have:=hI.xs _ h;simp at this,_,alloc_heap_new _ _,by simp[eM];omega,by unfold maxLen;show c.toNat<=_;omega,by simp[Ctx.add],?_⟩⟩
  exact fI hkk hI.lay _ Te _ _ 0 0 hpl (fun _ _=>rfl) hMR)
 exact⟨h.1,h.2,DX h.1 (by simp[eM]) rfl (by show n.toNat<=c.toNat;omega)⟩
theorem j9: ∀n k,ej (List.replicate n []) k=[]
 |0,_=>rfl
 |_+1,0=>rfl
 |n+1,k+1=>j9 n k
theorem Ac{C:Ctx}(hI:Inv C){T Te E:TypeId}(hT:C.P.underlying T=some (.slice Te))(hTe:C.P.underlying Te=some (.slice E))(hE:qz C.P E=true)(hz1:C.P.cellsOf Te=1){n c:Int}(hz:gG C.P Te=some (.lit (.slice none 0 0)))(h0:0<=n)(h1:n<=c)(hb:(c.toNat+1)*(C.P.bytesOf Te+1)<=sW):
  ∃v w' g,(Instr.makeSlice T (.int .i64 n) (.int .i64 c)).run C.P C.w= .ok v w'/\ep v=false/\Inv (C.add (.rows Te E (List.replicate n.toNat []) none) g w')/\Ext C.st.length C (C.add (.rows Te E (List.replicate n.toNat []) none) g w')/\
   Rel (C.add (.rows Te E (List.replicate n.toNat []) none) g w') (.aB C.st.length 0 n.toNat) v:=by
 obtain⟨ti,zv,hi,hzv,hrz,hcz,hpz⟩:=ec hI hz
 obtain rfl:=aH hrz
 refine⟨_,_,⟨C.w.heap.size,0,false⟩,pe hI hT hi hzv hrz hpz (by omega) h0 h1 hb,rfl,?_⟩
 rw[hz1,Nat.mul_one]
 have hold:=bE C.w (.cells ((Array.range c.toNat).map fun x=>(Value.slice none 0 0).cells[x % (Value.slice none 0 0).cells.size]!) Te)
 have h:=fx hI (o:= .rows Te E (List.replicate n.toNat []) none) (g:=⟨C.w.heap.size,0,false⟩) rfl (by rw[cn];omega) (gl _ _) hold (by
  refine⟨fun h=>by have:=hI.xs _ h;simp at this,hTe,hE,fun k v hv=>(by rw[j9] at hv;cases hv),_,alloc_heap_new _ _,by simp;omega,fun k hk _=>⟨.slice none 0 0,?_,?_⟩⟩
  ·simp only[List.length_replicate] at hk
   have hk':k<c.toNat:=by omega
   simp[hk',Value.cells,Nat.mod_one]
  ·rw[j9]
   exact⟨Nat.le_refl _, .inl ⟨rfl,rfl⟩⟩)
 refine⟨h.1,h.2,dV rfl rfl ?_ h.1⟩
 simp only[M]
 refine⟨by simp[Ctx.add],_,rfl,rfl,fun T0 ys hx=>(by rw[bp.1] at hx;simp[gC] at hx),fun T0 E0 l0 p0 hx=>?_⟩
 rw[bp.1] at hx
 cases hx
 rw[bp.2]
 exact⟨by simp,c.toNat,rfl,by omega⟩
theorem pj{C C1:Ctx}(hI:Inv C)(hI1:Inv C1)(hk:bH C C1)(hw:C1.w=C.w){s:S}{act:Act}(hs:db C s act){Te:TypeId}(is0:List Nat)(hX: ∀i,i∈is0->i<C.st.length->wz C i->C1.X (C.ι i).block):
  ∀(ps:List (Nat×Operand)) (l m:List AV) (is:List Nat) (cells:Array Value),ka C.P Te C.st l (fh s ps)=some (m,is)->bC C.P l Te->MR C1 l (C.P.cellsOf Te) (fun j=>cells[j]?) 0->cells.size=l.length*C.P.cellsOf Te->(∀i,i∈is->i∈is0)->
   ∃cells':Array Value,Instr.fill (fun i=>some (i*C.P.cellsOf Te,C.P.cellsOf Te)) cells (ps.map fun p=>(p.1,act.eval p.2))=some cells'/\cells'.size=l.length*C.P.cellsOf Te/\m.length=l.length/\bC C.P m Te/\MR C1 m (C.P.cellsOf Te) (fun j=>cells'[j]?) 0
 |[],l,m,is,cells,h,hp,hm,hsz,_=>by
  simp only[fh,ka,aa3,aa9] at h
  obtain⟨rfl,rfl⟩:=h
  exact⟨cells,rfl,hsz,rfl,hp,hm⟩
 | (i, o)::ps,l,m,is,cells,h,hp,hm,hsz,hsub=>by
  simp only[fh,ka] at h
  split at h
  ·rename_i x' hx'
   split at h
   ·rename_i hc
    simp only[aa1,aa0] at hc
    split at h
    ·rename_i m' is' hrec
     simp only[aa3,aa9] at h
     obtain⟨rfl,rfl⟩:=h
     have hre:=bm hs o
     have hrx:=nk hI hk hw hx' (fun j hj hlt hn=>hX j (hsub j (ab4 _ hj)) hlt hn) hre
     have hpt:br C.P x' Te:=by
      have:=gn (C:=C1) x' Te _ _ (by rw[hk.P];exact hc.1) hrx.2.2
      rwa [hk.P] at this
     have hwx:wid x'=C.P.cellsOf Te:=dn hI.lay _ _ hpt
     have hnj:x'≠ .cK:=by intro e;subst e;simp[br] at hpt
     have hvs:(act.eval o).cells.size=C.P.cellsOf Te:=by rw[hrx.2.1.resolve_right hnj,hwx]
     have hiz:i*C.P.cellsOf Te+C.P.cellsOf Te<=l.length*C.P.cellsOf Te:=by
      have:=Nat.mul_le_mul_right (C.P.cellsOf Te) (show i+1<=l.length by omega)
      rw[Nat.add_mul] at this;omega
     have hsrc: ∀j,((act.eval o).cells.zipIdx.foldl (fun cs (x:Value×Nat)=>cs.setIfInBounds (i*C.P.cellsOf Te+x.2) x.1) cells)[j]? =if i*C.P.cellsOf Te<=j/\j<i*C.P.cellsOf Te+C.P.cellsOf Te then(act.eval o).cells[j - i*C.P.cellsOf Te]? else cells[j]? :=fun j=>by
      have:=kh (i*C.P.cellsOf Te) (act.eval o).cells.toList 0 cells j (by simp;omega)
      simp only[Nat.add_zero,Array.length_toList,hvs] at this
      have e:((act.eval o).cells.zipIdx.foldl (fun cs (x:Value×Nat)=>cs.setIfInBounds (i*C.P.cellsOf Te+x.2) x.1) cells)=(((act.eval o).cells.toList.zipIdx 0).foldl (fun cs (x:Value×Nat)=>cs.setIfInBounds (i*C.P.cellsOf Te+x.2) x.1) cells):=by
       rw[←Array.foldl_toList];simp
      rw[e,this]
      simp
     have hMR:=DF hI1 hwx l i (fun j=>cells[j]?) (fun j=>((act.eval o).cells.zipIdx.foldl (fun cs (x:Value×Nat)=>cs.setIfInBounds (i*C.P.cellsOf Te+x.2) x.1) cells)[j]?) 0 (fun a ha=>r9 hI.lay l hp a ha) hc.2 hm
      (by rw[Nat.zero_add];exact qj hI1 hrx (fun j hj=>by rw[hsrc,if_pos (by omega)];congr 1;omega) hnj) (fun j hj hnj=>by rw[Nat.zero_add,hsrc,if_neg (by omega)])
     have hsz2:((act.eval o).cells.zipIdx.foldl (fun cs (x:Value×Nat)=>cs.setIfInBounds (i*C.P.cellsOf Te+x.2) x.1) cells).size=(bJ l i x').length*C.P.cellsOf Te:=by
      rw[←Array.foldl_toList,nX,eD,hsz]
     obtain⟨cells',g1,g2,g3,g4,g5⟩:=pj hI hI1 hk hw hs is0 hX ps (bJ l i x') m' is' _ hrec (l5 l i x' hp hpt) hMR hsz2 (fun j hj=>hsub j (ab3 _ hj))
     rw[eD] at g2 g3
     refine⟨cells',?_,g2,g3,g4,g5⟩
     simp only[ac0,Instr.fill]
     rw[if_neg (by simp;omega)]
     exact g1
    ·simp at h
   ·simp at h
  ·simp at h
theorem wa{C:Ctx}(hI:Inv C){s:S}{act:Act}(hs:db C s act){T Te:TypeId}(hT:C.P.underlying T=some (.slice Te)){len:Nat}{parts:Array (Nat×Operand)}{z:AV}(hz:gG C.P Te=some z)(hpos:0<C.P.cellsOf Te)
  {m:List AV} {is:List Nat} (hp:ka C.P Te C.st (eM z len) (fh s parts.toList)=some (m,is)) (hb:len*C.P.cellsOf Te<=16777216):
  ∃C' v,(Instr.buildSlice T len (parts.map fun x=>(x.1,act.eval x.2))).run C.P C.w= .ok v C'.w/\C'.st=cD C.st is++[.row Te m]/\Inv C'/\Ext C.st.length C C'/\Rel C' (.aB C.st.length 0 len) v:=by
 obtain⟨ti,zv,hi,hzv,hrz,hcz,hpz⟩:=ec hI hz
 obtain⟨d,hd⟩:=jd hpz
 have hzs:zv.cells.size=C.P.cellsOf Te:=by
  rw[hrz.2.1.resolve_right (by intro e;subst e;simp[br] at hpz),dn hI.lay _ _ hpz]
 obtain⟨C1,f1,f2,f3,f4,f5,f6⟩:=lu is hI
 have hl1:C1.st.length=C.st.length:=by rw[f1,hH]
 have hrz1:Rel C1 z zv:=hrz.pure f5.keeps hI.lay hpz
 have hMR:=Ah f4 hrz1 (by rw[f5.keeps.P];exact hpz) (by rw[f5.keeps.P];exact hpos) len (len*C.P.cellsOf Te) (by rw[f5.keeps.P];omega) (s:=fun j=>((Array.range (len*C.P.cellsOf Te)).map fun x=>zv.cells[x % zv.cells.size]!)[j]?) (fun j _=>rfl)
 rw[f5.keeps.P] at hMR
 obtain⟨cells',g1,g2,g3,g4,g5⟩:=fillAll hI f4 f5.keeps f2 hs f6 hp (js hpz len) hMR
 have hml:m.length=len:=by rw[g3];simp[eM]
 have hold:=bE C1.w (.cells cells' Te)
 have hkk:=iQ f4 hold (o:= .row Te m) (g:=⟨C1.w.heap.size,len,false⟩)
 have h:=fx f4 (o:= .row Te m) (g:=⟨C1.w.heap.size,len,false⟩) rfl (by rw[cn];omega) (gl _ _) hold (by
  refine⟨by show bC C1.P m Te;rw[f5.keeps.P];exact g4, .inr ⟨rfl,fun h=>by have:=f4.xs _ h;simp at this,cells',alloc_heap_new _ _,by show m.length<=len;omega,?_,?_,?_⟩⟩
  ·unfold maxLen;show len<=_
   have:len*1<=len*C.P.cellsOf Te:=Nat.mul_le_mul_left _ hpos
   omega
  ·show len*C1.P.cellsOf Te=_
   rw[f5.keeps.P,g2];simp[eM]
  ·have:=fI hkk f4.lay m Te (fun j=>cells'[j]?) (cellAt (C1.w.alloc (.cells cells' Te)) C1.w.heap.size) 0 0 (by rw[f5.keeps.P];exact g4) (fun j _=>by rw[Nat.zero_add];exact hJ _ _ _ _ _) (by rw[f5.keeps.P];exact g5)
   exact this)
 refine⟨C1.add (.row Te m) ⟨C1.w.heap.size,len,false⟩ (C1.w.alloc (.cells cells' Te)), .slice (some ⟨C1.w.heap.size,0,none⟩) len len,?_,by simp[Ctx.add,f1],h.1,f5.trans h.2 (by omega),?_⟩
 ·have e1:(Ctx.add C1 (.row Te m) ⟨C1.w.heap.size,len,false⟩ (C1.w.alloc (.cells cells' Te))).w=C1.w.alloc (.cells cells' Te):=rfl
  rw[e1,f2]
  unfold Instr.buildSlice
  by_cases hc0:len*C.P.cellsOf Te=0
  ·have hl0:len=0:=by
    rcases Nat.mul_eq_zero.1 hc0 with h|h
    ·exact h
    ·omega
   subst hl0
   simp only[Nat.zero_mul,show Array.range 0= #[] from rfl,Array.map_empty] at g1
   simp only[Sem.run_bind,run_underlying hT,Result.andThen_ok,run_sizeOf hd,Nat.zero_mul]
   simp[g1,newRow,show Array.range 0= #[] from rfl]
  ·simp only[Sem.run_bind,run_underlying hT,Result.andThen_ok,run_sizeOf hd]
   rw[if_neg (by omega)]
   simp[hc0,jq hi hzv,g1,newRow]
 ·have:=DX h.1 (n:=len) (by omega) rfl (Nat.le_refl _)
  rw[hl1] at this
  exact this
where
 fillAll {C C1:Ctx} (hI:Inv C) (hI1:Inv C1) (hk:bH C C1) (hw:C1.w=C.w) {s:S} {act:Act} (hs:db C s act) {Te:TypeId} {is:List Nat}
   (hX: ∀i,i∈is->i<C.st.length->wz C i->C1.X (C.ι i).block) {ps:List (Nat×Operand)} {l m:List AV} {cells:Array Value}
   (h:ka C.P Te C.st l (fh s ps)=some (m,is)) (hp:bC C.P l Te) (hm:MR C1 l (C.P.cellsOf Te) (fun j=>cells[j]?) 0) (hsz:cells.size=l.length*C.P.cellsOf Te:=by simp[eM]):
   ∃cells':Array Value,Instr.fill (fun i=>some (i*C.P.cellsOf Te,C.P.cellsOf Te)) cells (ps.map fun p=>(p.1,act.eval p.2))=some cells'/\cells'.size=l.length*C.P.cellsOf Te/\m.length=l.length/\bC C.P m Te/\MR C1 m (C.P.cellsOf Te) (fun j=>cells'[j]?) 0:=
  pj hI hI1 hk hw hs is hX ps l m is cells h hp hm hsz (fun _ h=>h)
end Go.Dn
