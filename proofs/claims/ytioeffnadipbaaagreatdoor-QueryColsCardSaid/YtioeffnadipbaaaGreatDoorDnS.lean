import Derived.Test.YtioeffnadipbaaaGreatDoorDnR
namespace Go.Dn
open Go
theorem jX(w:World):w.drew.heap=w.heap:=rfl
theorem kI{P:Program}{T:TypeId}{i:TypeInfo}(h:P.info? T=some i):i.size=P.cellsOf T/\i.bytes=P.bytesOf T:=by
 simp[Program.cellsOf,Program.bytesOf,h]
theorem lE{need by_:Nat}(h:(need+1)*(by_+1)<=sW):need*by_<=140737488355328/\need<=140737488355328:=by
 have h1:need*by_<=(need+1)*(by_+1):=Nat.mul_le_mul (by omega) (by omega)
 have h2:(need+1)*1<=(need+1)*(by_+1):=Nat.mul_le_mul (Nat.le_refl _) (by omega)
 unfold sW at h
 omega
theorem oh{C C':Ctx}(hl:eI C.P)(hk:bH C C'){Te:TypeId}{olds news zs:List Value}{xs ys:List AV}{b:Nat}(hpx:bC C.P xs Te)(hpy:bC C.P ys Te)
  {sx sy:Src} {ox oy:Nat} (hx:xs≠[]->MR C xs (C.P.cellsOf Te) sx ox) (hy:ys≠[]->MR C ys (C.P.cellsOf Te) sy oy) (hlo:olds.length=xs.length*C.P.cellsOf Te) (hln:news.length=ys.length*C.P.cellsOf Te)
  (ho: ∀j,j<olds.length->olds[j]? =sx (ox+j)) (hn: ∀j,j<news.length->news[j]? =sy (oy+j)) {s':Src} (hs': ∀j,s' j=(olds++news++zs)[j]?) (_hb:b=b):
  MR C' (xs++ys) (C.P.cellsOf Te) s' 0:=by
 refine xp xs ys _ s' 0 ?_ ?_
 ·by_cases h:xs=[]
  ·subst h;simp[MR]
  ·grind [fI]
 ·by_cases h:ys=[]
  ·subst h;simp[MR]
  ·grind [fI]
theorem vd{C:Ctx}(hI:Inv C){T Te ty:TypeId}(hT:C.P.underlying T=some (.slice Te)){y:AV}{Ty:Option TypeId}{ys:List AV}{vy:Value}(hy:oN C.st y=some (Ty,ys))(hf:mV Ty Te=true)(hr:Rel C y vy)
  {z:AV} (hz:gG C.P Te=some z) (hb:(ys.length+1)*(C.P.bytesOf Te+1)<=sW):
  ∃v' w' g,(Builtin.append_ #[T,T] ty #[.slice none 0 0,vy]).run C.P C.w= .ok v' w'/\Inv (C.add (.row Te ys) g w')/\Ext C.st.length C (C.add (.row Te ys) g w')/\Rel (C.add (.row Te ys) g w') (.aB C.st.length 0 ys.length) v':=by
 obtain⟨p,c,rfl,hp,hne⟩:=rR hI hy hf hr
 obtain⟨i,zv,hi,hzv,hrz,hcz,hpz⟩:=ec hI hz
 obtain⟨d,hd⟩:=jd hpz
 obtain⟨his,hib⟩:=kI hi
 obtain⟨hb1,hb2⟩:=lE hb
 have mkslc: ∀{g:G} {w':World} {v':Value},Inv (C.add (.row Te ys) g w')->ep v'=false->a9 v'=true->((g.isNil=true/\v'= .slice none 0 0/\ys=[])\/(g.isNil=false/\v'= .slice (some ⟨g.block,0,none⟩) ys.length g.cap/\ys.length<=g.cap))->
   Rel (C.add (.row Te ys) g w') (.aB C.st.length 0 ys.length) v':=fun{g w' v'} hI' ha h1 hv=>by
  refine dV rfl ha ?_ hI'
  simp only[M]
  refine⟨by simp[Ctx.add],_,rfl,h1,fun T0 xs hx=>?_,fun _ _ _ _ hx=>(by rw[bp.1] at hx;cases hx)⟩
  rw[bp.1] at hx
  simp only[gC,aa3,aa9] at hx
  obtain⟨rfl,rfl⟩:=hx
  refine⟨by omega,?_⟩
  rw[bp.2]
  rcases hv with⟨h2,h3,h4⟩|⟨h2,h3,h4⟩
  ·exact .inl ⟨h2,h3,rfl,by rw[h4];rfl⟩
  ·exact .inr ⟨h2,g.cap,_,h3, .inl (by simp),h4,by omega⟩
 by_cases h0:ys=[]
 ·subst h0
  refine⟨.slice none 0 0,C.w,⟨C.w.heap.size,0,true⟩,fN hT hd none p 0 0 c (Nat.le_refl _),?_⟩
  have h:=fx hI (o:= .row Te []) (g:=⟨C.w.heap.size,0,true⟩) (w:=C.w) rfl (Nat.le_refl _) ⟨rfl,rfl,rfl⟩ (fun _ _=>rfl) ⟨trivial, .inl ⟨rfl,rfl⟩⟩
  exact⟨h.1,h.2,mkslc h.1 rfl rfl (.inl ⟨rfl,rfl,rfl⟩)⟩
 ·obtain⟨b,off,rfl,hm⟩:=hne h0
  have hlen:0<ys.length:=List.length_pos_iff.2 h0
  have hsome:=qn hI.lay ys _ off hp hm
  have hnews:=gM (cellAt C.w b) off (ys.length*C.P.cellsOf Te)
  have hrun:=run_append_nil (P:=C.P) C.w T ty Te i zv hT hi hzv ⟨b,off,none⟩ ys.length c (cV (cellAt C.w b) off (ys.length*C.P.cellsOf Te)) (by rw[hnews,his]) (fun j v hv=>by
   have hj:j<ys.length*C.P.cellsOf Te:=by
    have:=(List.getElem?_eq_some_iff.1 hv).1;omega
   rw[gD hsome hj] at hv
   rw[eg];exact hv) hlen (by omega) (by rw[hib];omega)
  refine⟨_,_,⟨C.w.heap.size,grownCap C.w ys.length 0 Te,false⟩,hrun,?_⟩
  have hge:=grownCap_ge C.w ys.length 0 Te
  have hmx:=grownCap_le_maxLen C.w ys.length 0 Te (by unfold maxLen;omega)
  have hzs:zv.cells.size=C.P.cellsOf Te:=by
   rw[hrz.2.1.resolve_right (by intro e;subst e;simp[br] at hpz),dn hI.lay _ _ hpz]
  have hold:=bE C.w.drew (.cells ((cV (cellAt C.w b) off (ys.length*C.P.cellsOf Te)).toArray++Builtin.zeroCells zv.cells (grownCap C.w ys.length 0 Te - ys.length)) Te)
  have hcell:=hJ C.w.drew ((cV (cellAt C.w b) off (ys.length*C.P.cellsOf Te)).toArray++Builtin.zeroCells zv.cells (grownCap C.w ys.length 0 Te - ys.length)) Te (0,0)
  have h:=fx hI (o:= .row Te ys) (g:=⟨C.w.heap.size,grownCap C.w ys.length 0 Te,false⟩) (w:=C.w.drew.alloc (.cells ((cV (cellAt C.w b) off (ys.length*C.P.cellsOf Te)).toArray++Builtin.zeroCells zv.cells (grownCap C.w ys.length 0 Te - ys.length)) Te)) rfl
   (by rw[cn,jX];omega) ⟨rfl,rfl,rfl⟩ hold (by
    refine⟨hp, .inr ⟨rfl,fun h=>by have:=hI.xs _ h;simp at this,_,alloc_heap_new _ _,hge,hmx,?_,?_⟩⟩
    ·simp only[Array.size_append,List.size_toArray,size_zeroCells,hzs,hnews]
     show grownCap C.w ys.length 0 Te*C.P.cellsOf Te=_
     rw[←Nat.add_mul];congr 1;omega
    ·have:=oh (C':=C.add (.row Te ys) ⟨C.w.heap.size,grownCap C.w ys.length 0 Te,false⟩ (C.w.drew.alloc (.cells ((cV (cellAt C.w b) off (ys.length*C.P.cellsOf Te)).toArray++Builtin.zeroCells zv.cells (grownCap C.w ys.length 0 Te - ys.length)) Te))) hI.lay (iQ hI hold)
      (olds:=[]) (xs:=[]) (sx:=cellAt C.w b) (ox:=0) trivial hp (fun h=>absurd rfl h) (fun _=>hm) (by simp) hnews (fun j hj=>by simp at hj) (fun j hj=>gD hsome (by omega))
      (s':=cellAt (C.w.drew.alloc (.cells ((cV (cellAt C.w b) off (ys.length*C.P.cellsOf Te)).toArray++Builtin.zeroCells zv.cells (grownCap C.w ys.length 0 Te - ys.length)) Te)) C.w.heap.size)
      (zs:=(Builtin.zeroCells zv.cells (grownCap C.w ys.length 0 Te - ys.length)).toList) (fun j=>by rw[←jX,hcell j,←Array.getElem?_toList];simp) (b:=0) rfl
     simp only[List.nil_append] at this
     exact this)
  exact⟨h.1,h.2,mkslc h.1 rfl rfl (.inr ⟨rfl,rfl,hge⟩)⟩
theorem uT{C:Ctx}(hI:Inv C){T Te ty:TypeId}(hT:C.P.underlying T=some (.slice Te)){i n:Nat}{xs:List AV}(hrow:an C.st i= .row Te xs){vx:Value}(hrx:Rel C (.aB i 0 n) vx)
  {y:AV} {Ty:Option TypeId} {ys:List AV} {vy:Value} (hy:oN C.st y=some (Ty,ys)) (hf:mV Ty Te=true) (hr:Rel C y vy)
  {z:AV} (hz:gG C.P Te=some z) (hb:(n+ys.length+1)*(C.P.bytesOf Te+1)<=sW):
  ∃v' w' g,(Builtin.append_ #[T,T] ty #[vx,vy]).run C.P C.w= .ok v' w'/\Inv (C.app i (.row Te (xs.take n++ys)) g w')/\Ext C.st.length C (C.app i (.row Te (xs.take n++ys)) g w')/\
   Rel (C.app i (.row Te (xs.take n++ys)) g w') (.aB C.st.length 0 (n+ys.length)) v':=by
 obtain⟨p,c,rfl,hp,hne⟩:=rR hI hy hf hr
 obtain⟨ti,zv,hi,hzv,hrz,hcz,hpz⟩:=ec hI hz
 obtain⟨d,hd⟩:=jd hpz
 obtain⟨his,hib⟩:=kI hi
 obtain⟨hb1,hb2⟩:=lE hb
 obtain⟨hil,hs⟩:=fy hrx
 obtain⟨hlen,hv⟩:=hs.1 Te xs (by rw[hrow];rfl)
 have htl:(xs.take n).length=n:=by simp;omega
 have hob:=hI.obj i hil
 rw[hrow] at hob
 obtain⟨hpx,hob⟩:=hob
 have hpxt:=iW xs n hpx
 have mkslc: ∀{g:G} {w':World} {v':Value},Inv (C.app i (.row Te (xs.take n++ys)) g w')->ep v'=false->a9 v'=true->
   ((g.isNil=true/\v'= .slice none 0 0/\n+ys.length=0)\/(g.isNil=false/\∃cap,v'= .slice (some ⟨g.block,0,none⟩) (n+ys.length) cap/\n+ys.length<=cap/\cap<=g.cap))->
   Rel (C.app i (.row Te (xs.take n++ys)) g w') (.aB C.st.length 0 (n+ys.length)) v':=fun{g w' v'} hI' ha h1 hv=>by
  refine dV rfl ha ?_ hI'
  simp only[M]
  refine⟨by rw[mc];omega,_,rfl,h1,fun T0 zs hx=>?_,fun _ _ _ _ hx=>(by rw[jS.1] at hx;cases hx)⟩
  rw[jS.1] at hx
  simp only[gC,aa3,aa9] at hx
  obtain⟨rfl,rfl⟩:=hx
  refine⟨by rw[ab8,htl];omega,?_⟩
  rw[jS.2]
  rcases hv with⟨h2,h3,h4⟩|⟨h2,cap,h3,h4,h5⟩
  ·exact .inl ⟨h2,h3,rfl,h4⟩
  ·exact .inr ⟨h2,cap,_,h3, .inl (by simp),h4,by omega⟩
 rcases hv with⟨hnil,rfl,_,rfl⟩|⟨hnn,cap,q,rfl,hq,hc1,hc2⟩
 ·
  have hxs:xs=[]:=by
   rcases hob with⟨_,h⟩|⟨h,_⟩
   ·exact h
   ·rw[hnil] at h;cases h
  subst hxs
  by_cases h0:ys=[]
  ·subst h0
   refine⟨.slice none 0 0,C.w,⟨C.w.heap.size,0,true⟩,fN hT hd none p 0 0 c (Nat.le_refl _),?_⟩
   have h:=qk hI hil hrow (o:= .row Te []) (g:=⟨C.w.heap.size,0,true⟩) (w:=C.w) (.inr rfl) (Nat.le_refl _) ⟨rfl,rfl,rfl⟩ (fun _ _ _=>rfl) ⟨trivial, .inl ⟨rfl,rfl⟩⟩
   exact⟨h.1,h.2,mkslc h.1 rfl rfl (.inl ⟨rfl,rfl,rfl⟩)⟩
  ·obtain⟨b,off,rfl,hm⟩:=hne h0
   have hlen0:0<ys.length:=List.length_pos_iff.2 h0
   have hsome:=qn hI.lay ys _ off hp hm
   have hnews:=gM (cellAt C.w b) off (ys.length*C.P.cellsOf Te)
   have hrun:=run_append_nil (P:=C.P) C.w T ty Te ti zv hT hi hzv ⟨b,off,none⟩ ys.length c (cV (cellAt C.w b) off (ys.length*C.P.cellsOf Te)) (by rw[hnews,his]) (fun j v hv=>by
    have hj:j<ys.length*C.P.cellsOf Te:=by
     have:=(List.getElem?_eq_some_iff.1 hv).1;omega
    rw[gD hsome hj] at hv
    rw[eg];exact hv) hlen0 (by omega) (by rw[hib];simp only[Nat.zero_add] at hb1;omega)
   refine⟨_,_,⟨C.w.heap.size,grownCap C.w ys.length 0 Te,false⟩,hrun,?_⟩
   have hge:=grownCap_ge C.w ys.length 0 Te
   have hmx:=grownCap_le_maxLen C.w ys.length 0 Te (by unfold maxLen;omega)
   have hzs:zv.cells.size=C.P.cellsOf Te:=by
    rw[hrz.2.1.resolve_right (by intro e;subst e;simp[br] at hpz),dn hI.lay _ _ hpz]
   have hcell:=hJ C.w.drew ((cV (cellAt C.w b) off (ys.length*C.P.cellsOf Te)).toArray++Builtin.zeroCells zv.cells (grownCap C.w ys.length 0 Te - ys.length)) Te (0,0)
   have hold:=bE C.w.drew (.cells ((cV (cellAt C.w b) off (ys.length*C.P.cellsOf Te)).toArray++Builtin.zeroCells zv.cells (grownCap C.w ys.length 0 Te - ys.length)) Te)
   have h:=qk hI hil hrow (o:= .row Te ys) (g:=⟨C.w.heap.size,grownCap C.w ys.length 0 Te,false⟩) (w:=C.w.drew.alloc (.cells ((cV (cellAt C.w b) off (ys.length*C.P.cellsOf Te)).toArray++Builtin.zeroCells zv.cells (grownCap C.w ys.length 0 Te - ys.length)) Te)) (.inr rfl)
    (by rw[cn,jX];omega) ⟨rfl,rfl,rfl⟩ (fun b hb _=>hold b hb) (by
     refine⟨hp, .inr ⟨rfl,fun h=>by have:=hI.xs _ h;simp at this,_,alloc_heap_new _ _,hge,hmx,?_,?_⟩⟩
     ·simp only[Array.size_append,List.size_toArray,size_zeroCells,hzs,hnews]
      show grownCap C.w ys.length 0 Te*C.P.cellsOf Te=_
      rw[←Nat.add_mul];congr 1;omega
     ·have:=oh (C':=C.app i (.row Te ys) ⟨C.w.heap.size,grownCap C.w ys.length 0 Te,false⟩ (C.w.drew.alloc (.cells ((cV (cellAt C.w b) off (ys.length*C.P.cellsOf Te)).toArray++Builtin.zeroCells zv.cells (grownCap C.w ys.length 0 Te - ys.length)) Te))) hI.lay (lK hI hil hrow (.inr rfl) (fun b hb _=>hold b hb))
       (olds:=[]) (xs:=[]) (sx:=cellAt C.w b) (ox:=0) trivial hp (fun h=>absurd rfl h) (fun _=>hm) (by simp) hnews (fun j hj=>by simp at hj) (fun j hj=>gD hsome (by omega))
       (s':=cellAt (C.w.drew.alloc (.cells ((cV (cellAt C.w b) off (ys.length*C.P.cellsOf Te)).toArray++Builtin.zeroCells zv.cells (grownCap C.w ys.length 0 Te - ys.length)) Te)) C.w.heap.size)
       (zs:=(Builtin.zeroCells zv.cells (grownCap C.w ys.length 0 Te - ys.length)).toList) (fun j=>by rw[←jX,hcell j,←Array.getElem?_toList];simp) (b:=0) rfl
      simp only[List.nil_append] at this
      exact this)
   exact⟨h.1,h.2,mkslc h.1 rfl rfl (.inr ⟨rfl,_,by simp,by simpa using hge,Nat.le_refl _⟩)⟩
 ·
  have hq':q=⟨(C.ι i).block,0,none⟩:=by
   rcases hq with h|⟨_,h⟩
   ·simpa using h
   ·omega
  subst hq'
  have hcap:cap<=(C.ι i).cap:=by omega
  rcases hob with⟨h,_⟩|⟨_,hnX,cur,hh,hxc,hcm,hcs,hmx⟩
  ·rw[hnn] at h;cases h
  have hmt:=qf xs n _ _ _ hmx
  by_cases h0:ys=[]
  ·subst h0
   refine⟨.slice (some ⟨(C.ι i).block,0,none⟩) n cap,C.w,⟨(C.ι i).block,(C.ι i).cap,false⟩,fN hT hd _ p n cap c hc1,?_⟩
   have h:=qk hI hil hrow (o:= .row Te (xs.take n++[])) (g:=⟨(C.ι i).block,(C.ι i).cap,false⟩) (w:=C.w) (.inl ⟨rfl,hnn⟩) (Nat.le_refl _) ⟨rfl,rfl,rfl⟩ (fun _ _ _=>rfl) (by
    have hkk:=lK hI hil hrow (o:= .row Te (xs.take n++[])) (g:=⟨(C.ι i).block,(C.ι i).cap,false⟩) (w:=C.w) (.inl ⟨rfl,hnn⟩) (fun _ _ _=>rfl)
    refine⟨by rw[List.append_nil];exact hpxt, .inr ⟨rfl,hnX,cur,hh,by simp;omega,hcm,hcs,?_⟩⟩
    rw[List.append_nil] at hkk⊢
    have:=fI hkk hI.lay (xs.take n) Te _ (cellAt C.w (C.ι i).block) 0 0 hpxt (fun _ _=>rfl) hmt
    exact this)
   exact⟨h.1,h.2,mkslc h.1 rfl rfl (.inr ⟨rfl,cap,by simp,by simp;omega,hcap⟩)⟩
  ·obtain⟨b,off,rfl,hm⟩:=hne h0
   have hlen0:0<ys.length:=List.length_pos_iff.2 h0
   have hsome:=qn hI.lay ys _ off hp hm
   have hsomex:=qn hI.lay (xs.take n) _ 0 hpxt hmt
   rw[htl] at hsomex
   have hnews:=gM (cellAt C.w b) off (ys.length*C.P.cellsOf Te)
   have hnat: ∀j v,(cV (cellAt C.w b) off (ys.length*C.P.cellsOf Te))[j]? =some v->C.w.cell? ((⟨b,off,none⟩:Addr).add j)=some v:=fun j v hv=>by
    have hj:j<ys.length*C.P.cellsOf Te:=by
     have:=(List.getElem?_eq_some_iff.1 hv).1;omega
    rw[gD hsome hj] at hv
    rw[eg];exact hv
   have hncap:n*C.P.cellsOf Te<=cur.size:=by rw[←hcs];exact Nat.mul_le_mul_right _ (by omega)
   by_cases hroom:n+ys.length<=cap
   ·have hfit:n*C.P.cellsOf Te+(cV (cellAt C.w b) off (ys.length*C.P.cellsOf Te)).length<=cur.size:=by
     rw[hnews,←hcs,←Nat.add_mul];exact Nat.mul_le_mul_right _ (by omega)
    have hrun:=run_append_room (P:=C.P) C.w T ty Te ti hT hi (C.ι i).block n cap cur hh ⟨b,off,none⟩ ys.length c (cV (cellAt C.w b) off (ys.length*C.P.cellsOf Te)) (by rw[hnews,his]) hnat (Cq hsome) hroom (by rw[his];exact hfit)
    rw[his] at hrun
    refine⟨_,_,⟨(C.ι i).block,(C.ι i).cap,false⟩,hrun,?_⟩
    have hold: ∀b',b'<C.w.heap.size->b'≠(C.ι i).block->(C.w.setRow (C.ι i).block (cur.toList.take (n*C.P.cellsOf Te)++cV (cellAt C.w b) off (ys.length*C.P.cellsOf Te)++cur.toList.drop (n*C.P.cellsOf Te+(cV (cellAt C.w b) off (ys.length*C.P.cellsOf Te)).length)).toArray).heap[b']? =C.w.heap[b']? :=fun b' _ h=>setRow_other _ _ _ _ h
    have hcell:=mq C.w (C.ι i).block cur (cur.toList.take (n*C.P.cellsOf Te)++cV (cellAt C.w b) off (ys.length*C.P.cellsOf Te)++cur.toList.drop (n*C.P.cellsOf Te+(cV (cellAt C.w b) off (ys.length*C.P.cellsOf Te)).length)).toArray Te hh
    have hheap:=setRow_heap C.w (C.ι i).block cur (cur.toList.take (n*C.P.cellsOf Te)++cV (cellAt C.w b) off (ys.length*C.P.cellsOf Te)++cur.toList.drop (n*C.P.cellsOf Te+(cV (cellAt C.w b) off (ys.length*C.P.cellsOf Te)).length)).toArray Te (0,0) hh
    generalize hw':C.w.setRow (C.ι i).block (cur.toList.take (n*C.P.cellsOf Te)++cV (cellAt C.w b) off (ys.length*C.P.cellsOf Te)++cur.toList.drop (n*C.P.cellsOf Te+(cV (cellAt C.w b) off (ys.length*C.P.cellsOf Te)).length)).toArray=w' at*
    have hkk:=lK hI hil hrow (o:= .row Te (xs.take n++ys)) (g:=⟨(C.ι i).block,(C.ι i).cap,false⟩) (w:=w') (.inl ⟨rfl,hnn⟩) hold
    have h:=qk hI hil hrow (o:= .row Te (xs.take n++ys)) (g:=⟨(C.ι i).block,(C.ι i).cap,false⟩) (w:=w') (.inl ⟨rfl,hnn⟩) (by rw[←hw'];simp) (by rw[←hw'];exact setRow_os _ _ _) hold (by
     refine⟨lU _ _ hpxt hp, .inr ⟨rfl,hnX,_,hheap,by rw[ab8,htl];show _<=(C.ι i).cap;omega,hcm,?_,?_⟩⟩
     ·show(C.ι i).cap*C.P.cellsOf Te=_
      rw[hcs]
      simp only[List.size_toArray,ab8,List.length_take,List.length_drop,Array.length_toList]
      omega
     ·exact oh hI.lay hkk (olds:=cur.toList.take (n*C.P.cellsOf Te)) (xs:=xs.take n) (sx:=cellAt C.w (C.ι i).block) (ox:=0) hpxt hp (fun _=>hmt) (fun _=>hm) (by rw[htl];simp;omega) hnews
       (fun j hj=>by
        simp only[List.length_take,Array.length_toList] at hj
        rw[Nat.zero_add,lb hh,List.getElem?_take_of_lt (by omega)];simp) (fun j hj=>gD hsome (by omega))
       (s':=cellAt w' (C.ι i).block) (zs:=cur.toList.drop (n*C.P.cellsOf Te+(cV (cellAt C.w b) off (ys.length*C.P.cellsOf Te)).length)) (fun j=>by rw[hcell j,List.getElem?_toArray]) (b:=0) rfl)
    exact⟨h.1,h.2,mkslc h.1 rfl rfl (.inr ⟨rfl,cap,rfl,hroom,hcap⟩)⟩
   ·have holds: ∀j v,(cV (cellAt C.w (C.ι i).block) 0 (n*C.P.cellsOf Te))[j]? =some v->C.w.cell? ((⟨(C.ι i).block,0,none⟩:Addr).add j)=some v:=fun j v hv=>by
     have hj:j<n*C.P.cellsOf Te:=by
      have:=(List.getElem?_eq_some_iff.1 hv).1
      rw[gM] at this;exact this
     rw[gD hsomex hj] at hv
     rw[eg];exact hv
    have holdsl:=gM (cellAt C.w (C.ι i).block) 0 (n*C.P.cellsOf Te)
    have hrun:=run_append_grow (P:=C.P) C.w T ty Te ti zv hT hi hzv ⟨(C.ι i).block,0,none⟩ n cap (cV (cellAt C.w (C.ι i).block) 0 (n*C.P.cellsOf Te)) (by rw[holdsl,his]) holds ⟨b,off,none⟩ ys.length c
     (cV (cellAt C.w b) off (ys.length*C.P.cellsOf Te)) (by rw[hnews,his]) hnat (by omega) (by omega) (growslice_fits (by omega) (by rw[hib];exact hb1))
    refine⟨_,_,⟨C.w.heap.size,grownCap C.w (n+ys.length) cap Te,false⟩,hrun,?_⟩
    have hge:=grownCap_ge C.w (n+ys.length) cap Te
    have hmx':=grownCap_le_maxLen C.w (n+ys.length) cap Te (by unfold maxLen;omega)
    have hzs:zv.cells.size=C.P.cellsOf Te:=by
     rw[hrz.2.1.resolve_right (by intro e;subst e;simp[br] at hpz),dn hI.lay _ _ hpz]
    generalize hcs':((cV (cellAt C.w (C.ι i).block) 0 (n*C.P.cellsOf Te)).toArray++(cV (cellAt C.w b) off (ys.length*C.P.cellsOf Te)).toArray++Builtin.zeroCells zv.cells (grownCap C.w (n+ys.length) cap Te - (n+ys.length)))=cs' at*
    have hcell:=hJ C.w.drew cs' Te (0,0)
    have hold:=bE C.w.drew (.cells cs' Te)
    have hkk:=lK hI hil hrow (o:= .row Te (xs.take n++ys)) (g:=⟨C.w.heap.size,grownCap C.w (n+ys.length) cap Te,false⟩) (w:=C.w.drew.alloc (.cells cs' Te)) (.inr rfl) (fun b hb _=>hold b hb)
    have h:=qk hI hil hrow (o:= .row Te (xs.take n++ys)) (g:=⟨C.w.heap.size,grownCap C.w (n+ys.length) cap Te,false⟩) (w:=C.w.drew.alloc (.cells cs' Te)) (.inr rfl)
     (by rw[cn,jX];omega) ⟨rfl,rfl,rfl⟩ (fun b hb _=>hold b hb) (by
      refine⟨lU _ _ hpxt hp, .inr ⟨rfl,fun h=>by have:=hI.xs _ h;simp at this,_,alloc_heap_new _ _,by rw[ab8,htl];exact hge,hmx',?_,?_⟩⟩
      ·rw[←hcs']
       simp only[Array.size_append,List.size_toArray,size_zeroCells,hzs,hnews,holdsl]
       show grownCap C.w (n+ys.length) cap Te*C.P.cellsOf Te=_
       rw[←Nat.add_mul,←Nat.add_mul];congr 1;omega
      ·exact oh hI.lay hkk (olds:=cV (cellAt C.w (C.ι i).block) 0 (n*C.P.cellsOf Te)) (xs:=xs.take n) (sx:=cellAt C.w (C.ι i).block) (ox:=0) hpxt hp (fun _=>hmt) (fun _=>hm) (by rw[htl];exact holdsl) hnews
        (fun j hj=>gD hsomex (by omega)) (fun j hj=>gD hsome (by omega))
        (s':=cellAt (C.w.drew.alloc (.cells cs' Te)) C.w.heap.size) (zs:=(Builtin.zeroCells zv.cells (grownCap C.w (n+ys.length) cap Te - (n+ys.length))).toList)
        (fun j=>by rw[←jX,hcell j,←hcs',←Array.getElem?_toList];simp) (b:=0) rfl)
    exact⟨h.1,h.2,mkslc h.1 rfl rfl (.inr ⟨rfl,_,rfl,hge,Nat.le_refl _⟩)⟩
end Go.Dn
