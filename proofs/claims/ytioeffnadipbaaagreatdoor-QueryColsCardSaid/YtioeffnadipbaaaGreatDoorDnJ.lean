import Derived.Test.YtioeffnadipbaaaGreatDoorDnI
namespace Go.Dn
open Go
theorem cL{C:Ctx}{l:List AV}{vs:Array Value}(h:MT C l vs.toList):Rel C (.aX l) (.tuple vs):=
 ⟨.inl rfl, .inl rfl,by simp only[M];exact⟨vs,by simp[Value.cells],h⟩⟩
theorem tq{C:Ctx}{K V:TypeId}{ks:List Value}{vs:List AV}{v:Value}(h:Rel C (.fJ K V ks vs) v): ∃b ents clock,v= .map (some b)/\C.X b/\C.w.heap[b]? =some (.map ents clock)/\k9 C.P K ents.toList clock/\
  ents.toList.map (·.key)=ks/\bC C.P vs V/\MT C vs (ents.toList.map (·.val)):=by
 have ha:ep v=false:=h.1.resolve_right (by intro e;cases e)
 have hm:=h.2.2
 grind [gE,M]
theorem uD{C:Ctx}{V:TypeId}: ∀(ents:List MapEntry) (vs:List AV),bC C.P vs V->MT C vs (ents.map (·.val))->bZ C V ((ents.map (·.key)).zip vs) ents
 |[],[],_,_=>trivial
 |[],_::_,_,h=>by simp[MT] at h
 |_::_,[],_,h=>by simp[MT] at h
 |e::ents,a::vs,hp,h=>by
  simp only[bC] at hp
  simp only[ac0,MT] at h
  simp only[ac0,List.zip_cons_cons,bZ]
  exact⟨trivial,hp.1,⟨h.1,h.2.1,h.2.2.1⟩,uD ents vs hp.2 h.2.2.2⟩
theorem xC{C:Ctx}(hI:Inv C){T K V:TypeId}{es:List (Value×AV)}{kv:Value}{ok:Bool}{z:AV}(hT:C.P.underlying T=some (.map K V))(hpk:plainKey C.P K kv=true)(hz:gG C.P V=some z){b:Nat}{entries:Array MapEntry}{clock:Nat}
  (hh:C.w.heap[b]? =some (.map entries clock)) (hent:bZ C V es entries.toList) (hmap:k9 C.P K entries.toList clock):
  ∃v,(Instr.lookup T (.map (some b)) kv ok).run C.P C.w= .ok v C.w/\Rel C (if ok then .aX [expand C.P bX V (dO es kv z), .lit (.bool (re es kv))] else expand C.P bX V (dO es kv z)) v:=by
 obtain⟨ti,zv,hti,hzv,hrz,hcz,hpz⟩:=ec hI hz
 obtain⟨d,hd,_⟩:=fk hpk
 have hck:=run_checkKey (P:=C.P) (w:=C.w) hpk entries.isEmpty 9999
 rcases findNow_spec hd hpk z es entries.toList 0 hent hmap.keys with⟨g1,g2,g3⟩|⟨g1,j,e,g2,g3,g4,g5,g6⟩
 ·have hre:=(fc hI hpz hrz).1
  refine⟨if ok then .tuple #[zv, .bool false] else zv,?_,?_⟩
  ·simp[Instr.lookup,run_underlying hT,run_getObj_map hh,hck,Instr.findKey,run_underlying hd,g3,jq hti hzv]
  ·rw[g2,g1]
   cases ok
   ·simpa using hre
   ·simp only[if_true]
    refine cL ?_
    simp only[MT]
    exact⟨hre.1,hre.2.1,hre.2.2, .inl rfl, .inl rfl,(aQ rfl).2.2,trivial⟩
 ·have hre:=(fc hI g6 g5).1
  refine⟨if ok then .tuple #[e.val, .bool true] else e.val,?_,?_⟩
  ·simp[Instr.lookup,run_underlying hT,run_getObj_map hh,hck,Instr.findKey,run_underlying hd,g4]
  ·rw[g1]
   cases ok
   ·simpa using hre
   ·simp only[if_true]
    refine cL ?_
    simp only[MT]
    exact⟨hre.1,hre.2.1,hre.2.2, .inl rfl, .inl rfl,(aQ rfl).2.2,trivial⟩
theorem lookup_nil{C:Ctx}{T K V:TypeId}{kv zv:Value}{ok:Bool}{ti:TypeInfo}(hT:C.P.underlying T=some (.map K V))(hpk:plainKey C.P K kv=true)(hti:C.P.info? V=some ti)(hzv:ti.zero=some zv):
  (Instr.lookup T (.map none) kv ok).run C.P C.w= .ok (if ok then .tuple #[zv, .bool false] else zv) C.w:=by
 obtain⟨d,hd,_⟩:=fk hpk
 have hck:=run_checkKey (P:=C.P) (w:=C.w) hpk true 9999
 simp[Instr.lookup,run_underlying hT,hck,Instr.findKey,Instr.findNow,run_underlying hd,jq hti hzv]
theorem yo{C:Ctx}(hI:Inv C){s:S}(hs:C.st=s.st){T:TypeId}{m k x:AV}{ok:Bool}{c:Bool}{vm vk:Value}(h:mi C.P s T m k ok=some (c,x))(hm:Rel C m vm)(hk:Rel C k vk):
  ∃v,(Instr.lookup T vm vk ok).run C.P C.w= .ok v C.w/\Rel C x v:=by
 have pair: ∀{a:AV} {b:Bool} {zv:Value},Rel C a zv->Rel C (if ok then .aX [a, .lit (.bool b)] else a) (if ok then .tuple #[zv, .bool b] else zv):=fun{a b zv} hr=>by
  cases ok
  ·simpa using hr
  ·simp only[if_true]
   refine cL ?_
   simp only[MT]
   exact⟨hr.1,hr.2.1,hr.2.2, .inl rfl, .inl rfl,(aQ rfl).2.2,trivial⟩
 unfold mi at h
 split at h
 ·rename_i K V kv hT
  have:=aH hk;subst this
  split at h
  ·rename_i z i hpk hz
   split at h
   ·rename_i K' V' es hst
    split at h
    ·rename_i hKV
     obtain⟨rfl,rfl⟩:=hKV
     simp only[aa3,aa9] at h
     obtain⟨_,rfl⟩:=h
     obtain⟨hi,hmp⟩:=sg hm
     rw[←hs] at hst
     have:=hmp K V es hst;subst this
     obtain⟨entries,clock,hh,hent,hmap⟩:=mF hI hi hst
     exact xC hI hT hpk hz hh hent hmap
    ·simp at h
   ·simp at h
  ·rename_i z K' V' ks vs hpk hz
   split at h
   ·rename_i hKV
    obtain⟨rfl,rfl⟩:=hKV
    simp only[aa3,aa9] at h
    obtain⟨_,rfl⟩:=h
    obtain⟨b,ents,clock,rfl,_,hh,hmap,rfl,hp,hmt⟩:=tq hm
    exact xC hI hT hpk hz hh (uD _ _ hp hmt) hmap
   ·simp at h
  ·rename_i z hpk hz
   simp only[aa3,aa9] at h
   obtain⟨_,rfl⟩:=h
   have:=aH hm;subst this
   obtain⟨ti,zv,hti,hzv,hrz,hcz,hpz⟩:=ec hI hz
   exact⟨_,lookup_nil hT hpk hti hzv,pair hrz⟩
  ·simp at h
 ·simp at h
theorem KO{a:AV}(h:bO a=false):wid a=1:=by cases a<;>simp_all[bO,wid]
theorem Bj{C:Ctx}(hI:Inv C){T:TypeId}{p x:AV}{f:Nat}{c:Bool}{vp:Value}(h:CK C.P T p f=some (c,x))(hr:Rel C p vp):
  ∃v,(Instr.field T vp f).run C.P C.w= .ok v C.w/\Rel C x v:=by
 unfold CK at h
 split at h
 ·rename_i fd l hfd
  split at h
  ·rename_i hc
   simp only[aa1,aa0,beq_iff_eq] at hc
   obtain⟨⟨⟨⟨⟨h1,h2⟩,h3⟩,h4⟩,h5⟩,hsol⟩:=hc
   simp only[aa3,aa9] at h
   obtain⟨_,rfl⟩:=h
   obtain⟨fs,hfs,hf⟩:=m9 hfd
   obtain⟨cs,rfl,hsz,hm⟩:=tw hr
   have hM:=BI l f _ 0 h1 hm
   rw[Nat.zero_add,h2] at hM
   obtain⟨d,hd⟩:=Option.isSome_iff_exists.1 h5
   have hle:=qq l f h1
   rw[h2] at hle
   cases hag:bO (nth l f) with
   |false=>
    have hw:=KO hag
    obtain⟨v,hv,hva⟩:=gF hag hsol hM
    refine⟨v,?_,BY hI hag hM hv (tL hva)⟩
    simp[Instr.field,run_underlying hfs,hf,asAgg,part,iu hd,h4,hag,hv]
   | true=>
    cases hx:nth l f<;>rw[hx] at hag<;>simp[bO] at hag
    rename_i m
    rw[hx] at hM h3 hle h4
    refine⟨.agg (cs.extract fd.offset (fd.offset+C.P.cellsOf fd.type)),?_,ov hI hM ?_ (fun j hj=>?_)⟩
    ·simp[Instr.field,run_underlying hfs,hf,asAgg,part,iu hd,h4,bO,run_sizeOf hd]
    ·simp only[Array.size_extract];omega
    ·simp only[Array.size_extract] at hj
     rw[Array.getElem?_extract]
     simp only[hj,if_true]
  ·simp at h
 ·simp at h
theorem nX: ∀(l:List (Value×Nat)) (cells:Array Value) (off:Nat),(l.foldl (fun cs (x:Value×Nat)=>cs.setIfInBounds (off+x.2) x.1) cells).size=cells.size
 |[],_,_=>rfl
 |x::l,cells,off=>by simp only[List.foldl_cons];rw[nX l];simp
theorem kh(off:Nat): ∀(l:List Value) (k:Nat) (cells:Array Value) (j:Nat),off+k+l.length<=cells.size->
  ((l.zipIdx k).foldl (fun cs (x:Value×Nat)=>cs.setIfInBounds (off+x.2) x.1) cells)[j]? =if off+k<=j/\j<off+k+l.length then l[j - (off+k)]? else cells[j]?
 |[],k,cells,j,_=>by simp;intro h1 h2;omega
 | v::l,k,cells,j,hle=>by
  simp only[List.length_cons] at hle
  simp only[List.zipIdx_cons,List.foldl_cons]
  rw[kh off l (k+1) _ j (by simp;omega)]
  by_cases h1:j=off+k
  ·subst h1
   rw[if_neg (by omega),if_pos (by simp only[List.length_cons];omega)]
   simp[Array.getElem?_setIfInBounds]
   omega
  ·by_cases h2:off+(k+1)<=j/\j<off+(k+1)+l.length
   ·rw[if_pos h2,if_pos (by simp only[List.length_cons];omega)]
    rw[show j - (off+k)=(j - (off+(k+1)))+1 by omega,List.getElem?_cons_succ]
   ·rw[if_neg h2,if_neg (by simp only[List.length_cons];omega)]
    rw[Array.getElem?_setIfInBounds_ne (by omega)]
theorem vH: ∀(l:List AV) (i j:Nat) (x:AV),wid x=wid (nth l i)->gW (bJ l i x) j=gW l j
 |[],_,_,_,_=>rfl
 |_::_,0,0,_,_=>rfl
 |a::l,0,j+1,x,h=>by simp only[bJ,gW];simp only[nth] at h;rw[h]
 |a::l,i+1,0,x,_=>rfl
 |a::l,i+1,j+1,x,h=>by simp only[bJ,gW];rw[vH l i j x (by simpa[nth] using h)]
theorem rP: ∀(l:List AV) (i:Nat) (x:AV),wid x=wid (nth l i)->eH (bJ l i x)=eH l
 |[],_,_,_=>rfl
 |a::l,0,x,h=>by simp only[bJ,eH];simp only[nth] at h;rw[h]
 |a::l,i+1,x,h=>by simp only[bJ,eH];rw[rP l i x (by simpa[nth] using h)]
theorem Ck{C:Ctx}(hI:Inv C){x:AV}{sx:Src}{ox:Nat}(hx:M C x sx ox): ∀(l:List AV) (i off:Nat) (s s':Src) (o:Nat),gW l i=off->i<l.length->wid x=wid (nth l i)->ML C l s o->
  (∀j,j<eH l->s' (o+j)=if off<=j/\j<off+wid x then sx (ox+(j - off)) else s (o+j))->ML C (bJ l i x) s' o
 |[],_,_,_,_,_,_,h,_,_,_=>by simp at h
 | a::l,0,off,s,s',o,hoff,_,hw,h,hs=>by
  simp only[ML] at h
  simp only[nth] at hw
  simp only[gW] at hoff
  subst hoff
  simp only[bJ,ML]
  simp only[eH] at hs
  refine⟨jv hI (fun j hj=>?_) hx,?_⟩
  ·rw[hs j (by omega),if_pos (by omega)];congr 1
  ·have:=jv (a:= .agg l) hI (s:=s) (s':=s') (o:=o+wid a) (o':=o+wid x) (fun j hj=>by
    simp only[wid] at hj
    have:=hs (wid x+j) (by omega)
    rw[if_neg (by omega)] at this
    rw[show o+wid x+j=o+(wid x+j) by omega,this,hw]
    congr 1;omega) (by simpa[M] using h.2)
   simpa[M] using this
 | a::l,i+1,off,s,s',o,hoff,hi,hw,h,hs=>by
  simp only[ML] at h
  simp only[nth] at hw
  simp only[gW] at hoff
  subst hoff
  simp only[bJ,ML]
  simp only[eH] at hs
  refine⟨jv hI (fun j hj=>?_) h.1,Ck hI hx l i _ s s' (o+wid a) rfl (by simpa using hi) hw h.2 (fun j hj=>?_)⟩
  ·rw[hs j (by omega),if_neg (by omega)]
  ·have:=hs (wid a+j) (by omega)
   rw[show o+wid a+j=o+(wid a+j) by omega,this]
   by_cases hc:gW l i<=j/\j<gW l i+wid x
   ·rw[if_pos hc,if_pos (by omega)];congr 1;omega
   ·rw[if_neg hc,if_neg (by omega)]
theorem vj{C:Ctx}(hI:Inv C){s:S}{act:Act}(hs:db C s act){T:TypeId}{fs:Array Field}(hfs:C.P.underlying T=some (.struct fs)){place:Nat->Option (Nat×Nat)}
  (hplace: ∀i fd,fs[i]? =some fd->place i=some (fd.offset,C.P.cellsOf fd.type)):
  ∀(ps:List (Nat×Operand)) (l:List AV) (cells:Array Value) (x:AV),wi C.P T l (fh s ps)=some x->ML C l (fun j=>cells[j]?) 0->cells.size=eH l->
   ∃cells',Instr.fill place cells (ps.map fun p=>(p.1,act.eval p.2))=some cells'/\Rel C x (.agg cells')
 |[],l,cells,x,h,hm,hsz=>by
  simp only[fh,wi,aa3] at h;subst h
  exact⟨cells,rfl,ov hI (s:=fun j=>cells[j]?) (o:=0) (by simpa[M] using hm) (by simpa[wid] using hsz) (fun j _=>by simp)⟩
 | (i,o)::ps,l,cells,x,h,hm,hsz=>by
  simp only[fh,wi] at h
  split at h
  ·simp at h
  rename_i fd hfd
  split at h
  ·rename_i hc
   simp only[aa1,aa0,beq_iff_eq] at hc
   obtain⟨⟨⟨⟨h0,h1⟩,h2⟩,h3⟩,h4⟩:=hc
   obtain⟨fs',hfs',hf⟩:=m9 hfd
   rw[hfs] at hfs'
   simp only[aa3,TypeDesc.struct.injEq] at hfs';subst hfs'
   have hre:=bm hs o
   have hnj:ev s o≠ .cK:=by intro e;rw[e] at h0;simp[cQ] at h0
   have hvs:=hre.2.1.resolve_right hnj
   have hle:=qq l i h1
   have hw:wid (ev s o)=wid (nth l i):=by omega
   have hput:=Ck hI hre.2.2 l i _ (fun j=>cells[j]?) (fun j=>(((act.eval o).cells.zipIdx.foldl (fun cs (c,j)=>cs.setIfInBounds (fd.offset+j) c) cells))[j]?) 0 h2 h1 hw hm (fun j hjl=>by
    have:=kh fd.offset (act.eval o).cells.toList 0 cells j (by simp;omega)
    simp only[Nat.add_zero,Array.length_toList] at this
    simp only[Nat.zero_add]
    have e:((act.eval o).cells.zipIdx.foldl (fun cs (x:Value×Nat)=>cs.setIfInBounds (fd.offset+x.2) x.1) cells)=(((act.eval o).cells.toList.zipIdx 0).foldl (fun cs (x:Value×Nat)=>cs.setIfInBounds (fd.offset+x.2) x.1) cells):=by
     rw[←Array.foldl_toList];simp
    rw[e,this]
    by_cases hc:fd.offset<=j/\j<fd.offset+(act.eval o).cells.size
    ·rw[if_pos hc,if_pos (by omega)];simp
    ·rw[if_neg hc,if_neg (by omega)])
   have hsz2:((act.eval o).cells.zipIdx.foldl (fun cs (x:Value×Nat)=>cs.setIfInBounds (fd.offset+x.2) x.1) cells).size=eH (bJ l i (ev s o)):=by
    rw[←Array.foldl_toList,nX,rP l i _ hw,hsz]
   obtain⟨cells',g1,g2⟩:=vj hI hs hfs hplace ps _ _ x h hput hsz2
   refine⟨cells',?_,g2⟩
   simp only[ac0,Instr.fill,hplace i fd hf]
   rw[if_neg (by simp;omega)]
   exact g1
  ·simp at h
end Go.Dn
