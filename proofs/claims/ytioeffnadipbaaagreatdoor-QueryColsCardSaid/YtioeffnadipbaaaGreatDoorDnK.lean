import Derived.Test.YtioeffnadipbaaaGreatDoorDnJ
import Derived.Laws.BytesString
import Derived.Laws.Cells
namespace Go.Dn
open Go
def Ctx.still(C:Ctx):Ctx:={C with X:=fun b=>b<C.w.heap.size,st:=[],ι:=fun _=>⟨0,0,true⟩,cls:=id}
theorem kP{C:Ctx}(hI:Inv C):bH C C.still:=⟨rfl,fun b hb=>hI.xs b hb,fun _ _=>rfl⟩
theorem rW{C:Ctx}(hI:Inv C):Inv C.still:=
 ⟨hI.lay,fun i hi=>by simp[Ctx.still] at hi,fun i j hi=>by simp[Ctx.still] at hi,fun b hb=>hb,fun i hi=>by simp[Ctx.still] at hi,fun b hb=>absurd rfl hb,hI.kJ (kP hI)⟩
theorem qe{C:Ctx}(hI:Inv C){i:Nat}(hi:i<C.st.length){T:TypeId}{xs:List AV}(h:gC (an C.st i)=some (T,xs)):
  bC C.P xs T/\(((C.ι i).isNil=true/\xs=[])\/((C.ι i).isNil=false/\(C.ι i).block<C.w.heap.size/\MR C xs (C.P.cellsOf T) (cellAt C.w (C.ι i).block) 0)):=by
 have hob:=hI.obj i hi
 cases hx:an C.st i<;>rw[hx] at h hob<;>simp[gC] at h
 ·obtain⟨rfl,rfl⟩:=h
  obtain⟨g1,g2|⟨g2,_,cc,g3,_,_,_,g4⟩⟩:=hob
  ·exact⟨g1, .inl g2⟩
  ·exact⟨g1, .inr ⟨g2,(Array.getElem?_eq_some_iff.1 g3).1,g4⟩⟩
 ·obtain⟨rfl,rfl⟩:=h
  obtain⟨g1,g2|⟨g2,g3,g4⟩⟩:=hob
  ·exact⟨g1, .inl g2⟩
  ·exact⟨g1, .inr ⟨g2,hI.xs _ g3,g4⟩⟩
def wz(C:Ctx)(i:Nat):Prop:=((∃y,gC (an C.st i)=some y)/\(C.ι i).isNil=false)\/ ∃K V es,an C.st i= .map K V es
theorem Mf{C:Ctx}(hI:Inv C){i:Nat}(hi:i<C.st.length)(h:wz C i):(C.ι i).block<C.w.heap.size:=by
 rcases h with⟨⟨⟨T,xs⟩,hel⟩,hn⟩|⟨K,V,es,hx⟩
 ·obtain⟨_,⟨h0,_⟩|⟨_,h1,_⟩⟩:=qe hI hi hel
  ·rw[hn] at h0;cases h0
  ·exact h1
 ·exact((hI.obj i hi).lt (by rw[hx];rfl)).1
theorem vw{C C':Ctx}(hI:Inv C)(hk:bH C C')(hw:C'.w=C.w){i lo n:Nat}{v:Value}(hi:i<C.st.length)(hs:kH C i lo n v){T:TypeId}{xs:List AV}(h:gC (an C.st i)=some (T,xs))
  (hX:(C.ι i).isNil=false->C'.X (C.ι i).block) (s:Src) (o:Nat) (hv:s o=some v):M C' (.ad T ((xs.drop lo).take n)) s o:=by
 obtain⟨hlen,hv'⟩:=hs.1 T xs h
 obtain⟨hp,hrow⟩:=qe hI hi h
 simp only[M]
 have hl:((xs.drop lo).take n).length=n:=by simp;omega
 refine⟨by rw[hk.P];exact iW _ _ (j6 _ _ hp),?_⟩
 rw[hl,hv]
 rcases hv' with⟨_,rfl,rfl,rfl⟩|⟨hn,cap,q,rfl,hq,hc1,hc2⟩
 ·exact⟨none,0,rfl,Nat.le_refl _,fun hne=>absurd (by simp) hne⟩
 ·refine⟨some q,cap,rfl,hc1,fun hne=>?_⟩
  have hn0:0<n:=by rw[←hl];exact List.length_pos_iff.2 hne
  have hq':=hq.resolve_right (by omega)
  rcases hrow with⟨h0,_⟩|⟨_,hlt,hm⟩
  ·rw[hn] at h0;cases h0
  ·refine⟨_,_,by rw[hq'],hX hn,?_⟩
   have h1:=qf _ n _ _ _ (tB xs lo _ _ _ hm)
   rw[Nat.zero_add] at h1
   have:=fI hk hI.lay ((xs.drop lo).take n) T (cellAt C.w (C.ι i).block) (fun j=>C'.w.cell? ⟨(C.ι i).block,j,none⟩) _ (lo*C.P.cellsOf T) (iW _ _ (j6 _ _ hp))
    (fun j _=>by rw[hw];rfl) h1
   rw[hk.P]
   exact this
mutual
theorem ij{st:List Obj}: ∀(a b:AV),bW st a=some b->bO b=bO a/\wid b=wid a/\b≠ .cK/\refs b=[]
 | .lit v,b,h=>by simp only[bW,aa3] at h;subst h;simp[refs]
 | .ad T l,b,h=>by simp only[bW,aa3] at h;subst h;simp[refs]
 | .aB i lo n,b,h=>by
  simp only[bW] at h
  split at h
  ·simp only[aa3] at h;subst h;simp[bO,wid,refs]
  ·simp at h
 | .agg l,b,h=>by
  simp only[bW,Option.map_eq_some_iff] at h
  obtain⟨m,h1,rfl⟩:=h
  obtain⟨h2,h3⟩:=sk l m h1
  simp[bO,wid,refs,h2,h3]
 | .iY T a,b,h=>by simp only[bW,aa3] at h;subst h;simp[refs]
 | .iN T a,b,h=>by
  simp only[bW,Option.map_eq_some_iff] at h
  obtain⟨m,h1,rfl⟩:=h
  obtain⟨h2,h3,h4,h5⟩:=ij a m h1
  simp[bO,wid,refs,h5]
 | .bq f [],b,h=>by simp only[bW,aa3] at h;subst h;simp[refs,cW]
 | .bq f (_::_),b,h=>by simp[bW] at h
 | .fJ _ _ _ _,b,h=>by simp only[bW,aa3] at h;subst h;simp[refs]
 | .mp i,b,h=>by
  simp only[bW] at h
  split at h
  ·simp only[aa3] at h;subst h;simp[bO,wid,refs]
  ·simp at h
 | .cK,b,h| .aX _,b,h| .ptr _ _ _ _,b,h| .de _,b,h| .jV _ _,b,h=>by simp[bW] at h
theorem sk{st:List Obj}: ∀(l m:List AV),la st l=some m->eH m=eH l/\cW m=[]
 |[],m,h=>by simp only[la,aa3] at h;subst h;simp[cW]
 | a::l,m,h=>by
  simp only[la] at h
  split at h
  ·rename_i b m' h1 h2
   simp only[aa3] at h;subst h
   obtain⟨_,g1,_,g2⟩:=ij a b h1
   obtain⟨g3,g4⟩:=sk l m' h2
   simp[eH,cW,g1,g2,g3,g4]
  ·simp at h
end
theorem KZ{C C':Ctx}(hk:bH C C')(hl:eI C.P){V:TypeId}: ∀(es:List (Value×AV)) (ents:List MapEntry),bZ C V es ents->ents.map (·.key)=es.map (·.1)/\bC C.P (es.map (·.2)) V/\MT C' (es.map (·.2)) (ents.map (·.val))
 |[],[],_=>⟨rfl,trivial,by simp[MT]⟩
 |[],_::_,h=>by simp[bZ] at h
 |_::_,[],h=>by simp[bZ] at h
 |(k,a)::es,e::ents,h=>by
  simp only[bZ] at h
  obtain⟨h1,h2,h3,h4⟩:=h
  obtain⟨e1,e2,e3⟩:=KZ hk hl es ents h4
  simp only[ac0,bC,MT]
  exact⟨by rw[h1,e1],⟨h2,e2⟩,h3.1,h3.2.1,lk hk hl a V _ _ _ _ h2 (fun _ _=>rfl) h3.2.2,e3⟩
mutual
theorem tC{C C':Ctx}(hI:Inv C)(hk:bH C C')(hw:C'.w=C.w):
  ∀(a b:AV) (s:Src) (o:Nat),bW C.st a=some b->(∀i,i∈rowsOf a->i<C.st.length->wz C i->C'.X (C.ι i).block)->M C a s o->M C' b s o
 | .lit v,b,s,o,h,_,hm=>by simp only[bW,aa3] at h;subst h;simpa[M] using hm
 | .ad T l,b,s,o,h,_,hm=>by
  simp only[bW,aa3] at h;subst h
  exact M.eu hk hI.lay (fun i hi=>by simp[refs] at hi) (fun _ _=>rfl) hm
 | .aB i lo n,b,s,o,h,hr,hm=>by
  simp only[bW] at h
  split at h
  ·rename_i T xs hel
   simp only[aa3] at h;subst h
   simp only[M] at hm
   obtain⟨hi,v,h1,h2,h3⟩:=hm
   exact vw hI hk hw hi h3 hel (fun hn=>hr i (by simp[rowsOf]) hi (.inl ⟨⟨_,hel⟩,hn⟩)) s o h1
  ·simp at h
 | .agg l,b,s,o,h,hr,hm=>by
  simp only[bW,Option.map_eq_some_iff] at h
  obtain⟨m,h1,rfl⟩:=h
  simp only[M] at hm⊢
  exact EG hI hk hw l m s o h1 (by simpa[rowsOf] using hr) hm
 | .iY T a,b,s,o,h,_,hm=>by
  simp only[bW,aa3] at h;subst h
  exact M.eu hk hI.lay (fun i hi=>by simp[refs] at hi) (fun _ _=>rfl) hm
 | .iN T a,b,s,o,h,hr,hm=>by
  simp only[bW,Option.map_eq_some_iff] at h
  obtain⟨m,h1,rfl⟩:=h
  simp only[M] at hm⊢
  obtain⟨u,h2,h3,h4,h5⟩:=hm
  obtain⟨g1,g2,_,_⟩:=ij a m h1
  exact⟨u,h2,by rw[h3,g1],by rw[h4,g2],tC hI hk hw a m _ _ h1 (by simpa[rowsOf] using hr) h5⟩
 | .bq f [],b,s,o,h,_,hm=>by
  simp only[bW,aa3] at h;subst h
  simpa[M,MT] using hm
 | .bq f (_::_),b,_,_,h,_,_=>by simp[bW] at h
 | .fJ K V ks vs,b,s,o,h,_,hm=>by
  simp only[bW,aa3] at h;subst h
  exact M.eu hk hI.lay (fun i hi=>by simp[refs] at hi) (fun _ _=>rfl) hm
 | .mp i,b,s,o,h,hr,hm=>by
  simp only[bW] at h
  split at h
  ·rename_i K V es hst
   simp only[aa3] at h;subst h
   simp only[M] at hm⊢
   obtain⟨hi,v,h1,h2,h3⟩:=hm
   obtain rfl:=h3 K V es hst
   have hob:=hI.obj i hi
   rw[hst] at hob
   obtain⟨_,entries,clock,hh,hent,hmap⟩:=hob
   obtain⟨e1,e2,e3⟩:=KZ hk hI.lay es entries.toList hent
   exact⟨_,entries,clock,h1,hr i (by simp[rowsOf]) hi (.inr ⟨_,_,_,hst⟩),by rw[hw];exact hh,by rw[hk.P];exact hmap,e1,by rw[hk.P];exact e2,e3⟩
  ·simp at h
 | .cK,b,_,_,h,_,_| .aX _,b,_,_,h,_,_| .ptr _ _ _ _,b,_,_,h,_,_| .de _,b,_,_,h,_,_| .jV _ _,b,_,_,h,_,_=>by simp[bW] at h
theorem EG{C C':Ctx}(hI:Inv C)(hk:bH C C')(hw:C'.w=C.w):
  ∀(l m:List AV) (s:Src) (o:Nat),la C.st l=some m->(∀i,i∈qw l->i<C.st.length->wz C i->C'.X (C.ι i).block)->ML C l s o->ML C' m s o
 |[],m,s,o,h,_,_=>by simp only[la,aa3] at h;subst h;simp[ML]
 | a::l,m,s,o,h,hr,hm=>by
  simp only[la] at h
  split at h
  ·rename_i b m' h1 h2
   simp only[aa3] at h;subst h
   simp only[ML] at hm⊢
   obtain⟨_,g1,_,_⟩:=ij a b h1
   refine⟨tC hI hk hw a b s o h1 (fun i hi=>hr i (by simp[qw,hi])) hm.1,?_⟩
   rw[g1]
   exact EG hI hk hw l m' s _ h2 (fun i hi=>hr i (by simp[qw,hi])) hm.2
  ·simp at h
end
theorem flat_lit{P:Program}{E:TypeId}{v:Value}(hE:qz P E=true)(h:br P (.lit v) E):a9 v=true/\P.cellsOf E=1:=by
 unfold qz at hE
 simp only[br] at h
 split at hE
 ·rename_i k hk
  rw[hk] at h
  obtain⟨n,rfl⟩:=h
  exact⟨rfl,by simpa using hE⟩
 ·rename_i hk
  rw[hk] at h
  obtain⟨n,rfl⟩:=h
  exact⟨rfl,by simpa using hE⟩
 ·rename_i hk
  rw[hk] at h
  obtain⟨n,rfl⟩:=h
  exact⟨rfl,by simpa using hE⟩
 ·cases hE
theorem xe{P:Program}{E:TypeId}: ∀(l:List Value),(∀v,v∈l->br P (.lit v) E)->bC P (l.map .lit) E
 |[],_=>trivial
 |v::l,h=>by
  simp only[ac0,bC]
  exact⟨h v (by simp),xe l fun u hu=>h u (by simp[hu])⟩
theorem Ew{C:Ctx}{E:TypeId}(hE:qz C.P E=true): ∀(l:List Value) (s:Src) (o:Nat),(∀v,v∈l->br C.P (.lit v) E)->(∀j,j<l.length->s (o+j)=l[j]?)->MR C (l.map .lit) 1 s o
 |[],_,_,_,_=>by simp[MR]
 |v::l,s,o,h,hs=>by
  simp only[ac0,MR,M]
  refine⟨⟨by simpa using hs 0 (by simp),(flat_lit hE (h v (by simp))).1⟩,Ew hE l s (o+1) (fun u hu=>h u (by simp[hu])) fun j hj=>?_⟩
  have:=hs (j+1) (by simpa using hj)
  rw[show o+1+j=o+(j+1) by omega,this];rfl
theorem Au{C:Ctx}{B:Nat}{E:TypeId}{k m:Nat}{l:List Value}{v:Value}(hE:qz C.P E=true)(hl: ∀v,v∈l->br C.P (.lit v) E)(h:lB C B E k l m v):
  ∃p cap,v= .slice p m cap/\m<=cap/\((l.take m).map AV.lit).length=m/\bC C.P ((l.take m).map .lit) E/\(m≠0->∃b,p=some ⟨b,0,none⟩/\b<C.w.heap.size/\MR C ((l.take m).map .lit) (C.P.cellsOf E) (cellAt C.w b) 0):=by
 obtain⟨h1,h2⟩:=h
 have hlen:((l.take m).map AV.lit).length=m:=by simp;omega
 have hp:=xe (l.take m) fun v hv=>hl v (List.mem_of_mem_take hv)
 rcases h2 with⟨rfl,rfl⟩|⟨b,cap,c,rfl,h3,_,_,_,_,h4,_,h5⟩
 ·exact⟨none,0,rfl,Nat.le_refl _,hlen,hp,fun h=>absurd rfl h⟩
 ·refine⟨_,cap,rfl,h3,hlen,hp,fun hm=>⟨b,rfl,(Array.getElem?_eq_some_iff.1 h4).1,?_⟩⟩
  have hne:l≠[]:=by intro e;subst e;simp at h1;omega
  have hz:C.P.cellsOf E=1:=by
   match l,hne with
   |v::_,_=>exact(flat_lit hE (hl v (by simp))).2
  rw[hz]
  refine Ew hE _ _ _ (fun v hv=>hl v (List.mem_of_mem_take hv)) fun j hj=>?_
  simp only[List.length_take] at hj
  rw[Nat.zero_add,List.getElem?_take_of_lt (by omega),←h5 j (by omega)]
  simp only[cellAt,World.cell?,h4];rfl
theorem foldl_push: ∀(ns:List Int) (s:ByteArray),ns.foldl (fun r n=>r.push (UInt8.ofNat n.toNat)) s=⟨s.data++(ns.map fun n=>UInt8.ofNat n.toNat).toArray⟩
 |[],s=>by simp
 |n::ns,s=>by
  rw[List.foldl_cons,foldl_push ns]
  congr 1
  show s.data.push _++_=_
  simp
theorem FP{C:Ctx}{E:TypeId}(hE:C.P.underlying E=some (.int .u8)): ∀(l:List AV) (s:Src) (o:Nat),bC C.P l E->MR C l 1 s o->∀j v,((l.map toInt).map (Value.int .u8))[j]? =some v->s (o+j)=some v
 |[],_,_,_,_,j,v,h=>by simp at h
 | a::l,s,o,hp,hm,j,v,h=>by
  simp only[bC] at hp
  simp only[MR] at hm
  cases j with
  | zero=>
   cases a<;>simp only[br,hE,false_and] at hp
   ·obtain⟨⟨n,rfl⟩,_⟩:=hp
    have hm:=hm.1
    simp only[M] at hm
    simp only[ac0,List.getElem?_cons_zero,toInt,aa3] at h
    rw[Nat.add_zero,←h]
    exact hm.1
   all_goals simp at hp
  |succ j=>
   have:=FP hE l s (o+1) hp.2 hm.2 j v (by simpa using h)
   rwa [show o+(j+1)=o+1+j by omega]
theorem yd{C:Ctx}{E:TypeId}{l:List AV}{v:Value}(hE:C.P.underlying E=some (.int .u8))(hc:C.P.cellsOf E=1)(h:Rel C (.ad E l) v):(Conv.bytesToString v).run C.P C.w= .ok (.string (bytesOf l)) C.w:=by
 obtain⟨hp,p,cap,rfl,_,h3⟩:=mm h
 cases p with
 |none=>
  have:l=[]:=by grind
  subst this
  rfl
 | some q=>
  have key:(loadCells q l.length).run C.P C.w= .ok ((l.map toInt).map (Value.int .u8)).toArray C.w:=by
   have hl:((l.map toInt).map (Value.int .u8)).length=l.length:=by simp
   rw[←hl]
   refine Go.run_loadCells_list C.w q _ fun j v hj=>?_
   rcases l with _|⟨a,l⟩
   ·simp at hj
   ·obtain⟨b,off,hq,_,hm⟩:=h3 (by simp)
    cases hq
    rw[hc] at hm
    have:=FP hE _ _ off hp hm j v hj
    rw[eg]
    exact this
  rw[Go.run_bytesToString C.w q l.length cap (l.map toInt) key,foldl_push]
  congr 3
  simp[List.map_map]
theorem wC{C:Ctx}(hI:Inv C){i lo n:Nat}{E:TypeId}{l:List AV}{v:Value}(hE:C.P.underlying E=some (.int .u8))(hc:C.P.cellsOf E=1)(hel:gC (an C.st i)=some (E,l))(h:Rel C (.aB i lo n) v):
  (Conv.bytesToString v).run C.P C.w= .ok (.string (bytesOf ((l.drop lo).take n))) C.w/\ep v=false:=by
 obtain⟨hi,hs⟩:=fy h
 have hv:ep v=false:=by
  obtain⟨_,⟨_,rfl,_⟩|⟨_,cap,q,rfl,_⟩⟩:=hs.1 E l hel<;>rfl
 have hm:=vw hI (kP hI) rfl hi hs hel (fun hn=>by
  obtain⟨_,⟨h0,_⟩|⟨_,h1,_⟩⟩:=qe hI hi hel
  ·rw[hn] at h0;cases h0
  ·exact h1) (fun _=>some v) 0 rfl
 exact⟨yd (C:=C.still) hE hc (dV rfl hv hm (rW hI)),hv⟩
end Go.Dn
