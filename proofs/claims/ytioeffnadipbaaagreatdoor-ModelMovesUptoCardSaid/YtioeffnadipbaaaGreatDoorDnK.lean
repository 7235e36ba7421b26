import Derived.Test.YtioeffnadipbaaaGreatDoorDnJ
import Derived.Laws.BytesString
import Derived.Laws.Cells
namespace Go.Dn
open Go
def Ctx.still(C:Ctx):={C with X:=fun b=>b<C.w.heap.size,st:=[],ι:=fun _=>⟨0,0,true⟩,cls:=id}
theorem lD{C}(c:Inv C):bP C C.still:=⟨rfl,fun b a=>c.xs b a,fun _ _=>rfl⟩
theorem tK{C}(c:Inv C):Inv C.still:=
 ⟨c.lay,fun i d=>by grind [Ctx.still],fun i j d=>by grind [Ctx.still],fun b a=>a,fun i d=>by grind [Ctx.still],fun b a=>absurd rfl a,c.lU (lD c)⟩
theorem rE{C}(e:Inv C){i}(j:i<C.st.length){T xs}(h:hR (ay C.st i)=some (T,xs)):
  ck C.P xs T/\((C.ι i).isNil=true/\xs=[]\/(C.ι i).isNil=false/\(C.ι i).block<C.w.heap.size/\MR C xs (C.P.cellsOf T) (cellAt C.w (C.ι i).block) 0):=by
 have a:=e.obj i j;cases g:ay _ i<;>rw[g] at h a<;>simp[hR] at h
 ·obtain⟨rfl,rfl⟩:=h
  obtain⟨c,b|⟨b,_,k,d,_,_,_,f⟩⟩:=a
  ·grind
  grind
 ·obtain⟨rfl,rfl⟩:=h
  obtain⟨c,b|⟨b,d,f⟩⟩:=a
  ·grind
  ·exact⟨c, .inr ⟨b,e.xs _ d,f⟩⟩
def yH(C:Ctx) i:=(∃y,hR (ay C.st i)=some y)/\(C.ι i).isNil=false\/ ∃K V a,ay C.st i= .map K V a
theorem Qy{C}(b:Inv C){i}(c:i<C.st.length)(h:yH C i):(C.ι i).block<C.w.heap.size:=by
 rcases h with⟨⟨⟨T,xs⟩,a⟩,f⟩|⟨K,V,e,d⟩
 ·obtain⟨_,⟨g,_⟩|⟨_,j,_⟩⟩:=rE b c a
  ·grind
  grind
 ·exact((b.obj i c).lt (by rw[d];rfl)).1
theorem xa{C C'}(hI:Inv C)(hk:bP C C')(hw:C'.w=C.w){i lo n v}(hi:i<C.st.length)(hs:lA C i lo n v){T xs}(h:hR (ay C.st i)=some (T,xs))
  (hX:(C.ι i).isNil=false->C'.X (C.ι i).block) s o (hv:s o=some v):M C' (.ah T ((xs.drop lo).take n)) s o:=by
 obtain⟨hlen,hv'⟩:=hs.1 T xs h;obtain⟨hp,hrow⟩:=rE hI hi h;simp only[M];have hl:((xs.drop lo).take n).length=n:=by simp;omega
 refine⟨by rw[hk.P];exact jC _ _ (lr _ _ hp),?_⟩;rw[hl,hv];rcases hv' with⟨_,rfl,rfl,rfl⟩|⟨hn,cap,q,rfl,hq,hc1,hc2⟩
 ·simp
 ·refine⟨some q,cap,rfl,hc1,fun hne=>?_⟩
  have hn0:0<n:=by grind
  have hq':=hq.resolve_right (by omega);rcases hrow with⟨h0,_⟩|⟨_,hlt,hm⟩
  ·rw[hn] at h0;cases h0
  ·refine⟨_,_,by rw[hq'],hX hn,?_⟩
   have h1:=rU _ n _ _ _ (vn xs lo _ _ _ hm);rw[Nat.zero_add] at h1;have:=fL hk hI.lay ((xs.drop lo).take n) T (cellAt C.w (C.ι i).block) (fun j=>C'.w.cell? ⟨(C.ι i).block,j,none⟩) _ (lo*C.P.cellsOf T) (jC _ _ (lr _ _ hp))
    (fun j _=>by rw[hw];rfl) h1
   rw[hk.P];exact this
mutual
theorem iR{st:List Obj}: ∀(a b:AV),cd st a=some b->bX b=bX a/\wid b=wid a/\b≠ .cC/\refs b=[]
 | .lit v,b,h=>by simp only[cd,ao2] at h;subst h;simp[refs]
 | .ah T l,b,h=>by simp only[cd,ao2] at h;subst h;simp[refs]
 | .an i lo n,b,h=>by
  simp only[cd] at h;split at h
  ·simp only[ao2] at h;subst h;simp[bX,wid,refs]
  ·simp at h
 | .agg l,b,h=>by
  simp only[cd,Option.map_eq_some_iff] at h;obtain⟨m,h1,rfl⟩:=h;obtain⟨h2,h3⟩:=ue l m h1;simp[bX,wid,refs,h2,h3]
 | .jh T a,b,h=>by simp only[cd,ao2] at h;subst h;simp[refs]
 | .jx T a,b,h=>by
  simp only[cd,Option.map_eq_some_iff] at h;obtain⟨m,h1,rfl⟩:=h;obtain⟨h2,h3,h4,h5⟩:=iR a m h1;simp[bX,wid,refs,h5]
 | .bn f [],b,h=>by simp only[cd,ao2] at h;subst h;simp[refs,cU]
 | .bn f (_::_),b,h=>by simp[cd] at h
 | .eQ _ _ _ _,b,h=>by simp only[cd,ao2] at h;subst h;simp[refs]
 | .mp i,b,h=>by
  simp only[cd] at h;split at h
  ·simp only[ao2] at h;subst h;simp[bX,wid,refs]
  ·simp at h
 | .cC,b,h| .aJ _,b,h| .ptr _ _ _ _,b,h| .cf _,b,h| .lv _ _,b,h=>by simp[cd] at h
theorem ue{st:List Obj}: ∀(l m:List AV),lT st l=some m->eC m=eC l/\cU m=[]
 |[],m,h=>by simp only[lT,ao2] at h;subst h;simp[cU]
 | a::l,m,h=>by
  simp only[lT] at h;split at h
  ·rename_i b m' h1 h2
   simp only[ao2] at h;subst h
   obtain⟨_,g1,_,g2⟩:=iR a b h1;obtain⟨g3,g4⟩:=ue l m' h2;simp[eC,cU,g1,g2,g3,g4]
  ·simp at h
end
theorem O5{C C'}(hk:bP C C')(hl:eX C.P){V}: ∀es ents,cx C V es ents->ents.map (·.key)=es.map (·.1)/\ck C.P (es.map (·.2)) V/\MT C' (es.map (·.2)) (ents.map (·.val))
 |[],[],_=>⟨rfl,trivial,by rfl⟩
 |[],_::_,h=>by grind [cx]
 |_::_,[],h=>by grind [cx]
 |(k,a)::es,e::ents,h=>by
  obtain⟨h1,h2,h3,h4⟩:=h;obtain⟨e1,e2,e3⟩:=O5 hk hl _ _ h4;exact⟨by grind,⟨h2,e2⟩,h3.1,h3.2.1,l7 hk hl a V _ _ _ _ h2 (by simp) h3.2.2,e3⟩
mutual
theorem ve{C C':Ctx}(hI:Inv C)(hk:bP C C')(hw:C'.w=C.w):
  ∀(a b:AV) (s:Src) (o:Nat),cd C.st a=some b->(∀i,i∈rowsOf a->i<C.st.length->yH C i->C'.X (C.ι i).block)->M C a s o->M C' b s o
 | .lit v,b,s,o,h,_,hm=>by simp only[cd,ao2] at h;subst h;simpa[M] using hm
 | .ah T l,b,s,o,h,_,hm=>by
  simp only[cd,ao2] at h;subst h
  exact M.fV hk hI.lay (fun i hi=>by simp[refs] at hi) (fun _ _=>rfl) hm
 | .an i lo n,b,s,o,h,hr,hm=>by
  simp only[cd] at h;split at h
  ·rename_i T xs hel
   simp only[ao2] at h;subst h
   simp only[M] at hm;obtain⟨hi,v,h1,h2,h3⟩:=hm;exact xa hI hk hw hi h3 hel (fun hn=>hr i (by simp[rowsOf]) hi (.inl ⟨⟨_,hel⟩,hn⟩)) s o h1
  ·simp at h
 | .agg l,b,s,o,h,hr,hm=>by
  simp only[cd,Option.map_eq_some_iff] at h;obtain⟨m,h1,rfl⟩:=h;simp only[M] at hm⊢;exact Jd hI hk hw l m s o h1 (by simpa[rowsOf] using hr) hm
 | .jh T a,b,s,o,h,_,hm=>by
  simp only[cd,ao2] at h;subst h
  exact M.fV hk hI.lay (fun i hi=>by simp[refs] at hi) (fun _ _=>rfl) hm
 | .jx T a,b,s,o,h,hr,hm=>by
  simp only[cd,Option.map_eq_some_iff] at h;obtain⟨m,h1,rfl⟩:=h;simp only[M] at hm⊢;obtain⟨u,h2,h3,h4,h5⟩:=hm;obtain⟨g1,g2,_,_⟩:=iR a m h1;exact⟨u,h2,by rw[h3,g1],by rw[h4,g2],ve hI hk hw a m _ _ h1 (by simpa[rowsOf] using hr) h5⟩
 | .bn f [],b,s,o,h,_,hm=>by
  simp only[cd,ao2] at h;subst h
  simpa[M,MT] using hm
 | .bn f (_::_),b,_,_,h,_,_=>by simp[cd] at h
 | .eQ K V ks vs,b,s,o,h,_,hm=>by
  simp only[cd,ao2] at h;subst h
  exact M.fV hk hI.lay (fun i hi=>by simp[refs] at hi) (fun _ _=>rfl) hm
 | .mp i,b,s,o,h,hr,hm=>by
  simp only[cd] at h;split at h
  ·rename_i K V es hst
   simp only[ao2] at h;subst h
   simp only[M] at hm⊢;obtain⟨hi,v,h1,h2,h3⟩:=hm;obtain rfl:=h3 K V es hst;have hob:=hI.obj i hi;rw[hst] at hob;obtain⟨_,entries,clock,hh,hent,hmap⟩:=hob;obtain⟨e1,e2,e3⟩:=O5 hk hI.lay es entries.toList hent;exact .inr ⟨_,entries,clock,h1,hr i (by simp[rowsOf]) hi (.inr ⟨_,_,_,hst⟩),by rw[hw];exact hh,by rw[hk.P];exact hmap,e1,by rw[hk.P];exact e2,e3⟩
  ·simp at h
 | .cC,b,_,_,h,_,_| .aJ _,b,_,_,h,_,_| .ptr _ _ _ _,b,_,_,h,_,_| .cf _,b,_,_,h,_,_| .lv _ _,b,_,_,h,_,_=>by simp[cd] at h
theorem Jd{C C':Ctx}(hI:Inv C)(hk:bP C C')(hw:C'.w=C.w):
  ∀(l m:List AV) (s:Src) (o:Nat),lT C.st l=some m->(∀i,i∈rz l->i<C.st.length->yH C i->C'.X (C.ι i).block)->ML C l s o->ML C' m s o
 |[],m,s,o,h,_,_=>by simp only[lT,ao2] at h;subst h;simp[ML]
 | a::l,m,s,o,h,hr,hm=>by
  simp only[lT] at h;split at h
  ·rename_i b m' h1 h2
   simp only[ao2] at h;subst h
   simp only[ML] at hm⊢;obtain⟨_,g1,_,_⟩:=iR a b h1;refine⟨ve hI hk hw a b s o h1 (fun i hi=>hr i (by simp[rz,hi])) hm.1,?_⟩;rw[g1];exact Jd hI hk hw l m' s _ h2 (fun i hi=>hr i (by simp[rz,hi])) hm.2
  ·simp at h
end
theorem flat_lit{P E v}(b:r6 P E=true)(h:bB P (.lit v) E):bh v=true/\P.cellsOf E=1:=by
 unfold r6 at b;simp only[bB] at h;split at b
 ·rename_i k a
  rw[a] at h;obtain⟨n,rfl⟩:=h;exact⟨rfl,by grind⟩
 ·rename_i a
  rw[a] at h;obtain⟨n,rfl⟩:=h;exact⟨rfl,by grind⟩
 ·rename_i a
  rw[a] at h;obtain⟨n,rfl⟩:=h;exact⟨rfl,by grind⟩
 grind
theorem ze{P E}: ∀(l:List _),(∀v,v∈l->bB P (.lit v) E)->ck P (l.map .lit) E
 |[],_=>trivial
 |v::l,h=>by
  exact⟨h v (by simp),ze l (by grind)⟩
theorem I2{C E}(a:r6 C.P E=true): ∀(l:List _) s o,(∀v,v∈l->bB C.P (.lit v) E)->(∀j,j<l.length->s (o+j)=l[j]?)->MR C (l.map .lit) 1 s o
 |[],_,_,_,_=>by simp[MR]
 |v::l,s,o,h,b=>by
  refine⟨⟨by simpa using b 0 (by simp),(flat_lit a (h v (by simp))).1⟩,I2 a l s _ (by grind) fun j c=>?_⟩;have:=b (j+1) (by grind)
  grind
theorem CB{C B E k m l v}(f:r6 C.P E=true)(g: ∀v,v∈l->bB C.P (.lit v) E)(h:mw C B E k l m v):
  ∃p cap,v= .slice p m cap/\m<=cap/\((l.take m).map AV.lit).length=m/\ck C.P ((l.take m).map .lit) E/\(m≠0->∃b,p=some ⟨b,0,none⟩/\b<C.w.heap.size/\MR C ((l.take m).map .lit) (C.P.cellsOf E) (cellAt C.w b) 0):=by
 obtain⟨i,s⟩:=h;have a:((l.take m).map AV.lit).length=m:=by simp;omega
 have o:=ze (l.take m) fun v q=>g v (List.mem_of_mem_take q)
 rcases s with⟨rfl,rfl⟩|⟨b,cap,c,rfl,r,_,_,_,_,n,_,x⟩
 ·grind
 ·refine⟨_,cap,rfl,r,a,o,fun y=>⟨b,rfl,(Array.getElem?_eq_some_iff.1 n).1,?_⟩⟩
  have d:l≠[]:=by intro e;subst e;simp at i;omega
  have t:C.P.cellsOf E=1:=by
   match l,d with
   |v::_,_=>exact(flat_lit f (g v (by simp))).2
  rw[t];refine I2 f _ _ _ (by grind) fun j u=>?_
  simp_all[List.length_take,Nat.zero_add,List.getElem?_take_of_lt,cellAt,World.cell?]
theorem foldl_push: ∀(a:List Int) (s:ByteArray),a.foldl (fun r n=>r.push (UInt8.ofNat n.toNat)) s=⟨s.data++(a.map fun n=>UInt8.ofNat n.toNat).toArray⟩
 |[],s=>by rfl
 |n::a,s=>by
  rw[List.foldl_cons,foldl_push _];simp
theorem I4{C E}(d:C.P.underlying E=some (.int .u8)): ∀l s o,ck C.P l E->MR C l 1 s o->∀j v,((l.map toInt).map (Value.int .u8))[j]? =some v->s (o+j)=some v
 |[],_,_,_,_,j,v,h=>by simp at h
 | a::l,s,o,c,b,j,v,h=>by
  simp only[ck] at c;cases j with
  | zero=>
   cases a<;>simp only[bB,d,false_and] at c
   ·obtain⟨⟨n,rfl⟩,_⟩:=c
    have b:=b.1;simp only[M] at b;rw[Nat.add_zero,←h];exact b.1
   all_goals simp at c
  |succ j=>
   have:=I4 d l s (o+1) c.2 b.2 j v (by simpa using h)
   grind
theorem zr{C E l v}(f:C.P.underlying E=some (.int .u8))(g:C.P.cellsOf E=1)(h:Rel C (.ah E l) v):(Conv.bytesToString v).run C.P C.w= .ok (.string (bytesOf l)) C.w:=by
 obtain⟨k,p,cap,rfl,_,m⟩:=nj h;cases p with
 |none=>
  have:l=[]:=by grind
  subst this;rfl
 | some q=>
  have c:(loadCells q l.length).run C.P C.w= .ok ((l.map toInt).map (Value.int .u8)).toArray C.w:=by
   have i:((l.map toInt).map (Value.int .u8)).length=l.length:=by simp
   rw[←i];refine Go.run_loadCells_list C.w q _ fun j v e=>?_
   rcases l with _|⟨a,l⟩
   ·simp at e
   ·obtain⟨b,off,n,_,d⟩:=m (by simp)
    cases n;rw[g] at d;have:=I4 f _ _ off k d j v e
    rw[ee];exact this
  rw[Go.run_bytesToString C.w q l.length cap _ c,foldl_push];congr 3
  simp
theorem yr{C}(b:Inv C){i lo n E l v}(g:C.P.underlying E=some (.int .u8))(j:C.P.cellsOf E=1)(a:hR (ay C.st i)=some (E,l))(h:Rel C (.an i lo n) v):
  (Conv.bytesToString v).run C.P C.w= .ok (.string (bytesOf ((l.drop lo).take n))) C.w/\eH v=false:=by
 obtain⟨d,c⟩:=fN h;have e:eH v=false:=by
  obtain⟨_,⟨_,rfl,_⟩|⟨_,cap,q,rfl,_⟩⟩:=c.1 E l a<;>rfl
 have k:=xa b (lD b) rfl d c a (fun m=>by
  obtain⟨_,⟨o,_⟩|⟨_,f,_⟩⟩:=rE b d a
  ·grind
  ·exact f) (fun _=>some v) 0 rfl
 exact⟨zr (C:=C.still) g j (dV rfl e k (tK b)),e⟩
end Go.Dn
