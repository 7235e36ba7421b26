import Derived.Test.YtioeffnadipbaaaGreatDoorDnJ
import Derived.Laws.BytesString
import Derived.Laws.Cells
namespace Go.Dn
open Go
def Ctx.still(C:Ctx):={C with X:=fun b=>b<C.w.heap.size,st:=[],ι:=fun _=>⟨0,0,true⟩,cls:=id}
theorem mD{C}(c:Inv C):bW C C.still:=⟨rfl,fun b a=>c.xs b a,fun _ _=>rfl⟩
theorem uU{C}(c:Inv C):Inv C.still:=
 ⟨c.lay,fun i d=>by grind [Ctx.still],fun i j d=>by grind [Ctx.still],fun b a=>a,fun i d=>by grind [Ctx.still],fun b a=>absurd rfl a,c.mo (mD c)⟩
theorem tg{C}(e:Inv C){i}(j:i<C.st.length){T xs}(h:iL (ay C.st i)=some (T,xs)):
  cu C.P xs T/\((C.ι i).isNil=true/\xs=[]\/(C.ι i).isNil=false/\(C.ι i).block<C.w.heap.size/\MR C xs (C.P.cellsOf T) (cellAt C.w (C.ι i).block) 0):=by
 have a:=e.obj i j;cases g:ay _ i<;>rw[g] at h a<;>simp[iL] at h
 ·obtain⟨rfl,rfl⟩:=h
  obtain⟨c,b|⟨b,_,k,d,_,_,_,f⟩⟩:=a
  ·grind
  grind
 ·obtain⟨rfl,rfl⟩:=h
  obtain⟨c,b|⟨b,d,f⟩⟩:=a
  ·grind
  ·exact⟨c, .inr ⟨b,e.xs _ d,f⟩⟩
def zz(C:Ctx) i:=(∃y,iL (ay C.st i)=some y)/\(C.ι i).isNil=false\/ ∃K V a,ay C.st i= .map K V a
theorem TL{C}(b:Inv C){i}(c:i<C.st.length)(h:zz C i):(C.ι i).block<C.w.heap.size:=by
 rcases h with⟨⟨⟨T,xs⟩,a⟩,f⟩|⟨K,V,e,d⟩
 ·obtain⟨_,⟨g,_⟩|⟨_,j,_⟩⟩:=tg b c a
  ·grind
  grind
 ·exact((b.obj i c).lt (by rw[d];rfl)).1
theorem zc{C C'}(hI:Inv C)(hk:bW C C')(hw:C'.w=C.w){i lo n v}(hi:i<C.st.length)(hs:l7 C i lo n v){T xs}(h:iL (ay C.st i)=some (T,xs))
  (hX:(C.ι i).isNil=false->C'.X (C.ι i).block) s o (hv:s o=some v):M C' (.ah T ((xs.drop lo).take n)) s o:=by
 obtain⟨hlen,hv'⟩:=hs.1 T xs h;obtain⟨hp,hrow⟩:=tg hI hi h;simp only[M];have hl:((xs.drop lo).take n).length=n:=by simp;omega
 refine⟨by rw[hk.P];exact j8 _ _ (lN _ _ hp),?_⟩;rw[hl,hv];rcases hv' with⟨_,rfl,rfl,rfl⟩|⟨hn,cap,q,rfl,hq,hc1,hc2⟩
 ·simp
 ·refine⟨some q,cap,rfl,hc1,fun hne=>?_⟩
  have hn0:0<n:=by grind
  have hq':=hq.resolve_right (by omega);rcases hrow with⟨h0,_⟩|⟨_,hlt,hm⟩
  ·rw[hn] at h0;cases h0
  ·refine⟨_,_,by rw[hq'],hX hn,?_⟩
   have h1:=r8 _ n _ _ _ (wx xs lo _ _ _ hm);rw[Nat.zero_add] at h1;have:=gk hk hI.lay ((xs.drop lo).take n) T (cellAt C.w (C.ι i).block) (fun j=>C'.w.cell? ⟨(C.ι i).block,j,none⟩) _ (lo*C.P.cellsOf T) (j8 _ _ (lN _ _ hp))
    (fun j _=>by rw[hw];rfl) h1
   rw[hk.P];exact this
mutual
theorem jv{st:List Obj}: ∀(a b:AV),cq st a=some b->cg b=cg a/\wid b=wid a/\b≠ .cP/\refs b=[]
 | .lit v,b,h=>by simp only[cq,aC8] at h;subst h;simp[refs]
 | .ah T l,b,h=>by simp only[cq,aC8] at h;subst h;simp[refs]
 | .ak i lo n,b,h=>by
  simp only[cq] at h;split at h
  ·simp only[aC8] at h;subst h;simp[cg,wid,refs]
  ·simp at h
 | .agg l,b,h=>by
  simp only[cq,Option.map_eq_some_iff] at h;obtain⟨m,h1,rfl⟩:=h;obtain⟨h2,h3⟩:=vD l m h1;simp[cg,wid,refs,h2,h3]
 | .jK T a,b,h=>by simp only[cq,aC8] at h;subst h;simp[refs]
 | .jT T a,b,h=>by
  simp only[cq,Option.map_eq_some_iff] at h;obtain⟨m,h1,rfl⟩:=h;obtain⟨h2,h3,h4,h5⟩:=jv a m h1;simp[cg,wid,refs,h5]
 | .bo f [],b,h=>by simp only[cq,aC8] at h;subst h;simp[refs,df]
 | .bo f (_::_),b,h=>by simp[cq] at h
 | .fh _ _ _ _,b,h=>by simp only[cq,aC8] at h;subst h;simp[refs]
 | .mp i,b,h=>by
  simp only[cq] at h;split at h
  ·simp only[aC8] at h;subst h;simp[cg,wid,refs]
  ·simp at h
 | .cP,b,h| .aH _,b,h| .ptr _ _ _ _,b,h| .cn _,b,h| .lZ _ _,b,h=>by simp[cq] at h
theorem vD{st:List Obj}: ∀(l m:List AV),mu st l=some m->fc m=fc l/\df m=[]
 |[],m,h=>by simp only[mu,aC8] at h;subst h;simp[df]
 | a::l,m,h=>by
  simp only[mu] at h;split at h
  ·rename_i b m' h1 h2
   simp only[aC8] at h;subst h
   obtain⟨_,g1,_,g2⟩:=jv a b h1;obtain⟨g3,g4⟩:=vD l m' h2;simp[fc,df,g1,g2,g3,g4]
  ·simp at h
end
theorem Oq{C C'}(hk:bW C C')(hl:ft C.P){V}: ∀es ents,cF C V es ents->ents.map (·.key)=es.map (·.1)/\cu C.P (es.map (·.2)) V/\MT C' (es.map (·.2)) (ents.map (·.val))
 |[],[],_=>⟨rfl,trivial,by rfl⟩
 |[],_::_,h=>by grind [cF]
 |_::_,[],h=>by grind [cF]
 |(k,a)::es,e::ents,h=>by
  obtain⟨h1,h2,h3,h4⟩:=h;obtain⟨e1,e2,e3⟩:=Oq hk hl _ _ h4;exact⟨by grind,⟨h2,e2⟩,h3.1,h3.2.1,mH hk hl a V _ _ _ _ h2 (by simp) h3.2.2,e3⟩
mutual
theorem wL{C C':Ctx}(hI:Inv C)(hk:bW C C')(hw:C'.w=C.w):
  ∀(a b:AV) (s:Src) (o:Nat),cq C.st a=some b->(∀i,i∈rowsOf a->i<C.st.length->zz C i->C'.X (C.ι i).block)->M C a s o->M C' b s o
 | .lit v,b,s,o,h,_,hm=>by simp only[cq,aC8] at h;subst h;simpa[M] using hm
 | .ah T l,b,s,o,h,_,hm=>by
  simp only[cq,aC8] at h;subst h
  exact M.gI hk hI.lay (fun i hi=>by simp[refs] at hi) (fun _ _=>rfl) hm
 | .ak i lo n,b,s,o,h,hr,hm=>by
  simp only[cq] at h;split at h
  ·rename_i T xs hel
   simp only[aC8] at h;subst h
   simp only[M] at hm;obtain⟨hi,v,h1,h2,h3⟩:=hm;exact zc hI hk hw hi h3 hel (fun hn=>hr i (by simp[rowsOf]) hi (.inl ⟨⟨_,hel⟩,hn⟩)) s o h1
  ·simp at h
 | .agg l,b,s,o,h,hr,hm=>by
  simp only[cq,Option.map_eq_some_iff] at h;obtain⟨m,h1,rfl⟩:=h;simp only[M] at hm⊢;exact J9 hI hk hw l m s o h1 (by simpa[rowsOf] using hr) hm
 | .jK T a,b,s,o,h,_,hm=>by
  simp only[cq,aC8] at h;subst h
  exact M.gI hk hI.lay (fun i hi=>by simp[refs] at hi) (fun _ _=>rfl) hm
 | .jT T a,b,s,o,h,hr,hm=>by
  simp only[cq,Option.map_eq_some_iff] at h;obtain⟨m,h1,rfl⟩:=h;simp only[M] at hm⊢;obtain⟨u,h2,h3,h4,h5⟩:=hm;obtain⟨g1,g2,_,_⟩:=jv a m h1;exact⟨u,h2,by rw[h3,g1],by rw[h4,g2],wL hI hk hw a m _ _ h1 (by simpa[rowsOf] using hr) h5⟩
 | .bo f [],b,s,o,h,_,hm=>by
  simp only[cq,aC8] at h;subst h
  simpa[M,MT] using hm
 | .bo f (_::_),b,_,_,h,_,_=>by simp[cq] at h
 | .fh K V ks vs,b,s,o,h,_,hm=>by
  simp only[cq,aC8] at h;subst h
  exact M.gI hk hI.lay (fun i hi=>by simp[refs] at hi) (fun _ _=>rfl) hm
 | .mp i,b,s,o,h,hr,hm=>by
  simp only[cq] at h;split at h
  ·rename_i K V es hst
   simp only[aC8] at h;subst h
   simp only[M] at hm⊢;obtain⟨hi,v,h1,h2,h3⟩:=hm;obtain rfl:=h3 K V es hst;have hob:=hI.obj i hi;rw[hst] at hob;obtain⟨_,entries,clock,hh,hent,hmap⟩:=hob;obtain⟨e1,e2,e3⟩:=Oq hk hI.lay es entries.toList hent;exact .inr ⟨_,entries,clock,h1,hr i (by simp[rowsOf]) hi (.inr ⟨_,_,_,hst⟩),by rw[hw];exact hh,by rw[hk.P];exact hmap,e1,by rw[hk.P];exact e2,e3⟩
  ·simp at h
 | .cP,b,_,_,h,_,_| .aH _,b,_,_,h,_,_| .ptr _ _ _ _,b,_,_,h,_,_| .cn _,b,_,_,h,_,_| .lZ _ _,b,_,_,h,_,_=>by simp[cq] at h
theorem J9{C C':Ctx}(hI:Inv C)(hk:bW C C')(hw:C'.w=C.w):
  ∀(l m:List AV) (s:Src) (o:Nat),mu C.st l=some m->(∀i,i∈th l->i<C.st.length->zz C i->C'.X (C.ι i).block)->ML C l s o->ML C' m s o
 |[],m,s,o,h,_,_=>by simp only[mu,aC8] at h;subst h;simp[ML]
 | a::l,m,s,o,h,hr,hm=>by
  simp only[mu] at h;split at h
  ·rename_i b m' h1 h2
   simp only[aC8] at h;subst h
   simp only[ML] at hm⊢;obtain⟨_,g1,_,_⟩:=jv a b h1;refine⟨wL hI hk hw a b s o h1 (fun i hi=>hr i (by simp[th,hi])) hm.1,?_⟩;rw[g1];exact J9 hI hk hw l m' s _ h2 (fun i hi=>hr i (by simp[th,hi])) hm.2
  ·simp at h
end
theorem flat_lit{P E v}(b:su P E=true)(h:bE P (.lit v) E):bj v=true/\P.cellsOf E=1:=by
 unfold su at b;simp only[bE] at h;split at b
 ·rename_i k a
  rw[a] at h;obtain⟨n,rfl⟩:=h;exact⟨rfl,by grind⟩
 ·rename_i a
  rw[a] at h;obtain⟨n,rfl⟩:=h;exact⟨rfl,by grind⟩
 ·rename_i a
  rw[a] at h;obtain⟨n,rfl⟩:=h;exact⟨rfl,by grind⟩
 grind
theorem Al{P E}: ∀(l:List _),(∀v,v∈l->bE P (.lit v) E)->cu P (l.map .lit) E
 |[],_=>trivial
 |v::l,h=>by
  exact⟨h v (by simp),Al l (by grind)⟩
theorem Ji{C E}(a:su C.P E=true): ∀(l:List _) s o,(∀v,v∈l->bE C.P (.lit v) E)->(∀j,j<l.length->s (o+j)=l[j]?)->MR C (l.map .lit) 1 s o
 |[],_,_,_,_=>by simp[MR]
 |v::l,s,o,h,b=>by
  refine⟨⟨by simpa using b 0 (by simp),(flat_lit a (h v (by simp))).1⟩,Ji a l s _ (by grind) fun j c=>?_⟩;have:=b (j+1) (by grind)
  grind
theorem F3{C B E k m l v}(f:su C.P E=true)(g: ∀v,v∈l->bE C.P (.lit v) E)(h:mZ C B E k l m v):
  ∃p cap,v= .slice p m cap/\m<=cap/\((l.take m).map AV.lit).length=m/\cu C.P ((l.take m).map .lit) E/\(m≠0->∃b,p=some ⟨b,0,none⟩/\b<C.w.heap.size/\MR C ((l.take m).map .lit) (C.P.cellsOf E) (cellAt C.w b) 0):=by
 obtain⟨i,s⟩:=h;have a:((l.take m).map AV.lit).length=m:=by simp;omega
 have o:=Al (l.take m) fun v q=>g v (List.mem_of_mem_take q)
 rcases s with⟨rfl,rfl⟩|⟨b,cap,c,rfl,r,_,_,_,_,n,_,x⟩
 ·grind
 ·refine⟨_,cap,rfl,r,a,o,fun y=>⟨b,rfl,(Array.getElem?_eq_some_iff.1 n).1,?_⟩⟩
  have d:l≠[]:=by intro e;subst e;simp at i;omega
  have t:C.P.cellsOf E=1:=by
   match l,d with
   |v::_,_=>exact(flat_lit f (g v (by simp))).2
  rw[t];refine Ji f _ _ _ (by grind) fun j u=>?_
  simp_all[List.length_take,Nat.zero_add,List.getElem?_take_of_lt,cellAt,World.cell?]
theorem foldl_push: ∀(a:List Int) (s:ByteArray),a.foldl (fun r n=>r.push (UInt8.ofNat n.toNat)) s=⟨s.data++(a.map fun n=>UInt8.ofNat n.toNat).toArray⟩
 |[],s=>by rfl
 |n::a,s=>by
  rw[List.foldl_cons,foldl_push _];simp
theorem KS{C E}(d:C.P.underlying E=some (.int .u8)): ∀l s o,cu C.P l E->MR C l 1 s o->∀j v,((l.map toInt).map (Value.int .u8))[j]? =some v->s (o+j)=some v
 |[],_,_,_,_,j,v,h=>by simp at h
 | a::l,s,o,c,b,j,v,h=>by
  simp only[cu] at c;cases j with
  | zero=>
   cases a<;>simp only[bE,d,false_and] at c
   ·obtain⟨⟨n,rfl⟩,_⟩:=c
    have b:=b.1;simp only[M] at b;rw[Nat.add_zero,←h];exact b.1
   all_goals simp at c
  |succ j=>
   have:=KS d l s (o+1) c.2 b.2 j v (by simpa using h)
   grind
theorem Af{C E l v}(f:C.P.underlying E=some (.int .u8))(g:C.P.cellsOf E=1)(h:Rel C (.ah E l) v):(Conv.bytesToString v).run C.P C.w= .ok (.string (bytesOf l)) C.w:=by
 obtain⟨k,p,cap,rfl,_,m⟩:=ou h;cases p with
 |none=>
  have:l=[]:=by grind
  subst this;rfl
 | some q=>
  have c:(loadCells q l.length).run C.P C.w= .ok ((l.map toInt).map (Value.int .u8)).toArray C.w:=by
   have i:((l.map toInt).map (Value.int .u8)).length=l.length:=by simp
   rw[←i];refine Go.run_loadCells_list C.w q _ fun j v e=>?_
   rcases l with _|⟨a,l⟩
   ·simp at e
   ·obtain⟨b,off,n,_,d⟩:=m (by simp)
    cases n;rw[g] at d;have:=KS f _ _ off k d j v e
    rw[eF];exact this
  rw[Go.run_bytesToString C.w q l.length cap _ c,foldl_push];congr 3
  simp
theorem zC{C}(b:Inv C){i lo n E l v}(g:C.P.underlying E=some (.int .u8))(j:C.P.cellsOf E=1)(a:iL (ay C.st i)=some (E,l))(h:Rel C (.ak i lo n) v):
  (Conv.bytesToString v).run C.P C.w= .ok (.string (bytesOf ((l.drop lo).take n))) C.w/\e6 v=false:=by
 obtain⟨d,c⟩:=gw h;have e:e6 v=false:=by
  obtain⟨_,⟨_,rfl,_⟩|⟨_,cap,q,rfl,_⟩⟩:=c.1 E l a<;>rfl
 have k:=zc b (mD b) rfl d c a (fun m=>by
  obtain⟨_,⟨o,_⟩|⟨_,f,_⟩⟩:=tg b d a
  ·grind
  ·exact f) (fun _=>some v) 0 rfl
 exact⟨Af (C:=C.still) g j (eu rfl e k (uU b)),e⟩
end Go.Dn
