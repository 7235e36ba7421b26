import Derived.Test.YtioeffnadipbaaaGreatDoorDnJ
import Derived.Laws.BytesString
import Derived.Laws.Cells
namespace Go.Dn
open Go
def Ctx.still(C:Ctx):={C with X:=fun b=>b<C.w.heap.size,st:=[],ι:=fun _=>⟨0,0,true⟩,cls:=id}
theorem l9{C}(c:Inv C):bK C C.still:=⟨rfl,fun b a=>c.xs b a,fun _ _=>rfl⟩
theorem ue{C}(c:Inv C):Inv C.still:=
 ⟨c.lay,fun i d=>by grind [Ctx.still],fun i j d=>by grind [Ctx.still],fun b a=>a,fun i d=>by grind [Ctx.still],fun b a=>absurd rfl a,c.lR (l9 c)⟩
theorem sG{C}(e:Inv C){i}(j:i<C.st.length){T xs}(h:ib (au C.st i)=some (T,xs)):
  b8 C.P xs T/\((C.ι i).isNil=true/\xs=[]\/(C.ι i).isNil=false/\(C.ι i).block<C.w.heap.size/\MR C xs (C.P.cellsOf T) (cellAt C.w (C.ι i).block) 0):=by
 have a:=e.obj i j;cases g:au _ i<;>rw[g] at h a<;>simp[ib] at h
 ·obtain⟨rfl,rfl⟩:=h
  obtain⟨c,b|⟨b,_,k,d,_,_,_,f⟩⟩:=a
  ·grind
  grind
 ·obtain⟨rfl,rfl⟩:=h
  obtain⟨c,b|⟨b,d,f⟩⟩:=a
  ·grind
  ·exact⟨c, .inr ⟨b,e.xs _ d,f⟩⟩
def yl(C:Ctx) i:=(∃y,ib (au C.st i)=some y)/\(C.ι i).isNil=false\/ ∃K V a,au C.st i= .map K V a
theorem Qf{C}(b:Inv C){i}(c:i<C.st.length)(h:yl C i):(C.ι i).block<C.w.heap.size:=by
 rcases h with⟨⟨⟨T,xs⟩,a⟩,f⟩|⟨K,V,e,d⟩
 ·obtain⟨_,⟨g,_⟩|⟨_,j,_⟩⟩:=sG b c a
  ·grind
  grind
 ·exact((b.obj i c).lt (by rw[d];rfl)).1
theorem x1{C C'}(hI:Inv C)(hk:bK C C')(hw:C'.w=C.w){i lo n v}(hi:i<C.st.length)(hs:lH C i lo n v){T xs}(h:ib (au C.st i)=some (T,xs))
  (hX:(C.ι i).isNil=false->C'.X (C.ι i).block) s o (hv:s o=some v):M C' (.ad T ((xs.drop lo).take n)) s o:=by
 obtain⟨hlen,hv'⟩:=hs.1 T xs h;obtain⟨hp,hrow⟩:=sG hI hi h;simp only[M];have hl:((xs.drop lo).take n).length=n:=by simp;omega
 refine⟨by rw[hk.P];exact jJ _ _ (lk _ _ hp),?_⟩;rw[hl,hv];rcases hv' with⟨_,rfl,rfl,rfl⟩|⟨hn,cap,q,rfl,hq,hc1,hc2⟩
 ·simp
 ·refine⟨some q,cap,rfl,hc1,fun hne=>?_⟩
  have hn0:0<n:=by grind
  have hq':=hq.resolve_right (by omega);rcases hrow with⟨h0,_⟩|⟨_,hlt,hm⟩
  ·rw[hn] at h0;cases h0
  ·refine⟨_,_,by rw[hq'],hX hn,?_⟩
   have h1:=rH _ n _ _ _ (vg xs lo _ _ _ hm);rw[Nat.zero_add] at h1;have:=gg hk hI.lay ((xs.drop lo).take n) T (cellAt C.w (C.ι i).block) (fun j=>C'.w.cell? ⟨(C.ι i).block,j,none⟩) _ (lo*C.P.cellsOf T) (jJ _ _ (lk _ _ hp))
    (fun j _=>by rw[hw];rfl) h1
   rw[hk.P];exact this
mutual
theorem iT{st:List Obj}: ∀(a b:AV),b9 st a=some b->bV b=bV a/\wid b=wid a/\b≠ .cK/\refs b=[]
 | .lit v,b,h=>by simp only[b9,an5] at h;subst h;simp[refs]
 | .ad T l,b,h=>by simp only[b9,an5] at h;subst h;simp[refs]
 | .ax i lo n,b,h=>by
  simp only[b9] at h;split at h
  ·simp only[an5] at h;subst h;simp[bV,wid,refs]
  ·simp at h
 | .agg l,b,h=>by
  simp only[b9,Option.map_eq_some_iff] at h;obtain⟨m,h1,rfl⟩:=h;obtain⟨h2,h3⟩:=uO l m h1;simp[bV,wid,refs,h2,h3]
 | .jA T a,b,h=>by simp only[b9,an5] at h;subst h;simp[refs]
 | .jz T a,b,h=>by
  simp only[b9,Option.map_eq_some_iff] at h;obtain⟨m,h1,rfl⟩:=h;obtain⟨h2,h3,h4,h5⟩:=iT a m h1;simp[bV,wid,refs,h5]
 | .bp f [],b,h=>by simp only[b9,an5] at h;subst h;simp[refs,df]
 | .bp f (_::_),b,h=>by simp[b9] at h
 | .eO _ _ _ _,b,h=>by simp only[b9,an5] at h;subst h;simp[refs]
 | .mp i,b,h=>by
  simp only[b9] at h;split at h
  ·simp only[an5] at h;subst h;simp[bV,wid,refs]
  ·simp at h
 | .cK,b,h| .aK _,b,h| .ptr _ _ _ _,b,h| .bJ _,b,h| .lC _ _,b,h=>by simp[b9] at h
theorem uO{st:List Obj}: ∀(l m:List AV),lV st l=some m->eL m=eL l/\df m=[]
 |[],m,h=>by simp only[lV,an5] at h;subst h;simp[df]
 | a::l,m,h=>by
  simp only[lV] at h;split at h
  ·rename_i b m' h1 h2
   simp only[an5] at h;subst h
   obtain⟨_,g1,_,g2⟩:=iT a b h1;obtain⟨g3,g4⟩:=uO l m' h2;simp[eL,df,g1,g2,g3,g4]
  ·simp at h
end
theorem LK{C C'}(hk:bK C C')(hl:eU C.P){V}: ∀es ents,cE C V es ents->ents.map (·.key)=es.map (·.1)/\b8 C.P (es.map (·.2)) V/\MT C' (es.map (·.2)) (ents.map (·.val))
 |[],[],_=>⟨rfl,trivial,by rfl⟩
 |[],_::_,h=>by grind [cE]
 |_::_,[],h=>by grind [cE]
 |(k,a)::es,e::ents,h=>by
  obtain⟨h1,h2,h3,h4⟩:=h;obtain⟨e1,e2,e3⟩:=LK hk hl _ _ h4;exact⟨by grind,⟨h2,e2⟩,h3.1,h3.2.1,mg hk hl a V _ _ _ _ h2 (by simp) h3.2.2,e3⟩
mutual
theorem vt{C C':Ctx}(hI:Inv C)(hk:bK C C')(hw:C'.w=C.w):
  ∀(a b:AV) (s:Src) (o:Nat),b9 C.st a=some b->(∀i,i∈rowsOf a->i<C.st.length->yl C i->C'.X (C.ι i).block)->M C a s o->M C' b s o
 | .lit v,b,s,o,h,_,hm=>by simp only[b9,an5] at h;subst h;simpa[M] using hm
 | .ad T l,b,s,o,h,_,hm=>by
  simp only[b9,an5] at h;subst h
  exact M.gr hk hI.lay (fun i hi=>by simp[refs] at hi) (fun _ _=>rfl) hm
 | .ax i lo n,b,s,o,h,hr,hm=>by
  simp only[b9] at h;split at h
  ·rename_i T xs hel
   simp only[an5] at h;subst h
   simp only[M] at hm;obtain⟨hi,v,h1,h2,h3⟩:=hm;exact x1 hI hk hw hi h3 hel (fun hn=>hr i (by simp[rowsOf]) hi (.inl ⟨⟨_,hel⟩,hn⟩)) s o h1
  ·simp at h
 | .agg l,b,s,o,h,hr,hm=>by
  simp only[b9,Option.map_eq_some_iff] at h;obtain⟨m,h1,rfl⟩:=h;simp only[M] at hm⊢;exact Hu hI hk hw l m s o h1 (by simpa[rowsOf] using hr) hm
 | .jA T a,b,s,o,h,_,hm=>by
  simp only[b9,an5] at h;subst h
  exact M.gr hk hI.lay (fun i hi=>by simp[refs] at hi) (fun _ _=>rfl) hm
 | .jz T a,b,s,o,h,hr,hm=>by
  simp only[b9,Option.map_eq_some_iff] at h;obtain⟨m,h1,rfl⟩:=h;simp only[M] at hm⊢;obtain⟨u,h2,h3,h4,h5⟩:=hm;obtain⟨g1,g2,_,_⟩:=iT a m h1;exact⟨u,h2,by rw[h3,g1],by rw[h4,g2],vt hI hk hw a m _ _ h1 (by simpa[rowsOf] using hr) h5⟩
 | .bp f [],b,s,o,h,_,hm=>by
  simp only[b9,an5] at h;subst h
  simpa[M,MT] using hm
 | .bp f (_::_),b,_,_,h,_,_=>by simp[b9] at h
 | .eO K V ks vs,b,s,o,h,_,hm=>by
  simp only[b9,an5] at h;subst h
  exact M.gr hk hI.lay (fun i hi=>by simp[refs] at hi) (fun _ _=>rfl) hm
 | .mp i,b,s,o,h,hr,hm=>by
  simp only[b9] at h;split at h
  ·rename_i K V es hst
   simp only[an5] at h;subst h
   simp only[M] at hm⊢;obtain⟨hi,v,h1,h2,h3⟩:=hm;obtain rfl:=h3 K V es hst;have hob:=hI.obj i hi;rw[hst] at hob;obtain⟨_,entries,clock,hh,hent,hmap⟩:=hob;obtain⟨e1,e2,e3⟩:=LK hk hI.lay es entries.toList hent;exact .inr ⟨_,entries,clock,h1,hr i (by simp[rowsOf]) hi (.inr ⟨_,_,_,hst⟩),by rw[hw];exact hh,by rw[hk.P];exact hmap,e1,by rw[hk.P];exact e2,e3⟩
  ·simp at h
 | .cK,b,_,_,h,_,_| .aK _,b,_,_,h,_,_| .ptr _ _ _ _,b,_,_,h,_,_| .bJ _,b,_,_,h,_,_| .lC _ _,b,_,_,h,_,_=>by simp[b9] at h
theorem Hu{C C':Ctx}(hI:Inv C)(hk:bK C C')(hw:C'.w=C.w):
  ∀(l m:List AV) (s:Src) (o:Nat),lV C.st l=some m->(∀i,i∈sH l->i<C.st.length->yl C i->C'.X (C.ι i).block)->ML C l s o->ML C' m s o
 |[],m,s,o,h,_,_=>by simp only[lV,an5] at h;subst h;simp[ML]
 | a::l,m,s,o,h,hr,hm=>by
  simp only[lV] at h;split at h
  ·rename_i b m' h1 h2
   simp only[an5] at h;subst h
   simp only[ML] at hm⊢;obtain⟨_,g1,_,_⟩:=iT a b h1;refine⟨vt hI hk hw a b s o h1 (fun i hi=>hr i (by simp[sH,hi])) hm.1,?_⟩;rw[g1];exact Hu hI hk hw l m' s _ h2 (fun i hi=>hr i (by simp[sH,hi])) hm.2
  ·simp at h
end
theorem flat_lit{P E v}(b:rY P E=true)(h:bu P (.lit v) E):bg v=true/\P.cellsOf E=1:=by
 unfold rY at b;simp only[bu] at h;split at b
 ·rename_i k a
  rw[a] at h;obtain⟨n,rfl⟩:=h;exact⟨rfl,by grind⟩
 ·rename_i a
  rw[a] at h;obtain⟨n,rfl⟩:=h;exact⟨rfl,by grind⟩
 ·rename_i a
  rw[a] at h;obtain⟨n,rfl⟩:=h;exact⟨rfl,by grind⟩
 grind
theorem yW{P E}: ∀(l:List _),(∀v,v∈l->bu P (.lit v) E)->b8 P (l.map .lit) E
 |[],_=>trivial
 |v::l,h=>by
  exact⟨h v (by simp),yW l (by grind)⟩
theorem GM{C E}(a:rY C.P E=true): ∀(l:List _) s o,(∀v,v∈l->bu C.P (.lit v) E)->(∀j,j<l.length->s (o+j)=l[j]?)->MR C (l.map .lit) 1 s o
 |[],_,_,_,_=>by simp[MR]
 |v::l,s,o,h,b=>by
  refine⟨⟨by simpa using b 0 (by simp),(flat_lit a (h v (by simp))).1⟩,GM a l s _ (by grind) fun j c=>?_⟩;have:=b (j+1) (by grind)
  grind
theorem DZ{C B E k m l v}(f:rY C.P E=true)(g: ∀v,v∈l->bu C.P (.lit v) E)(h:mx C B E k l m v):
  ∃p cap,v= .slice p m cap/\m<=cap/\((l.take m).map AV.lit).length=m/\b8 C.P ((l.take m).map .lit) E/\(m≠0->∃b,p=some ⟨b,0,none⟩/\b<C.w.heap.size/\MR C ((l.take m).map .lit) (C.P.cellsOf E) (cellAt C.w b) 0):=by
 obtain⟨i,s⟩:=h;have a:((l.take m).map AV.lit).length=m:=by simp;omega
 have o:=yW (l.take m) fun v q=>g v (List.mem_of_mem_take q)
 rcases s with⟨rfl,rfl⟩|⟨b,cap,c,rfl,r,_,_,_,_,n,_,x⟩
 ·grind
 ·refine⟨_,cap,rfl,r,a,o,fun y=>⟨b,rfl,(Array.getElem?_eq_some_iff.1 n).1,?_⟩⟩
  have d:l≠[]:=by intro e;subst e;simp at i;omega
  have t:C.P.cellsOf E=1:=by
   match l,d with
   |v::_,_=>exact(flat_lit f (g v (by simp))).2
  rw[t];refine GM f _ _ _ (by grind) fun j u=>?_
  simp_all[List.length_take,Nat.zero_add,List.getElem?_take_of_lt,cellAt,World.cell?]
theorem foldl_push: ∀(a:List Int) (s:ByteArray),a.foldl (fun r n=>r.push (UInt8.ofNat n.toNat)) s=⟨s.data++(a.map fun n=>UInt8.ofNat n.toNat).toArray⟩
 |[],s=>by rfl
 |n::a,s=>by
  rw[List.foldl_cons,foldl_push _];simp
theorem Ip{C E}(d:C.P.underlying E=some (.int .u8)): ∀l s o,b8 C.P l E->MR C l 1 s o->∀j v,((l.map toInt).map (Value.int .u8))[j]? =some v->s (o+j)=some v
 |[],_,_,_,_,j,v,h=>by simp at h
 | a::l,s,o,c,b,j,v,h=>by
  simp only[b8] at c;cases j with
  | zero=>
   cases a<;>simp only[bu,d,false_and] at c
   ·obtain⟨⟨n,rfl⟩,_⟩:=c
    have b:=b.1;simp only[M] at b;rw[Nat.add_zero,←h];exact b.1
   all_goals simp at c
  |succ j=>
   have:=Ip d l s (o+1) c.2 b.2 j v (by simpa using h)
   grind
theorem yP{C E l v}(f:C.P.underlying E=some (.int .u8))(g:C.P.cellsOf E=1)(h:Rel C (.ad E l) v):(Conv.bytesToString v).run C.P C.w= .ok (.string (bytesOf l)) C.w:=by
 obtain⟨k,p,cap,rfl,_,m⟩:=nM h;cases p with
 |none=>
  have:l=[]:=by grind
  subst this;rfl
 | some q=>
  have c:(loadCells q l.length).run C.P C.w= .ok ((l.map toInt).map (Value.int .u8)).toArray C.w:=by
   have i:((l.map toInt).map (Value.int .u8)).length=l.length:=by simp
   rw[←i];refine Go.run_loadCells_list C.w q _ fun j v e=>?_
   rcases l with _|⟨a,l⟩
   ·simp at e
   ·obtain⟨b,off,n,_,d⟩:=m (by simp)
    cases n;rw[g] at d;have:=Ip f _ _ off k d j v e
    rw[ec];exact this
  rw[Go.run_bytesToString C.w q l.length cap _ c,foldl_push];congr 3
  simp
theorem yn{C}(b:Inv C){i lo n E l v}(g:C.P.underlying E=some (.int .u8))(j:C.P.cellsOf E=1)(a:ib (au C.st i)=some (E,l))(h:Rel C (.ax i lo n) v):
  (Conv.bytesToString v).run C.P C.w= .ok (.string (bytesOf ((l.drop lo).take n))) C.w/\eF v=false:=by
 obtain⟨d,c⟩:=gj h;have e:eF v=false:=by
  obtain⟨_,⟨_,rfl,_⟩|⟨_,cap,q,rfl,_⟩⟩:=c.1 E l a<;>rfl
 have k:=x1 b (l9 b) rfl d c a (fun m=>by
  obtain⟨_,⟨o,_⟩|⟨_,f,_⟩⟩:=sG b d a
  ·grind
  ·exact f) (fun _=>some v) 0 rfl
 exact⟨yP (C:=C.still) g j (dX rfl e k (ue b)),e⟩
end Go.Dn
