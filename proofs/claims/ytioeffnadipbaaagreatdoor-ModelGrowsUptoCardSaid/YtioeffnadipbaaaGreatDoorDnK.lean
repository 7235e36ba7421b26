import Derived.Test.YtioeffnadipbaaaGreatDoorDnJ
import Derived.Laws.BytesString
import Derived.Laws.Cells
namespace Go.Dn
open Go
def Ctx.still(C:Ctx):={C with X:=fun b=>b<C.w.heap.size,st:=[],ι:=fun _=>⟨0,0,true⟩,cls:=id}
theorem lT{C}(c:Inv C):bP C C.still:=⟨rfl,fun b a=>c.xs b a,fun _ _=>rfl⟩
theorem tE{C}(c:Inv C):Inv C.still:=
 ⟨c.lay,fun i d=>by grind [Ctx.still],fun i j d=>by grind [Ctx.still],fun b a=>a,fun i d=>by grind [Ctx.still],fun b a=>absurd rfl a,c.lH (lT c)⟩
theorem rY{C}(e:Inv C){i}(j:i<C.st.length){T xs}(h:gX (ay C.st i)=some (T,xs)):
  ck C.P xs T/\((C.ι i).isNil=true/\xs=[]\/(C.ι i).isNil=false/\(C.ι i).block<C.w.heap.size/\MR C xs (C.P.cellsOf T) (cellAt C.w (C.ι i).block) 0):=by
 have a:=e.obj i j;cases g:ay _ i<;>rw[g] at h a<;>simp[gX] at h
 ·obtain⟨rfl,rfl⟩:=h
  obtain⟨c,b|⟨b,_,k,d,_,_,_,f⟩⟩:=a
  ·grind
  grind
 ·obtain⟨rfl,rfl⟩:=h
  obtain⟨c,b|⟨b,d,f⟩⟩:=a
  ·grind
  ·exact⟨c, .inr ⟨b,e.xs _ d,f⟩⟩
def yi(C:Ctx) i:=(∃y,gX (ay C.st i)=some y)/\(C.ι i).isNil=false\/ ∃K V a,ay C.st i= .map K V a
theorem Rx{C}(b:Inv C){i}(c:i<C.st.length)(h:yi C i):(C.ι i).block<C.w.heap.size:=by
 rcases h with⟨⟨⟨T,xs⟩,a⟩,f⟩|⟨K,V,e,d⟩
 ·obtain⟨_,⟨g,_⟩|⟨_,j,_⟩⟩:=rY b c a
  ·grind
  grind
 ·exact((b.obj i c).lt (by rw[d];rfl)).1
theorem xV{C C'}(hI:Inv C)(hk:bP C C')(hw:C'.w=C.w){i lo n v}(hi:i<C.st.length)(hs:lv C i lo n v){T xs}(h:gX (ay C.st i)=some (T,xs))
  (hX:(C.ι i).isNil=false->C'.X (C.ι i).block) s o (hv:s o=some v):M C' (.ah T ((xs.drop lo).take n)) s o:=by
 obtain⟨hlen,hv'⟩:=hs.1 T xs h;obtain⟨hp,hrow⟩:=rY hI hi h;simp only[M];have hl:((xs.drop lo).take n).length=n:=by simp;omega
 refine⟨by rw[hk.P];exact jE _ _ (k8 _ _ hp),?_⟩;rw[hl,hv];rcases hv' with⟨_,rfl,rfl,rfl⟩|⟨hn,cap,q,rfl,hq,hc1,hc2⟩
 ·simp
 ·refine⟨some q,cap,rfl,hc1,fun hne=>?_⟩
  have hn0:0<n:=by grind
  have hq':=hq.resolve_right (by omega);rcases hrow with⟨h0,_⟩|⟨_,hlt,hm⟩
  ·rw[hn] at h0;cases h0
  ·refine⟨_,_,by rw[hq'],hX hn,?_⟩
   have h1:=qV _ n _ _ _ (uR xs lo _ _ _ hm);rw[Nat.zero_add] at h1;have:=fJ hk hI.lay ((xs.drop lo).take n) T (cellAt C.w (C.ι i).block) (fun j=>C'.w.cell? ⟨(C.ι i).block,j,none⟩) _ (lo*C.P.cellsOf T) (jE _ _ (k8 _ _ hp))
    (fun j _=>by rw[hw];rfl) h1
   rw[hk.P];exact this
mutual
theorem iN{st:List Obj}: ∀(a b:AV),cg st a=some b->b6 b=b6 a/\wid b=wid a/\b≠ .cB/\refs b=[]
 | .lit v,b,h=>by simp only[cg,ar7] at h;subst h;simp[refs]
 | .ah T l,b,h=>by simp only[cg,ar7] at h;subst h;simp[refs]
 | .ak i lo n,b,h=>by
  simp only[cg] at h;split at h
  ·simp only[ar7] at h;subst h;simp[b6,wid,refs]
  ·simp at h
 | .agg l,b,h=>by
  simp only[cg,Option.map_eq_some_iff] at h;obtain⟨m,h1,rfl⟩:=h;obtain⟨h2,h3⟩:=um l m h1;simp[b6,wid,refs,h2,h3]
 | .jj T a,b,h=>by simp only[cg,ar7] at h;subst h;simp[refs]
 | .jt T a,b,h=>by
  simp only[cg,Option.map_eq_some_iff] at h;obtain⟨m,h1,rfl⟩:=h;obtain⟨h2,h3,h4,h5⟩:=iN a m h1;simp[b6,wid,refs,h5]
 | .bm f [],b,h=>by simp only[cg,ar7] at h;subst h;simp[refs,cX]
 | .bm f (_::_),b,h=>by simp[cg] at h
 | .eO _ _ _ _,b,h=>by simp only[cg,ar7] at h;subst h;simp[refs]
 | .mp i,b,h=>by
  simp only[cg] at h;split at h
  ·simp only[ar7] at h;subst h;simp[b6,wid,refs]
  ·simp at h
 | .cB,b,h| .aH _,b,h| .ptr _ _ _ _,b,h| .cf _,b,h| .lj _ _,b,h=>by simp[cg] at h
theorem um{st:List Obj}: ∀(l m:List AV),lL st l=some m->eF m=eF l/\cX m=[]
 |[],m,h=>by simp only[lL,ar7] at h;subst h;simp[cX]
 | a::l,m,h=>by
  simp only[lL] at h;split at h
  ·rename_i b m' h1 h2
   simp only[ar7] at h;subst h
   obtain⟨_,g1,_,g2⟩:=iN a b h1;obtain⟨g3,g4⟩:=um l m' h2;simp[eF,cX,g1,g2,g3,g4]
  ·simp at h
end
theorem MC{C C'}(hk:bP C C')(hl:eV C.P){V}: ∀es ents,cw C V es ents->ents.map (·.key)=es.map (·.1)/\ck C.P (es.map (·.2)) V/\MT C' (es.map (·.2)) (ents.map (·.val))
 |[],[],_=>⟨rfl,trivial,by rfl⟩
 |[],_::_,h=>by grind [cw]
 |_::_,[],h=>by grind [cw]
 |(k,a)::es,e::ents,h=>by
  obtain⟨h1,h2,h3,h4⟩:=h;obtain⟨e1,e2,e3⟩:=MC hk hl _ _ h4;exact⟨by grind,⟨h2,e2⟩,h3.1,h3.2.1,lW hk hl a V _ _ _ _ h2 (by simp) h3.2.2,e3⟩
mutual
theorem va{C C':Ctx}(hI:Inv C)(hk:bP C C')(hw:C'.w=C.w):
  ∀(a b:AV) (s:Src) (o:Nat),cg C.st a=some b->(∀i,i∈rowsOf a->i<C.st.length->yi C i->C'.X (C.ι i).block)->M C a s o->M C' b s o
 | .lit v,b,s,o,h,_,hm=>by simp only[cg,ar7] at h;subst h;simpa[M] using hm
 | .ah T l,b,s,o,h,_,hm=>by
  simp only[cg,ar7] at h;subst h
  exact M.gf hk hI.lay (fun i hi=>by simp[refs] at hi) (fun _ _=>rfl) hm
 | .ak i lo n,b,s,o,h,hr,hm=>by
  simp only[cg] at h;split at h
  ·rename_i T xs hel
   simp only[ar7] at h;subst h
   simp only[M] at hm;obtain⟨hi,v,h1,h2,h3⟩:=hm;exact xV hI hk hw hi h3 hel (fun hn=>hr i (by simp[rowsOf]) hi (.inl ⟨⟨_,hel⟩,hn⟩)) s o h1
  ·simp at h
 | .agg l,b,s,o,h,hr,hm=>by
  simp only[cg,Option.map_eq_some_iff] at h;obtain⟨m,h1,rfl⟩:=h;simp only[M] at hm⊢;exact Iu hI hk hw l m s o h1 (by simpa[rowsOf] using hr) hm
 | .jj T a,b,s,o,h,_,hm=>by
  simp only[cg,ar7] at h;subst h
  exact M.gf hk hI.lay (fun i hi=>by simp[refs] at hi) (fun _ _=>rfl) hm
 | .jt T a,b,s,o,h,hr,hm=>by
  simp only[cg,Option.map_eq_some_iff] at h;obtain⟨m,h1,rfl⟩:=h;simp only[M] at hm⊢;obtain⟨u,h2,h3,h4,h5⟩:=hm;obtain⟨g1,g2,_,_⟩:=iN a m h1;exact⟨u,h2,by rw[h3,g1],by rw[h4,g2],va hI hk hw a m _ _ h1 (by simpa[rowsOf] using hr) h5⟩
 | .bm f [],b,s,o,h,_,hm=>by
  simp only[cg,ar7] at h;subst h
  simpa[M,MT] using hm
 | .bm f (_::_),b,_,_,h,_,_=>by simp[cg] at h
 | .eO K V ks vs,b,s,o,h,_,hm=>by
  simp only[cg,ar7] at h;subst h
  exact M.gf hk hI.lay (fun i hi=>by simp[refs] at hi) (fun _ _=>rfl) hm
 | .mp i,b,s,o,h,hr,hm=>by
  simp only[cg] at h;split at h
  ·rename_i K V es hst
   simp only[ar7] at h;subst h
   simp only[M] at hm⊢;obtain⟨hi,v,h1,h2,h3⟩:=hm;obtain rfl:=h3 K V es hst;have hob:=hI.obj i hi;rw[hst] at hob;obtain⟨_,entries,clock,hh,hent,hmap⟩:=hob;obtain⟨e1,e2,e3⟩:=MC hk hI.lay es entries.toList hent;exact .inr ⟨_,entries,clock,h1,hr i (by simp[rowsOf]) hi (.inr ⟨_,_,_,hst⟩),by rw[hw];exact hh,by rw[hk.P];exact hmap,e1,by rw[hk.P];exact e2,e3⟩
  ·simp at h
 | .cB,b,_,_,h,_,_| .aH _,b,_,_,h,_,_| .ptr _ _ _ _,b,_,_,h,_,_| .cf _,b,_,_,h,_,_| .lj _ _,b,_,_,h,_,_=>by simp[cg] at h
theorem Iu{C C':Ctx}(hI:Inv C)(hk:bP C C')(hw:C'.w=C.w):
  ∀(l m:List AV) (s:Src) (o:Nat),lL C.st l=some m->(∀i,i∈rZ l->i<C.st.length->yi C i->C'.X (C.ι i).block)->ML C l s o->ML C' m s o
 |[],m,s,o,h,_,_=>by simp only[lL,ar7] at h;subst h;simp[ML]
 | a::l,m,s,o,h,hr,hm=>by
  simp only[lL] at h;split at h
  ·rename_i b m' h1 h2
   simp only[ar7] at h;subst h
   simp only[ML] at hm⊢;obtain⟨_,g1,_,_⟩:=iN a b h1;refine⟨va hI hk hw a b s o h1 (fun i hi=>hr i (by simp[rZ,hi])) hm.1,?_⟩;rw[g1];exact Iu hI hk hw l m' s _ h2 (fun i hi=>hr i (by simp[rZ,hi])) hm.2
  ·simp at h
end
theorem flat_lit{P E v}(b:rl P E=true)(h:bB P (.lit v) E):bg v=true/\P.cellsOf E=1:=by
 unfold rl at b;simp only[bB] at h;split at b
 ·rename_i k a
  rw[a] at h;obtain⟨n,rfl⟩:=h;exact⟨rfl,by grind⟩
 ·rename_i a
  rw[a] at h;obtain⟨n,rfl⟩:=h;exact⟨rfl,by grind⟩
 ·rename_i a
  rw[a] at h;obtain⟨n,rfl⟩:=h;exact⟨rfl,by grind⟩
 grind
theorem yS{P E}: ∀(l:List _),(∀v,v∈l->bB P (.lit v) E)->ck P (l.map .lit) E
 |[],_=>trivial
 |v::l,h=>by
  exact⟨h v (by simp),yS l (by grind)⟩
theorem HD{C E}(a:rl C.P E=true): ∀(l:List _) s o,(∀v,v∈l->bB C.P (.lit v) E)->(∀j,j<l.length->s (o+j)=l[j]?)->MR C (l.map .lit) 1 s o
 |[],_,_,_,_=>by simp[MR]
 |v::l,s,o,h,b=>by
  refine⟨⟨by simpa using b 0 (by simp),(flat_lit a (h v (by simp))).1⟩,HD a l s _ (by grind) fun j c=>?_⟩;have:=b (j+1) (by grind)
  grind
theorem Eh{C B E k m l v}(f:rl C.P E=true)(g: ∀v,v∈l->bB C.P (.lit v) E)(h:mg C B E k l m v):
  ∃p cap,v= .slice p m cap/\m<=cap/\((l.take m).map AV.lit).length=m/\ck C.P ((l.take m).map .lit) E/\(m≠0->∃b,p=some ⟨b,0,none⟩/\b<C.w.heap.size/\MR C ((l.take m).map .lit) (C.P.cellsOf E) (cellAt C.w b) 0):=by
 obtain⟨i,s⟩:=h;have a:((l.take m).map AV.lit).length=m:=by simp;omega
 have o:=yS (l.take m) fun v q=>g v (List.mem_of_mem_take q)
 rcases s with⟨rfl,rfl⟩|⟨b,cap,c,rfl,r,_,_,_,_,n,_,x⟩
 ·grind
 ·refine⟨_,cap,rfl,r,a,o,fun y=>⟨b,rfl,(Array.getElem?_eq_some_iff.1 n).1,?_⟩⟩
  have d:l≠[]:=by intro e;subst e;simp at i;omega
  have t:C.P.cellsOf E=1:=by
   match l,d with
   |v::_,_=>exact(flat_lit f (g v (by simp))).2
  rw[t];refine HD f _ _ _ (by grind) fun j u=>?_
  simp_all[List.length_take,Nat.zero_add,List.getElem?_take_of_lt,cellAt,World.cell?]
theorem foldl_push: ∀(a:List Int) (s:ByteArray),a.foldl (fun r n=>r.push (UInt8.ofNat n.toNat)) s=⟨s.data++(a.map fun n=>UInt8.ofNat n.toNat).toArray⟩
 |[],s=>by rfl
 |n::a,s=>by
  rw[List.foldl_cons,foldl_push _];simp
theorem Je{C E}(d:C.P.underlying E=some (.int .u8)): ∀l s o,ck C.P l E->MR C l 1 s o->∀j v,((l.map toInt).map (Value.int .u8))[j]? =some v->s (o+j)=some v
 |[],_,_,_,_,j,v,h=>by simp at h
 | a::l,s,o,c,b,j,v,h=>by
  simp only[ck] at c;cases j with
  | zero=>
   cases a<;>simp only[bB,d,false_and] at c
   ·obtain⟨⟨n,rfl⟩,_⟩:=c
    have b:=b.1;simp only[M] at b;rw[Nat.add_zero,←h];exact b.1
   all_goals simp at c
  |succ j=>
   have:=Je d l s (o+1) c.2 b.2 j v (by simpa using h)
   grind
theorem yL{C E l v}(f:C.P.underlying E=some (.int .u8))(g:C.P.cellsOf E=1)(h:Rel C (.ah E l) v):(Conv.bytesToString v).run C.P C.w= .ok (.string (bytesOf l)) C.w:=by
 obtain⟨k,p,cap,rfl,_,m⟩:=nt h;cases p with
 |none=>
  have:l=[]:=by grind
  subst this;rfl
 | some q=>
  have c:(loadCells q l.length).run C.P C.w= .ok ((l.map toInt).map (Value.int .u8)).toArray C.w:=by
   have i:((l.map toInt).map (Value.int .u8)).length=l.length:=by simp
   rw[←i];refine Go.run_loadCells_list C.w q _ fun j v e=>?_
   rcases l with _|⟨a,l⟩
   ·simp at e
   ·obtain⟨b,off,n,_,d⟩:=m (by simp)
    cases n;rw[g] at d;have:=Je f _ _ off k d j v e
    rw[ea];exact this
  rw[Go.run_bytesToString C.w q l.length cap _ c,foldl_push];congr 3
  simp
theorem yl{C}(b:Inv C){i lo n E l v}(g:C.P.underlying E=some (.int .u8))(j:C.P.cellsOf E=1)(a:gX (ay C.st i)=some (E,l))(h:Rel C (.ak i lo n) v):
  (Conv.bytesToString v).run C.P C.w= .ok (.string (bytesOf ((l.drop lo).take n))) C.w/\ew v=false:=by
 obtain⟨d,c⟩:=fP h;have e:ew v=false:=by
  obtain⟨_,⟨_,rfl,_⟩|⟨_,cap,q,rfl,_⟩⟩:=c.1 E l a<;>rfl
 have k:=xV b (lT b) rfl d c a (fun m=>by
  obtain⟨_,⟨o,_⟩|⟨_,f,_⟩⟩:=rY b d a
  ·grind
  ·exact f) (fun _=>some v) 0 rfl
 exact⟨yL (C:=C.still) g j (dR rfl e k (tE b)),e⟩
end Go.Dn
