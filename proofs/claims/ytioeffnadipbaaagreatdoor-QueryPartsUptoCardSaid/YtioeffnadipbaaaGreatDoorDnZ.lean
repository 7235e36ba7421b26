import Derived.Test.YtioeffnadipbaaaGreatDoorDnY
namespace Go.Dn
open Go
section
variable {F:Fence} {n:Nat} {P:Program} {Q:Exit->Act->World->Prop} {a:Act} {w:World}
theorem hH{b:Frame}{k d c}:step P (lone (b.atR a (.code (.scope c)::k)) d w)= .next (lone (b.atR a (.code c:: .inScope c::k)) d w):=
 rfl
theorem x7{b:Frame}{k d c}:step P (lone (b.atR a (.inScope c::k)) d w)= .next (lone (b.atR a k) d w):=
 rfl
theorem Gk{c}(h:c.wpIn F n P (Exit.noGoto Q) a w):(Code.scope c).wpIn F n P Q a w:=by
 intro b k s r o p;have j:(lone (b.atR a (.code (.scope c)::k)) s w).fenced P F:=fenced_calm o p rfl;obtain⟨e,g,f,i,d⟩:=h b _ s r o p;cases e with
 |normal=>exact⟨.normal,g,f,i, .head j hH (StepsIn.trans d (.one (fenced_calm o p rfl) x7))⟩
 | exit id=>
  have y:exitTo id (.inScope c::k)=exitTo id k:=by rfl
  exact⟨_,g,f,i,fun v x=> .head j hH (d.1 v (by grind)),
   fun q x=>let ⟨m,u,t⟩:=d.2 q (by grind);⟨m,u, .head j hH t⟩⟩
 |goto l=>exact i.elim
 |ret=>exact⟨_,g,f,i, .of_steps (.one j hH) d⟩
 |panic z=>exact⟨_,g,f,i, .of_steps (.one j hH) d⟩
 |outgrown=>exact⟨_,g,f,i, .of_steps (.one j hH) d⟩
end
theorem eV.trans{lo base C C' K e a w}(hP:C'.P=C.P)(he:Ext base C C')(h:eV lo base C' K e a w):eV lo base C K e a w:=
 cH.trans  hP he h
theorem eV.mono{lo base C K c e b a w}(f: ∀s,K e s->c b s)(h:eV lo base C K e a w):eV lo base C c b a w:=by
 obtain⟨o,s2,i,j,k,g,m,l,n,d⟩:=h;exact⟨_,_,i,j,k,g,m,l,n,f _ d⟩
def KN E b:=
 ∀ id ops s K,oe E b ops.toList ops.toList.length (iJ ops.toList.length) s K->
  ∀C a F n lo base,C.P=E.P->Inv C->dh C s a->ij lo C a.defers->base<=s.st.length->(F=Fence.wide\/ ∃B,F=Fence.wide.inRound B)->
   ∀Q,(∀d c,cH lo base C K d c->Q .normal d c)->(Code.region id ops true).wpIn F n E.P Q a C.w
theorem Dk{E:Env}(hE:aF E){rec:Rec}(_hrec:gn E.P rec){f:FuncId}{rd}{base:Nat}{g ps}{x body:Code}{s:S}{K}{f':FuncId}{H}
  (hg:ev s g= .bp f' H) (hrd:E4 rd s.st=true)
  (h: ∀C1 vs,C1.P=E.P->Inv C1->C1.st=s.st++[.loop {state:= .ready,pending:=none,fn:=f,bz:=s.bz,params:=ps,assign:=x,body:=body}]->MT C1 (.bJ s.st.length::H) vs.toList->
   (∃fn,E.P.funcs[f']? =some fn/\fn.body.isSome=true)/\CallsIn Fence.wide 0 E.P f' vs C1.w (eP C1 C1.st.length fun _ st=>rh s.st.length s K st)):
  Sound E.P rd base (.rangeFunc g ps x body) s K:=by
 intro C a F n lo hC T hs hd hlo X hF;have hF':=hF.LL;refine wpIn_rangeFunc fun fn _=>?_
 have enter: ∃(l:Nat) (mark:List Deferred) (w1:World) (k:Loop),(Instr.enterLoop fn a.tmps ps x body F.round).run E.P C.w= .ok (l,mark) w1/\
   k={state:= .ready,pending:=none,fn:=fn,tmps:=a.tmps,params:=ps,assign:=x,body:=body,defers:=k.defers}/\
   ∃m,ik C.w m/\l=m.heap.size/\w1=m.alloc (.loop k)/\ij lo {C with w:=m} (mark++a.defers):=by
  cases rd with
  | none=>
   have e:F.round=none:=by rw[show F=Fence.wide from hF];rfl
   rw[e,run_enterLoop_outer];refine⟨_,_,_,{state:= .ready,pending:=none,fn,tmps:=a.tmps,params:=ps,assign:=x,body,defers:=C.w.heap.size},rfl,rfl,C.w.alloc (.deferred (some [])),⟨by rw[db];omega,rfl,rfl,rfl,fun b X=>bG _ _ _ X⟩,by rw[db],rfl,?_⟩;have hg:ik C.w (C.w.alloc (.deferred (some []))):=⟨by rw[db];omega,rfl,rfl,rfl,fun b X=>bG _ _ _ X⟩
   obtain⟨Z,g2⟩:=oQ T hg;have hd':=hd.ext g2;refine⟨fun d L=>?_,?_⟩
   ·simp only[List.cons_append,List.nil_append,ap0] at L
    rcases L with rfl|L
    ·refine⟨rfl,hlo,fun ho=>?_,fun hx=>?_,alloc_heap_new _ _⟩
     ·obtain⟨i,hi,ho',hb'⟩:=ho
      have:=((T.obj i hi).lt ho').1
      have e2:(C.ι i).block=C.cls C.w.heap.size:=hb';rw[T.fresh (Nat.le_refl _)] at e2;omega
     ·have:=T.xs _ hx
      have e2:fh {target:= .collected C.w.heap.size,args:= #[]}=C.w.heap.size:=rfl;omega
    ·exact hd'.each d L
   ·simp only[List.cons_append,List.nil_append,ao9,List.nodup_cons]
    refine⟨fun hm=>?_,hd'.apart⟩;obtain⟨d,L,he⟩:=List.mem_map.1 hm;have:=(hd.each d L).2.2.2.2
    have I:=(Array.getElem?_eq_some_iff.1 this).1;have e2:fh {target:= .collected C.w.heap.size,args:= #[]}=C.w.heap.size:=rfl;omega
  | some l0=>
   obtain⟨h0,B,h1,h2⟩:=hF;simp only[E4] at hrd;split at hrd
   ·rename_i r0 Q
    rw[←hs.st] at Q;have I:l0<C.st.length:=by
     rcases Nat.lt_or_ge l0 C.st.length with h|h
     ·exact h
     ·rw[eC _ _ h] at Q;cases Q
    have ho:=T.obj l0 I;rw[Q] at ho;obtain⟨hX,k,k1,k2⟩:=ho;rw[h2 r0 Q] at k1;have e:F.round=some B:=by rw[h1];rfl
    rw[e,run_enterLoop_inner k1];exact⟨_,_,_,{state:= .ready,pending:=none,fn,tmps:=a.tmps,params:=ps,assign:=x,body,defers:=k.defers},rfl,rfl,C.w,ik.refl _,rfl,rfl,hd⟩
   ·cases hrd
 obtain⟨l,mark,w1,k,he1,J,m,he3,rfl,rfl,he6⟩:=enter;obtain⟨Z,g2⟩:=oQ T he3;have D: ∀b,b<m.heap.size->(m.alloc (.loop k)).heap[b]? =m.heap[b]? :=fun b X=>bG _ _ _ X
 let o:Obj:= .loop {state:= .ready,pending:=none,fn:=f,bz:=s.bz,params:=ps,assign:=x,body:=body}
 let N:G:=⟨m.heap.size,0,false⟩
 let z:Ctx:={C with w:=m}
 have hk0:bK z (z.add o N (m.alloc (.loop k))):=jE Z D;have hregs:gJ (z.add o N (m.alloc (.loop k))) s.bz a.tmps:=
  (hs.bz.gr g2.keeps T.lay g2.refs).gr hk0 Z.lay (fun i hi=>vO Z D hi)
 obtain⟨a1,a2⟩:=gh (C:=z) Z (o:=o) (g:=N) (w:=m.alloc (.loop k)) rfl (by rw[db];show m.heap.size<=_;omega) ⟨rfl,rfl,rfl⟩ D (by
  refine⟨fun hx=>?_,k,alloc_heap_new _ _,?_⟩
  ·have:=Z.xs _ hx
   have e2:N.block=m.heap.size:=rfl;have e3:z.w=m:=rfl;rw[e2] at this;exact Nat.lt_irrefl _ this
  ·exact⟨congrArg Loop.state J,congrArg Loop.pending J,congrArg Loop.params J,congrArg Loop.assign J,congrArg Loop.body J,by rw[show k.tmps=a.tmps from congrArg Loop.tmps J];exact hregs⟩)
 have hst:(z.add o N (m.alloc (.loop k))).st=s.st++[o]:=by show C.st++[o]=_;rw[hs.st]
 have hcl:C.st.length=s.st.length:=by rw[hs.st]
 have V:Rel C (.bp f' H) (a.eval g):=by rw[←hg];exact bo hs g
 obtain⟨cs,hgv,hcs⟩:=vv V;have hcl1:=(V.gr g2.keeps T.lay (fun i _ I=>g2.refs i I)).gr hk0 Z.lay (fun i _ I=>vO Z D I);obtain⟨cs',W,hcs'⟩:=vv hcl1;obtain rfl:cs=cs':=by rw[hgv] at W;injection W
 have O:Rel (z.add o N (m.alloc (.loop k))) (.bJ s.st.length) (.func (.yield m.heap.size) #[] #[]):=by
  refine⟨.inl rfl, .inl (by simp[Value.cells,wid]),?_⟩;simp only[M];refine⟨by rw[hst];simp,_,rfl,rfl,fun r hr=>?_,fun t ht=>?_⟩
  case refine_2=>
   have Y:=(br (C:=z) (o:=o) (g:=N) (w:=m.alloc (.loop k))).1;rw[show z.st.length=s.st.length from hcl] at Y;rw[Y] at ht;have ht2:Obj.loop {state:= .ready,pending:=none,fn:=f,bz:=s.bz,params:=ps,assign:=x,body:=body}= .ext t:=ht;cases ht2
  have Y:=(br (C:=z) (o:=o) (g:=N) (w:=m.alloc (.loop k))).2;have e:z.st.length=s.st.length:=hcl;rw[e] at Y;rw[Y];rfl
 have hmt:MT (z.add o N (m.alloc (.loop k))) (.bJ s.st.length::H) (#[Value.func (.yield m.heap.size) #[] #[]]++cs).toList:=by
  simp only[Array.toList_append,List.cons_append,List.nil_append,MT];exact⟨O.1,O.2.1,O.2.2,hcs'⟩
 obtain⟨⟨fnn,hfn,hfb⟩,hcall⟩:=h _ _ (show(z.add o N (m.alloc (.loop k))).P=E.P from hC) a1 hst hmt;refine⟨m.heap.size,mark,_,{target:= .fn (.func f') cs,args:= #[.func (.yield m.heap.size) #[] #[]]},m.alloc (.loop k),f', #[.func (.yield m.heap.size) #[] #[]]++cs,m.alloc (.loop k),he1,?_,fun f'' _=>mG hF' f'',?_,oJ hF',?_⟩
 ·simp only[resolve,hgv]
  simp[Deferred.ofValue,Act.eval]
 ·simp only[invoke];exact kC hE.prog hfn hfb _
 ·refine(lK hF' hcall).mono ?_
  rintro e w3 ⟨v,r,q,rfl,rfl,hP3,hI3,hr3,hx3,p⟩;unfold rh at p;split at p
  ·rename_i r3 R
   have A:s.st.length<q.st.length:=by
    rcases Nat.lt_or_ge s.st.length q.st.length with h|h
    ·exact h
    ·rw[eC _ _ h] at R;cases R
   have ho:=hI3.obj _ A;rw[R] at ho;obtain⟨hX3,u,k1,k2⟩:=ho;have hlen0:(z.add o N (m.alloc (.loop k))).st.length=s.st.length+1:=by rw[hst];simp
   have hι:(q.ι s.st.length).block=m.heap.size:=by
    obtain⟨r0,_,e⟩:=(hx3.refs s.st.length (by omega)).loop r3 R;rw[e];have Y:=(br (C:=z) (o:=o) (g:=N) (w:=m.alloc (.loop k))).2;have e':z.st.length=s.st.length:=hcl;rw[e'] at Y;rw[Y]
   have hbl:(q.ι s.st.length).block<q.w.heap.size:=(Array.getElem?_eq_some_iff.1 k1).1;have hnb:r3.state≠ .busy:=by
    intro e;rw[e] at p;simp at p
   have hdead: ∀j,j=s.st.length->au (dj q.st s.st.length .dead) j= .dead:=fun j hj=>by subst hj;exact bn _ _ _ A
   obtain⟨u1,u2⟩:=hJ hI3 A (o:= .dead) (w:=q.w.putObj (q.ι s.st.length).block (.loop {u with state:= .exhausted})) (by rw[R];rfl) World.putObj_size ⟨rfl,rfl,rfl⟩ (fun b X=>World.putObj_heap_other X)
    (tO (by show _<(dj q.st _ _).length;rw[a9];exact A) (hdead _ rfl)) trivial
   have hx:Ext C.st.length C (q.dR s.st.length .dead (q.w.putObj (q.ι s.st.length).block (.loop {u with state:= .exhausted}))):=by
    refine g2.trans ((a2.mono (Nat.le_refl _)).trans ((hx3.mono ?_).trans (u2.mono ?_) (Nat.le_refl _)) (Nat.le_refl _)) (Nat.le_refl _)
    ·show C.st.length<=_;omega
    ·show C.st.length<=_;omega
   have hPP:(q.dR s.st.length .dead (q.w.putObj (q.ι s.st.length).block (.loop {u with state:= .exhausted}))).P=C.P:=hP3;have U: ∀(e:Exit),K e {s with st:=dj q.st s.st.length .dead}->eV lo base C K e {a with defers:=mark++a.defers} (q.w.putObj (q.ι s.st.length).block (.loop {u with state:= .exhausted})):=fun e hk=>by
    refine⟨_,{s with st:=dj q.st s.st.length .dead},rfl,hPP,u1,⟨rfl,hs.bz.gr hx.keeps T.lay hx.refs⟩,?_,?_,hx.mono (by omega),hk⟩
    ·have d1:=he6.ext a2
     have d2:=d1.ext hx3;exact d2.ext u2
    ·show base<=(dj q.st _ _).length
     rw[a9];omega
   rw[hι] at k1;refine⟨u.pending,q.w.putObj (q.ι s.st.length).block (.loop {u with state:= .exhausted}),?_,?_⟩
   ·rw[run_endLoop k1 (by rw[k2.state];exact hnb),hι]
   ·generalize q.w.putObj (q.ι s.st.length).block (.loop {u with state:= .exhausted})=w4 at U⊢
    rw[k2.pending];cases hp:r3.pending with
    |none=>
     rw[hp] at p;cases y:r3.state<;>rw[y] at p<;>first|exact absurd y hnb|exact U .normal p
    |some c=>
     cases c<;>rw[hp] at p<;>cases y:r3.state<;>rw[y] at p<;>first|exact absurd y hnb|exact p.elim|exact wpIn_ret (U .ret p)|exact wpIn_exit (U (.exit _) p)
  ·exact p.elim
theorem EH{E}(W:aF E){v}(w:gn E.P v)(I:KN E v) f rd base: ∀c s K,kn E v f rd base c s K->Sound E.P rd base c s K:=by
 intro c;induction c with
 |skip=>
  intro s K h C a F n lo q p j hd b k u;exact wpIn_skip ⟨C,s,rfl,rfl,p,j,hd,k,Ext.refl C (by rw[j.st];exact k),h⟩
 |label l=>
  intro s K h C a F n lo q p j hd b k u;exact wpIn_label ⟨C,s,rfl,rfl,p,j,hd,k,Ext.refl C (by rw[j.st];exact k),h⟩
 | region id ops d=>
  intro s K h C a F n lo q p j hd b k u;cases d with
  |false=>
   have h:oZ E v ops.toList ops.toList s (yp (K .normal)):=h;rw[vn] at h;refine wpIn_region ?_;rw[List.range_eq_range'];have:=xl W w u.LL (n:=n) (ops:=ops) (K:=K .normal) (lo:=lo) (base:=base) ops.toList 0 rfl q p j hd k h (Q:=eV lo base C K) (fun N V h=>h)
   simpa using this
  |true=>
   have h:oe E v ops.toList ops.toList.length (iJ ops.toList.length) s (yp (K .normal)):=h;rw[vn] at h;exact I id ops s (K .normal) h C a F n lo base q p j hd k u.LL _ (fun N V h=>h)
 | seq x y H D=>
  intro s K h C a F n lo q p j hd b k u;refine wpIn_seq (wpIn_mono (H s _ h C a F n lo q p j hd b k u) ?_);intro e N V o;cases e with
  |normal=>
   obtain⟨C',s',rfl,L,Y,hs',hd',hb',he,X⟩:=o;exact wpIn_mono (D s' K X C' N F n lo (L.trans q) Y hs' hd' (Nat.le_trans b he.size) hb' (u.ext he)) (fun e a2 w2 B=>eV.trans L he B)
  |exit id=>exact eV.mono (fun _ h=>h) o
  |goto l=>exact eV.mono (fun _ h=>h) o
  |ret=>exact eV.mono (fun _ h=>h) o
  |panic ch=>exact eV.mono (fun _ h=>h) o
  |outgrown=>exact eV.mono (fun _ h=>h) o
 | cond c x y H D=>
  intro s K h C a F n lo q p j hd b k u;unfold kn at h;split at h
  ·rename_i t Z
   have A:=bo j c;rw[Z] at A;have A:=aL A;refine wpIn_cond A ?_;cases t with
   |true=>
    simp only[an] at h;rw[fe Z] at h;exact H s K h C a F n lo q p j hd b k u
   |false=>
    simp only[an] at h;rw[fe Z] at h;exact D s K h C a F n lo q p j hd b k u
  ·exact h.elim
 | block id c U=>
  intro s K h C a F n lo q p j hd b k u;refine wpIn_block (wpIn_mono (U s _ h C a F n lo q p j hd b k u) ?_);intro e N V o;cases e with
  | exit i=>
   simp only[Exit.inBlock];by_cases e:i=id
   ·subst e
    rw[if_pos rfl];exact eV.mono (fun s h=>by simpa[Al] using h) o
   ·rw[if_neg e]
    exact eV.mono (fun s h=>by simpa[Al,e] using h) o
  |normal=>exact eV.mono (fun _ h=>h) o
  |goto l=>exact eV.mono (fun _ h=>h) o
  |ret=>exact eV.mono (fun _ h=>h) o
  |panic ch=>exact eV.mono (fun _ h=>h) o
  |outgrown=>exact eV.mono (fun _ h=>h) o
 | loop c U=>
  intro s K h C a F n lo q p j hd b k u;unfold kn at h;split at h
  ·rename_i m hm
   obtain⟨h1,B⟩:=ai.1 h;rw[jO] at B;obtain⟨C',k1,k2,k3,J,k5⟩:=v9 E.P (E.live f m) p j k h1;have:=W.loop _ _ _ _ _ _ _ B C' a F n lo (J.P.trans q) k2 k3 (hd.ext J) (Nat.le_trans b J.size) k5 (u.ext J)
   rw[k1] at this;exact wpIn_mono this (fun e a2 w2 h=>eV.trans J.P J h)
  ·exact h.elim
 | rangeFunc g ps asg body iha ihb=>
  intro s K h;unfold kn at h;split at h
  ·rename_i f' caps hg
   obtain⟨h1,B⟩:=ai.1 h;refine Dk (f:=f) W w hg h1 (fun C1 vs O R z T=>?_);split at B
   ·obtain⟨k1,k2⟩:=W.lB _ _ _ _ _ _ B
    have e:(s.st++[Obj.loop {state:= .ready,pending:=none,fn:=f,bz:=s.bz,params:=ps,assign:=asg,body:=body}]).length - 1=s.st.length:=by simp
    refine⟨k1,?_⟩;have:=k2 C1 vs O R z (by rw[e];exact T)
    rw[z];exact this
   ·exact sa w B O R z T
  ·exact h.elim
 |exit id=>
  intro s K h C a F n lo q p j hd b k u;exact wpIn_exit ⟨C,s,rfl,rfl,p,j,hd,k,Ext.refl C (by rw[j.st];exact k),h⟩
 |goto l=>intro s K h;exact h.elim
 | scope c U=>
  intro s K h C a F n lo q p j hd b k u;refine Gk (wpIn_mono (U s _ h C a F n lo q p j hd b k u) ?_);intro e N V o;cases e with
  |goto l=>
   obtain⟨_,_,_,_,_,_,_,_,_,X⟩:=o;exact X.elim
  |normal=>exact eV.mono (fun _ h=>h) o
  |exit id=>exact eV.mono (fun _ h=>h) o
  |ret=>exact eV.mono (fun _ h=>h) o
  |panic ch=>exact eV.mono (fun _ h=>h) o
  |outgrown=>exact eV.mono (fun _ h=>h) o
 |ret=>
  intro s K h C a F n lo q p j hd b k u;exact wpIn_ret ⟨C,s,rfl,rfl,p,j,hd,k,Ext.refl C (by rw[j.st];exact k),h⟩
 |refuse r=>intro s K h;exact h.elim
end Go.Dn
