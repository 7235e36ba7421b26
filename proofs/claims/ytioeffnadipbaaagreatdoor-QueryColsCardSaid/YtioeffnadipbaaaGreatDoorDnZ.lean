import Derived.Test.YtioeffnadipbaaaGreatDoorDnY
namespace Go.Dn
open Go
section
variable {F:Fence} {n:Nat} {P:Program} {Q:Exit->Act->World->Prop} {a:Act} {w:World}
theorem gA{b:Frame}{k:List Item}{cs:List Frame}{c:Code}:step P (lone (b.atR a (.code (.scope c)::k)) cs w)= .next (lone (b.atR a (.code c:: .inScope c::k)) cs w):=
 step_lone_go (by simp[stepG,stepG.exec,Frame.atR])
theorem tP{b:Frame}{k:List Item}{cs:List Frame}{c:Code}:step P (lone (b.atR a (.inScope c::k)) cs w)= .next (lone (b.atR a k) cs w):=
 step_lone_go (by simp[stepG,stepG.exec,Frame.atR])
theorem CO{c:Code}(h:c.wpIn F n P (Exit.noGoto Q) a w):(Code.scope c).wpIn F n P Q a w:=by
 intro b k cs hro hb hr
 have h0:(lone (b.atR a (.code (.scope c)::k)) cs w).fenced P F:=fenced_calm hb hr rfl
 obtain⟨e,a₁,w₁,hq,harr⟩:=h b (.inScope c::k) cs hro hb hr
 cases e with
 |normal=>exact⟨.normal,a₁,w₁,hq, .head h0 gA (StepsIn.trans harr (.one (fenced_calm hb hr rfl) tP))⟩
 | exit id=>
  have hx:exitTo id (.inScope c::k)=exitTo id k:=by simp[exitTo]
  exact⟨.exit id,a₁,w₁,hq,fun k' hk=> .head h0 gA (harr.1 k' (by rw[hx];exact hk)),
   fun hr' hk=>let ⟨k₁,h1,h2⟩:=harr.2 hr' (by rw[hx];exact hk);⟨k₁,h1, .head h0 gA h2⟩⟩
 |goto l=>exact hq.elim
 |ret=>exact⟨_,a₁,w₁,hq, .of_steps (.one h0 gA) harr⟩
 |panic ch=>exact⟨_,a₁,w₁,hq, .of_steps (.one h0 gA) harr⟩
 |outgrown=>exact⟨_,a₁,w₁,hq, .of_steps (.one h0 gA) harr⟩
end
theorem eK.trans{lo base:Nat}{C C':Ctx}{K:Exit->S->Prop}{e:Exit}{a:Act}{w:World}(hP:C'.P=C.P)(he:Ext base C C')(h:eK lo base C' K e a w):eK lo base C K e a w:=
 cH.trans (K:=K e) hP he h
theorem eK.mono{lo base:Nat}{C:Ctx}{K K':Exit->S->Prop}{e e':Exit}{a:Act}{w:World}(hk: ∀s,K e s->K' e' s)(h:eK lo base C K e a w):eK lo base C K' e' a w:=by
 obtain⟨C2,s2,h1,h2,h3,h4,h5,h6,h7,h8⟩:=h
 exact⟨C2,s2,h1,h2,h3,h4,h5,h6,h7,hk _ h8⟩
def Ik(E:Env)(rec:Rec):Prop:=
 ∀ (id:Nat) (ops:Array Oper) (s:S) (K:S->Prop),mN E rec ops.toList ops.toList.length (gI ops.toList.length) s K->
  ∀(C:Ctx) (a:Act) (F:Fence) (n lo base:Nat),C.P=E.P->Inv C->db C s a->gS lo C a.defers->base<=s.st.length->(F=Fence.wide\/ ∃B,F=Fence.wide.inRound B)->
   ∀(Q:Exit->Act->World->Prop),(∀a' w',cH lo base C K a' w'->Q .normal a' w')->(Code.region id ops true).wpIn F n E.P Q a C.w
theorem Bq{E:Env}(hE:aE E){rec:Rec}(_hrec:fK E.P rec){f:FuncId}{rd:Option Nat}{base:Nat}{g:Operand}{ps:Array Tmp}{asg body:Code}{s:S}{K:Exit->S->Prop}{f':FuncId}{caps:List AV}
  (hg:ev s g= .bq f' caps) (hrd:Cf rd s.st=true)
  (h: ∀(C1:Ctx) (vs:Array Value),C1.P=E.P->Inv C1->C1.st=s.st++[.loop {state:= .ready,pending:=none,fn:=f,bg:=s.bg,params:=ps,assign:=asg,body:=body}]->MT C1 (.de s.st.length::caps) vs.toList->
   (∃fn,E.P.funcs[f']? =some fn/\fn.body.isSome=true)/\CallsIn Fence.wide 0 E.P f' vs C1.w (eF C1 C1.st.length fun _ st=>px s.st.length s K st)):
  Sound E.P rd base (.rangeFunc g ps asg body) s K:=by
 intro C a F n lo hC hI hs hd hlo hb hF
 have hF':=hF.Kh
 refine wpIn_rangeFunc fun fn _=>?_
 have enter: ∃(l:Nat) (mark:List Deferred) (w1:World) (rec0:Loop),(Instr.enterLoop fn a.tmps ps asg body F.round).run E.P C.w= .ok (l,mark) w1/\
   rec0={state:= .ready,pending:=none,fn:=fn,tmps:=a.tmps,params:=ps,assign:=asg,body:=body,defers:=rec0.defers}/\
   ∃w0,gT C.w w0/\l=w0.heap.size/\w1=w0.alloc (.loop rec0)/\gS lo {C with w:=w0} (mark++a.defers):=by
  cases rd with
  | none=>
   have e:F.round=none:=by rw[show F=Fence.wide from hF];rfl
   rw[e,run_enterLoop_outer]
   refine⟨_,_,_,{state:= .ready,pending:=none,fn,tmps:=a.tmps,params:=ps,assign:=asg,body,defers:=C.w.heap.size},rfl,rfl,C.w.alloc (.deferred (some [])),⟨by rw[cn];omega,rfl,rfl,rfl,fun b hb=>bE _ _ _ hb⟩,by rw[cn],rfl,?_⟩
   have hg:gT C.w (C.w.alloc (.deferred (some []))):=⟨by rw[cn];omega,rfl,rfl,rfl,fun b hb=>bE _ _ _ hb⟩
   obtain⟨g1,g2⟩:=nK hI hg
   have hd':=hd.ext g2
   refine⟨fun d hd1=>?_,?_⟩
   ·simp only[List.cons_append,List.nil_append,ac1] at hd1
    rcases hd1 with rfl|hd1
    ·refine⟨rfl,hlo,fun ho=>?_,fun hx=>?_,alloc_heap_new _ _⟩
     ·obtain⟨i,hi,ho',hb'⟩:=ho
      have:=((hI.obj i hi).lt ho').1
      have e2:(C.ι i).block=C.cls C.w.heap.size:=hb'
      rw[hI.fresh (Nat.le_refl _)] at e2
      omega
     ·have:=hI.xs _ hx
      have e2:ed {target:= .collected C.w.heap.size,args:= #[]}=C.w.heap.size:=rfl
      omega
    ·exact hd'.each d hd1
   ·simp only[List.cons_append,List.nil_append,ac0,List.nodup_cons]
    refine⟨fun hm=>?_,hd'.apart⟩
    obtain⟨d,hd1,he⟩:=List.mem_map.1 hm
    have:=(hd.each d hd1).2.2.2.2
    have hlt:=(Array.getElem?_eq_some_iff.1 this).1
    have e2:ed {target:= .collected C.w.heap.size,args:= #[]}=C.w.heap.size:=rfl
    omega
  | some l0=>
   obtain⟨h0,B,h1,h2⟩:=hF
   simp only[Cf] at hrd
   split at hrd
   ·rename_i r0 hl0
    rw[←hs.st] at hl0
    have hlt:l0<C.st.length:=by
     rcases Nat.lt_or_ge l0 C.st.length with h|h
     ·exact h
     ·rw[eh _ _ h] at hl0;cases hl0
    have ho:=hI.obj l0 hlt
    rw[hl0] at ho
    obtain⟨hX,rec0,k1,k2⟩:=ho
    rw[h2 r0 hl0] at k1
    have e:F.round=some B:=by rw[h1];rfl
    rw[e,run_enterLoop_inner k1]
    exact⟨_,_,_,{state:= .ready,pending:=none,fn,tmps:=a.tmps,params:=ps,assign:=asg,body,defers:=rec0.defers},rfl,rfl,C.w,gT.refl _,rfl,rfl,hd⟩
   ·cases hrd
 obtain⟨l,mark,w1,rec0,he1,he2,w0,he3,rfl,rfl,he6⟩:=enter
 obtain⟨g1,g2⟩:=nK hI he3
 have hold: ∀b,b<w0.heap.size->(w0.alloc (.loop rec0)).heap[b]? =w0.heap[b]? :=fun b hb=>bE _ _ _ hb
 let o:Obj:= .loop {state:= .ready,pending:=none,fn:=f,bg:=s.bg,params:=ps,assign:=asg,body:=body}
 let G0:G:=⟨w0.heap.size,0,false⟩
 let C0:Ctx:={C with w:=w0}
 have hk0:bH C0 (C0.add o G0 (w0.alloc (.loop rec0))):=iQ g1 hold
 have hregs:gm (C0.add o G0 (w0.alloc (.loop rec0))) s.bg a.tmps:=
  (hs.bg.eu g2.keeps hI.lay g2.refs).eu hk0 g1.lay (fun i hi=>v9 g1 hold hi)
 obtain⟨a1,a2⟩:=fx (C:=C0) g1 (o:=o) (g:=G0) (w:=w0.alloc (.loop rec0)) rfl (by rw[cn];show w0.heap.size<=_;omega) ⟨rfl,rfl,rfl⟩ hold (by
  refine⟨fun hx=>?_,rec0,alloc_heap_new _ _,?_⟩
  ·have:=g1.xs _ hx
   have e2:G0.block=w0.heap.size:=rfl
   have e3:C0.w=w0:=rfl
   rw[e2] at this
   exact Nat.lt_irrefl _ this
  ·exact⟨congrArg Loop.state he2,congrArg Loop.pending he2,congrArg Loop.params he2,congrArg Loop.assign he2,congrArg Loop.body he2,by rw[show rec0.tmps=a.tmps from congrArg Loop.tmps he2];exact hregs⟩)
 have hst:(C0.add o G0 (w0.alloc (.loop rec0))).st=s.st++[o]:=by show C.st++[o]=_;rw[hs.st]
 have hcl:C.st.length=s.st.length:=by rw[hs.st]
 have hcl0:Rel C (.bq f' caps) (a.eval g):=by rw[←hg];exact bm hs g
 obtain⟨cs,hgv,hcs⟩:=tE hcl0
 have hcl1:=(hcl0.eu g2.keeps hI.lay (fun i _ hlt=>g2.refs i hlt)).eu hk0 g1.lay (fun i _ hlt=>v9 g1 hold hlt)
 obtain⟨cs',hgv',hcs'⟩:=tE hcl1
 obtain rfl:cs=cs':=by rw[hgv] at hgv';injection hgv'
 have hyld:Rel (C0.add o G0 (w0.alloc (.loop rec0))) (.de s.st.length) (.func (.yield w0.heap.size) #[] #[]):=by
  refine⟨.inl rfl, .inl (by simp[Value.cells,wid]),?_⟩
  simp only[M]
  refine⟨by rw[hst];simp,_,rfl,rfl,fun r hr=>?_,fun t ht=>?_⟩
  case refine_2=>
   have hn:=(bp (C:=C0) (o:=o) (g:=G0) (w:=w0.alloc (.loop rec0))).1
   rw[show C0.st.length=s.st.length from hcl] at hn
   rw[hn] at ht
   have ht2:Obj.loop {state:= .ready,pending:=none,fn:=f,bg:=s.bg,params:=ps,assign:=asg,body:=body}= .ext t:=ht
   cases ht2
  have hn:=(bp (C:=C0) (o:=o) (g:=G0) (w:=w0.alloc (.loop rec0))).2
  have e:C0.st.length=s.st.length:=hcl
  rw[e] at hn
  rw[hn]
  rfl
 have hmt:MT (C0.add o G0 (w0.alloc (.loop rec0))) (.de s.st.length::caps) (#[Value.func (.yield w0.heap.size) #[] #[]]++cs).toList:=by
  simp only[Array.toList_append,List.cons_append,List.nil_append,MT]
  exact⟨hyld.1,hyld.2.1,hyld.2.2,hcs'⟩
 obtain⟨⟨fnn,hfn,hfb⟩,hcall⟩:=h _ _ (show(C0.add o G0 (w0.alloc (.loop rec0))).P=E.P from hC) a1 hst hmt
 refine⟨w0.heap.size,mark,_,{target:= .fn (.func f') cs,args:= #[.func (.yield w0.heap.size) #[] #[]]},w0.alloc (.loop rec0),f', #[.func (.yield w0.heap.size) #[] #[]]++cs,w0.alloc (.loop rec0),he1,?_,fun f'' _=>lx hF' f'',?_,nG hF',?_⟩
 ·simp only[resolve,hgv]
  simp[Deferred.ofValue,Act.eval]
 ·simp only[invoke];exact jO hE.prog hfn hfb _
 ·refine(kV hF' hcall).mono ?_
  rintro e w3 ⟨v,r,C3,rfl,rfl,hP3,hI3,hr3,hx3,hK3⟩
  unfold px at hK3
  split at hK3
  ·rename_i r3 hl3
   have hlt3:s.st.length<C3.st.length:=by
    rcases Nat.lt_or_ge s.st.length C3.st.length with h|h
    ·exact h
    ·rw[eh _ _ h] at hl3;cases hl3
   have ho:=hI3.obj _ hlt3
   rw[hl3] at ho
   obtain⟨hX3,rec3,k1,k2⟩:=ho
   have hlen0:(C0.add o G0 (w0.alloc (.loop rec0))).st.length=s.st.length+1:=by rw[hst];simp
   have hι:(C3.ι s.st.length).block=w0.heap.size:=by
    obtain⟨r0,_,e⟩:=(hx3.refs s.st.length (by omega)).loop r3 hl3
    rw[e]
    have hn:=(bp (C:=C0) (o:=o) (g:=G0) (w:=w0.alloc (.loop rec0))).2
    have e':C0.st.length=s.st.length:=hcl
    rw[e'] at hn
    rw[hn]
   have hbl:(C3.ι s.st.length).block<C3.w.heap.size:=(Array.getElem?_eq_some_iff.1 k1).1
   have hnb:r3.state≠ .busy:=by
    intro e;rw[e] at hK3;simp at hK3
   have hdead: ∀j,j=s.st.length->an (c9 C3.st s.st.length .dead) j= .dead:=fun j hj=>by subst hj;exact bn _ _ _ hlt3
   obtain⟨u1,u2⟩:=gz hI3 hlt3 (o:= .dead) (w:=C3.w.putObj (C3.ι s.st.length).block (.loop {rec3 with state:= .exhausted})) (by rw[hl3];rfl) World.putObj_size ⟨rfl,rfl,rfl⟩ (fun b hb=>World.putObj_heap_other hb)
    (rQ (by show _<(c9 C3.st _ _).length;rw[aU];exact hlt3) (hdead _ rfl)) trivial
   have hx:Ext C.st.length C (C3.dC s.st.length .dead (C3.w.putObj (C3.ι s.st.length).block (.loop {rec3 with state:= .exhausted}))):=by
    refine g2.trans ((a2.mono (Nat.le_refl _)).trans ((hx3.mono ?_).trans (u2.mono ?_) (Nat.le_refl _)) (Nat.le_refl _)) (Nat.le_refl _)
    ·show C.st.length<=_;omega
    ·show C.st.length<=_;omega
   have hPP:(C3.dC s.st.length .dead (C3.w.putObj (C3.ι s.st.length).block (.loop {rec3 with state:= .exhausted}))).P=C.P:=hP3
   have fin: ∀(e:Exit),K e {s with st:=c9 C3.st s.st.length .dead}->eK lo base C K e {a with defers:=mark++a.defers} (C3.w.putObj (C3.ι s.st.length).block (.loop {rec3 with state:= .exhausted})):=fun e hk=>by
    refine⟨_,{s with st:=c9 C3.st s.st.length .dead},rfl,hPP,u1,⟨rfl,hs.bg.eu hx.keeps hI.lay hx.refs⟩,?_,?_,hx.mono (by omega),hk⟩
    ·have d1:=he6.ext a2
     have d2:=d1.ext hx3
     exact d2.ext u2
    ·show base<=(c9 C3.st _ _).length
     rw[aU];omega
   rw[hι] at k1
   refine⟨rec3.pending,C3.w.putObj (C3.ι s.st.length).block (.loop {rec3 with state:= .exhausted}),?_,?_⟩
   ·rw[run_endLoop k1 (by rw[k2.state];exact hnb),hι]
   ·generalize C3.w.putObj (C3.ι s.st.length).block (.loop {rec3 with state:= .exhausted})=w4 at fin⊢
    rw[k2.pending]
    cases hp:r3.pending with
    |none=>
     rw[hp] at hK3
     cases hst3:r3.state<;>rw[hst3] at hK3<;>first|exact absurd hst3 hnb|exact fin .normal hK3
    |some c=>
     cases c<;>rw[hp] at hK3<;>cases hst3:r3.state<;>rw[hst3] at hK3<;>first|exact absurd hst3 hnb|exact hK3.elim|exact wpIn_ret (fin .ret hK3)|exact wpIn_exit (fin (.exit _) hK3)
  ·exact hK3.elim
theorem DM{E:Env}(hE:aE E){rec:Rec}(hrec:fK E.P rec)(hdraw:Ik E rec)(f:FuncId)(rd:Option Nat)(base:Nat): ∀(c:Code) (s:S) (K:Exit->S->Prop),jH E rec f rd base c s K->Sound E.P rd base c s K:=by
 intro c
 induction c with
 |skip=>
  intro s K h C a F n lo hC hI hs hd hlo hb hF
  exact wpIn_skip ⟨C,s,rfl,rfl,hI,hs,hd,hb,Ext.refl C (by rw[hs.st];exact hb),h⟩
 |label l=>
  intro s K h C a F n lo hC hI hs hd hlo hb hF
  exact wpIn_label ⟨C,s,rfl,rfl,hI,hs,hd,hb,Ext.refl C (by rw[hs.st];exact hb),h⟩
 | region id ops d=>
  intro s K h C a F n lo hC hI hs hd hlo hb hF
  cases d with
  |false=>
   have h:nr E rec ops.toList ops.toList s (wH (K .normal)):=h
   rw[tx] at h
   refine wpIn_region ?_
   rw[List.range_eq_range']
   have:=tI hE hrec hF.Kh (n:=n) (ops:=ops) (K:=K .normal) (lo:=lo) (base:=base) ops.toList 0 rfl hC hI hs hd hb h (Q:=eK lo base C K) (fun a' w' h=>h)
   simpa using this
  |true=>
   have h:mN E rec ops.toList ops.toList.length (gI ops.toList.length) s (wH (K .normal)):=h
   rw[tx] at h
   exact hdraw id ops s (K .normal) h C a F n lo base hC hI hs hd hb hF.Kh _ (fun a' w' h=>h)
 | seq x y ihx ihy=>
  intro s K h C a F n lo hC hI hs hd hlo hb hF
  refine wpIn_seq (wpIn_mono (ihx s _ h C a F n lo hC hI hs hd hlo hb hF) ?_)
  intro e a' w' hp
  cases e with
  |normal=>
   obtain⟨C',s',rfl,hP',hI',hs',hd',hb',he,hK⟩:=hp
   exact wpIn_mono (ihy s' K hK C' a' F n lo (hP'.trans hC) hI' hs' hd' (Nat.le_trans hlo he.size) hb' (hF.ext he)) (fun e a2 w2 h2=>eK.trans hP' he h2)
  |exit id=>exact eK.mono (fun _ h=>h) hp
  |goto l=>exact eK.mono (fun _ h=>h) hp
  |ret=>exact eK.mono (fun _ h=>h) hp
  |panic ch=>exact eK.mono (fun _ h=>h) hp
  |outgrown=>exact eK.mono (fun _ h=>h) hp
 | cond c x y ihx ihy=>
  intro s K h C a F n lo hC hI hs hd hlo hb hF
  unfold jH at h
  split at h
  ·rename_i t hc
   have hcv:=bm hs c
   rw[hc] at hcv
   have hcv:=aH hcv
   refine wpIn_cond hcv ?_
   cases t with
   |true=>
    simp only[aw] at h
    rw[eR hc] at h
    exact ihx s K h C a F n lo hC hI hs hd hlo hb hF
   |false=>
    simp only[aw] at h
    rw[eR hc] at h
    exact ihy s K h C a F n lo hC hI hs hd hlo hb hF
  ·exact h.elim
 | block id c ih=>
  intro s K h C a F n lo hC hI hs hd hlo hb hF
  refine wpIn_block (wpIn_mono (ih s _ h C a F n lo hC hI hs hd hlo hb hF) ?_)
  intro e a' w' hp
  cases e with
  | exit i=>
   simp only[Exit.inBlock]
   by_cases e:i=id
   ·subst e
    rw[if_pos rfl]
    exact eK.mono (fun s h=>by simpa[yQ] using h) hp
   ·rw[if_neg e]
    exact eK.mono (fun s h=>by simpa[yQ,e] using h) hp
  |normal=>exact eK.mono (fun _ h=>h) hp
  |goto l=>exact eK.mono (fun _ h=>h) hp
  |ret=>exact eK.mono (fun _ h=>h) hp
  |panic ch=>exact eK.mono (fun _ h=>h) hp
  |outgrown=>exact eK.mono (fun _ h=>h) hp
 | loop c ih=>
  intro s K h C a F n lo hC hI hs hd hlo hb hF
  unfold jH at h
  split at h
  ·rename_i m hm
   obtain⟨h1,h2⟩:=ai.1 h
   rw[jQ] at h2
   obtain⟨C',k1,k2,k3,k4,k5⟩:=tQ E.P (E.live f m) hI hs hb h1
   have:=hE.loop _ _ _ _ _ _ _ h2 C' a F n lo (k4.P.trans hC) k2 k3 (hd.ext k4) (Nat.le_trans hlo k4.size) k5 (hF.ext k4)
   rw[k1] at this
   exact wpIn_mono this (fun e a2 w2 h=>eK.trans k4.P k4 h)
  ·exact h.elim
 | rangeFunc g ps asg body iha ihb=>
  intro s K h
  unfold jH at h
  split at h
  ·rename_i f' caps hg
   obtain⟨h1,h2⟩:=ai.1 h
   refine Bq (f:=f) hE hrec hg h1 (fun C1 vs hC1 hI1 hst1 hm1=>?_)
   split at h2
   ·obtain⟨k1,k2⟩:=hE.kW _ _ _ _ _ _ h2
    have e:(s.st++[Obj.loop {state:= .ready,pending:=none,fn:=f,bg:=s.bg,params:=ps,assign:=asg,body:=body}]).length - 1=s.st.length:=by simp
    refine⟨k1,?_⟩
    have:=k2 C1 vs hC1 hI1 hst1 (by rw[e];exact hm1)
    rw[hst1]
    exact this
   ·exact qF hrec h2 hC1 hI1 hst1 hm1
  ·exact h.elim
 |exit id=>
  intro s K h C a F n lo hC hI hs hd hlo hb hF
  exact wpIn_exit ⟨C,s,rfl,rfl,hI,hs,hd,hb,Ext.refl C (by rw[hs.st];exact hb),h⟩
 |goto l=>intro s K h;exact h.elim
 | scope c ih=>
  intro s K h C a F n lo hC hI hs hd hlo hb hF
  refine CO (wpIn_mono (ih s _ h C a F n lo hC hI hs hd hlo hb hF) ?_)
  intro e a' w' hp
  cases e with
  |goto l=>
   obtain⟨_,_,_,_,_,_,_,_,_,hK⟩:=hp
   exact hK.elim
  |normal=>exact eK.mono (fun _ h=>h) hp
  |exit id=>exact eK.mono (fun _ h=>h) hp
  |ret=>exact eK.mono (fun _ h=>h) hp
  |panic ch=>exact eK.mono (fun _ h=>h) hp
  |outgrown=>exact eK.mono (fun _ h=>h) hp
 |ret=>
  intro s K h C a F n lo hC hI hs hd hlo hb hF
  exact wpIn_ret ⟨C,s,rfl,rfl,hI,hs,hd,hb,Ext.refl C (by rw[hs.st];exact hb),h⟩
 |refuse r=>intro s K h;exact h.elim
end Go.Dn
