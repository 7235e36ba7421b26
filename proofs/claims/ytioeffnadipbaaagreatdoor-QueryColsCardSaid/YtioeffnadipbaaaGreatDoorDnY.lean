import Derived.Test.YtioeffnadipbaaaGreatDoorDnX
import Derived.RangeFuncNested
namespace Go.Dn
open Go
theorem Ext.len{n:Nat}{C C':Ctx}(h:Ext n C C'):n<=C'.st.length:=by
 rcases Nat.eq_zero_or_pos n with e|e
 ·omega
 ·have:=(h.refs (n - 1) (by omega)).lt;omega
def cH(lo:Nat)(base:Nat)(C:Ctx)(K:S->Prop):Act->World->Prop:=fun a' w'=>
 ∃C' s',C'.w=w'/\C'.P=C.P/\Inv C'/\db C' s' a'/\gS lo C' a'.defers/\base<=s'.st.length/\Ext base C C'/\K s'
theorem JT{C:Ctx}{s:S}{a:Act}(hs:db C s a){t:Nat}{v:Value}(h:nth s.bg t= .lit v):a.tmps[t]? =some v/\a9 v=true/\t<s.bg.length:=by
 rcases Nat.lt_or_ge t s.bg.length with hl|hl
 ·have h1:=hs.bg.2 t hl
  rw[h] at h1
  have e:=aH h1
  have hsz:=hs.bg.1
  have h2:a9 v=true:=by have:=h1.2.2;simp only[M] at this;exact this.2
  simp_all
 ·rw[jN _ _ hl] at h;cases h
theorem BR: ∀(l:List AV) (i:Nat) (x:AV),nth l i=x->i<l.length->bJ l i x=l
 |[],_,_,_,h=>by simp at h
 |a::l,0,x,h,_=>by simp only[nth] at h;simp[bJ,h]
 |a::l,i+1,x,h,hl=>by simp only[nth] at h;simp only[bJ];rw[BR l i x h (by simpa using hl)]
theorem nz{s:S}{t:Nat}{b:Bool}(h:nth s.bg t= .lit (.bool b)):eo s (some t) b=s:=by
 have hl:t<s.bg.length:=by grind [jN]
 simp only[eo];rw[BR _ _ _ h hl]
theorem eR{s:S}{c:Operand}{b:Bool}(h:ev s c= .lit (.bool b)):eo s (qY c) b=s:=by
 cases c with
 |tmp t=>exact nz h
 |_=>rfl
theorem db.ext{C C':Ctx}{n:Nat}(hI:Inv C){s:S}{a:Act}(h:db C s a)(he:Ext n C C')(hn:n=C.st.length):db C' {s with st:=C'.st} a:=by
 subst hn;exact h.step hI he
theorem cH.after{lo base:Nat}{C:Ctx}{K:S->Prop}(hI:Inv C){s:S}{a:Act}(hs:db C s a)(hd:gS lo C a.defers)(hb:base<=s.st.length){C':Ctx}(hP:C'.P=C.P)(hI':Inv C')(he:Ext C.st.length C C'){dst:Option Tmp}{x:AV}{v:Value}(hr:Rel C' x v)
  (hK:K (put {s with st:=C'.st} dst x)):cH lo base C K (a.put dst v) C'.w:=by
 have hsl:s.st.length=C.st.length:=by rw[hs.st]
 refine⟨C',_,rfl,hP,hI',(hs.step hI he).put hr,?_,?_,he.mono (by omega),hK⟩
 ·have:(a.put dst v).defers=a.defers:=by cases dst<;>rfl
  rw[this];exact hd.ext he
 ·have:=he.len
  have e:(put {s with st:=C'.st} dst x).st=C'.st:=by cases dst<;>rfl
  rw[e];omega
theorem cH.same{lo base:Nat}{C:Ctx}{K:S->Prop}(hI:Inv C){s:S}{a:Act}(hs:db C s a)(hd:gS lo C a.defers)(hb:base<=s.st.length){dst:Option Tmp}{x:AV}{v:Value}(hr:Rel C x v)(hK:K (put s dst x)):cH lo base C K (a.put dst v) C.w:=by
 refine cH.after hI hs hd hb rfl hI (Ext.refl C (Nat.le_refl _)) hr ?_
 rw[hs.st];exact hK
def Hx:Op->Bool
 | .defer _=>true
 |_=>false
theorem nt{F:Fence}(hF:F=Fence.wide\/ ∃B,F=Fence.wide.inRound B){n:Nat}{P:Program}{o:Oper}{a:Act}{w:World}{next:Act->World->Prop}{Q:Exit->Act->World->Prop}(hd:Hx o.op=false)
  {R:Ending->World->Prop} (h:hG F n P w R ((execOp a.eval o).run P w)) (hR: ∀e w',R e w'->∃v,e= .returned v/\next (a.put o.dst v) w'):o.wpIn F n P a w next Q:=by
 refine⟨fun f _=>lx hF f,?_⟩
 rw[Oper.semAt_eq _ _ _ (by intro c hc;rw[hc] at hd;simp[Hx] at hd)]
 generalize (execOp a.eval o).run P w=r at h
 cases r with
 |halt x w'=>simp[hG] at h
 | ok x w'=>
  cases x<;>simp only[hG] at h<;>try exact h.elim
  ·obtain⟨rfl,h⟩:=h
   exact⟨nG hF,h.mono fun e w' he=>by obtain⟨v,rfl,hn⟩:=hR e w' he;exact hn⟩
  ·obtain⟨rfl,h⟩:=h
   exact⟨nG hF,h.mono fun e w' he=>by obtain⟨v,rfl,hn⟩:=hR e w' he;exact hn⟩
theorem kE{F:Fence}(hF:F=Fence.wide\/ ∃B,F=Fence.wide.inRound B){n:Nat}{P:Program}{o:Oper}{a:Act}{w w':World}{next:Act->World->Prop}{Q:Exit->Act->World->Prop}(hd:Hx o.op=false)
  {v:Value} (h:(execOp a.eval o).run P w= .ok (.value v) w'\/((execOp a.eval o).run P w= .ok .skip w'/\v=undef)) (hR:next (a.put o.dst v) w'):o.wpIn F n P a w next Q:=by
 refine⟨fun f _=>lx hF f,?_⟩
 rw[Oper.semAt_eq _ _ _ (by intro c hc;rw[hc] at hd;simp[Hx] at hd)]
 rcases h with h|⟨h,rfl⟩
 ·rw[h];exact hR
 ·rw[h];exact hR
theorem Gi{C C1:Ctx}(hI:Inv C)(hP:C1.P=C.P)(hI1:Inv C1){x:AV}{v:Value}(hr:Rel C1 x v)(hx:refs x=[])(he:Ext 0 C.bare C1):
  ∃C2:Ctx,C2.w=C1.w/\C2.P=C.P/\Inv C2/\Ext C.st.length C C2/\C2.st=C.st/\Rel C2 x v:=by
 have hno: ∀b,¬ Own C.bare b:=fun b ⟨i,hi,_⟩=>by simp[Ctx.bare] at hi
 have hg:gT C.w C1.w:=⟨he.size,he.os,he.tape,he.output,fun b hb=>he.frame b hb (hno b)⟩
 obtain⟨g1,g2⟩:=nK hI hg
 let A:Ctx:={C with w:=C1.w}
 have hA:Inv A:=g1
 let X:Nat->Prop:=fun b=>C.w.heap.size<=b/\C1.X b
 let C2:Ctx:={A with X:=fun b=>A.X b\/X b}
 have h1: ∀b,Own A b-> ¬ X b:=fun b ho hX=>by
  have:b<C.w.heap.size:=(hI.dv (show Own C b from ho)).1
  have:=hX.1;omega
 have h2: ∀b,A.cls b≠b-> ¬ X b:=fun b hc hX=>by
  have:=(hI.mT b hc).1
  have:=hX.1;omega
 have h3: ∀b,X b->b<A.w.heap.size:=fun b hX=>hI1.xs b hX.2
 have hk:bH A C2:=⟨rfl,fun _ h=> .inl h,fun _ _=>rfl⟩
 have hrefs: ∀i,i<A.st.length->bU A C2 i i:=fun i hi=>dM hA hi hi rfl rfl (fun _ _ _=>⟨rfl,rfl,rfl⟩)
 have hI2:Inv C2:=⟨hA.lay,fun j hj=>(hA.obj j hj).eu hk hA.lay (fun j hj _=>hrefs j hj) (hA.eQ j hj) ⟨fun b ho hb=>⟨fun hx=>hx.elim (hA.dv ⟨j,hj,ho,hb.symm⟩).2 (h1 b ⟨j,hj,ho,hb.symm⟩),rfl⟩,fun _ _=>⟨Iff.rfl,fun _=>rfl⟩,dN.refl _,Nat.le_refl _,fun _ _=>rfl⟩,
  hA.s8,fun b hb=>hb.elim (hA.xs b) (h3 b),hA.eQ,fun b hb=>⟨(hA.mT b hb).1,fun hx=>hx.elim (hA.mT b hb).2.1 (h2 b hb),(hA.mT b hb).2.2⟩,hA.kJ hk⟩
 have hkeep1:bH C1 C2:=⟨hP.symm,fun b hb=>by
  rcases he.oQ b hb with h|h|h
  ·left
   obtain⟨o,h⟩:=Option.isSome_iff_exists.1 (show(C.P.kept b).isSome=true from h)
   exact(hI.kept b o h).1
  ·exact absurd h (hno b)
  ·exact .inr ⟨h,hb⟩,fun _ _=>rfl⟩
 refine⟨C2,rfl,rfl,hI2,⟨g2.keeps.trans hk,g2.size,g2.os,g2.tape,g2.output,g2.frame,fun b hb=>?_,g2.fV,fun i hi=>(g2.refs i hi).trans (hrefs i hi),g2.cls,g2.lr⟩,rfl,?_⟩
 ·rcases hb with hb|hb
  ·exact g2.oQ b hb
  ·exact .inr (.inr hb.1)
 ·have:=hr.move hkeep1 hI1.lay some (fun i hi=>by rw[hx] at hi;simp at hi)
  rwa [jk] at this
theorem xQ{E:Env}(hE:aE E){C:Ctx}(hC:C.P=E.P)(hI:Inv C){s:S}{a:Act}(hs:db C s a){lo base:Nat}(hd:gS lo C a.defers)(hb:base<=s.st.length)
  {F:Fence} (hF:F=Fence.wide\/ ∃B,F=Fence.wide.inRound B) {n:Nat} {o:Oper} {x:AV} {K:S->Prop} (h:bF E s o.op=some (true,x)) (hK:K (put s o.dst x))
  {next:Act->World->Prop} {Q:Exit->Act->World->Prop} (hn: ∀a' w',cH lo base C K a' w'->next a' w'):o.wpIn F n E.P a C.w next Q:=by
 have hdf:Hx o.op=false:=by
  cases ho:o.op<;>try rfl
  rw[ho] at h;simp[bF] at h
 rcases C6 hE.prog hE.fu hC hI hs h with⟨v,h1,h2⟩|⟨f,args,u,h1,rfl,h2,h3⟩|⟨f,args,h1,h2,h3⟩
 ·rw[hC] at h1
  exact kE hF hdf (.inl h1) (hn _ _ (cH.same hI hs hd hb h2 hK))
 ·rw[hC] at h1 h3
  refine nt hF hdf (R:=fun e w'=>e= .returned u/\gT C.w w') ?_ ?_
  ·rw[h1];exact⟨rfl,kV hF h3⟩
  ·rintro e w' ⟨rfl,hg⟩
   obtain⟨g1,g2⟩:=nK hI hg
   refine⟨u,rfl,hn _ _ (cH.after (C':={C with w:=w'}) hI hs hd hb rfl g1 g2 (aQ h2) ?_)⟩
   show K (put {s with st:=C.st} o.dst (.lit u))
   rw[hs.st];exact hK
 ·rw[hC] at h1 h3
  refine nt hF hdf (R:=fun e w'=>∃v C1,e= .returned v/\C1.w=w'/\C1.P=C.P/\Inv C1/\Rel C1 x v/\Ext 0 C.bare C1) ?_ ?_
  ·rw[h1];exact⟨rfl,kV hF h3⟩
  ·rintro e w' ⟨v,C1,rfl,rfl,hP1,hI1,hr,he⟩
   obtain⟨C2,k1,k2,k3,k4,k5,k6⟩:=Gi hI hP1 hI1 hr h2 he
   rw[←k1]
   refine⟨v,rfl,hn _ _ (cH.after (C':=C2) hI hs hd hb k2 k3 k4 k6 ?_)⟩
   show K (put {s with st:=C2.st} o.dst x)
   rw[k5,hs.st];exact hK
theorem wS{E:Env}{C:Ctx}(hI:Inv C){s:S}{a:Act}(hs:db C s a){lo base:Nat}(hd:gS lo C a.defers)(hb:base<=s.st.length)
  {F:Fence} (hF:F=Fence.wide\/ ∃B,F=Fence.wide.inRound B) {n:Nat} {o:Oper} {K:S->Prop} {c x y:Operand} {t:Bool} (ho:o.op= .pick c x y) (hc:ev s c= .lit (.bool t))
  (hK:aw t (K (put (eo s (qY c) true) o.dst (ev s x))) (K (put (eo s (qY c) false) o.dst (ev s y))))
  {next:Act->World->Prop} {Q:Exit->Act->World->Prop} (hn: ∀a' w',cH lo base C K a' w'->next a' w'):o.wpIn F n E.P a C.w next Q:=by
 have hcv:=bm hs c
 rw[hc] at hcv
 have hcv:=aH hcv
 cases t with
 |true=>
  simp only[aw] at hK
  rw[eR hc] at hK
  refine kE hF (by rw[ho];rfl) (.inl ?_) (hn _ _ (cH.same hI hs hd hb (bm hs x) hK))
  simp[execOp,ho,hcv,asBool]
 |false=>
  simp only[aw] at hK
  rw[eR hc] at hK
  refine kE hF (by rw[ho];rfl) (.inl ?_) (hn _ _ (cH.same hI hs hd hb (bm hs y) hK))
  simp[execOp,ho,hcv,asBool]
theorem vU{E:Env}{C:Ctx}(hC:C.P=E.P)(hI:Inv C){s:S}{a:Act}(hs:db C s a){lo base:Nat}(hd:gS lo C a.defers)(hb:base<=s.st.length)
  {F:Fence} (hF:F=Fence.wide\/ ∃B,F=Fence.wide.inRound B) {n:Nat} {o:Oper} {K:S->Prop} (h:b8 E.P s o.dst o.op K)
  {next:Act->World->Prop} {Q:Exit->Act->World->Prop} (hn: ∀a' w',cH lo base C K a' w'->next a' w'):o.wpIn F n E.P a C.w next Q:=by
 have hdf:Hx o.op=false:=by
  cases ho:o.op<;>try rfl
  rw[ho] at h;simp[b8] at h
 rw[←hC] at h
 obtain⟨v,w',h1,C',s',rfl,h3,h4,h5,h6,h7⟩:=zU hI hs h
 rw[hC] at h1
 have hsl:s.st.length=C.st.length:=by rw[hs.st]
 refine kE hF hdf h1 (hn _ _ ⟨C',s',rfl,h3,h4,h5,?_,?_,h6.mono (by omega),h7⟩)
 ·have:(a.put o.dst v).defers=a.defers:=by cases o.dst<;>rfl
  rw[this];exact hd.ext h6
 ·have:=h6.len
  rw[←h5.st];omega
theorem qg{F:Fence}{n:Nat}{P:Program}{w:World}{R R':Ending->World->Prop}{r:Result Next}(h:hG F n P w R r)(hR: ∀e w',R e w'->R' e w'):hG F n P w R' r:=by
 cases r with
 |ok x w'=>
  cases x<;>simp only[hG] at h⊢ <;>try exact h.elim
  ·exact⟨h.1,h.2.mono hR⟩
  ·exact⟨h.1,h.2.mono hR⟩
 |halt x w'=>simp[hG] at h
theorem qF{E:Env}{rec:Rec}(hrec:fK E.P rec){f:FuncId}{args:List AV}{st:List Obj}{K:AV->List Obj->Prop}(h:l6 E rec f args st K){C:Ctx}(hC:C.P=E.P)(hI:Inv C)(hst:C.st=st){vs:Array Value}(hm:MT C args vs.toList):
  (∃fn,E.P.funcs[f]? =some fn/\fn.body.isSome=true)/\CallsIn Fence.wide 0 E.P f vs C.w (eF C C.st.length K):=by
 unfold l6 at h
 split at h
 ·rename_i fn hfn
  split at h
  ·rename_i c hc
   refine⟨⟨fn,hfn,by rw[hc];rfl⟩,?_⟩
   subst hst
   exact tV hfn hc hC hI hm (hrec _ _ _ _ _ _ h) 0
  ·exact h.elim
 ·exact h.elim
theorem wQ{C:Ctx}: ∀(ps:List Tmp) (as:List AV) (vs:List Value) (bg:List AV) (tmps:Array Value),MT C as vs->gm C bg tmps->
  gm C (iP ps as bg) ((ps.zip vs).foldl (fun tmps (x:Tmp×Value)=>tmps.setIfInBounds x.1 x.2) tmps)
 |[],as,vs,bg,tmps,_,hr=>by simpa[iP] using hr
 |p::ps,[],vs,bg,tmps,hm,hr=>by
  simp only[MT] at hm;subst hm
  simpa[iP] using hr
 |p::ps,a::as,[],bg,tmps,hm,hr=>by simp[MT] at hm
 |p::ps,a::as,v::vs,bg,tmps,hm,hr=>by
  simp only[MT] at hm
  simp only[iP,List.zip_cons_cons,List.foldl_cons]
  exact wQ ps as vs _ _ hm.2.2.2 (hr.put ⟨hm.1,hm.2.1,hm.2.2.1⟩)
theorem IQ{C:Ctx}(hI:Inv C){l:Nat}{r:xF}(hl:an C.st l= .loop r)(st:LoopState)(pd:Option Code):
  ∃rec,C.w.heap[(C.ι l).block]? =some (.loop rec)/\CZ C r rec/\
   Inv (C.dC l (.loop {r with state:=st,pending:=pd}) (C.w.putObj (C.ι l).block (.loop {rec with state:=st,pending:=pd})))/\
   Ext C.st.length C (C.dC l (.loop {r with state:=st,pending:=pd}) (C.w.putObj (C.ι l).block (.loop {rec with state:=st,pending:=pd}))):=by
 have hlt:l<C.st.length:=by
  rcases Nat.lt_or_ge l C.st.length with h|h
  ·exact h
  ·rw[eh _ _ h] at hl;cases hl
 have ho:=hI.obj l hlt
 rw[hl] at ho
 obtain⟨hX,rec,h1,h2⟩:=ho
 have hb:(C.ι l).block<C.w.heap.size:=(Array.getElem?_eq_some_iff.1 h1).1
 refine⟨rec,h1,h2,?_⟩
 have hother: ∀b,b≠(C.ι l).block->(C.w.putObj (C.ι l).block (.loop {rec with state:=st,pending:=pd})).heap[b]? =C.w.heap[b]? :=fun b hb=>World.putObj_heap_other hb
 have hk:bH C (C.dC l (.loop {r with state:=st,pending:=pd}) (C.w.putObj (C.ι l).block (.loop {rec with state:=st,pending:=pd}))):=
  ⟨rfl,fun _ h=>h,fun b hb=>hother b (fun e=>hX (e▸hb))⟩
 have hlen:(C.dC l (.loop {r with state:=st,pending:=pd}) (C.w.putObj (C.ι l).block (.loop {rec with state:=st,pending:=pd}))).st.length=C.st.length:=aU _ _ _
 have hr:bU C (C.dC l (.loop {r with state:=st,pending:=pd}) (C.w.putObj (C.ι l).block (.loop {rec with state:=st,pending:=pd}))) l l:=by
  have hn:an (C.dC l (.loop {r with state:=st,pending:=pd}) (C.w.putObj (C.ι l).block (.loop {rec with state:=st,pending:=pd}))).st l= .loop {r with state:=st,pending:=pd}:=bn _ _ _ hlt
  refine⟨by omega,fun T xs hx=>?_,fun T a hx=>?_,fun K V es hx=>?_,fun r' hx=>⟨r,hl,rfl⟩,fun m n ks hx=>?_,fun t hx=>?_,fun s p hx=>?_,fun K V ks vs met hx=>?_,fun T E ls pd hx=>?_⟩<;>rw[hn] at hx<;>cases hx
 refine gz hI hlt (by rw[hl];rfl) World.putObj_size ⟨rfl,rfl,rfl⟩ hother hr ?_
 refine⟨hX,_,World.putObj_heap_same hb,⟨rfl,rfl,h2.params,h2.assign,h2.body,?_⟩⟩
 refine h2.bg.eu hk hI.lay (fun i hi=>?_)
 by_cases e:l=i
 ·subst e;exact hr
 ·exact tU hI hlt (by rw[hl];rfl) hother hi e
theorem yg{C:Ctx}(hI:Inv C){l:Nat}{r:xF}(hl:an C.st l= .loop r)(st:LoopState)(pd:Option Code):
  ∃rec C',C.w.heap[(C.ι l).block]? =some (.loop rec)/\CZ C r rec/\C'.w=C.w.putObj (C.ι l).block (.loop {rec with state:=st,pending:=pd})/\C'.st=c9 C.st l (.loop {r with state:=st,pending:=pd})/\C'.P=C.P/\C'.ι=C.ι/\
   Inv C'/\Ext C.st.length C C':=by
 obtain⟨rec,h1,h2,h3,h4⟩:=IQ hI hl st pd
 exact⟨rec,C.dC l (.loop {r with state:=st,pending:=pd}) (C.w.putObj (C.ι l).block (.loop {rec with state:=st,pending:=pd})),h1,h2,rfl,rfl,rfl,rfl,h3,h4⟩
theorem sZ{F:Fence}(hF:F=Fence.wide\/ ∃B,F=Fence.wide.inRound B)(l:Nat):F.inRound l=Fence.wide.inRound l:=by
 rcases hF with rfl|⟨B,rfl⟩<;>rfl
theorem sz{E:Env}{rec:Rec}(hrec:fK E.P rec){l:Nat}{args:List AV}{st:List Obj}{K:AV->List Obj->Prop}(h:iS rec l args st K){C:Ctx}(hC:C.P=E.P)(hI:Inv C)(hst:C.st=st){vs:Array Value}(hm:MT C args vs.toList)
  {F:Fence} (hF:F=Fence.wide\/ ∃B,F=Fence.wide.inRound B) (n:Nat):hG F n E.P C.w (eF C C.st.length K) ((Instr.yield (C.ι l).block vs).run E.P C.w)/\∃r,an C.st l= .loop r:=by
 subst hst
 unfold iS at h
 split at h
 ·rename_i r hl
  split at h
  ·rename_i hc
   refine⟨?_,r,hl⟩
   have hlt:l<C.st.length:=by
    rcases Nat.lt_or_ge l C.st.length with h|h
    ·exact h
    ·rw[eh _ _ h] at hl;cases hl
   have ho:=hI.obj l hlt
   rw[hl] at ho
   obtain⟨hX,rec0,h1,h2⟩:=ho
   have hlen:=oP _ _ hm
   have hsz:vs.size=rec0.params.size:=by rw[h2.params,hc.2,←hlen];simp
   rw[run_yield h1 hsz]
   refine⟨rfl,?_⟩
   rw[h2.assign,h2.body]
   have hregs:gm C (iP r.params.toList args r.bg) ((rec0.params.zip vs).foldl (fun tmps (t,a)=>tmps.setIfInBounds t a) rec0.tmps):=by
    have:=wQ r.params.toList args vs.toList r.bg rec0.tmps hm h2.bg
    rw[h2.params]
    rw[←Array.foldl_toList,Array.toList_zip]
    exact this
   refine roundIn_of_wpIn (lx hF _) ?_
   rw[sZ hF]
   have hs0:=hrec _ _ _ _ _ _ h C {tmps:=(rec0.params.zip vs).foldl (fun tmps (t,a)=>tmps.setIfInBounds t a) rec0.tmps,defers:=[]} (Fence.wide.inRound (C.ι l).block) (n - 1) 0 hC hI ⟨rfl,hregs⟩ ⟨fun d hd=>by simp at hd,by simp⟩ (Nat.zero_le _) (Nat.le_refl _) ⟨hlt,_,rfl,fun _ _=>rfl⟩
   refine wpIn_mono hs0 ?_
   rintro e a1 w1 ⟨C1,s1,rfl,hP1,hI1,hs1,hd1,hb1,he1,hK1⟩
   cases e<;>simp only[] at hK1<;>try exact hK1.elim
   split at hK1
   ·rename_i r1 hl1
    split at hK1
    ·rename_i hready
     rw[←hs1.st] at hl1
     obtain⟨rec1,C2,k1,k2,k3,k4,k5,k6,k7,k8⟩:=yg hI1 hl1 .busy r1.pending
     have hι:(C1.ι l).block=(C.ι l).block:=by
      obtain⟨r0,_,e⟩:=(he1.refs l hlt).loop r1 hl1
      rw[e]
     have hpd:rec1.pending=r1.pending:=k2.pending
     have hlen1:C.st.length<=C1.st.length:=he1.len
     have hlen2:C.st.length<=C2.st.length:=Nat.le_trans hlen1 k8.len
     refine⟨C2.w,?_,?_⟩
     ·rw[run_beginRound (hι▸k1) (k2.state.trans hready),k3,hι,←hpd]
     have hs2:=hrec _ _ _ _ _ _ hK1 C2 a1 (Fence.wide.inRound (C.ι l).block) (n - 1) 0 (k5.trans (hP1.trans hC)) k7
      (by have:=hs1.step hI1 k8;rw[k4,hs1.st] at this;exact this) (hd1.ext k8) (Nat.zero_le _) (by show C.st.length<=(c9 s1.st l _).length;rw[aU];exact hb1)
      ⟨hlt,_,rfl,fun _ _=>by rw[k6];exact hι⟩
     refine wpIn_mono hs2 ?_
     rintro e2 a2 w2 ⟨C3,s3,rfl,hP3,hI3,hs3,hd3,hb3,he3,hK3⟩
     split at hK3
     ·rename_i r2 hl2
      rw[←hs3.st] at hl2
      have hι3:(C3.ι l).block=(C.ι l).block:=by
       obtain⟨r0,_,e⟩:=(he3.refs l hlt).loop r2 hl2
       rw[e,k6];exact hι
      have he13:Ext C.st.length C C3:=he1.trans ((k8.mono hlen1).trans he3 (Nat.le_refl _)) (Nat.le_refl _)
      have fin: ∀(j:Option Code) (b:Bool) (sst:LoopState),sst=(if j.isNone then .ready else .done)->b=j.isNone->K (.lit (.bool b)) (c9 s3.st l (.loop {r2 with state:=sst,pending:=j}))->
        ∃v w',(Instr.endRound (C.ι l).block j).run E.P C3.w= .ok v w'/\eF C C.st.length K (.returned v) w':=by
       intro j b sst e1 e2 hk
       obtain⟨rec2,C4,m1,m2,m3,m4,m5,m6,m7,m8⟩:=yg hI3 hl2 sst j
       rw[hι3] at m1
       refine⟨.bool b,C4.w,?_, .bool b, .lit (.bool b),C4,rfl,rfl,m5.trans (hP3.trans (k5.trans hP1)),m7,aQ rfl,he13.trans (m8.mono he13.len) (Nat.le_refl _),?_⟩
       ·rw[run_endRound j m1,m3,hι3,e1,e2]
       ·rw[m4,hs3.st];exact hk
      cases e2<;>simp only[] at hK3<;>try exact hK3.elim
      ·exact fin none true .ready rfl rfl hK3
      ·exact fin (some (.exit _)) false .done rfl rfl hK3
      ·exact fin (some .ret) false .done rfl rfl hK3
     ·exact hK3.elim
    ·exact hK1.elim
   ·exact hK1.elim
  ·exact h.elim
 ·exact h.elim
theorem xn{C:Ctx}: ∀(l m:List AV) (vs us:List Value),MT C l vs->MT C m us->MT C (l++m) (vs++us)
 |[],m,vs,us,h,h'=>by simp only[MT] at h;subst h;simpa using h'
 |_::_,_,[],_,h,_=>by simp[MT] at h
 |a::l,m,v::vs,us,h,h'=>by
  simp only[MT] at h
  simp only[List.cons_append,MT]
  exact⟨h.1,h.2.1,h.2.2.1,xn l m vs us h.2.2.2 h'⟩
theorem uR: ∀(is:List Nat) (st:List Obj) (l:Nat) (t:Option (List AV)),an st l= .ext t->an (cD st is) l= .ext t
 |[],_,_,_,h=>h
 | i::is,st,l,t,h=>by
  simp only[cD]
  refine uR is _ l t ?_
  by_cases e:i=l
  ·subst e
   have hlt:i<st.length:=by
    rcases Nat.lt_or_ge i st.length with h'|h'
    ·exact h'
    ·rw[eh _ _ h'] at h;cases h
   rw[bn _ _ _ hlt,h];rfl
  ·rw[bt _ _ _ _ e];exact h
theorem HX{l:List Nat}(h:Ix l=true):l=[]:=by cases l<;>simp_all[Ix]
theorem ME{C:Ctx}(hI:Inv C){l:Nat}{t t':Option (List AV)}(hl:an C.st l= .ext t){w:World}{O':Nat->Prop}(hphi:C.lr (C.ι l).block t' O' C.X w)(hos:dN C.w w)(hsz:C.w.heap.size<=w.heap.size)
  (hfr: ∀b,b<C.w.heap.size->C.cls b≠(C.ι l).block->w.heap[b]? =C.w.heap[b]?) (hO1: ∀b,C.cls b=(C.ι l).block->O' b) (hO2: ∀b,O' b->C.cls b=(C.ι l).block\/C.w.heap.size<=b) (hO3: ∀b,O' b->b<w.heap.size):
  ∃C',C'.w=w/\C'.P=C.P/\C'.st=c9 C.st l (.ext t')/\Inv C'/\Ext C.st.length C C':=by
 classical
 have hlt:l<C.st.length:=by
  rcases Nat.lt_or_ge l C.st.length with h|h
  ·exact h
  ·rw[eh _ _ h] at hl;cases hl
 have hown:cr (C.ι l) (an C.st l)=true:=by rw[hl];rfl
 have hob:=hI.obj l hlt
 rw[hl] at hob
 obtain⟨hX,hB,_,hlaw⟩:=hob
 have hself:=hI.eQ l hlt hown
 let cls':Nat->Nat:=fun b=>if O' b then(C.ι l).block else C.cls b
 have hcls: ∀b,cls' b=(C.ι l).block↔O' b:=fun b=>by
  by_cases h:O' b
  ·simp only[cls',if_pos h,h]
  ·simp only[cls',if_neg h,h,iff_false]
   exact fun e=>h (hO1 b e)
 have hold: ∀b,b<C.w.heap.size->cls' b=C.cls b:=fun b hb=>by
  by_cases h:O' b
  ·simp only[cls',if_pos h]
   rcases hO2 b h with e|e
   ·exact e.symm
   ·omega
  ·simp only[cls',if_neg h]
 let C':Ctx:={C with st:=c9 C.st l (.ext t'),w:=w,cls:=cls'}
 have hs:an C'.st l= .ext t':=bn _ _ _ hlt
 have hrl:bU C C' l l:=by
  refine⟨by show l<(c9 _ _ _).length;rw[aU];exact hlt,fun T xs hx=>?_,fun T b hx=>?_,fun K V es hx=>?_,fun r hx=>?_,fun m n ks hx=>?_,fun t hx=>⟨_,hl,rfl⟩,fun s p hx=>?_,fun K V ks vs met hx=>?_,fun T E ls pd hx=>?_⟩<;>rw[hs] at hx<;>first|(simp[gC] at hx;done)|cases hx
 have:=Et (C':=C') hI hlt hown rfl rfl rfl rfl rfl hsz hos hfr (fun b hb=>⟨hold b hb,rfl⟩) (fun b hb=>by
  by_cases h:O' b
  ·exact .inr ⟨if_pos h,hO3 b h⟩
  ·exact .inl ⟨(if_neg h).trans (hI.fresh hb),rfl⟩) hrl (by
  refine⟨hX,by show(C.ι l).block<w.heap.size;omega,?_,hlaw⟩
  show C.lr (C.ι l).block t' (fun b=>cls' b=(C.ι l).block) C.X w
  rw[show(fun b=>cls' b=(C.ι l).block)=O' from funext fun b=>propext (hcls b)]
  exact hphi)
 exact⟨C',rfl,rfl,rfl,this.1,this.2⟩
theorem B6{l:Nat}{t:Option (List AV)}{args:List AV}{st:List Obj}{K:AV->List Obj->Prop}(h:zy l t args st K){C:Ctx}(hI:Inv C)(hst:C.st=st)(hl:an C.st l= .ext t){vs:Array Value}(hm:MT C args vs.toList)
  {F:Fence} (hF:F=Fence.wide\/ ∃B,F=Fence.wide.inRound B) (n:Nat):hG F n C.P C.w (eF C C.st.length K) ((Instr.yield (C.ι l).block vs).run C.P C.w):=by
 unfold zy at h
 split at h
 ·rename_i xs as is hle
  obtain⟨hn,rest,rfl,hK1,hK2⟩:=ai.1 h
  rw[←hst] at hle hK1 hK2
  obtain⟨C1,f1,f2,f3,f4,f5,f6⟩:=lu is hI
  have hm1:=qd hI f5 f2 _ as is _ hle (fun i hi hlt hl=>f6 i hi hlt hl) hm
  have hl1:an C1.st l= .ext (some (.aX as::rest)):=by rw[f1];exact uR is _ _ _ hl
  have hlt:l<C1.st.length:=by
   rcases Nat.lt_or_ge l C1.st.length with h|h
   ·exact h
   ·rw[eh _ _ h] at hl1;cases hl1
  have hown:cr (C1.ι l) (an C1.st l)=true:=by rw[hl1];rfl
  have hob:=f4.obj l hlt
  rw[hl1] at hob
  obtain⟨hX,hB,hphi,hlaw⟩:=hob
  have hc:=hlaw.call as rest _ C1.X C1.w vs F n hphi hF f4.xs (fun b hb=>f4.dv ⟨l,hlt,hown,hb.symm⟩) (HX hn) ⟨C1,rfl,rfl,rfl,hm1⟩
  rw[f3,f2,f5.keeps.P] at hc
  refine qg hc ?_
  rintro e w' ⟨r,O',rfl,p1,p2,p3,p4,p5,p6,p7⟩
  rw[←f3] at p1
  rw[←f2] at p2 p3 p4 p6
  obtain⟨C2,g1,g2,g3,g4,g5⟩:=ME f4 hl1 p1 p2 p3 (fun b hb hne=>p4 b hb (by rw[←f3];exact hne)) (fun b hb=>p5 b (by rw[←f3];exact hb)) (fun b hb=>(p6 b hb).imp (fun h=>by rw[f3];exact h) id) p7
  refine⟨.bool r, .lit (.bool r),C2,rfl,g1,g2.trans f5.keeps.P,g4,aQ rfl,f5.trans (g5.mono f5.len) (Nat.le_refl _),?_⟩
  rw[g3,f1]
  cases r
  ·exact hK2
  ·exact hK1
 ·exact h.elim
theorem DS{E:Env}(hE:aE E){rec:Rec}(hrec:fK E.P rec){g:AV}{args:List AV}{st:List Obj}{K:AV->List Obj->Prop}(h:nC E rec g args st K){C:Ctx}(hC:C.P=E.P)(hI:Inv C)(hst:C.st=st)
  {gv:Value} {vs:Array Value} (hg:Rel C g gv) (hm:MT C args vs.toList) {F:Fence} (hF:F=Fence.wide\/ ∃B,F=Fence.wide.inRound B) (n:Nat):
  ∃d,(Deferred.ofValue gv vs).run E.P C.w= .ok d C.w/\hG F n E.P C.w (eF C C.st.length K) ((invoke d.target d.args).run E.P C.w):=by
 unfold nC at h
 split at h
 ·rename_i f caps
  obtain⟨cs,rfl,hcs⟩:=tE hg
  have hmt:MT C (args++caps) (vs++cs).toList:=by
   rw[Array.toList_append];exact xn _ _ _ _ hm hcs
  refine⟨{target:= .fn (.func f) cs,args:=vs},by simp[Deferred.ofValue],?_⟩
  have key: ∀{R:Ending->World->Prop},((∃fn,E.P.funcs[f]? =some fn/\fn.body.isSome=true)/\CallsIn Fence.wide 0 E.P f (vs++cs) C.w R)->hG F n E.P C.w R ((invoke (.fn (.func f) cs) vs).run E.P C.w):=by
   rintro R ⟨⟨fn,h1,h2⟩,h3⟩
   have:(invoke (.fn (.func f) cs) vs).run E.P C.w= .ok (.enter f (vs++cs)) C.w:=by
    simp only[invoke];exact jO hE.prog h1 h2 _
   rw[this];exact⟨rfl,kV hF h3⟩
  split at h
  ·exact key (qF hrec h hC hI hst hmt)
  ·split at h
   ·exact key (sI hE h hC hI hst hmt)
   ·split at h
    ·rename_i as is hl
     rw[←hst] at hl h
     obtain⟨C1,f1,f2,f3,f4,f5,f6⟩:=lu is hI
     have hm1:=tk f4 (ku E.P f) _ _ (qd hI f5 f2 _ as is _ hl (fun i hi hlt hl=>f6 i hi hlt hl) hmt)
     rw[show C1.P=E.P from f5.P.trans hC] at hm1
     obtain⟨k1,k2⟩:=sI hE h (f5.P.trans hC) f4 f1 hm1
     refine key ⟨k1,?_⟩
     rw[←f2]
     refine k2.mono ?_
     rintro e w' ⟨v,r,C',rfl,hw,hP,hI',hr,he,hK⟩
     have hle:C.st.length<=C1.st.length:=f5.len
     exact⟨v,r,C',rfl,hw,hP.trans f5.P,hI',hr,f5.trans (he.mono hle) (Nat.le_refl _),hK⟩
    ·exact h.elim
 ·rename_i l
  split at h
  ·rename_i t hl
   rw[←hst] at hl
   have:=(zr hg).2.2 t hl
   subst this
   refine⟨{target:= .fn (.yield (C.ι l).block) #[],args:=vs},by simp[Deferred.ofValue],?_⟩
   simp only[invoke]
   rw[←hC]
   exact B6 h hI hst hl hm hF n
  ·obtain⟨h1,h2⟩:=sz hrec h hC hI hst hm hF n
   obtain⟨r,hr⟩:=h2
   have:=(zr hg).2.1 r hr
   subst this
   refine⟨{target:= .fn (.yield (C.ι l).block) #[],args:=vs},by simp[Deferred.ofValue],?_⟩
   simp only[invoke]
   exact h1
 ·exact h.elim
theorem xW{E:Env}(hE:aE E){rec:Rec}(hrec:fK E.P rec){C:Ctx}(hC:C.P=E.P)(hI:Inv C){s:S}{a:Act}(hs:db C s a){lo base:Nat}(hd:gS lo C a.defers)(hb:base<=s.st.length)
  {F:Fence} (hF:F=Fence.wide\/ ∃B,F=Fence.wide.inRound B) {n:Nat} {o:Oper} {g:AV} {args:List AV} {K:S->Prop} (hc:gi s o.op=some (g,args)) (h:nC E rec g args s.st fun x st=>K (put {s with st} o.dst x))
  {next:Act->World->Prop} {Q:Exit->Act->World->Prop} (hn: ∀a' w',cH lo base C K a' w'->next a' w'):o.wpIn F n E.P a C.w next Q:=by
 obtain⟨dst,op,type,pos,after,guard⟩:=o
 simp only at hc
 unfold gi at hc
 split at hc
 ·rename_i gv ags ats
  simp only[aa3,aa9] at hc
  obtain⟨rfl,rfl⟩:=hc
  have hmt:MT C (mQ s ags.toList) (ags.map a.eval).toList:=by
   have:=tn hs ags.toList
   simpa using this
  obtain⟨d,h1,h2⟩:=DS hE hrec h hC hI hs.st (bm hs gv) hmt hF n
  refine nt hF rfl (R:=eF C C.st.length fun x st=>K (put {s with st} dst x)) ?_ ?_
  ·have:(execOp a.eval {dst:=dst,op:= .call {callee:= .value gv,args:=ags,argTypes:=ats},type:=type,pos:=pos,after:=after,guard:=guard}).run E.P C.w=(invoke d.target d.args).run E.P C.w:=by
    simp only[execOp,resolve,Sem.run_bind,h1,Result.andThen_ok]
   rw[this];exact h2
  ·rintro e w' ⟨v,r,C',rfl,rfl,hP,hI',hr,he,hK⟩
   grind [cH.after]
 ·simp at hc
theorem Hh{E:Env}(hE:aE E){rec:Rec}(hrec:fK E.P rec){C:Ctx}(hC:C.P=E.P)(hI:Inv C){s:S}{a:Act}(hs:db C s a){lo base:Nat}(hd:gS lo C a.defers)(hb:base<=s.st.length)
  {F:Fence} (hF:F=Fence.wide\/ ∃B,F=Fence.wide.inRound B) {n:Nat} {o:Oper} {K:S->Prop} (h:M1 E rec s o.dst o.op K)
  {next:Act->World->Prop} {Q:Exit->Act->World->Prop} (hn: ∀a' w',cH lo base C K a' w'->next a' w'):o.wpIn F n E.P a C.w next Q:=by
 unfold M1 at h
 split at h
 ·rename_i c x hr
  obtain⟨rfl,hK⟩:=ai.1 h
  exact xQ hE hC hI hs hd hb hF hr hK hn
 ·split at h
  ·rename_i hop
   split at h
   ·rename_i hc
    exact wS hI hs hd hb hF hop hc h hn
   ·exact h.elim
  ·split at h
   ·rename_i hc
    exact xW hE hrec hC hI hs hd hb hF hc h hn
   ·exact vU hC hI hs hd hb hF h hn
theorem MB{b:Bool}{st st':List Obj}{p:Prop}(h:U9 b st st' p):p:=by
 cases b
 ·exact h
 ·exact h.2
theorem Gj{E:Env}(hE:aE E){rec:Rec}(hrec:fK E.P rec){C:Ctx}(hC:C.P=E.P)(hI:Inv C){s:S}{a:Act}(hs:db C s a){lo base:Nat}(hd:gS lo C a.defers)(hb:base<=s.st.length)
  {F:Fence} (hF:F=Fence.wide\/ ∃B,F=Fence.wide.inRound B) {n:Nat} {o:Oper} {K:S->Prop} (h:sR E rec s o.dst o.op K)
  {next:Act->World->Prop} {Q:Exit->Act->World->Prop} (hn: ∀a' w',cH lo base C K a' w'->next a' w'):o.wpIn F n E.P a C.w next Q:=by
 unfold sR at h
 split at h
 ·split at h
  ·rename_i g args hc
   refine xW (K:=fun s'=>U9 (ug E.calm o.op&& !Gs E g args s.st) s.st s'.st (K s')) hE hrec hC hI hs hd hb hF hc ?_ (fun a' w' ⟨C',s',g1,g2,g3,g4,g5,g6,g7,g8⟩=>hn a' w' ⟨C',s',g1,g2,g3,g4,g5,g6,g7,MB g8⟩)
   have e: ∀(a:AV) (st:List Obj),(put {s with st:=st} o.dst a).st=st:=fun a st=>by cases o.dst<;>rfl
   simp only[e]
   exact h
  ·exact vU hC hI hs hd hb hF h hn
 ·split at h
  ·rename_i c x hr
   obtain⟨rfl,hK⟩:=ai.1 h
   exact xQ hE hC hI hs hd hb hF hr hK hn
  ·split at h
   ·rename_i hop
    split at h
    ·rename_i hc
     exact wS hI hs hd hb hF hop hc h hn
    ·exact h.elim
   ·exact h.elim
theorem tM: ∀(ops:List Oper) (j:Nat) (t:Tmp),mH ops j=some t->∃o,ops[j]? =some o/\o.dst=some t
 |[],_,_,h=>by simp[mH] at h
 |o::_,0,t,h=>⟨o,rfl,h⟩
 |_::l,j+1,t,h=>by simpa using tM l j t h
theorem Ce{C:Ctx}{s:S}{a:Act}(hs:db C s a){ops:Array Oper}{j:Nat}{t:Tmp}{b:Bool}(h:mH ops.toList j=some t)(hb:nth s.bg t= .lit (.bool b)):yielded ops a.tmps j=some b:=by
 obtain⟨o,h1,h2⟩:=tM _ _ _ h
 have h3:=(JT hs hb).1
 have h1':ops[j]? =some o:=by simpa using h1
 simp[yielded,h1',h2,h3]
theorem xk{C:Ctx}:Rel C (.aX []) undef:=cL (vs:= #[]) (by simp[MT])
theorem Al{C:Ctx}{s:S}{a:Act}(hs:db C s a){ops:Array Oper}{j:Nat}{t:Tmp}(h:mH ops.toList j=some t)(hb:nth s.bg t= .aX []):yielded ops a.tmps j=none:=by
 obtain⟨o,h1,h2⟩:=tM _ _ _ h
 have hl:t<s.bg.length:=by grind [jN]
 have h3:=hs.bg.2 t hl
 rw[hb] at h3
 obtain⟨vs,h4,_⟩:=z9 h3
 have hl':t<a.tmps.size:=Nat.lt_of_lt_of_le hl (Nat.le_of_eq hs.bg.1)
 have h5:a.tmps[t]? =some (.tuple vs):=by simp_all
 have h1':ops[j]? =some o:=by simpa using h1
 simp[yielded,h1',h2,h5]
def iG(ops:List Oper)(p:S->(S->Prop)->Prop)(o:Oper)(s:S)(K:S->Prop):Prop:=
 match o.guard with
 |none=>p s K
 | some (j,want)=>
  match mH ops j with
  |none=>False
  |some t=>
   match nth s.bg t with
   | .lit (.bool b)=>if b=want then p s K else K (put s o.dst (.aX []))
   | .aX []=>K (put s o.dst (.aX []))
   |_=>False
theorem dT{E:Env}{rec:Rec}{ops:List Oper}{o:Oper}{s:S}{K:S->Prop}:dd E rec ops o s K↔iG ops (fun s K=>sR E rec s o.dst o.op K) o s K:=by
 unfold dd iG
 cases o.guard with
 |none=>exact Iff.rfl
 |some g=>grind [aw,nz]
theorem vP{E:Env}{rec:Rec}{ops:List Oper}{o:Oper}{l:List Oper}{s:S}{K:S->Prop}:nr E rec ops (o::l) s K↔iG ops (fun s K=>M1 E rec s o.dst o.op K) o s (fun s'=>nr E rec ops l s' K):=by
 rw[nr]
 unfold iG
 cases o.guard with
 |none=>exact Iff.rfl
 |some g=>grind [aw,nz]
theorem sD{E:Env}{C:Ctx}(hI:Inv C){s:S}{a:Act}(hs:db C s a){lo base:Nat}(hd:gS lo C a.defers)(hb:base<=s.st.length)
  {F:Fence} (hF:F=Fence.wide\/ ∃B,F=Fence.wide.inRound B) {n:Nat} {ops:Array Oper} {i:Nat} {o:Oper} (ho:ops[i]? =some o) {K:S->Prop} {p:S->(S->Prop)->Prop}
  {next:Act->World->Prop} {Q:Exit->Act->World->Prop} (hp:p s K->o.wpIn F n E.P a C.w next Q) (hn: ∀a' w',cH lo base C K a' w'->next a' w')
  (h:iG ops.toList p o s K):wpOpIn F n E.P ops Q i next a C.w:=by
 unfold wpOpIn
 rw[ho]
 simp only[]
 unfold iG at h
 cases hg:o.guard with
 |none=>
  rw[hg] at h
  have hw:Region.wanted o (yielded ops a.tmps)=true:=by simp[Region.wanted,hg]
  rw[if_pos hw];exact hp h
 | some g=>
  obtain⟨j,want⟩:=g
  rw[hg] at h
  simp only[] at h
  split at h
  ·exact h.elim
  ·rename_i t ht
   split at h
   ·rename_i b hbv
    have hy:=Ce hs ht hbv
    by_cases e:b=want
    ·have hw:Region.wanted o (yielded ops a.tmps)=true:=by simp[Region.wanted,hg,hy,e]
     rw[if_pos hw];rw[if_pos e] at h;exact hp h
    ·have hw: ¬ Region.wanted o (yielded ops a.tmps)=true:=by simp[Region.wanted,hg,hy,e]
     rw[if_neg hw];rw[if_neg e] at h
     exact⟨fun f _=>lx hF f,hn _ _ (cH.same hI hs hd hb xk h)⟩
   ·rename_i hbv
    have hy:=Al hs ht hbv
    have hw: ¬ Region.wanted o (yielded ops a.tmps)=true:=by simp[Region.wanted,hg,hy]
    rw[if_neg hw]
    exact⟨fun f _=>lx hF f,hn _ _ (cH.same hI hs hd hb xk h)⟩
   ·exact h.elim
theorem cH.trans{lo base:Nat}{C C':Ctx}{K:S->Prop}{a:Act}{w:World}(hP:C'.P=C.P)(he:Ext base C C')(h:cH lo base C' K a w):cH lo base C K a w:=by
 obtain⟨C2,s2,h1,h2,h3,h4,h5,h6,h7,h8⟩:=h
 exact⟨C2,s2,h1,h2.trans hP,h3,h4,h5,h6,he.trans h7 (Nat.le_refl _),h8⟩
theorem tI{E:Env}(hE:aE E){rec:Rec}(hrec:fK E.P rec){F:Fence}(hF:F=Fence.wide\/ ∃B,F=Fence.wide.inRound B){n:Nat}{ops:Array Oper}{K:S->Prop}{lo base:Nat}:
  ∀(l:List Oper) (k:Nat),ops.toList.drop k=l->∀{C:Ctx},C.P=E.P->Inv C->∀{s:S} {a:Act},db C s a->gS lo C a.defers->base<=s.st.length->nr E rec ops.toList l s K->
   ∀{Q:Exit->Act->World->Prop},(∀a' w',cH lo base C K a' w'->Q .normal a' w')->wpOpsIn F n E.P ops Q (List.range' k l.length) a C.w
 |[],k,_,C,hC,hI,s,a,hs,hd,hb,h,Q,hQ=>by
  simp only[List.length_nil,List.range'_zero,wpOpsIn]
  exact hQ _ _ ⟨C,s,rfl,rfl,hI,hs,hd,hb,Ext.refl C (by rw[hs.st];exact hb),h⟩
 | o::l,k,hk,C,hC,hI,s,a,hs,hd,hb,h,Q,hQ=>by
  have ho:ops[k]? =some o:=by
   have:(ops.toList.drop k)[0]? =some o:=by rw[hk];rfl
   simpa using this
  have hk':ops.toList.drop (k+1)=l:=by
   rw[←List.drop_drop,hk];rfl
  simp only[List.length_cons,List.range'_succ,wpOpsIn_cons]
  rw[vP] at h
  have hn: ∀a' w',cH lo base C (fun s'=>nr E rec ops.toList l s' K) a' w'->wpOpsIn F n E.P ops Q (List.range' (k+1) l.length) a' w':=by
   rintro a' w' ⟨C',s',rfl,hP',hI',hs',hd',hb',he,hK⟩
   exact tI hE hrec hF l (k+1) hk' (hP'.trans hC) hI' hs' hd' hb' hK (fun a2 w2 h2=>hQ _ _ (h2.trans hP' he))
  exact sD hI hs hd hb hF ho (fun hp=>Hh hE hrec hC hI hs hd hb hF hp hn) hn h
end Go.Dn
