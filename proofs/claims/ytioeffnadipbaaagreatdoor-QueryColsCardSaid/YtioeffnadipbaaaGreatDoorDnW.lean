import Derived.Test.YtioeffnadipbaaaGreatDoorDnV
namespace Go.Dn
open Go
def oD(C:Ctx)(rd:Option Nat)(base:Nat)(F:Fence):Prop:=
 match rd with
 |none=>F=Fence.wide
 |some l=>l<base/\∃B,F=Fence.wide.inRound B/\∀r,an C.st l= .loop r->(C.ι l).block=B
theorem oD.Kh{C:Ctx}{rd:Option Nat}{base:Nat}{F:Fence}(h:oD C rd base F):F=Fence.wide\/ ∃B,F=Fence.wide.inRound B:=by
 cases rd with
 |none=>exact .inl h
 |some l=>obtain⟨_,B,h1,_⟩:=h;exact .inr ⟨B,h1⟩
theorem oD.ext{C C':Ctx}{rd:Option Nat}{base:Nat}{F:Fence}(h:oD C rd base F)(he:Ext base C C'):oD C' rd base F:=by
 cases rd with
 |none=>exact h
 |some l=>
  obtain⟨h0,B,h1,h2⟩:=h
  refine⟨h0,B,h1,fun r hr=>?_⟩
  obtain⟨r0,h3,h4⟩:=(he.refs l h0).loop r hr
  rw[h4];exact h2 r0 h3
theorem kV{F:Fence}(hF:F=Fence.wide\/ ∃B,F=Fence.wide.inRound B){m n:Nat}{P:Program}{f:FuncId}{args:Array Value}{w:World}{R:Ending->World->Prop}(h:CallsIn Fence.wide m P f args w R):CallsIn F n P f args w R:=by
 have h':CallsIn Fence.wide n P f args w R:=callsIn_wide.2 (callsIn_wide.1 h)
 rcases hF with rfl|⟨B,rfl⟩
 ·exact h'
 ·exact h'
theorem lx{F:Fence}(hF:F=Fence.wide\/ ∃B,F=Fence.wide.inRound B)(f:FuncId):F.fn f:=by
 rcases hF with rfl|⟨B,rfl⟩<;>trivial
theorem nG{F:Fence}(hF:F=Fence.wide\/ ∃B,F=Fence.wide.inRound B){n:Nat}:F.depth.isSome=true->1<=n:=by
 rcases hF with rfl|⟨B,rfl⟩<;>intro h<;>simp[Fence.wide,Fence.inRound] at h
def eK(lo:Nat)(base:Nat)(C:Ctx)(K:Exit->S->Prop):Exit->Act->World->Prop:=fun e a' w'=>
 ∃C' s',C'.w=w'/\C'.P=C.P/\Inv C'/\db C' s' a'/\gS lo C' a'.defers/\base<=s'.st.length/\Ext base C C'/\K e s'
def Sound(P:Pg)(rd:Option Nat)(base:Nat)(c:Code)(s:S)(K:Exit->S->Prop):Prop:=
 ∀(C:Ctx) (a:Act) (F:Fence) (n lo:Nat),C.P=P->Inv C->db C s a->gS lo C a.defers->lo<=C.w.heap.size->base<=s.st.length->oD C rd base F->c.wpIn F n P (eK lo base C K) a C.w
def fK(P:Pg)(rec:Rec):Prop:=∀f rd base c s K,rec f rd base c s K->Sound P rd base c s K
def eF(C:Ctx)(n:Nat)(K:AV->List Obj->Prop):Ending->World->Prop:=fun e w'=>
 ∃v r C',e= .returned v/\C'.w=w'/\C'.P=C.P/\Inv C'/\Rel C' r v/\Ext n C C'/\K r C'.st
def bD(P:Pg)(f:FuncId)(args:List AV)(st:List Obj)(K:AV->List Obj->Prop):Prop:=
 (∃fn,P.funcs[f]? =some fn/\fn.body.isSome=true)/\
 ∀(C:Ctx) (vs:Array Value),C.P=P->Inv C->C.st=st->MT C args vs.toList->CallsIn Fence.wide 0 P f vs C.w (eF C st.length K)
structure aE(E:Env):Prop where
 prog:pQ E.P
 fu:EZ E
 call: ∀f args st K,E.call f args st K->bD E.P f args st K
 kW: ∀f k g args st K,E.kW f k g args st K->bD E.P g (.de (st.length - 1)::args) st fun _ st'=>K st'
 loop: ∀f k c rd base s K,E.loop f k c rd base s K->Sound E.P rd base (.loop c) s K
theorem qc{C:Ctx}(hI:Inv C){w:World}(hsz:C.w.heap.size<=w.heap.size)(hX: ∀b,C.X b->w.heap[b]? =C.w.heap[b]?)(hO: ∀b,Own C b->w.heap[b]? =C.w.heap[b]?)(hos:dN C.w w):
  Inv {C with w:=w}/\bH C {C with w:=w}/\∀i,i<C.st.length->bU C {C with w:=w} i i:=by
 have hk:bH C {C with w:=w}:=⟨rfl,fun _ h=>h,hX⟩
 have hrefs: ∀i,i<C.st.length->bU C {C with w:=w} i i:=fun i hi=>dM hI hi hi rfl rfl (fun h b hb=>⟨rfl,rfl,hO _ ⟨i,hi,h,hb.symm⟩⟩)
 exact⟨⟨hI.lay,fun i hi=>(hI.obj i hi).eu hk hI.lay (fun j hj _=>hrefs j hj) (hI.eQ i hi) ⟨fun b h hb=>⟨(hI.dv ⟨i,hi,h,hb.symm⟩).2,hO _ ⟨i,hi,h,hb.symm⟩⟩,fun _ _=>⟨Iff.rfl,fun _=>rfl⟩,hos,hsz,fun _ _=>rfl⟩,hI.s8,fun b hb=>by have:=hI.xs b hb;show b<w.heap.size;omega,hI.eQ,fun b hb=>⟨by have:=(hI.mT b hb).1;show b<w.heap.size;omega,(hI.mT b hb).2.1,by have:=(hI.mT b hb).2.2;show C.cls b<w.heap.size;omega⟩,hI.kJ hk⟩,hk,hrefs⟩
theorem nK{C:Ctx}(hI:Inv C){w:World}(hg:gT C.w w):Inv {C with w:=w}/\Ext C.st.length C {C with w:=w}:=by
 obtain⟨h1,h2,h3⟩:=qc hI hg.size (fun b hb=>hg.heap b (hI.xs b hb)) (fun b hb=>hg.heap b (hI.dv hb).1) ⟨hg.os,hg.tape,hg.output⟩
 exact⟨h1,⟨h2,hg.size,hg.os,hg.tape,hg.output,fun b hb _=>hg.heap b hb,fun b hb=> .inl hb,fun b hb=> .inl hb,h3,fun _=> .inl ⟨rfl,rfl⟩,rfl⟩⟩
theorem qm{P:Program}{w:World}{T:TypeId}{vp v:Value}(h:(Instr.loadAt T vp).run P w= .ok v w):(do loadVar T (←asAddr vp):Sem Value).run P w= .ok v w:=by
 cases vp with
 |pointer a=>
  cases a with
  |none=>simp[Instr.loadAt,Instr.sureAddr] at h
  |some a=>simpa[Instr.loadAt,Instr.sureAddr,asAddr] using h
 |_=>simp[Instr.loadAt,Instr.sureAddr] at h
def u5(tmps:Array Value):ResultVar->Sem Value
 | .tmp t=>pure (tmps.getD t undef)
 | .cell a t=>do loadVar t (←asAddr (tmps.getD a undef))
theorem pr{C:Ctx}(hI:Inv C){s:S}{a:Act}(hs:db C s a): ∀(rs:List ResultVar) (l:List AV),vq C.P s rs=some l->∃vs:List Value,(rs.mapM (u5 a.tmps)).run C.P C.w= .ok vs C.w/\MT C l vs
 |[],l,h=>by
  simp only[vq,aa3] at h;subst h
  exact⟨[],by simp,by simp[MT]⟩
 | .tmp t::rs,l,h=>by
  simp only[vq] at h
  split at h
  ·rename_i m hm
   simp only[aa3] at h;subst h
   obtain⟨vs,h1,h2⟩:=pr hI hs rs m hm
   have hr:=bm hs (.tmp t)
   refine⟨a.tmps.getD t undef::vs,by simp[u5,h1],?_⟩
   simp only[MT];exact⟨hr.1,hr.2.1,hr.2.2,h2⟩
  ·simp at h
 | .cell p T::rs,l,h=>by
  simp only[vq] at h
  split at h
  ·rename_i x m hx hm
   simp only[aa3] at h;subst h
   obtain⟨vs,h1,h2⟩:=pr hI hs rs m hm
   rw[←hs.st] at hx
   obtain⟨v,h3,h4⟩:=uS hI hx (bm hs (.tmp p))
   have h5:=qm h3
   have h5':(u5 a.tmps (.cell p T)).run C.P C.w= .ok v C.w:=h5
   refine⟨v::vs,?_,?_⟩
   ·simp only[List.mapM_cons,Sem.run_bind,h5',Result.andThen_ok,h1,Sem.run_pure]
   ·simp only[MT];exact⟨h4.1,h4.2.1,h4.2.2,h2⟩
  ·simp at h
theorem wL{C:Ctx}(hI:Inv C){s:S}{a:Act}(hs:db C s a){fn:Func}{l:List AV}(h:vq C.P s fn.results.toList=some l): ∃v,(results fn a.tmps).run C.P C.w= .ok v C.w/\Rel C (mr l) v:=by
 obtain⟨vs,h1,h2⟩:=pr hI hs _ _ h
 have h3:(fn.results.mapM (u5 a.tmps)).run C.P C.w= .ok vs.toArray C.w:=by
  rw[Array.mapM_eq_mapM_toList,Sem.run_map,h1];rfl
 have h4:results fn a.tmps=(do let vs←fn.results.mapM (u5 a.tmps);pure (if h:vs.size=1 then vs[0] else .tuple vs)):=by
  unfold results
  congr 1
 have hl:=oP _ _ h2
 rw[h4]
 simp only[Sem.run_bind,h3,Result.andThen_ok,Sem.run_pure]
 refine⟨_,rfl,?_⟩
 match l,vs,h2,hl with
 |[x],[v],h2,_=>
  simp only[MT] at h2
  rw[dif_pos (by simp)]
  exact(⟨h2.1,h2.2.1,h2.2.2.1⟩:Rel C x v)
 |[],[],h2,_=>grind [mr,cL,MT]
 |x::y::l,v::u::vs,h2,_=>
  have: ¬ ((v::u::vs).toArray.size=1):=by simp
  rw[dif_neg this]
  exact cL (by simpa using h2)
theorem qv{P:Pg}{fn:Func}{tmps:Array Value}{R:Ending->World->Prop}{F:Fence}{n:Nat}: ∀(ds:List Deferred) (lo:Nat) (C:Ctx),C.P=P->Inv C->gS lo C ds->
  (∀w',dN C.w w'->C.w.heap.size<=w'.heap.size->(∀b,(∀d,d∈ds->b≠ed d)->w'.heap[b]? =C.w.heap[b]?)->∃v,(results fn tmps).run P w'= .ok v w'/\R (.returned v) w')->LeavesInM F n P fn tmps R ds .returning C.w
 |[],_,C,_,_,_,h=>by
  obtain⟨v,h1,h2⟩:=h C.w ⟨rfl,rfl,rfl⟩ (Nat.le_refl _) (fun _ _=>rfl)
  exact⟨v,h1,h2⟩
 | d::ds,lo,C,hP,hI,hd,h=>by
  obtain⟨h1,h2,h3,h4,h5⟩:=hd.each d (by simp)
  have htake:=run_takeDeferred (P:=P) h5
  have hother: ∀b,b≠ed d->(C.w.putObj (ed d) (.deferred none)).heap[b]? =C.w.heap[b]? :=fun b hb=>World.putObj_heap_other hb
  obtain⟨g1,g2,g3⟩:=qc hI (w:=C.w.putObj (ed d) (.deferred none)) (by simp) (fun b hb=>hother b (fun e=>h4 (e▸hb))) (fun b hb=>hother b (fun e=>h3 (e▸hb))) ⟨rfl,rfl,rfl⟩
  have hnd:=hd.apart
  simp only[ac0,List.nodup_cons] at hnd
  refine⟨by simp, .inl ⟨ed d,_,h1,htake,?_⟩⟩
  refine qv ds lo {C with w:=C.w.putObj (ed d) (.deferred none)} hP g1 ⟨fun d' hd'=>?_,hnd.2⟩ (fun w' ho hsz hh=>?_)
  ·obtain⟨k1,k2,k3,k4,k5⟩:=hd.each d' (by simp[hd'])
   refine⟨k1,k2,k3,k4,?_⟩
   show(C.w.putObj (ed d) (.deferred none)).heap[ed d']? =_
   rw[hother _ (fun e=>hnd.1 (e▸List.mem_map_of_mem hd'))];exact k5
  ·refine h w' ⟨ho.os,ho.tape,ho.output⟩ (by simpa using hsz) (fun b hb=>?_)
   rw[hh b (fun d' hd'=>hb d' (by simp[hd']))]
   exact hother b (hb d (by simp))
theorem tV{P:Pg}{f:FuncId}{fn:Func}{c:Code}(hf:P.funcs[f]? =some fn)(hb:fn.body=some c){C:Ctx}(hP:C.P=P)(hI:Inv C){args:List AV}{vs:Array Value}(hm:MT C args vs.toList){K:AV->List Obj->Prop}
  (h:Sound P none C.st.length c {bg:=args++bM (fn.ntmps - args.length),st:=C.st} fun e s=>match e with
   | .normal| .ret=>(match vq P s fn.results.toList with|some l=>K (mr l) s.st|none=>False)
   |_=>False) (m:Nat):CallsIn Fence.wide m P f vs C.w (eF C C.st.length K):=by
 refine callsIn_of_wp_marks hf hb trivial ?_
 have hlen:=oP _ _ hm
 have hjl: ∀k,(bM k).length=k:=by intro k;induction k with|zero=>rfl|succ k ih=>simp[bM,ih]
 have hjn: ∀k i,nth (bM k) i= .cK:=by
  intro k;induction k with
  |zero=>intro i;rfl
  |succ k ih=>intro i;cases i with|zero=>rfl|succ i=>exact ih i
 have happ: ∀(l m:List AV) (i:Nat),nth (l++m) i=if i<l.length then nth l i else nth m (i - l.length):=by
  intro l;induction l with
  |nil=>intro m i;simp
  |cons a l ih=>
   intro m i
   cases i with
   |zero=>simp[nth]
   |succ i=>simp only[List.cons_append,nth,ih,List.length_cons,Nat.add_lt_add_iff_right,Nat.add_sub_add_right]
 have hsz:vs.size=args.length:=by rw[←Array.length_toList];exact hlen
 have hs:db C {bg:=args++bM (fn.ntmps - args.length),st:=C.st} {tmps:=vs++Array.replicate (fn.ntmps - vs.size) undef,defers:=[]}:=by
  refine⟨rfl,by simp[hjl,hsz],fun i hi=>?_⟩
  simp only[happ]
  split
  ·rename_i hlt
   obtain⟨v,h1,h2⟩:=CM args vs.toList i hm hlt
   have:(vs++Array.replicate (fn.ntmps - vs.size) undef).getD i undef=v:=by
    have h1':vs[i]? =some v:=by simpa using h1
    simp only[Array.getD_eq_getD_getElem?]
    rw[Array.getElem?_append_left (by omega),h1'];rfl
   show Rel C (nth args i) ((vs++Array.replicate (fn.ntmps - vs.size) undef).getD i undef)
   rw[this];exact h2
  ·rw[hjn];exact lv _
 refine wpIn_mono (h C _ Fence.wide m C.w.heap.size hP hI hs ⟨fun d hd=>by simp at hd,by simp⟩ (Nat.le_refl _) (Nat.le_refl _) rfl) ?_
 rintro e a' w' ⟨C',s',rfl,hP',hI',hs',hd',hbase,he,hK⟩
 have fin:(match vq P s' fn.results.toList with|some l=>K (mr l) s'.st|none=>False)->LeavesInM Fence.wide m P fn a'.tmps (eF C C.st.length K) a'.defers .returning C'.w:=fun hK=>by
  refine qv a'.defers C.w.heap.size C' (hP'.trans hP) hI' hd' (fun w2 ho hsz2 hh=>?_)
  obtain⟨g1,g2,g3⟩:=qc hI' hsz2 (fun b hb=>hh b (fun d hd e=>(hd'.each d hd).2.2.2.1 (e▸hb))) (fun b hb=>hh b (fun d hd e=>(hd'.each d hd).2.2.1 (e▸hb))) ho
  have hs2:db {C' with w:=w2} s' a':=⟨hs'.st,hs'.bg.eu g2 hI'.lay g3⟩
  split at hK
  ·rename_i l hl
   rw[←hP,←hP'] at hl
   obtain⟨v,h1,h2⟩:=wL g1 hs2 hl
   rw[show({C' with w:=w2}:Ctx).P=P from hP'.trans hP] at h1
   have hold: ∀b,b<C.w.heap.size->w2.heap[b]? =C'.w.heap[b]? :=fun b hb=>hh b (fun d hd e=>by have:=(hd'.each d hd).2.1;omega)
   have hlen':C.st.length<=C'.st.length:=by
    rcases Nat.eq_zero_or_pos C.st.length with h|h
    ·omega
    ·have:=(he.refs (C.st.length - 1) (by omega)).lt;omega
   refine⟨v,h1,v,mr l,{C' with w:=w2},rfl,rfl,hP',g1,h2,⟨he.keeps.trans g2,Nat.le_trans he.size hsz2,ho.os.trans he.os,ho.tape.trans he.tape,ho.output.trans he.output,fun b hb hn=>(hold b hb).trans (he.frame b hb hn),he.oQ,fun b hb=>he.fV b hb,fun i hi=>(he.refs i hi).trans (g3 i (by omega)),he.cls,he.lr⟩,?_⟩
   rw[show({C' with w:=w2}:Ctx).st=C'.st from rfl,hs'.st];exact hK
  ·exact hK.elim
 cases e with
 |normal=>exact fin hK
 |ret=>exact fin hK
 |exit id=>exact hK.elim
 |goto l=>exact hK.elim
 |panic ch=>exact hK.elim
 |outgrown=>exact hK.elim
end Go.Dn
