import Derived.Test.YtioeffnadipbaaaGreatDoorDnV
namespace Go.Dn
open Go
def pH(C:Ctx)(a:Option Nat)(base:Nat)(F:Fence):Prop:=
 match a with
 |none=>F=Fence.wide
 |some l=>l<base/\∃B,F=Fence.wide.inRound B/\∀r,au C.st l= .loop r->(C.ι l).block=B
theorem pH.LL{C a base F}(h:pH C a base F):F=Fence.wide\/ ∃B,F=Fence.wide.inRound B:=by
 cases a with
 |none=>exact .inl h
 |some l=>obtain⟨_,B,b,_⟩:=h;grind
theorem pH.ext{C C' rd base F}(h:pH C rd base F)(he:Ext base C C'):pH C' rd base F:=by
 cases rd with
 |none=>exact h
 |some l=>
  obtain⟨h0,B,h1,h2⟩:=h;refine⟨h0,B,h1,fun r hr=>?_⟩;obtain⟨r0,h3,h4⟩:=(he.refs l h0).loop r hr
  grind
theorem lK{F}(c:F=Fence.wide\/ ∃B,F=Fence.wide.inRound B){m n P f a w R}(h:CallsIn Fence.wide m P f a w R):CallsIn F n P f a w R:=by
 have b:CallsIn _ n P f _ w R:=callsIn_wide.2 (callsIn_wide.1 h);rcases c with rfl|⟨B,rfl⟩
 ·omega
 ·exact b
theorem mG{F}(a:F=Fence.wide\/ ∃B,F=Fence.wide.inRound B) f:F.fn f:=by
 rcases a with rfl|⟨B,rfl⟩<;>trivial
theorem oJ{F}(a:F=Fence.wide\/ ∃B,F=Fence.wide.inRound B){n}:F.depth.isSome=true->1<=n:=by
 grind [Fence.wide,Fence.inRound]
def eV lo base C(K:Exit->S->Prop):=fun e a' w'=>
 ∃C' s',C'.w=w'/\C'.P=C.P/\Inv C'/\dh C' s' a'/\ij lo C' a'.defers/\base<=s'.st.length/\Ext base C C'/\K e s'
def Sound(P:Pg) b base(c:Code) s K:=
 ∀C a F n lo,C.P=P->Inv C->dh C s a->ij lo C a.defers->lo<=C.w.heap.size->base<=s.st.length->pH C b base F->c.wpIn F n P (eV lo base C K) a C.w
def gn P(a:Rec):=∀f b base c s K,a f b base c s K->Sound P b base c s K
def eP(C:Ctx)(n:Nat)(K:AV->List Obj->Prop):Ending->World->Prop:=fun e w'=>
 ∃v r C',e= .returned v/\C'.w=w'/\C'.P=C.P/\Inv C'/\Rel C' r v/\Ext n C C'/\K r C'.st
def bt(P:Pg) f a st K:=
 (∃c,P.funcs[f]? =some c/\c.body.isSome=true)/\
 ∀C b,C.P=P->Inv C->C.st=st->MT C a b.toList->CallsIn Fence.wide 0 P f b C.w (eP C st.length K)
structure aF(E:Env):Prop where
 prog:qH E.P
 fN:Gw E
 call: ∀f args st K,E.call f args st K->bt E.P f args st K
 lB: ∀f k g args st K,E.lB f k g args st K->bt E.P g (.bJ (st.length - 1)::args) st fun _ st'=>K st'
 loop: ∀f k c rd base s K,E.loop f k c rd base s K->Sound E.P rd base (.loop c) s K
theorem sK{C}(a:Inv C){w}(g:C.w.heap.size<=w.heap.size)(n: ∀b,C.X b->w.heap[b]? =C.w.heap[b]?)(l: ∀b,Own C b->w.heap[b]? =C.w.heap[b]?)(k:dT C.w w):
  Inv {C with w:=w}/\bK C {C with w:=w}/\∀i,i<C.st.length->bW C {C with w:=w} i i:=by
 have f:bK C {C with w:=w}:=⟨rfl,fun _ h=>h,n⟩
 have c: ∀i,i<C.st.length->bW C {C with w:=w} i i:=fun i e=>dW a e e rfl rfl (fun h b d=>⟨rfl,rfl,l _ ⟨i,e,h,d.symm⟩⟩)
 exact⟨⟨a.lay,fun i e=>(a.obj i e).gr f a.lay (fun j m _=>c j m) (a.eZ i e) ⟨fun b h d=>⟨(a.dA ⟨i,e,h,d.symm⟩).2,l _ ⟨i,e,h,d.symm⟩⟩,by simp,k,g,fun _ _=>rfl⟩,a.u0,fun b d=>by have:=a.xs b d;grind,a.eZ,fun b d=>⟨by have:=(a.ot b d).1;grind,(a.ot b d).2.1,by have:=(a.ot b d).2.2;grind⟩,a.lR f⟩,f,c⟩
theorem oQ{C}(d:Inv C){w}(a:ik C.w w):Inv {C with w:=w}/\Ext C.st.length C {C with w:=w}:=by
 obtain⟨g,e,f⟩:=sK d a.size (fun b c=>a.heap b (d.xs b c)) (fun b c=>a.heap b (d.dA c).1) ⟨a.os,a.tape,a.output⟩;exact⟨g,⟨e,a.size,a.os,a.tape,a.output,fun b c _=>a.heap b c,by grind,fun b c=> .inl c,f,by simp,rfl⟩⟩
theorem sf{P w T b v}(h:(Instr.loadAt T b).run P w= .ok v w):(do loadVar T (←asAddr b)).run P w= .ok v w:=by
 cases b with
 |pointer a=>
  cases a<;>simp_all[Instr.loadAt,Instr.sureAddr,asAddr]
 |_=>simp_all[Instr.loadAt,Instr.sureAddr]
def xO(b:Array Value):ResultVar->Sem Value
 | .tmp t=>pure (b.getD t undef)
 | .cell a t=>do loadVar t (←asAddr (b.getD a undef))
theorem rj{C}(e:Inv C){s a}(d:dh C s a): ∀c l,xM C.P s c=some l->∃b,(c.mapM (xO a.tmps)).run C.P C.w= .ok b C.w/\MT C l b
 |[],l,h=>by
  simp_all[xM,an5,MT]
 | .tmp t::c,l,h=>by
  simp only[xM] at h;split at h
  ·rename_i m g
   simp only[an5] at h;subst h
   obtain⟨b,k,i⟩:=rj e d c m g;have f:=bo d (.tmp t);refine⟨a.tmps.getD t undef::b,by simp[xO,k],?_⟩;simp only[MT];exact⟨f.1,f.2.1,f.2.2,i⟩
  ·simp at h
 | .cell p T::c,l,h=>by
  simp only[xM] at h;split at h
  ·rename_i x m n g
   simp only[an5] at h;subst h
   obtain⟨b,k,i⟩:=rj e d c m g;rw[←d.st] at n;obtain⟨v,o,j⟩:=wZ e n (bo d (.tmp p));have r:=sf o;have q:(xO a.tmps (.cell p T)).run C.P C.w= .ok v C.w:=r;refine⟨v::b,?_,?_⟩
   ·simp_all
   ·simp only[MT];exact⟨j.1,j.2.1,j.2.2,i⟩
  ·simp at h
theorem yC{C}(e:Inv C){s a}(i:dh C s a){d l}(h:xM C.P s d.results.toList=some l): ∃v,(results d a.tmps).run C.P C.w= .ok v C.w/\Rel C (nN l) v:=by
 obtain⟨c,k,b⟩:=rj e i _ _ h;have f:(d.results.mapM (xO a.tmps)).run C.P C.w= .ok c.toArray C.w:=by
  rw[Array.mapM_eq_mapM_toList,Sem.run_map,k];rfl
 have g:results d a.tmps=(do let c←d.results.mapM (xO a.tmps);pure (if h:c.size=1 then c[0] else .tuple c)):=by
  unfold results;congr 1
 have j:=pI _ _ b;rw[g];simp only[Sem.run_bind,f,Result.andThen_ok,Sem.run_pure];refine⟨_,rfl,?_⟩;match l,c,b,j with
 |[x],[v],b,_=>
  exact(⟨b.1,b.2.1,b.2.2.1⟩:Rel C x v)
 |[],[],b,_=>grind [nN,cM,MT]
 |x::y::l,v::u::c,b,_=>
  have: ¬ ((v::u::c).toArray.size=1):=by simp
  rw[dif_neg this];exact cM (by simpa using b)
theorem sd{P:Pg}{q c R F n}: ∀ds lo C,C.P=P->Inv C->ij lo C ds->
  (∀f,dT C.w f->C.w.heap.size<=f.heap.size->(∀b,(∀d,d∈ds->b≠fh d)->f.heap[b]? =C.w.heap[b]?)->∃v,(results q c).run P f= .ok v f/\R (.returned v) f)->LeavesInM F n P q c R ds .returning C.w
 |[],_,C,_,_,_,h=>by
  obtain⟨v,l,r⟩:=h C.w ⟨rfl,rfl,rfl⟩ (Nat.le_refl _) (fun _ _=>rfl);exact⟨v,l,r⟩
 | d::ds,lo,C,z,s,hd,h=>by
  obtain⟨l,r,t,x,y⟩:=hd.each d (by simp);have j:=run_takeDeferred (P:=P) y;have a: ∀b,b≠fh d->(C.w.putObj (fh d) (.deferred none)).heap[b]? =C.w.heap[b]? :=fun b g=>World.putObj_heap_other g
  obtain⟨u,I,J⟩:=sK s (w:=C.w.putObj (fh d) (.deferred none)) (by simp) (fun b g=>a b (fun e=>x (e▸g))) (fun b g=>a b (fun e=>t (e▸g))) ⟨rfl,rfl,rfl⟩;have k:=hd.apart;simp only[ao9,List.nodup_cons] at k;refine⟨by simp, .inl ⟨fh d,_,l,j,?_⟩⟩;refine sd ds lo {C with w:=C.w.putObj (fh d) (.deferred none)} z u ⟨fun m i=>?_,k.2⟩ (fun f o p A=>?_)
  ·obtain⟨D,E,B,H,K⟩:=hd.each m (by simp[i])
   refine⟨D,E,B,H,?_⟩
   grind
  ·refine h f ⟨o.os,o.tape,o.output⟩ (by simpa using p) (fun b g=>?_)
   rw[A b (fun m i=>g m (by simp[i]))];exact a b (g d (by simp))
theorem vZ{P f fn c}(hf:P.funcs[f]? =some fn)(hb:fn.body=some c){C}(hP:C.P=P)(hI:Inv C){args vs}(hm:MT C args vs.toList){K}
  (h:Sound P none C.st.length c {bz:=args++bL (fn.ntmps - args.length),st:=C.st} fun e s=>match e with
   | .normal| .ret=>match xM P s fn.results.toList with|some l=>K (nN l) s.st|none=>False
   |_=>False) m:CallsIn Fence.wide m P f vs C.w (eP C C.st.length K):=by
 refine callsIn_of_wp_marks hf hb trivial ?_;have hlen:=pI _ _ hm;have hjl: ∀k,(bL k).length=k:=by intro k;induction k with|zero=>rfl|succ k ih=>simp[bL,ih]
 have hjn: ∀k i,nth (bL k) i= .cK:=by
  intro k;induction k with
  |zero=>intro i;rfl
  |succ k ih=>intro i;cases i with|zero=>rfl|succ i=>exact ih i
 have happ: ∀(l m:List AV) (i:Nat),nth (l++m) i=if i<l.length then nth l i else nth m (i - l.length):=by
  intro l;induction l with
  |nil=>intro m i;simp
  |cons a l ih=>
   intro m i;cases i with
   |zero=>simp[nth]
   |succ i=>simp only[List.cons_append,nth,ih,List.length_cons,Nat.add_lt_add_iff_right,Nat.add_sub_add_right]
 have hsz:vs.size=args.length:=by rw[←Array.length_toList];exact hlen
 have hs:dh C {bz:=args++bL (fn.ntmps - args.length),st:=C.st} {tmps:=vs++Array.replicate (fn.ntmps - vs.size) undef,defers:=[]}:=by
  refine⟨rfl,by simp[hjl,hsz],fun i hi=>?_⟩;simp only[happ];split
  ·rename_i hlt
   obtain⟨v,h1,h2⟩:=Ex args vs.toList i hm hlt;have:(vs++Array.replicate (fn.ntmps - vs.size) undef).getD i undef=v:=by
    have h1':vs[i]? =some v:=by simpa using h1
    simp only[Array.getD_eq_getD_getElem?];rw[Array.getElem?_append_left (by omega),h1'];rfl
   show Rel C (nth args i) ((vs++Array.replicate (fn.ntmps - vs.size) undef).getD i undef)
   rw[this];exact h2
  ·rw[hjn];exact mQ _
 refine wpIn_mono (h C _ Fence.wide m C.w.heap.size hP hI hs ⟨fun d hd=>by simp at hd,by simp⟩ (Nat.le_refl _) (Nat.le_refl _) rfl) ?_;rintro e a' w' ⟨C',s',rfl,hP',hI',hs',hd',hbase,he,hK⟩;have fin:(match xM P s' fn.results.toList with|some l=>K (nN l) s'.st|none=>False)->LeavesInM Fence.wide m P fn a'.tmps (eP C C.st.length K) a'.defers .returning C'.w:=fun hK=>by
  refine sd a'.defers C.w.heap.size C' (hP'.trans hP) hI' hd' (fun w2 ho hsz2 hh=>?_);obtain⟨g1,g2,g3⟩:=sK hI' hsz2 (fun b hb=>hh b (fun d hd e=>(hd'.each d hd).2.2.2.1 (e▸hb))) (fun b hb=>hh b (fun d hd e=>(hd'.each d hd).2.2.1 (e▸hb))) ho;have hs2:dh {C' with w:=w2} s' a':=⟨hs'.st,hs'.bz.gr g2 hI'.lay g3⟩
  split at hK
  ·rename_i l hl
   rw[←hP,←hP'] at hl;obtain⟨v,h1,h2⟩:=yC g1 hs2 hl;rw[show({C' with w:=w2}:Ctx).P=P from hP'.trans hP] at h1;have hold: ∀b,b<C.w.heap.size->w2.heap[b]? =C'.w.heap[b]? :=fun b hb=>hh b (fun d hd e=>by have:=(hd'.each d hd).2.1;omega)
   have hlen':C.st.length<=C'.st.length:=by
    rcases Nat.eq_zero_or_pos C.st.length with h|h
    ·omega
    ·have:=(he.refs (C.st.length - 1) (by omega)).lt;omega
   refine⟨v,h1,v,nN l,{C' with w:=w2},rfl,rfl,hP',g1,h2,⟨he.keeps.trans g2,Nat.le_trans he.size hsz2,ho.os.trans he.os,ho.tape.trans he.tape,ho.output.trans he.output,fun b hb hn=>(hold b hb).trans (he.frame b hb hn),he.qW,fun b hb=>he.gC b hb,fun i hi=>(he.refs i hi).trans (g3 i (by omega)),he.cls,he.mv⟩,?_⟩;rw[show({C' with w:=w2}:Ctx).st=C'.st from rfl,hs'.st];exact hK
  ·exact hK.elim
 cases e with
 |normal=>exact fin hK
 |ret=>exact fin hK
 |exit id=>exact hK.elim
 |goto l=>exact hK.elim
 |panic ch=>exact hK.elim
 |outgrown=>exact hK.elim
end Go.Dn
