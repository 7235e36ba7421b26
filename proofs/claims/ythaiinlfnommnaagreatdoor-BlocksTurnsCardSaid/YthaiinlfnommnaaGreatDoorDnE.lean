import Derived.Test.YthaiinlfnommnaaGreatDoorDnD
namespace Go.Dn
open Go
def cv(g:G):Obj->Bool
 | .box _ _| .map _ _ _| .loop _| .iter _ _ _| .ext _| .dC _ _| .rows _ _ _ _| .fit _ _ _ _ _=>true
 | .row _ _=>!g.isNil
 |_=>false
def cn(C:Ctx)(V:TypeId):List (Value×AV)->List MapEntry->Prop
 |[],[]=>True
 |(k,a)::es,e::ents=>e.key=k/\bC C.P a V/\Rel C a e.val/\cn C V es ents
 |_,_=>False
def gu(C:Ctx)(bp:List AV)(tmps:Array Value):Prop:=
 bp.length=tmps.size/\∀i,i<bp.length->Rel C (nth bp i) (tmps.getD i undef)
structure DU(C:Ctx)(r:xP)(rec:Loop):Prop where
 state:rec.state=r.state
 pending:rec.pending=r.pending
 params:rec.params=r.params
 assign:rec.assign=r.assign
 body:rec.body=r.body
 bp:gu C r.bp rec.tmps
structure P3(en:Array MapEntry)(cl since:Nat)(seen:Array Nat)(stepped n:Nat)(ks:List Value):Prop where
 size:en.size+since=n+cl
 Sc:since<=stepped
 RZ:stepped<=cl
 met: ∀e,e∈en->e.born<since->seen.contains e.born=jU ks e.key
 last: ∀k r,ks=k::r->∃e,∃s':Array Nat,e∈en/\e.key=k/\seen=s'.push e.born
theorem P3.later{en en':Array MapEntry}{cl cl' since stepped n:Nat}{seen:Array Nat}{ks:List Value}(h:P3 en cl since seen stepped n ks)(k:dV en cl en' cl'):P3 en' cl' since seen stepped n ks:=by
 refine⟨by have:=h.size;have:=k.size;omega,h.Sc,Nat.le_trans h.RZ k.le,fun e' he' hb=>?_,fun x r hx=>?_⟩
 ·obtain⟨e,h1,h2,h3⟩:=k.bwd e' he' (by have:=h.Sc;have:=h.RZ;omega)
  rw[←h2,←h3]
  exact h.met e h1 (by omega)
 ·obtain⟨e,s',h1,h2,h3⟩:=h.last x r hx
  obtain⟨e',k1,k2,k3⟩:=k.fwd e h1
  exact⟨e',s',k1,k2.trans h2,by rw[k3];exact h3⟩
def yA(C:Ctx)(i n:Nat)(ks:List Value)(m:Option Nat)(since:Nat)(seen:Array Nat)(stepped:Nat):Prop:=
 (ks=[.map none]->m=none)/\∀K V es,ax C.st i= .map K V es->m=some (C.ι i).block/\∃entries clock,C.w.heap[(C.ι i).block]? =some (.map entries clock)/\P3 entries clock since seen stepped n ks
theorem yA.move{C C':Ctx}{i j n:Nat}{ks:List Value}{m:Option Nat}{since stepped:Nat}{seen:Array Nat}(h:b9 C C' i j)(hv:yA C i n ks m since seen stepped):yA C' j n ks m since seen stepped:=by
 refine⟨hv.1,fun K V es' hx=>?_⟩
 obtain⟨es,h1,h2,h3⟩:=h.map K V es' hx
 obtain⟨hm,entries,clock,hh,hp⟩:=hv.2 K V es h1
 obtain⟨entries',clock',hh',hl⟩:=h3 entries clock hh
 rw[h2]
 exact⟨hm,entries',clock',hh',hp.later hl⟩
structure dW(w w':World):Prop where
 os:w'.os=w.os
 tape:w'.tape=w.tape
 output:w'.output=w.output
theorem dW.refl(w:World):dW w w:=⟨rfl,rfl,rfl⟩
def iq(F:Fence)(n:Nat)(P:Program)(w:World)(R:Ending->World->Prop):Result Next->Prop
 | .ok (.enter f args) w'=>w'=w/\CallsIn F (n - 1) P f args w R
 | .ok (.round l f tmps asg body) w'=>w'=w/\RoundIn F (n - 1) P l f tmps asg body w R
 |_=>False
structure D8(P:Pg)(B:Nat)(lR:Option (List AV)->(Nat->Prop)->(Nat->Prop)->World->Prop):Prop where
 still: ∀t O X X' w w',lR t O X w->(∀b,X b->X' b)->(∀b,O b-> ¬ X' b)->(∀b,O b\/X b->w'.heap[b]? =w.heap[b]?)->dW w w'->w.heap.size<=w'.heap.size->lR t O X' w'
 call: ∀as rest O X w (vs:Array Value) F n,lR (some (.bh as::rest)) O X w->(F=Fence.wide\/ ∃B,F=Fence.wide.inRound B)->(∀b,X b->b<w.heap.size)->(∀b,O b->b<w.heap.size/\ ¬ X b)->cZ as=[]->(∃D:Ctx,D.P=P/\D.X=X/\D.w=w/\MT D as vs.toList)->
  iq F n P w (fun e w'=>∃(r:Bool) (O':Nat->Prop),e= .returned (.bool r)/\lR (if r then some rest else none) O' X w'/\dW w w'/\w.heap.size<=w'.heap.size/\(∀b,b<w.heap.size-> ¬ O b->w'.heap[b]? =w.heap[b]?)/\
   (∀b,O b->O' b)/\(∀b,O' b->O b\/w.heap.size<=b)/\(∀b,O' b->b<w'.heap.size)) ((Instr.yield B vs).run P w)
def cellAt(w:World)(b:Nat):Src:=fun j=>w.cell? ⟨b,j,none⟩
def j3(C:Ctx)(g:G):Obj->Prop
 | .dead=>True
 | .box _ a=>¬ C.X g.block/\cL a=true/\∃c e,C.w.heap[g.block]? =some (.cells c e (0,0))/\wid a<=c.size/\M C a (cellAt C.w g.block) 0
 | .row T xs=>bI C.P xs T/\((g.isNil=true/\xs=[])\/(g.isNil=false/\ ¬ C.X g.block/\∃c,C.w.heap[g.block]? =some (.cells c T (0,0))/\
   xs.length<=g.cap/\g.cap<=maxLen/\g.cap*C.P.cellsOf T=c.size/\MR C xs (C.P.cellsOf T) (cellAt C.w g.block) 0))
 | .me T xs=>bI C.P xs T/\((g.isNil=true/\xs=[])\/(g.isNil=false/\C.X g.block/\MR C xs (C.P.cellsOf T) (cellAt C.w g.block) 0))
 | .map K V es=>¬ C.X g.block/\∃entries clock,C.w.heap[g.block]? =some (.map entries clock)/\cn C V es entries.toList/\lk C.P K entries.toList clock
 | .loop r=>¬ C.X g.block/\∃rec,C.w.heap[g.block]? =some (.loop rec)/\DU C r rec
 | .iter i n ks=>¬ C.X g.block/\i<C.st.length/\∃m since seen stepped,C.w.heap[g.block]? =some (.mapIter m since seen stepped)/\yA C i n ks m since seen stepped
 | .dC s p=>¬ C.X g.block/\C.w.heap[g.block]? =some (.stringIter s p)
 | .ext t=>¬ C.X g.block/\g.block<C.w.heap.size/\C.lR g.block t (fun b=>C.cls b=g.block) C.X C.w/\D8 C.P g.block (C.lR g.block)
 | .rows T E ls pd=>¬ C.X g.block/\C.P.underlying T=some (.slice E)/\qT C.P E=true/\(∀k,∀v,v∈bW ls k->bC C.P (.lit v) E)/\∃c,C.w.heap[g.block]? =some (.cells c T (0,0))/\ls.length<=c.size/\
   ∀k,k<ls.length->pd≠some k->∃v,c[k]? =some v/\lZ C g.block E k (bW ls k) (bW ls k).length v
 | .fit K V ks vs met=>¬ C.X g.block/\∃m since seen stepped,C.w.heap[g.block]? =some (.mapIter m since seen stepped)/\((m=none/\ks=[]/\vs=[]/\met=[])\/
   ∃b ents clock,m=some b/\C.X b/\C.w.heap[b]? =some (.map ents clock)/\lk C.P K ents.toList clock/\ents.toList.map (·.key)=ks/\bI C.P vs V/\MT C vs (ents.toList.map (·.val))/\P3 ents clock since seen stepped ks.length met)
structure Inv(C:Ctx):Prop where
 lay:eP C.P
 obj: ∀i,i<C.st.length->j3 C (C.ι i) (ax C.st i)
 tf: ∀i j,i<C.st.length->j<C.st.length->i≠j->cv (C.ι i) (ax C.st i)=true->cv (C.ι j) (ax C.st j)=true->(C.ι i).block≠(C.ι j).block
 xs: ∀b,C.X b->b<C.w.heap.size
 fk: ∀i,i<C.st.length->cv (C.ι i) (ax C.st i)=true->C.cls (C.ι i).block=(C.ι i).block
 oX: ∀b,C.cls b≠b->b<C.w.heap.size/\ ¬ C.X b/\C.cls b<C.w.heap.size
 kept: ∀b o,C.P.kept b=some o->C.X b/\C.w.heap[b]? =some o
theorem Inv.lO{C C':Ctx}(hI:Inv C)(hk:bR C C'): ∀b o,C'.P.kept b=some o->C'.X b/\C'.w.heap[b]? =some o:=fun b o h=>by
 rw[hk.P] at h
 have:=hI.kept b o h
 exact⟨hk.X b this.1,(hk.heap b this.1).trans this.2⟩
def Own(C:Ctx)(b:Nat):Prop:=∃i,i<C.st.length/\cv (C.ι i) (ax C.st i)=true/\(C.ι i).block=C.cls b
theorem Inv.fresh{C:Ctx}(h:Inv C){b:Nat}(hb:C.w.heap.size<=b):C.cls b=b:=by
 by_cases e:C.cls b=b
 ·exact e
 ·have:=(h.oX b e).1;omega
theorem Inv.rM{C:Ctx}(h:Inv C){i:Nat}(hi:i<C.st.length)(ho:cv (C.ι i) (ax C.st i)=true):Own C (C.ι i).block:=⟨i,hi,ho,(h.fk i hi ho).symm⟩
theorem j3.lt{C:Ctx}{g:G}{o:Obj}(h:j3 C g o)(ho:cv g o=true):g.block<C.w.heap.size/\ ¬ C.X g.block:=by
 cases o<;>simp[cv] at ho
 ·obtain⟨h1,_,c,e,h2,_⟩:=h
  exact⟨(Array.getElem?_eq_some_iff.1 h2).1,h1⟩
 ·obtain⟨_,⟨h0,_⟩|⟨_,h1,c,h2,_⟩⟩:=h
  ·simp[ho] at h0
  ·exact⟨(Array.getElem?_eq_some_iff.1 h2).1,h1⟩
 ·obtain⟨h1,c,e,h2,_⟩:=h
  exact⟨(Array.getElem?_eq_some_iff.1 h2).1,h1⟩
 ·obtain⟨h1,c,h2,_⟩:=h
  exact⟨(Array.getElem?_eq_some_iff.1 h2).1,h1⟩
 ·obtain⟨h1,_,_,_,_,_,h2,_⟩:=h
  exact⟨(Array.getElem?_eq_some_iff.1 h2).1,h1⟩
 ·exact⟨h.2.1,h.1⟩
 ·exact⟨(Array.getElem?_eq_some_iff.1 h.2).1,h.1⟩
 ·obtain⟨h1,_,_,_,c,h2,_⟩:=h
  exact⟨(Array.getElem?_eq_some_iff.1 h2).1,h1⟩
 ·obtain⟨h1,_,_,_,_,h2,_⟩:=h
  exact⟨(Array.getElem?_eq_some_iff.1 h2).1,h1⟩
theorem Inv.dI{C:Ctx}(h:Inv C){b:Nat}(hb:Own C b):b<C.w.heap.size/\ ¬ C.X b:=by
 obtain⟨i,hi,ho,hb⟩:=hb
 by_cases e:C.cls b=b
 ·rw[e] at hb;subst hb
  exact(h.obj i hi).lt ho
 ·exact⟨(h.oX b e).1,(h.oX b e).2.1⟩
structure Ext(n:Nat)(C C':Ctx):Prop where
 keeps:bR C C'
 size:C.w.heap.size<=C'.w.heap.size
 os:C'.w.os=C.w.os
 tape:C'.w.tape=C.w.tape
 output:C'.w.output=C.w.output
 frame: ∀b,b<C.w.heap.size-> ¬ Own C b->C'.w.heap[b]? =C.w.heap[b]?
 pR: ∀b,C'.X b->C.X b\/Own C b\/C.w.heap.size<=b
 gx: ∀b,Own C' b->Own C b\/C.w.heap.size<=b
 refs: ∀i,i<n->b9 C C' i i
 cls: ∀b,(C'.cls b=C.cls b/\C'.rj b=C.rj b)\/(C.w.heap.size<=b/\(Own C (C'.cls b)\/C.w.heap.size<=C'.cls b))
 lR:C'.lR=C.lR
theorem b9.refl(C:Ctx){i:Nat}(h:i<C.st.length):b9 C C i i:=
 ⟨h,fun _ xs hx=>⟨xs,hx,rfl,Nat.le_refl _⟩,fun _ a hx=>⟨a,hx,rfl⟩,fun _ _ es hx=>⟨es,hx,rfl,fun ents clock hh=>⟨ents,clock,hh,dV.refl _ _⟩⟩,fun r hx=>⟨r,hx,rfl⟩,fun m n ks hx=>⟨m,ks,hx,rfl⟩,fun t hx=>⟨t,hx,rfl⟩,fun s p hx=>⟨p,hx,rfl⟩,fun _ _ _ _ m hx=>⟨m,hx,rfl⟩,fun _ _ ls pd hx=>⟨ls,pd,hx,rfl,rfl,fun _ _ _ h=>h⟩⟩
theorem b9.trans{A B C:Ctx}{i j k:Nat}(h:b9 A B i j)(h':b9 B C j k):b9 A C i k:=by
 refine⟨h'.lt,fun T xs hx=>?_,fun T a hx=>?_,fun K V es hx=>?_,fun r hx=>?_,fun m n ks hx=>?_,fun t hx=>?_,fun s p hx=>?_,fun K V ks vs met hx=>?_,fun T E ls pd hx=>?_⟩
 ·obtain⟨ys,h1,h2,h3⟩:=h'.row T xs hx
  obtain⟨zs,h4,h5,h6⟩:=h.row T ys h1
  exact⟨zs,h4,h2.trans h5,Nat.le_trans h6 h3⟩
 ·obtain⟨y,h1,h2⟩:=h'.box T a hx
  obtain⟨z,h4,h5⟩:=h.box T y h1
  exact⟨z,h4,h2.trans h5⟩
 ·obtain⟨y,h1,h2,h3⟩:=h'.map K V es hx
  obtain⟨z,h4,h5,h6⟩:=h.map K V y h1
  refine⟨z,h4,h2.trans h5,fun ents clock hh=>?_⟩
  obtain⟨e1,c1,hh1,hall1⟩:=h6 ents clock hh
  rw[←h5] at hh1
  obtain⟨e2,c2,hh2,hall2⟩:=h3 e1 c1 hh1
  rw[h5] at hh2
  exact⟨e2,c2,hh2,hall1.trans hall2⟩
 ·obtain⟨y,h1,h2⟩:=h'.loop r hx
  obtain⟨z,h4,h5⟩:=h.loop y h1
  exact⟨z,h4,h2.trans h5⟩
 ·obtain⟨y,ys,h1,h2⟩:=h'.iter m n ks hx
  obtain⟨z,zs,h4,h5⟩:=h.iter _ _ _ h1
  exact⟨z,zs,h4,h2.trans h5⟩
 ·obtain⟨y,h1,h2⟩:=h'.ext t hx
  obtain⟨z,h4,h5⟩:=h.ext y h1
  exact⟨z,h4,h2.trans h5⟩
 ·obtain⟨y,h1,h2⟩:=h'.dC s p hx
  obtain⟨z,h4,h5⟩:=h.dC s y h1
  exact⟨z,h4,h2.trans h5⟩
 ·obtain⟨y,h1,h2⟩:=h'.fit K V ks vs met hx
  obtain⟨z,h4,h5⟩:=h.fit K V ks vs y h1
  exact⟨z,h4,h2.trans h5⟩
 ·obtain⟨y,py,h1,h2,h3,h3'⟩:=h'.rows T E ls pd hx
  obtain⟨z,pz,h4,h5,h6,h7⟩:=h.rows T E y py h1
  exact⟨z,pz,h4,h2.trans h5,h3.trans h6,fun k m v hs=>by have:=h7 k m v hs;rw[←h5] at this⊢;exact h3' k m v this⟩
theorem Ext.refl{n:Nat}(C:Ctx)(h:n<=C.st.length):Ext n C C:=
 ⟨bR.refl C,Nat.le_refl _,rfl,rfl,rfl,fun _ _ _=>rfl,fun _ h=> .inl h,fun _ h=> .inl h,fun i hi=>b9.refl C (by omega),fun _=> .inl ⟨rfl,rfl⟩,rfl⟩
theorem Ext.trans{n m:Nat}{A B C:Ctx}(h:Ext n A B)(k:Ext m B C)(hnm:n<=m):Ext n A C:=by
 refine⟨h.keeps.trans k.keeps,Nat.le_trans h.size k.size,k.os.trans h.os,k.tape.trans h.tape,k.output.trans h.output,fun b hb hn=>?_,fun b hb=>?_,fun b hb=>?_,fun i hi=>(h.refs i hi).trans (k.refs i (by omega)),fun b=>?_,k.lR.trans h.lR⟩
 ·have h1:=h.frame b hb hn
  refine(k.frame b (by have:=h.size;omega) (fun ho=>?_)).trans h1
  rcases h.gx b ho with h2|h2
  ·exact hn h2
  ·omega
 ·rcases k.pR b hb with h1|h1|h1
  ·exact h.pR b h1
  ·exact .inr (h.gx b h1)
  ·have:=h.size;exact .inr (.inr (by omega))
 ·rcases k.gx b hb with h1|h1
  ·exact h.gx b h1
  ·have:=h.size;exact .inr (by omega)
 ·rcases k.cls b with⟨h1,h1'⟩|⟨h1,h2⟩
  ·rw[h1,h1'];exact h.cls b
  ·have hs:=h.size
   refine .inr ⟨by omega,?_⟩
   rcases h2 with h2|h2
   ·exact h.gx _ h2
   ·exact .inr (by omega)
theorem Ext.mono{n m:Nat}{A B:Ctx}(h:Ext n A B)(hm:m<=n):Ext m A B:=
 {h with refs:=fun i hi=>h.refs i (by omega)}
def ej:Deferred->Nat
 |{target:= .collected D, .. }=>D
 |_=>0
structure hJ(lo:Nat)(C:Ctx)(ds:List Deferred):Prop where
 each: ∀d,d∈ds->d.target= .collected (ej d)/\lo<=ej d/\ ¬ Own C (ej d)/\ ¬ C.X (ej d)/\C.w.heap[ej d]? =some (.deferred (some []))
 apart:(ds.map ej).Nodup
structure dt(C:Ctx)(s:S)(a:Act):Prop where
 st:C.st=s.st
 bp:gu C s.bp a.tmps
theorem hJ.ext{lo n:Nat}{C C':Ctx}(he:Ext n C C'){ds:List Deferred}(h:hJ lo C ds):hJ lo C' ds:=⟨fun d hd=>by
 obtain⟨h1,h2,h3,h4,h5⟩:=h.each d hd
 have hlt:=(Array.getElem?_eq_some_iff.1 h5).1
 refine⟨h1,h2,fun ho=>?_,fun hX=>?_,(he.frame _ hlt h3).trans h5⟩
 ·rcases he.gx _ ho with h|h
  ·exact h3 h
  ·omega
 ·rcases he.pR _ hX with h|h|h
  ·exact h4 h
  ·exact h3 h
  ·omega,h.apart⟩
theorem gu.move{C C':Ctx}(hk:bR C C')(hl:eP C.P)(ρ:Nat->Option Nat){bp:List AV}{tmps:Array Value}
  (hr: ∀i,i∈cZ bp->i<C.st.length->∃j,ρ i=some j/\b9 C C' i j) (h:gu C bp tmps):gu C' (fS ρ bp) tmps:=by
 have len: ∀l:List AV,(fS ρ l).length=l.length:=by
  intro l;induction l with
  |nil=>rfl
  |cons a l ih=>simp[fS,ih]
 have at_: ∀(l:List AV) (i:Nat),i<l.length->nth (fS ρ l) i=lB ρ (nth l i):=by
  intro l;induction l with
  |nil=>intro i hi;simp at hi
  |cons a l ih=>
   intro i hi
   cases i with
   |zero=>simp[fS,nth]
   |succ i=>simp only[fS,nth];exact ih i (by simpa using hi)
 have rin: ∀(l:List AV) (i k:Nat),i<l.length->k∈refs (nth l i)->k∈cZ l:=by
  intro l;induction l with
  |nil=>intro i k hi;simp at hi
  |cons a l ih=>
   intro i k hi hk
   cases i with
   |zero=>simp only[nth] at hk;simp[cZ,hk]
   |succ i=>simp only[nth] at hk;simp[cZ,ih i k (by simpa using hi) hk]
 refine⟨by rw[len];exact h.1,fun i hi=>?_⟩
 rw[len] at hi
 rw[at_ bp i hi]
 exact(h.2 i hi).move hk hl ρ (fun k hk' hlt=>hr k (rin bp i k hi hk') hlt)
theorem OP{C:Ctx}{a:AV}{s:Src}{o:Nat}(h:M C a s o): ∀i,i∈refs a->i<C.st.length:=go C a s o h
where
 go (C:Ctx): ∀(a:AV) (s:Src) (o:Nat),M C a s o->∀i,i∈refs a->i<C.st.length
  | .aq i _ _,_,_,h,j,hj=>by simp only[refs,List.mem_singleton] at hj;subst hj;simp only[M] at h;exact h.1
  | .ptr i _ _ _,_,_,h,j,hj=>by simp only[refs,List.mem_singleton] at hj;subst hj;simp only[M] at h;exact h.1
  | .mp i,_,_,h,j,hj=>by simp only[refs,List.mem_singleton] at hj;subst hj;simp only[M] at h;exact h.1
  | .cD i,_,_,h,j,hj=>by simp only[refs,List.mem_singleton] at hj;subst hj;simp only[M] at h;exact h.1
  | .kq i _,_,_,h,j,hj=>by simp only[refs,List.mem_singleton] at hj;subst hj;simp only[M] at h;exact h.1
  | .agg l,s,o,h,j,hj=>by simp only[refs] at hj;simp only[M] at h;exact goL C l s o h j hj
  | .bh l,_,_,h,j,hj=>by simp only[refs] at hj;simp only[M] at h;obtain⟨vs,_,h2⟩:=h;exact goT C l _ h2 j hj
  | .bL _ l,_,_,h,j,hj=>by simp only[refs] at hj;simp only[M] at h;obtain⟨vs,_,h2⟩:=h;exact goT C l _ h2 j hj
  | .jj _ a,_,_,h,j,hj=>by simp only[refs] at hj;simp only[M] at h;obtain⟨u,_,_,_,h2⟩:=h;exact go C a _ _ h2 j hj
  | .cH,_,_,_,_,hj=>by simp[refs] at hj
  | .lit _,_,_,_,_,hj=>by simp[refs] at hj
  | .ad _ _,_,_,_,_,hj=>by simp[refs] at hj
  | .jO _ _,_,_,_,_,hj=>by simp[refs] at hj
  | .jG _ _ _ _,_,_,_,_,hj=>by simp[refs] at hj
 goL (C:Ctx): ∀(l:List AV) (s:Src) (o:Nat),ML C l s o->∀i,i∈cZ l->i<C.st.length
  |[],_,_,_,_,hj=>by simp[cZ] at hj
  |a::l,s,o,h,j,hj=>by
   simp only[ML] at h
   simp only[cZ,List.mem_append] at hj
   rcases hj with hj|hj
   ·exact go C a _ _ h.1 j hj
   ·exact goL C l _ _ h.2 j hj
 goT (C:Ctx): ∀(l:List AV) (vs:List Value),MT C l vs->∀i,i∈cZ l->i<C.st.length
  |[],_,_,_,hj=>by simp[cZ] at hj
  |_::_,[],h,_,_=>by simp[MT] at h
  |a::l,v::vs,h,j,hj=>by
   simp only[MT] at h
   simp only[cZ,List.mem_append] at hj
   rcases hj with hj|hj
   ·exact go C a _ _ h.2.2.1 j hj
   ·exact goT C l _ h.2.2.2 j hj
theorem gu.keep{C C':Ctx}(hk:bR C C')(hl:eP C.P){bp:List AV}{tmps:Array Value}(hr: ∀i,i<C.st.length->b9 C C' i i)(h:gu C bp tmps):gu C' bp tmps:=by
 have:=h.move hk hl some (fun i _ hlt=>⟨i,rfl,hr i hlt⟩)
 rwa [fq] at this
theorem a6{C:Ctx}{v:Value}(h:bg v=true):Rel C (.lit v) v:=by
 have:v.cells= #[v]:=by cases v<;>simp_all[Value.cells,bg]
 refine⟨.inl (by simpa[bV] using wM h), .inl (by rw[this];simp[wid]),?_⟩
 simp[M,this,h]
theorem lM{C:Ctx}(v:Value):Rel C .cH v:=⟨.inr rfl, .inr rfl,by simp[M]⟩
theorem ml: ∀(l:List AV) (i:Nat),l.length<=i->nth l i= .cH
 |[],_,_=>rfl
 |_::l,0,h=>by simp at h
 |_::l,i+1,h=>by simp only[nth];exact ml l i (by simpa using h)
theorem bt{C:Ctx}{s:S}{a:Act}(h:dt C s a)(x:Operand):Rel C (ev s x) (a.eval x):=by
 cases x with
 |tmp t=>
  simp only[ev,Act.eval]
  rcases Nat.lt_or_ge t s.bp.length with hl|hl
  ·exact h.bp.2 t hl
  ·rw[ml _ _ hl];exact lM _
 |const v=>
  simp only[ev,Act.eval]
  split
  ·rename_i hv;exact a6 hv
  ·exact lM _
 |global g=>simp only[ev,Act.eval];exact a6 rfl
 |func f=>
  simp only[ev,Act.eval]
  exact⟨.inl rfl, .inl (by simp[Value.cells,wid]),by simp[M,MT,Value.cells]⟩
theorem fF: ∀(l:List AV) (i:Nat) (x:AV),(cg l i x).length=l.length
 |[],_,_=>rfl
 |_::_,0,_=>rfl
 |_::l,i+1,x=>by simp[cg,fF l i x]
theorem lG: ∀(l:List AV) (i:Nat) (x:AV),i<l.length->nth (cg l i x) i=x
 |[],_,_,h=>by simp at h
 |_::_,0,_,_=>rfl
 |_::l,i+1,x,h=>by simp only[cg,nth];exact lG l i x (by simpa using h)
theorem iS: ∀(l:List AV) (i j:Nat) (x:AV),i≠j->nth (cg l i x) j=nth l j
 |[],_,_,_,_=>rfl
 |_::_,0,j,_,h=>by cases j with|zero=>exact absurd rfl h|succ j=>rfl
 |_::l,i+1,j,x,h=>by
  cases j with
  |zero=>rfl
  |succ j=>simp only[cg,nth];exact iS l i j x (by omega)
theorem gu.put{C:Ctx}{bp:List AV}{tmps:Array Value}(h:gu C bp tmps){d:Nat}{x:AV}{v:Value}(hx:Rel C x v):
  gu C (cg bp d x) (tmps.setIfInBounds d v):=by
 refine⟨by rw[fF];simpa using h.1,fun i hi=>?_⟩
 rw[fF] at hi
 have hsz:=h.1
 by_cases e:d=i
 ·subst e
  rw[lG _ _ _ hi]
  have:(tmps.setIfInBounds d v).getD d undef=v:=by
   simp[Array.getD,hsz▸hi]
  rw[this];exact hx
 ·rw[iS _ _ _ _ e]
  have:(tmps.setIfInBounds d v).getD i undef=tmps.getD i undef:=by
   simp only[Array.getD_eq_getD_getElem?,Array.getElem?_setIfInBounds_ne e]
  rw[this];exact h.2 i hi
theorem dt.put{C:Ctx}{s:S}{a:Act}(h:dt C s a){dst:Option Tmp}{x:AV}{v:Value}(hx:Rel C x v):dt C (put s dst x) (a.put dst v):=by
 cases dst with
 |none=>exact h
 |some d=>exact⟨h.st,h.bp.put hx⟩
end Go.Dn
