import Derived.Test.YtioeffnadipbaaaGreatDoorDnD
namespace Go.Dn
open Go
def cr(g:G):Obj->Bool
 | .box _ _| .map _ _ _| .loop _| .iter _ _ _| .ext _| .dq _ _| .rows _ _ _ _| .fit _ _ _ _ _=>true
 | .row _ _=>!g.isNil
 |_=>false
def bZ(C:Ctx)(V:TypeId):List (Value×AV)->List MapEntry->Prop
 |[],[]=>True
 |(k,a)::es,e::ents=>e.key=k/\br C.P a V/\Rel C a e.val/\bZ C V es ents
 |_,_=>False
def gm(C:Ctx)(bg:List AV)(tmps:Array Value):Prop:=
 bg.length=tmps.size/\∀i,i<bg.length->Rel C (nth bg i) (tmps.getD i undef)
structure CZ(C:Ctx)(r:xF)(rec:Loop):Prop where
 state:rec.state=r.state
 pending:rec.pending=r.pending
 params:rec.params=r.params
 assign:rec.assign=r.assign
 body:rec.body=r.body
 bg:gm C r.bg rec.tmps
structure NA(en:Array MapEntry)(cl since:Nat)(seen:Array Nat)(stepped n:Nat)(ks:List Value):Prop where
 size:en.size+since=n+cl
 Qi:since<=stepped
 Qj:stepped<=cl
 met: ∀e,e∈en->e.born<since->seen.contains e.born=qH ks e.key
 last: ∀k r,ks=k::r->∃e,∃s':Array Nat,e∈en/\e.key=k/\seen=s'.push e.born
theorem NA.later{en en':Array MapEntry}{cl cl' since stepped n:Nat}{seen:Array Nat}{ks:List Value}(h:NA en cl since seen stepped n ks)(k:dW en cl en' cl'):NA en' cl' since seen stepped n ks:=by
 refine⟨by have:=h.size;have:=k.size;omega,h.Qi,Nat.le_trans h.Qj k.le,fun e' he' hb=>?_,fun x r hx=>?_⟩
 ·obtain⟨e,h1,h2,h3⟩:=k.bwd e' he' (by have:=h.Qi;have:=h.Qj;omega)
  rw[←h2,←h3]
  exact h.met e h1 (by omega)
 ·obtain⟨e,s',h1,h2,h3⟩:=h.last x r hx
  obtain⟨e',k1,k2,k3⟩:=k.fwd e h1
  grind
def zB(C:Ctx)(i n:Nat)(ks:List Value)(m:Option Nat)(since:Nat)(seen:Array Nat)(stepped:Nat):Prop:=
 (ks=[.map none]->m=none)/\∀K V es,an C.st i= .map K V es->m=some (C.ι i).block/\∃entries clock,C.w.heap[(C.ι i).block]? =some (.map entries clock)/\NA entries clock since seen stepped n ks
theorem zB.move{C C':Ctx}{i j n:Nat}{ks:List Value}{m:Option Nat}{since stepped:Nat}{seen:Array Nat}(h:bU C C' i j)(hv:zB C i n ks m since seen stepped):zB C' j n ks m since seen stepped:=by
 refine⟨hv.1,fun K V es' hx=>?_⟩
 obtain⟨es,h1,h2,h3⟩:=h.map K V es' hx
 obtain⟨hm,entries,clock,hh,hp⟩:=hv.2 K V es h1
 obtain⟨entries',clock',hh',hl⟩:=h3 entries clock hh
 rw[h2]
 exact⟨hm,entries',clock',hh',hp.later hl⟩
structure dN(w w':World):Prop where
 os:w'.os=w.os
 tape:w'.tape=w.tape
 output:w'.output=w.output
theorem dN.refl(w:World):dN w w:=⟨rfl,rfl,rfl⟩
def hG(F:Fence)(n:Nat)(P:Program)(w:World)(R:Ending->World->Prop):Result Next->Prop
 | .ok (.enter f args) w'=>w'=w/\CallsIn F (n - 1) P f args w R
 | .ok (.round l f tmps asg body) w'=>w'=w/\RoundIn F (n - 1) P l f tmps asg body w R
 |_=>False
structure Cm(P:Pg)(B:Nat)(lr:Option (List AV)->(Nat->Prop)->(Nat->Prop)->World->Prop):Prop where
 still: ∀t O X X' w w',lr t O X w->(∀b,X b->X' b)->(∀b,O b-> ¬ X' b)->(∀b,O b\/X b->w'.heap[b]? =w.heap[b]?)->dN w w'->w.heap.size<=w'.heap.size->lr t O X' w'
 call: ∀as rest O X w (vs:Array Value) F n,lr (some (.aX as::rest)) O X w->(F=Fence.wide\/ ∃B,F=Fence.wide.inRound B)->(∀b,X b->b<w.heap.size)->(∀b,O b->b<w.heap.size/\ ¬ X b)->cW as=[]->(∃D:Ctx,D.P=P/\D.X=X/\D.w=w/\MT D as vs.toList)->
  hG F n P w (fun e w'=>∃(r:Bool) (O':Nat->Prop),e= .returned (.bool r)/\lr (if r then some rest else none) O' X w'/\dN w w'/\w.heap.size<=w'.heap.size/\(∀b,b<w.heap.size-> ¬ O b->w'.heap[b]? =w.heap[b]?)/\
   (∀b,O b->O' b)/\(∀b,O' b->O b\/w.heap.size<=b)/\(∀b,O' b->b<w'.heap.size)) ((Instr.yield B vs).run P w)
def cellAt(w:World)(b:Nat):Src:=fun j=>w.cell? ⟨b,j,none⟩
def jF(C:Ctx)(g:G):Obj->Prop
 | .dead=>True
 | .box T a=>¬ C.X g.block/\cQ a=true/\∃c e,C.w.heap[g.block]? =some (.cells c e (0,0))/\(wid a<=c.size/\c.size=wid a/\e=T)/\M C a (cellAt C.w g.block) 0
 | .row T xs=>bC C.P xs T/\((g.isNil=true/\xs=[])\/(g.isNil=false/\ ¬ C.X g.block/\∃c,C.w.heap[g.block]? =some (.cells c T (0,0))/\
   xs.length<=g.cap/\g.cap<=maxLen/\g.cap*C.P.cellsOf T=c.size/\MR C xs (C.P.cellsOf T) (cellAt C.w g.block) 0))
 | .kC T xs=>bC C.P xs T/\((g.isNil=true/\xs=[])\/(g.isNil=false/\C.X g.block/\MR C xs (C.P.cellsOf T) (cellAt C.w g.block) 0))
 | .map K V es=>¬ C.X g.block/\∃entries clock,C.w.heap[g.block]? =some (.map entries clock)/\bZ C V es entries.toList/\k9 C.P K entries.toList clock
 | .loop r=>¬ C.X g.block/\∃rec,C.w.heap[g.block]? =some (.loop rec)/\CZ C r rec
 | .iter i n ks=>¬ C.X g.block/\i<C.st.length/\∃m since seen stepped,C.w.heap[g.block]? =some (.mapIter m since seen stepped)/\zB C i n ks m since seen stepped
 | .dq s p=>¬ C.X g.block/\C.w.heap[g.block]? =some (.stringIter s p)
 | .ext t=>¬ C.X g.block/\g.block<C.w.heap.size/\C.lr g.block t (fun b=>C.cls b=g.block) C.X C.w/\Cm C.P g.block (C.lr g.block)
 | .rows T E ls pd=>¬ C.X g.block/\C.P.underlying T=some (.slice E)/\qz C.P E=true/\(∀k,∀v,v∈ej ls k->br C.P (.lit v) E)/\∃c,C.w.heap[g.block]? =some (.cells c T (0,0))/\ls.length<=c.size/\
   ∀k,k<ls.length->pd≠some k->∃v,c[k]? =some v/\lB C g.block E k (ej ls k) (ej ls k).length v
 | .fit K V ks vs met=>¬ C.X g.block/\∃m since seen stepped,C.w.heap[g.block]? =some (.mapIter m since seen stepped)/\((m=none/\ks=[]/\vs=[]/\met=[])\/
   ∃b ents clock,m=some b/\C.X b/\C.w.heap[b]? =some (.map ents clock)/\k9 C.P K ents.toList clock/\ents.toList.map (·.key)=ks/\bC C.P vs V/\MT C vs (ents.toList.map (·.val))/\NA ents clock since seen stepped ks.length met)
structure Inv(C:Ctx):Prop where
 lay:eI C.P
 obj: ∀i,i<C.st.length->jF C (C.ι i) (an C.st i)
 s8: ∀i j,i<C.st.length->j<C.st.length->i≠j->cr (C.ι i) (an C.st i)=true->cr (C.ι j) (an C.st j)=true->(C.ι i).block≠(C.ι j).block
 xs: ∀b,C.X b->b<C.w.heap.size
 eQ: ∀i,i<C.st.length->cr (C.ι i) (an C.st i)=true->C.cls (C.ι i).block=(C.ι i).block
 mT: ∀b,C.cls b≠b->b<C.w.heap.size/\ ¬ C.X b/\C.cls b<C.w.heap.size
 kept: ∀b o,C.P.kept b=some o->C.X b/\C.w.heap[b]? =some o
theorem Inv.kJ{C C':Ctx}(hI:Inv C)(hk:bH C C'): ∀b o,C'.P.kept b=some o->C'.X b/\C'.w.heap[b]? =some o:=fun b o h=>by
 rw[hk.P] at h
 have:=hI.kept b o h
 exact⟨hk.X b this.1,(hk.heap b this.1).trans this.2⟩
def Own(C:Ctx)(b:Nat):Prop:=∃i,i<C.st.length/\cr (C.ι i) (an C.st i)=true/\(C.ι i).block=C.cls b
theorem Inv.fresh{C:Ctx}(h:Inv C){b:Nat}(hb:C.w.heap.size<=b):C.cls b=b:=by
 by_cases e:C.cls b=b
 ·exact e
 ·have:=(h.mT b e).1;omega
theorem Inv.rM{C:Ctx}(h:Inv C){i:Nat}(hi:i<C.st.length)(ho:cr (C.ι i) (an C.st i)=true):Own C (C.ι i).block:=⟨i,hi,ho,(h.eQ i hi ho).symm⟩
theorem jF.lt{C:Ctx}{g:G}{o:Obj}(h:jF C g o)(ho:cr g o=true):g.block<C.w.heap.size/\ ¬ C.X g.block:=by
 cases o<;>simp[cr] at ho
 ·obtain⟨h1,_,c,e,h2,_⟩:=h
  grind
 ·obtain⟨_,⟨h0,_⟩|⟨_,h1,c,h2,_⟩⟩:=h
  ·simp[ho] at h0
  ·exact⟨(Array.getElem?_eq_some_iff.1 h2).1,h1⟩
 ·obtain⟨h1,c,e,h2,_⟩:=h
  grind
 ·obtain⟨h1,c,h2,_⟩:=h
  grind
 ·obtain⟨h1,_,_,_,_,_,h2,_⟩:=h
  grind
 ·exact⟨h.2.1,h.1⟩
 ·exact⟨(Array.getElem?_eq_some_iff.1 h.2).1,h.1⟩
 ·obtain⟨h1,_,_,_,c,h2,_⟩:=h
  grind
 ·obtain⟨h1,_,_,_,_,h2,_⟩:=h
  grind
theorem Inv.dv{C:Ctx}(h:Inv C){b:Nat}(hb:Own C b):b<C.w.heap.size/\ ¬ C.X b:=by
 obtain⟨i,hi,ho,hb⟩:=hb
 by_cases e:C.cls b=b
 ·rw[e] at hb;subst hb
  exact(h.obj i hi).lt ho
 ·exact⟨(h.mT b e).1,(h.mT b e).2.1⟩
structure Ext(n:Nat)(C C':Ctx):Prop where
 keeps:bH C C'
 size:C.w.heap.size<=C'.w.heap.size
 os:C'.w.os=C.w.os
 tape:C'.w.tape=C.w.tape
 output:C'.w.output=C.w.output
 frame: ∀b,b<C.w.heap.size-> ¬ Own C b->C'.w.heap[b]? =C.w.heap[b]?
 oQ: ∀b,C'.X b->C.X b\/Own C b\/C.w.heap.size<=b
 fV: ∀b,Own C' b->Own C b\/C.w.heap.size<=b
 refs: ∀i,i<n->bU C C' i i
 cls: ∀b,(C'.cls b=C.cls b/\C'.rk b=C.rk b)\/(C.w.heap.size<=b/\(Own C (C'.cls b)\/C.w.heap.size<=C'.cls b))
 lr:C'.lr=C.lr
theorem bU.refl(C:Ctx){i:Nat}(h:i<C.st.length):bU C C i i:=
 ⟨h,fun _ xs hx=>⟨xs,hx,rfl,Nat.le_refl _⟩,fun _ a hx=>⟨a,hx,rfl⟩,fun _ _ es hx=>⟨es,hx,rfl,fun ents clock hh=>⟨ents,clock,hh,dW.refl _ _⟩⟩,fun r hx=>⟨r,hx,rfl⟩,fun m _n ks hx=>⟨m,ks,hx,rfl⟩,fun t hx=>⟨t,hx,rfl⟩,fun _s p hx=>⟨p,hx,rfl⟩,fun _ _ _ _ m hx=>⟨m,hx,rfl⟩,fun _ _ ls pd hx=>⟨ls,pd,hx,rfl,rfl,fun _ _ _ h=>h⟩⟩
theorem bU.trans{A B C:Ctx}{i j k:Nat}(h:bU A B i j)(h':bU B C j k):bU A C i k:=by
 refine⟨h'.lt,fun T xs hx=>?_,fun T a hx=>?_,fun K V es hx=>?_,fun r hx=>?_,fun m n ks hx=>?_,fun t hx=>?_,fun s p hx=>?_,fun K V ks vs met hx=>?_,fun T E ls pd hx=>?_⟩
 ·obtain⟨ys,h1,h2,h3⟩:=h'.row T xs hx
  obtain⟨zs,h4,h5,h6⟩:=h.row T ys h1
  exact⟨zs,h4,h2.trans h5,Nat.le_trans h6 h3⟩
 ·obtain⟨y,h1,h2⟩:=h'.box T a hx
  obtain⟨z,h4,h5⟩:=h.box T y h1
  exact⟨z,h4,h2.trans h5⟩
 ·obtain⟨y,h1,h2,h3⟩:=h'.map K V es hx
  obtain⟨z,h4,h5,h6⟩:=h.map K V y h1
  refine⟨z,h4,h2.trans h5,fun ents clock hh=>?_⟩
  obtain⟨e1,c1,hh1,hall1⟩:=h6 ents clock hh
  rw[←h5] at hh1
  obtain⟨e2,c2,hh2,hall2⟩:=h3 e1 c1 hh1
  rw[h5] at hh2
  exact⟨e2,c2,hh2,hall1.trans hall2⟩
 ·obtain⟨y,h1,h2⟩:=h'.loop r hx
  obtain⟨z,h4,h5⟩:=h.loop y h1
  exact⟨z,h4,h2.trans h5⟩
 ·obtain⟨y,ys,h1,h2⟩:=h'.iter m n ks hx
  obtain⟨z,zs,h4,h5⟩:=h.iter _ _ _ h1
  exact⟨z,zs,h4,h2.trans h5⟩
 ·obtain⟨y,h1,h2⟩:=h'.ext t hx
  obtain⟨z,h4,h5⟩:=h.ext y h1
  exact⟨z,h4,h2.trans h5⟩
 ·obtain⟨y,h1,h2⟩:=h'.dq s p hx
  obtain⟨z,h4,h5⟩:=h.dq s y h1
  exact⟨z,h4,h2.trans h5⟩
 ·obtain⟨y,h1,h2⟩:=h'.fit K V ks vs met hx
  obtain⟨z,h4,h5⟩:=h.fit K V ks vs y h1
  exact⟨z,h4,h2.trans h5⟩
 ·obtain⟨y,py,h1,h2,h3,h3'⟩:=h'.rows T E ls pd hx
  obtain⟨z,pz,h4,h5,h6,h7⟩:=h.rows T E y py h1
  grind
theorem Ext.refl{n:Nat}(C:Ctx)(h:n<=C.st.length):Ext n C C:=
 ⟨bH.refl C,Nat.le_refl _,rfl,rfl,rfl,fun _ _ _=>rfl,fun _ h=> .inl h,fun _ h=> .inl h,fun i hi=>bU.refl C (by omega),fun _=> .inl ⟨rfl,rfl⟩,rfl⟩
theorem Ext.trans{n m:Nat}{A B C:Ctx}(h:Ext n A B)(k:Ext m B C)(hnm:n<=m):Ext n A C:=by
 refine⟨h.keeps.trans k.keeps,Nat.le_trans h.size k.size,k.os.trans h.os,k.tape.trans h.tape,k.output.trans h.output,fun b hb hn=>?_,fun b hb=>?_,fun b hb=>?_,fun i hi=>(h.refs i hi).trans (k.refs i (by omega)),fun b=>?_,k.lr.trans h.lr⟩
 ·have h1:=h.frame b hb hn
  refine(k.frame b (by have:=h.size;omega) (fun ho=>?_)).trans h1
  rcases h.fV b ho with h2|h2
  ·exact hn h2
  ·omega
 ·rcases k.oQ b hb with h1|h1|h1
  ·exact h.oQ b h1
  ·exact .inr (h.fV b h1)
  ·have:=h.size;exact .inr (.inr (by omega))
 ·rcases k.fV b hb with h1|h1
  ·exact h.fV b h1
  ·have:=h.size;exact .inr (by omega)
 ·rcases k.cls b with⟨h1,h1'⟩|⟨h1,h2⟩
  ·rw[h1,h1'];exact h.cls b
  ·have hs:=h.size
   refine .inr ⟨by omega,?_⟩
   rcases h2 with h2|h2
   ·exact h.fV _ h2
   ·exact .inr (by omega)
theorem Ext.mono{n m:Nat}{A B:Ctx}(h:Ext n A B)(hm:m<=n):Ext m A B:=
 {h with refs:=fun i hi=>h.refs i (by omega)}
def ed:Deferred->Nat
 |{target:= .collected D, .. }=>D
 |_=>0
structure gS(lo:Nat)(C:Ctx)(ds:List Deferred):Prop where
 each: ∀d,d∈ds->d.target= .collected (ed d)/\lo<=ed d/\ ¬ Own C (ed d)/\ ¬ C.X (ed d)/\C.w.heap[ed d]? =some (.deferred (some []))
 apart:(ds.map ed).Nodup
structure db(C:Ctx)(s:S)(a:Act):Prop where
 st:C.st=s.st
 bg:gm C s.bg a.tmps
theorem gS.ext{lo n:Nat}{C C':Ctx}(he:Ext n C C'){ds:List Deferred}(h:gS lo C ds):gS lo C' ds:=⟨fun d hd=>by
 obtain⟨h1,h2,h3,h4,h5⟩:=h.each d hd
 have hlt:=(Array.getElem?_eq_some_iff.1 h5).1
 refine⟨h1,h2,fun ho=>?_,fun hX=>?_,(he.frame _ hlt h3).trans h5⟩
 ·rcases he.fV _ ho with h|h
  ·exact h3 h
  ·omega
 ·rcases he.oQ _ hX with h|h|h
  ·exact h4 h
  ·exact h3 h
  ·omega,h.apart⟩
theorem gm.move{C C':Ctx}(hk:bH C C')(hl:eI C.P)(ρ:Nat->Option Nat){bg:List AV}{tmps:Array Value}
  (hr: ∀i,i∈cW bg->i<C.st.length->∃j,ρ i=some j/\bU C C' i j) (h:gm C bg tmps):gm C' (fY ρ bg) tmps:=by
 have len: ∀l:List AV,(fY ρ l).length=l.length:=by
  intro l;induction l with
  |nil=>rfl
  |cons a l ih=>simp[fY,ih]
 have at_: ∀(l:List AV) (i:Nat),i<l.length->nth (fY ρ l) i=ll ρ (nth l i):=by
  intro l;induction l with
  |nil=>intro i hi;simp at hi
  |cons a l ih=>
   intro i hi
   cases i with
   |zero=>simp[fY,nth]
   |succ i=>simp only[fY,nth];exact ih i (by simpa using hi)
 have rin: ∀(l:List AV) (i k:Nat),i<l.length->k∈refs (nth l i)->k∈cW l:=by
  intro l;induction l with
  |nil=>intro i k hi;simp at hi
  |cons a l ih=>
   intro i k hi hk
   cases i with
   |zero=>simp only[nth] at hk;simp[cW,hk]
   |succ i=>simp only[nth] at hk;simp[cW,ih i k (by simpa using hi) hk]
 refine⟨by rw[len];exact h.1,fun i hi=>?_⟩
 rw[len] at hi
 rw[at_ bg i hi]
 exact(h.2 i hi).move hk hl ρ (fun k hk' hlt=>hr k (rin bg i k hi hk') hlt)
theorem Mr{C:Ctx}{a:AV}{s:Src}{o:Nat}(h:M C a s o): ∀i,i∈refs a->i<C.st.length:=go C a s o h
where
 go (C:Ctx): ∀(a:AV) (s:Src) (o:Nat),M C a s o->∀i,i∈refs a->i<C.st.length
  | .aB i _ _,_,_,h,j,hj=>by simp only[refs,List.mem_singleton] at hj;subst hj;simp only[M] at h;exact h.1
  | .ptr i _ _ _,_,_,h,j,hj=>by simp only[refs,List.mem_singleton] at hj;subst hj;simp only[M] at h;exact h.1
  | .mp i,_,_,h,j,hj=>by simp only[refs,List.mem_singleton] at hj;subst hj;simp only[M] at h;exact h.1
  | .de i,_,_,h,j,hj=>by simp only[refs,List.mem_singleton] at hj;subst hj;simp only[M] at h;exact h.1
  | .jV i _,_,_,h,j,hj=>by simp only[refs,List.mem_singleton] at hj;subst hj;simp only[M] at h;exact h.1
  | .agg l,s,o,h,j,hj=>by simp only[refs] at hj;simp only[M] at h;exact goL C l s o h j hj
  | .aX l,_,_,h,j,hj=>by simp only[refs] at hj;simp only[M] at h;obtain⟨vs,_,h2⟩:=h;exact goT C l _ h2 j hj
  | .bq _ l,_,_,h,j,hj=>by simp only[refs] at hj;simp only[M] at h;obtain⟨vs,_,h2⟩:=h;exact goT C l _ h2 j hj
  | .iN _ a,_,_,h,j,hj=>by simp only[refs] at hj;simp only[M] at h;obtain⟨u,_,_,_,h2⟩:=h;exact go C a _ _ h2 j hj
  | .cK,_,_,_,_,hj=>by simp[refs] at hj
  | .lit _,_,_,_,_,hj=>by simp[refs] at hj
  | .ad _ _,_,_,_,_,hj=>by simp[refs] at hj
  | .iY _ _,_,_,_,_,hj=>by simp[refs] at hj
  | .fJ _ _ _ _,_,_,_,_,hj=>by simp[refs] at hj
 goL (C:Ctx): ∀(l:List AV) (s:Src) (o:Nat),ML C l s o->∀i,i∈cW l->i<C.st.length
  |[],_,_,_,_,hj=>by simp[cW] at hj
  |a::l,s,o,h,j,hj=>by
   simp only[ML] at h
   simp only[cW,List.mem_append] at hj
   rcases hj with hj|hj
   ·exact go C a _ _ h.1 j hj
   ·exact goL C l _ _ h.2 j hj
 goT (C:Ctx): ∀(l:List AV) (vs:List Value),MT C l vs->∀i,i∈cW l->i<C.st.length
  |[],_,_,_,hj=>by simp[cW] at hj
  |_::_,[],h,_,_=>by simp[MT] at h
  |a::l,v::vs,h,j,hj=>by
   simp only[MT] at h
   simp only[cW,List.mem_append] at hj
   rcases hj with hj|hj
   ·exact go C a _ _ h.2.2.1 j hj
   ·exact goT C l _ h.2.2.2 j hj
theorem gm.eu{C C':Ctx}(hk:bH C C')(hl:eI C.P){bg:List AV}{tmps:Array Value}(hr: ∀i,i<C.st.length->bU C C' i i)(h:gm C bg tmps):gm C' bg tmps:=by
 have:=h.move hk hl some (fun i _ hlt=>⟨i,rfl,hr i hlt⟩)
 rwa [fq] at this
theorem aQ{C:Ctx}{v:Value}(h:a9 v=true):Rel C (.lit v) v:=by
 have:v.cells= #[v]:=by cases v<;>simp_all[Value.cells,a9]
 refine⟨.inl (by simpa[bO] using tL h), .inl (by rw[this];simp[wid]),?_⟩
 simp[M,this,h]
theorem lv{C:Ctx}(v:Value):Rel C .cK v:=⟨.inr rfl, .inr rfl,by simp[M]⟩
theorem jN: ∀(l:List AV) (i:Nat),l.length<=i->nth l i= .cK
 |[],_,_=>rfl
 |_::l,0,h=>by simp at h
 |_::l,i+1,h=>by simp only[nth];exact jN l i (by simpa using h)
theorem bm{C:Ctx}{s:S}{a:Act}(h:db C s a)(x:Operand):Rel C (ev s x) (a.eval x):=by
 cases x with
 |tmp t=>
  simp only[ev,Act.eval]
  rcases Nat.lt_or_ge t s.bg.length with hl|hl
  ·exact h.bg.2 t hl
  ·rw[jN _ _ hl];exact lv _
 |const v=>
  simp only[ev,Act.eval]
  split
  ·rename_i hv;exact aQ hv
  ·exact lv _
 |global g=>simp only[ev,Act.eval];exact aQ rfl
 |func f=>
  simp only[ev,Act.eval]
  exact⟨.inl rfl, .inl (by simp[Value.cells,wid]),by simp[M,MT,Value.cells]⟩
theorem eD: ∀(l:List AV) (i:Nat) (x:AV),(bJ l i x).length=l.length
 |[],_,_=>rfl
 |_::_,0,_=>rfl
 |_::l,i+1,x=>by simp[bJ,eD l i x]
theorem je: ∀(l:List AV) (i:Nat) (x:AV),i<l.length->nth (bJ l i x) i=x
 |[],_,_,h=>by simp at h
 |_::_,0,_,_=>rfl
 |_::l,i+1,x,h=>by simp only[bJ,nth];exact je l i x (by simpa using h)
theorem gw: ∀(l:List AV) (i j:Nat) (x:AV),i≠j->nth (bJ l i x) j=nth l j
 |[],_,_,_,_=>rfl
 |_::_,0,j,_,h=>by cases j with|zero=>exact absurd rfl h|succ j=>rfl
 |_::l,i+1,j,x,h=>by
  cases j with
  |zero=>rfl
  |succ j=>simp only[bJ,nth];exact gw l i j x (by omega)
theorem gm.put{C:Ctx}{bg:List AV}{tmps:Array Value}(h:gm C bg tmps){d:Nat}{x:AV}{v:Value}(hx:Rel C x v):
  gm C (bJ bg d x) (tmps.setIfInBounds d v):=by
 refine⟨by rw[eD];simpa using h.1,fun i hi=>?_⟩
 rw[eD] at hi
 have hsz:=h.1
 by_cases e:d=i
 ·simp_all[je]
 ·rw[gw _ _ _ _ e]
  have:(tmps.setIfInBounds d v).getD i undef=tmps.getD i undef:=by simp_all
  rw[this];exact h.2 i hi
theorem db.put{C:Ctx}{s:S}{a:Act}(h:db C s a){dst:Option Tmp}{x:AV}{v:Value}(hx:Rel C x v):db C (put s dst x) (a.put dst v):=by
 cases dst with
 |none=>exact h
 |some d=>exact⟨h.st,h.bg.put hx⟩
end Go.Dn
