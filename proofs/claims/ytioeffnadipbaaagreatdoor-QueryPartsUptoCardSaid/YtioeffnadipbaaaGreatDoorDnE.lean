import Derived.Test.YtioeffnadipbaaaGreatDoorDnD
namespace Go.Dn
open Go
def cv(g:G):Obj->Bool
 | .box _ _| .map _ _ _| .loop _| .iter _ _ _| .ext _| .dy _ _| .rows _ _ _ _| .fit _ _ _ _ _=>true
 | .row _ _=>!g.isNil
 |_=>false
def cE(C:Ctx)(V:TypeId):List (Value×AV)->List MapEntry->Prop
 |[],[]=>True
 |(k,a)::c,e::b=>e.key=k/\bu C.P a V/\Rel C a e.val/\cE C V c b
 |_,_=>False
def gJ C a(b:Array _):=
 a.length=b.size/\∀i,i<a.length->Rel C (nth a i) (b.getD i undef)
structure Eu(C:Ctx)(r:Lf)(rec:Loop):Prop where
 state:rec.state=r.state
 pending:rec.pending=r.pending
 params:rec.params=r.params
 assign:rec.assign=r.assign
 body:rec.body=r.body
 bz:gJ C r.bz rec.tmps
structure RF(en:Array MapEntry)(cl since:Nat)(seen:Array Nat)(stepped n:Nat)(ks:List Value):Prop where
 size:en.size+since=n+cl
 VB:since<=stepped
 VC:stepped<=cl
 met: ∀e,e∈en->e.born<since->seen.contains e.born=r8 ks e.key
 last: ∀k r,ks=k::r->∃e,∃s':Array Nat,e∈en/\e.key=k/\seen=s'.push e.born
theorem RF.later{en en' cl cl' since stepped n seen ks}(h:RF en cl since seen stepped n ks)(k:eb en cl en' cl'):RF en' cl' since seen stepped n ks:=by
 refine⟨by have:=h.size;have:=k.size;omega,h.VB,Nat.le_trans h.VC k.le,fun e' he' hb=>?_,fun x r hx=>?_⟩
 ·obtain⟨e,h1,h2,h3⟩:=k.bwd _ he' (by have:=h.VB;have:=h.VC;omega)
  rw[←h2,←h3];exact h.met e h1 (by omega)
 ·obtain⟨e,s',h1,h2,h3⟩:=h.last x r hx
  obtain⟨e',k1,k2,k3⟩:=k.fwd e h1
  grind
def Ae(C:Ctx) i n e m d seen b:=
 (e=[.map none]->m=none)/\∀K V f,au C.st i= .map K V f->m=some (C.ι i).block/\∃a c,C.w.heap[(C.ι i).block]? =some (.map a c)/\RF a c d seen b n e
theorem Ae.move{C C' i j n ks m since stepped seen}(h:bW C C' i j)(hv:Ae C i n ks m since seen stepped):Ae C' j n ks m since seen stepped:=by
 refine⟨hv.1,fun K V es' hx=>?_⟩;obtain⟨es,h1,h2,h3⟩:=h.map K V _ hx;obtain⟨hm,entries,clock,hh,hp⟩:=hv.2 K V _ h1;obtain⟨entries',clock',hh',hl⟩:=h3 _ _ hh;rw[h2];exact⟨hm,_,_,hh',hp.later hl⟩
structure dT(w w':World):Prop where
 os:w'.os=w.os
 tape:w'.tape=w.tape
 output:w'.output=w.output
theorem dT.refl w:dT w w:=⟨rfl,rfl,rfl⟩
def iZ(F:Fence)(n:Nat)(P:Program)(w:World)(R:Ending->World->Prop):Result Next->Prop
 | .ok (.enter f a) d=>d=w/\CallsIn F (n - 1) P f a w R
 | .ok (.round l f c e b) d=>d=w/\RoundIn F (n - 1) P l f c e b w R
 |_=>False
structure Es(P:Pg)(B:Nat)(mv:Option (List AV)->(Nat->Prop)->(Nat->Prop)->World->Prop):Prop where
 still: ∀t O X X' w w',mv t O X w->(∀b,X b->X' b)->(∀b,O b-> ¬ X' b)->(∀b,O b\/X b->w'.heap[b]? =w.heap[b]?)->dT w w'->w.heap.size<=w'.heap.size->mv t O X' w'
 call: ∀as rest O X w (vs:Array Value) F n,mv (some (.aK as::rest)) O X w->(F=Fence.wide\/ ∃B,F=Fence.wide.inRound B)->(∀b,X b->b<w.heap.size)->(∀b,O b->b<w.heap.size/\ ¬ X b)->df as=[]->(∃D:Ctx,D.P=P/\D.X=X/\D.w=w/\MT D as vs.toList)->
  iZ F n P w (fun e w'=>∃(r:Bool) (O':Nat->Prop),e= .returned (.bool r)/\mv (if r then some rest else none) O' X w'/\dT w w'/\w.heap.size<=w'.heap.size/\(∀b,b<w.heap.size-> ¬ O b->w'.heap[b]? =w.heap[b]?)/\
   (∀b,O b->O' b)/\(∀b,O' b->O b\/w.heap.size<=b)/\(∀b,O' b->b<w'.heap.size)) ((Instr.yield B vs).run P w)
def cellAt(w:World)(b:Nat):Src:=fun j=>w.cell? ⟨b,j,none⟩
def kl(C:Ctx)(g:G):Obj->Prop
 | .dead=>True
 | .box T a=>¬ C.X g.block/\cR a=true/\∃c e,C.w.heap[g.block]? =some (.cells c e (0,0))/\(wid a<=c.size/\c.size=wid a/\e=T)/\M C a (cellAt C.w g.block) 0
 | .row T xs=>b8 C.P xs T/\(g.isNil=true/\xs=[]\/g.isNil=false/\ ¬ C.X g.block/\∃c,C.w.heap[g.block]? =some (.cells c T (0,0))/\
   xs.length<=g.cap/\g.cap<=maxLen/\g.cap*C.P.cellsOf T=c.size/\MR C xs (C.P.cellsOf T) (cellAt C.w g.block) 0)
 | .lD T xs=>b8 C.P xs T/\(g.isNil=true/\xs=[]\/g.isNil=false/\C.X g.block/\MR C xs (C.P.cellsOf T) (cellAt C.w g.block) 0)
 | .map K V A=>¬ C.X g.block/\∃h f,C.w.heap[g.block]? =some (.map h f)/\cE C V A h.toList/\lF C.P K h.toList f
 | .loop r=>¬ C.X g.block/\∃q,C.w.heap[g.block]? =some (.loop q)/\Eu C r q
 | .iter i n u=>¬ C.X g.block/\i<C.st.length/\∃m j seen d,C.w.heap[g.block]? =some (.mapIter m j seen d)/\Ae C i n u m j seen d
 | .dy s p=>¬ C.X g.block/\C.w.heap[g.block]? =some (.stringIter s p)
 | .ext t=>¬ C.X g.block/\g.block<C.w.heap.size/\C.mv g.block t (fun b=>C.cls b=g.block) C.X C.w/\Es C.P g.block (C.mv g.block)
 | .rows T E o z=>¬ C.X g.block/\C.P.underlying T=some (.slice E)/\rY C.P E=true/\(∀k,∀v,v∈ez o k->bu C.P (.lit v) E)/\∃c,C.w.heap[g.block]? =some (.cells c T (0,0))/\o.length<=c.size/\
   ∀k,k<o.length->z≠some k->∃v,c[k]? =some v/\mx C g.block E k (ez o k) (ez o k).length v
 | .fit K V u y x=>¬ C.X g.block/\∃m j seen d,C.w.heap[g.block]? =some (.mapIter m j seen d)/\(m=none/\u=[]/\y=[]/\x=[]\/
   ∃b l f,m=some b/\C.X b/\C.w.heap[b]? =some (.map l f)/\lF C.P K l.toList f/\l.toList.map (·.key)=u/\b8 C.P y V/\MT C y (l.toList.map (·.val))/\RF l f j seen d u.length x)
structure Inv(C:Ctx):Prop where
 lay:eU C.P
 obj: ∀i,i<C.st.length->kl C (C.ι i) (au C.st i)
 u0: ∀i j,i<C.st.length->j<C.st.length->i≠j->cv (C.ι i) (au C.st i)=true->cv (C.ι j) (au C.st j)=true->(C.ι i).block≠(C.ι j).block
 xs: ∀b,C.X b->b<C.w.heap.size
 eZ: ∀i,i<C.st.length->cv (C.ι i) (au C.st i)=true->C.cls (C.ι i).block=(C.ι i).block
 ot: ∀b,C.cls b≠b->b<C.w.heap.size/\ ¬ C.X b/\C.cls b<C.w.heap.size
 kept: ∀b o,C.P.kept b=some o->C.X b/\C.w.heap[b]? =some o
theorem Inv.lR{C C'}(hI:Inv C)(hk:bK C C'): ∀b o,C'.P.kept b=some o->C'.X b/\C'.w.heap[b]? =some o:=fun b o h=>by
 rw[hk.P] at h;have:=hI.kept b o h
 exact⟨hk.X b this.1,(hk.heap b this.1).trans this.2⟩
def Own(C:Ctx) b:=∃i,i<C.st.length/\cv (C.ι i) (au C.st i)=true/\(C.ι i).block=C.cls b
theorem Inv.fresh{C}(h:Inv C){b}(a:C.w.heap.size<=b):C.cls b=b:=by
 by_cases e:C.cls b=b
 ·grind
 ·have:=(h.ot b e).1;omega
theorem Inv.tI{C}(h:Inv C){i}(b:i<C.st.length)(a:cv (C.ι i) (au C.st i)=true):Own C (C.ι i).block:=⟨i,b,a,(h.eZ i b a).symm⟩
theorem kl.lt{C g o}(h:kl C g o)(d:cv g o=true):g.block<C.w.heap.size/\ ¬ C.X g.block:=by
 cases o<;>simp[cv] at d
 ·obtain⟨b,_,c,e,a,_⟩:=h
  grind
 ·obtain⟨_,⟨f,_⟩|⟨_,b,c,a,_⟩⟩:=h
  ·simp[d] at f
  grind
 ·obtain⟨b,c,e,a,_⟩:=h
  grind
 ·obtain⟨b,c,a,_⟩:=h
  grind
 ·obtain⟨b,_,_,_,_,_,a,_⟩:=h
  grind
 ·exact⟨h.2.1,h.1⟩
 ·exact⟨(Array.getElem?_eq_some_iff.1 h.2).1,h.1⟩
 ·obtain⟨b,_,_,_,c,a,_⟩:=h
  grind
 ·obtain⟨b,_,_,_,_,a,_⟩:=h
  grind
theorem Inv.dA{C}(h:Inv C){b}(a:Own C b):b<C.w.heap.size/\ ¬ C.X b:=by
 obtain⟨i,c,d,a⟩:=a;by_cases e:C.cls b=b
 ·rw[e] at a;subst a
  exact(h.obj i c).lt d
 ·exact⟨(h.ot b e).1,(h.ot b e).2.1⟩
structure Ext(n:Nat)(C C':Ctx):Prop where
 keeps:bK C C'
 size:C.w.heap.size<=C'.w.heap.size
 os:C'.w.os=C.w.os
 tape:C'.w.tape=C.w.tape
 output:C'.w.output=C.w.output
 frame: ∀b,b<C.w.heap.size-> ¬ Own C b->C'.w.heap[b]? =C.w.heap[b]?
 qW: ∀b,C'.X b->C.X b\/Own C b\/C.w.heap.size<=b
 gC: ∀b,Own C' b->Own C b\/C.w.heap.size<=b
 refs: ∀i,i<n->bW C C' i i
 cls: ∀b,(C'.cls b=C.cls b/\C'.s5 b=C.s5 b)\/(C.w.heap.size<=b/\(Own C (C'.cls b)\/C.w.heap.size<=C'.cls b))
 mv:C'.mv=C.mv
theorem bW.refl C{i}(h:i<C.st.length):bW C C i i:=
 ⟨h,by grind,by grind,fun _ _ e d=>⟨_,d,rfl,fun b a c=>⟨_,_,c,eb.refl _ _⟩⟩,by grind,by grind,by grind,by grind,by grind,by grind⟩
theorem bW.trans{A B C i j k}(h:bW A B i j)(g:bW B C j k):bW A C i k:=by
 refine⟨g.lt,fun T xs b=>?_,fun T a b=>?_,fun K V P b=>?_,fun r b=>?_,fun m n x b=>?_,fun t b=>?_,fun s p b=>?_,fun K V x I F b=>?_,fun T E L W b=>?_⟩
 ·obtain⟨J,c,f,H⟩:=g.row T xs b
  obtain⟨zs,e,d,D⟩:=h.row T J c
  grind
 ·obtain⟨y,c,f⟩:=g.box T a b
  obtain⟨z,e,d⟩:=h.box T y c;exact⟨z,e,f.trans d⟩
 ·obtain⟨y,c,f,H⟩:=g.map K V P b
  obtain⟨z,e,d,D⟩:=h.map K V y c;refine⟨z,e,f.trans d,fun v l Q=>?_⟩;obtain⟨N,O,u,o⟩:=D v l Q;rw[←d] at u;obtain⟨R,U,w,q⟩:=H N O u;rw[d] at w;exact⟨R,U,w,o.trans q⟩
 ·obtain⟨y,c,f⟩:=g.loop r b
  obtain⟨z,e,d⟩:=h.loop y c;exact⟨z,e,f.trans d⟩
 ·obtain⟨y,J,c,f⟩:=g.iter m n x b
  obtain⟨z,zs,e,d⟩:=h.iter _ _ _ c
  grind
 ·obtain⟨y,c,f⟩:=g.ext t b
  obtain⟨z,e,d⟩:=h.ext y c;exact⟨z,e,f.trans d⟩
 ·obtain⟨y,c,f⟩:=g.dy s p b
  obtain⟨z,e,d⟩:=h.dy s y c;exact⟨z,e,f.trans d⟩
 ·obtain⟨y,c,f⟩:=g.fit K V x I F b
  obtain⟨z,e,d⟩:=h.fit K V x I y c;exact⟨z,e,f.trans d⟩
 ·obtain⟨y,Y,c,f,H,X⟩:=g.rows T E L W b
  obtain⟨z,pz,e,d,D,Z⟩:=h.rows T E y Y c
  grind
theorem Ext.refl{n} C(h:n<=C.st.length):Ext n C C:=
 ⟨bK.refl C,Nat.le_refl _,rfl,rfl,rfl,by simp,by grind,by grind,fun i a=>bW.refl C (by omega),by simp,rfl⟩
theorem Ext.trans{n m A B C}(h:Ext n A B)(k:Ext m B C)(g:n<=m):Ext n A C:=by
 refine⟨h.keeps.trans k.keeps,Nat.le_trans h.size k.size,k.os.trans h.os,k.tape.trans h.tape,k.output.trans h.output,fun b d f=>?_,fun b d=>?_,fun b d=>?_,fun i j=>(h.refs i j).trans (k.refs i (by omega)),fun b=>?_,k.mv.trans h.mv⟩
 ·have a:=h.frame b d f
  refine(k.frame b (by have:=h.size;omega) (fun l=>?_)).trans a;rcases h.gC b l with c|c
  ·exact f c
  ·omega
 ·rcases k.qW b d with a|a|a
  ·exact h.qW b a
  ·exact .inr (h.gC b a)
  ·have:=h.size;omega
 ·rcases k.gC b d with a|a
  ·exact h.gC b a
  ·have:=h.size;omega
 ·rcases k.cls b with⟨a,e⟩|⟨a,c⟩
  ·rw[a,e];exact h.cls b
  ·have o:=h.size
   refine .inr ⟨by omega,?_⟩;rcases c with c|c
   ·exact h.gC _ c
   omega
theorem Ext.mono{n m A B}(h:Ext n A B)(b:m<=n):Ext m A B:=
 {h with refs:=fun i a=>h.refs i (by omega)}
def fh:Deferred->Nat
 |{target:= .collected D, .. }=>D
 |_=>0
structure ij(lo:Nat)(C:Ctx)(ds:List Deferred):Prop where
 each: ∀d,d∈ds->d.target= .collected (fh d)/\lo<=fh d/\ ¬ Own C (fh d)/\ ¬ C.X (fh d)/\C.w.heap[fh d]? =some (.deferred (some []))
 apart:(ds.map fh).Nodup
structure dh(C:Ctx)(s:S)(a:Act):Prop where
 st:C.st=s.st
 bz:gJ C s.bz a.tmps
theorem ij.ext{lo n C C'}(he:Ext n C C'){ds}(h:ij lo C ds):ij lo C' ds:=⟨fun d hd=>by
 obtain⟨h1,h2,h3,h4,h5⟩:=h.each d hd;have hlt:=(Array.getElem?_eq_some_iff.1 h5).1;refine⟨h1,h2,fun ho=>?_,fun hX=>?_,(he.frame _ hlt h3).trans h5⟩
 ·rcases he.gC _ ho with h|h
  ·grind
  grind
 ·rcases he.qW _ hX with h|h|h
  ·grind
  ·grind
  grind,h.apart⟩
theorem gJ.move{C C'}(hk:bK C C')(hl:eU C.P) ρ{bz tmps}
  (hr: ∀i,i∈df bz->i<C.st.length->∃j,ρ i=some j/\bW C C' i j) (h:gJ C bz tmps):gJ C' (gG ρ bz) tmps:=by
 have len: ∀l:List AV,(gG ρ l).length=l.length:=by
  intro l;induction l with
  |nil=>rfl
  |cons a l ih=>simp[gG,ih]
 have at_: ∀(l:List AV) (i:Nat),i<l.length->nth (gG ρ l) i=nb ρ (nth l i):=by
  intro l;induction l with
  |nil=>intro i hi;simp at hi
  |cons a l ih=>
   intro i hi;cases i<;>grind [gG,nth]
 have rin: ∀(l:List AV) (i k:Nat),i<l.length->k∈refs (nth l i)->k∈df l:=by
  intro l;induction l with
  |nil=>intro i k hi;simp at hi
  |cons a l ih=>
   intro i k hi hk;cases i<;>grind [nth,df]
 refine⟨by rw[len];exact h.1,fun i hi=>?_⟩;rw[len] at hi;rw[at_ bz i hi];exact(h.2 i hi).move hk hl ρ (fun k hk' hlt=>hr k (rin bz i k hi hk') hlt)
theorem Qz{C:Ctx}{a:AV}{s:Src}{o:Nat}(h:M C a s o): ∀i,i∈refs a->i<C.st.length:=go C a s o h
where
 go (C:Ctx): ∀(a:AV) (s:Src) (o:Nat),M C a s o->∀i,i∈refs a->i<C.st.length
  | .ax i _ _,_,_,h,j,hj=>by simp only[refs,List.mem_singleton] at hj;subst hj;simp only[M] at h;exact h.1
  | .ptr i _ _ _,_,_,h,j,hj=>by simp only[refs,List.mem_singleton] at hj;subst hj;simp only[M] at h;exact h.1
  | .mp i,_,_,h,j,hj=>by simp only[refs,List.mem_singleton] at hj;subst hj;simp only[M] at h;exact h.1
  | .bJ i,_,_,h,j,hj=>by simp only[refs,List.mem_singleton] at hj;subst hj;simp only[M] at h;exact h.1
  | .lC i _,_,_,h,j,hj=>by simp only[refs,List.mem_singleton] at hj;subst hj;simp only[M] at h;exact h.1
  | .agg l,s,o,h,j,hj=>by simp only[refs] at hj;simp only[M] at h;exact goL C l s o h j hj
  | .aK l,_,_,h,j,hj=>by simp only[refs] at hj;simp only[M] at h;obtain⟨vs,_,h2⟩:=h;exact Ed C l _ h2 j hj
  | .bp _ l,_,_,h,j,hj=>by simp only[refs] at hj;simp only[M] at h;obtain⟨vs,_,h2⟩:=h;exact Ed C l _ h2 j hj
  | .jz _ a,_,_,h,j,hj=>by simp only[refs] at hj;simp only[M] at h;obtain⟨u,_,_,_,h2⟩:=h;exact go C a _ _ h2 j hj
  | .cK,_,_,_,_,hj=>by simp[refs] at hj
  | .lit _,_,_,_,_,hj=>by simp[refs] at hj
  | .ad _ _,_,_,_,_,hj=>by simp[refs] at hj
  | .jA _ _,_,_,_,_,hj=>by simp[refs] at hj
  | .eO _ _ _ _,_,_,_,_,hj=>by simp[refs] at hj
 goL (C:Ctx): ∀(l:List AV) (s:Src) (o:Nat),ML C l s o->∀i,i∈df l->i<C.st.length
  |[],_,_,_,_,hj=>by simp[df] at hj
  |a::l,s,o,h,j,hj=>by
   simp only[ML] at h;simp only[df,List.mem_append] at hj;rcases hj with hj|hj
   ·exact go C a _ _ h.1 j hj
   ·exact goL C l _ _ h.2 j hj
 Ed (C:Ctx): ∀(l:List AV) (vs:List Value),MT C l vs->∀i,i∈df l->i<C.st.length
  |[],_,_,_,hj=>by simp[df] at hj
  |_::_,[],h,_,_=>by simp[MT] at h
  |a::l,v::vs,h,j,hj=>by
   simp only[MT] at h;simp only[df,List.mem_append] at hj;rcases hj with hj|hj
   ·exact go C a _ _ h.2.2.1 j hj
   ·exact Ed C l _ h.2.2.2 j hj
theorem gJ.gr{C C'}(hk:bK C C')(hl:eU C.P){bz tmps}(hr: ∀i,i<C.st.length->bW C C' i i)(h:gJ C bz tmps):gJ C' bz tmps:=by
 have:=h.move hk hl some (by grind)
 grind [fQ]
theorem aW{C v}(h:bg v=true):Rel C (.lit v) v:=by
 have:v.cells= #[v]:=by cases v<;>simp_all[Value.cells,bg]
 refine⟨.inl (by grind [bV,xj]), .inl (by grind [wid]),?_⟩
 grind [M]
theorem mQ{C} v:Rel C .cK v:=⟨.inr rfl, .inr rfl,by simp[M]⟩
theorem iF: ∀l i,l.length<=i->nth l i= .cK
 |[],_,_=>rfl
 |_::l,0,h=>by grind
 |_::l,i+1,h=>by exact iF l i (by grind)
theorem bo{C s a}(h:dh C s a) x:Rel C (ev s x) (a.eval x):=by
 cases x with
 |tmp t=>
  simp[ev];rcases Nat.lt_or_ge t _ with b|b
  ·exact h.bz.2 t b
  grind [iF,mQ]
 |const v=>
  grind [ev,Act.eval,aW,mQ]
 |global g=>exact aW rfl
 |func f=>
  simp[ev,Act.eval];exact⟨.inl rfl, .inl (by rfl),by simp[M,MT,Value.cells]⟩
theorem fY: ∀l i x,(bQ l i x).length=l.length
 |[],_,_=>rfl
 |_::_,0,_=>rfl
 |_::l,i+1,x=>by simp[bQ,fY l i x]
theorem ml: ∀l i x,i<l.length->nth (bQ l i x) i=x
 |[],_,_,h=>by grind
 |_::_,0,_,_=>rfl
 |_::l,i+1,x,h=>by exact ml l i x (by grind)
theorem jl: ∀l i j x,i≠j->nth (bQ l i x) j=nth l j
 |[],_,_,_,_=>rfl
 |_::_,0,j,_,h=>by cases j with|zero=>grind|succ j=>rfl
 |_::l,i+1,j,x,h=>by
  cases j with
  |zero=>rfl
  |succ j=>exact jl l i j x (by omega)
theorem gJ.put{C b a}(h:gJ C b a){d x v}(g:Rel C x v):
  gJ C (bQ b d x) (a.setIfInBounds d v):=by
 refine⟨by rw[fY];simpa using h.1,fun i c=>?_⟩;rw[fY] at c;have f:=h.1;by_cases e:d=i
 ·simp_all[ml]
 ·rw[jl _ _ _ _ e]
  have:(a.setIfInBounds d v).getD i undef=a.getD i undef:=by simp_all
  rw[this];exact h.2 i c
theorem dh.put{C s a}(h:dh C s a){b x v}(c:Rel C x v):dh C (put s b x) (a.put b v):=by
 cases b with
 |none=>exact h
 |some d=>exact⟨h.st,h.bz.put c⟩
end Go.Dn
