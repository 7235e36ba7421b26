import Derived.Test.YtioeffnadipbaaaGreatDoorDnX
import Derived.RangeFuncNested
namespace Go.Dn
open Go
theorem Ext.len{n C C'}(h:Ext n C C'):n<=C'.st.length:=by
 rcases Nat.eq_zero_or_pos n with e|e
 ·omega
 ·have:=(h.refs (n - 1) (by omega)).lt;omega
def cH lo base C(K:S->Prop):=fun a' w'=>
 ∃C' s',C'.w=w'/\C'.P=C.P/\Inv C'/\dh C' s' a'/\ij lo C' a'.defers/\base<=s'.st.length/\Ext base C C'/\K s'
theorem Np{C s a}(d:dh C s a){t v}(h:nth s.bz t= .lit v):a.tmps[t]? =some v/\bg v=true/\t<s.bz.length:=by
 rcases Nat.lt_or_ge t _ with c|c
 ·have b:=d.bz.2 t c
  rw[h] at b;have e:=aL b;have f:=d.bz.1;have g:bg v=true:=by have:=b.2.2;grind [M]
  simp_all
 grind [iF]
theorem Dx: ∀l i x,nth l i=x->i<l.length->bQ l i x=l
 |[],_,_,_,h=>by rfl
 |a::l,0,x,h,_=>by grind [nth,bQ]
 |a::l,i+1,x,h,b=>by simp[bQ];rw[Dx l i x h (by grind)]
theorem pb{s t b}(h:nth s.bz t= .lit (.bool b)):eI s (some t) b=s:=by
 have a:t<s.bz.length:=by grind [iF]
 simp_all[eI,Dx]
theorem fe{s c b}(h:ev s c= .lit (.bool b)):eI s (sW c) b=s:=by
 cases c with
 |tmp t=>exact pb h
 |_=>rfl
theorem dh.ext{C C' n}(hI:Inv C){s a}(h:dh C s a)(he:Ext n C C')(hn:n=C.st.length):dh C' {s with st:=C'.st} a:=by
 subst hn;exact h.step hI he
theorem cH.after{lo base C K}(hI:Inv C){s a}(hs:dh C s a)(hd:ij lo C a.defers)(hb:base<=s.st.length){C'}(hP:C'.P=C.P)(hI':Inv C')(he:Ext C.st.length C C'){dst x v}(hr:Rel C' x v)
  (hK:K (put {s with st:=C'.st} dst x)):cH lo base C K (a.put dst v) C'.w:=by
 have hsl:s.st.length=C.st.length:=by rw[hs.st]
 refine⟨_,_,rfl,hP,hI',(hs.step hI he).put hr,?_,?_,he.mono (by omega),hK⟩
 ·have:(a.put dst v).defers=a.defers:=by cases dst<;>rfl
  rw[this];exact hd.ext he
 ·have:=he.len
  have e:(put {s with st:=C'.st} dst x).st=C'.st:=by cases dst<;>rfl
  grind
theorem cH.same{lo base C K}(d:Inv C){s a}(c:dh C s a)(hd:ij lo C a.defers)(e:base<=s.st.length){b x v}(f:Rel C x v)(g:K (put s b x)):cH lo base C K (a.put b v) C.w:=by
 refine cH.after d c hd e rfl d (Ext.refl C (Nat.le_refl _)) f ?_;rw[c.st];omega
def I2:Op->Bool
 | .defer _=>true
 |_=>false
theorem pG{F}(g:F=Fence.wide\/ ∃B,F=Fence.wide.inRound B){n P o a w b Q}(hd:I2 o.op=false)
  {R} (h:iZ F n P w R ((execOp a.eval o).run P w)) (k: ∀e d,R e d->∃v,e= .returned v/\b (a.put o.dst v) d):o.wpIn F n P a w b Q:=by
 refine⟨fun f _=>mG g f,?_⟩;rw[Oper.semAt_eq _ _ _ (by intro c j;rw[j] at hd;simp[I2] at hd)];generalize (execOp a.eval o).run P w=r at h
 cases r with
 |halt x d=>simp[iZ] at h
 | ok x d=>
  cases x<;>simp only[iZ] at h<;>try exact h.elim
  ·obtain⟨rfl,h⟩:=h
   exact⟨oJ g,h.mono fun e d l=>by obtain⟨v,rfl,i⟩:=k e d l;exact i⟩
  ·obtain⟨rfl,h⟩:=h
   exact⟨oJ g,h.mono (by grind)⟩
theorem mf{F}(e:F=Fence.wide\/ ∃B,F=Fence.wide.inRound B){n P o a w c b Q}(hd:I2 o.op=false)
  {v} (h:(execOp a.eval o).run P w= .ok (.value v) c\/(execOp a.eval o).run P w= .ok .skip c/\v=undef) (d:b (a.put o.dst v) c):o.wpIn F n P a w b Q:=by
 refine⟨fun f _=>mG e f,?_⟩;rw[Oper.semAt_eq _ _ _ (by grind [I2])];rcases h with h|⟨h,rfl⟩
 ·rw[h];exact d
 ·rw[h];exact d
theorem Jb{C k}(u:Inv C)(D:k.P=C.P)(r:Inv k){x v}(H:Rel k x v)(s:refs x=[])(n:Ext 0 C.bare k):
  ∃d,d.w=k.w/\d.P=C.P/\Inv d/\Ext C.st.length C d/\d.st=C.st/\Rel d x v:=by
 have p: ∀b,¬ Own C.bare b:=fun b ⟨i,g,_⟩=>by simp[Ctx.bare] at g
 have E:ik C.w k.w:=⟨n.size,n.os,n.tape,n.output,fun b a=>n.frame b a (p b)⟩
 obtain⟨J,f⟩:=oQ u E
 let A:Ctx:={C with w:=k.w}
 have c:Inv A:=J
 let X:Nat->Prop:=fun b=>C.w.heap.size<=b/\k.X b
 let d:Ctx:={A with X:=fun b=>A.X b\/X b}
 have F: ∀b,Own A b-> ¬ X b:=fun b t q=>by
  have:b<C.w.heap.size:=(u.dA (show Own C b from t)).1
  have:=q.1;omega
 have K: ∀b,A.cls b≠b-> ¬ X b:=fun b B q=>by
  have:=(u.ot b B).1
  have:=q.1;omega
 have I: ∀b,X b->b<A.w.heap.size:=fun b q=>r.xs b q.2
 have z:bK A d:=⟨rfl,fun _ h=> .inl h,fun _ _=>rfl⟩
 have e: ∀i,i<A.st.length->bW A d i i:=fun i g=>dW c g g rfl rfl (fun _ _ _=>⟨rfl,rfl,rfl⟩)
 have y:Inv d:=⟨c.lay,fun j m=>(c.obj j m).gr z c.lay (fun j m _=>e j m) (c.eZ j m) ⟨fun b t a=>⟨fun s=>s.elim (c.dA ⟨j,m,t,a.symm⟩).2 (F b ⟨j,m,t,a.symm⟩),rfl⟩,fun _ _=>⟨Iff.rfl,fun _=>rfl⟩,dT.refl _,Nat.le_refl _,fun _ _=>rfl⟩,
  c.u0,fun b a=>a.elim (c.xs b) (I b),c.eZ,fun b a=>⟨(c.ot b a).1,fun s=>s.elim (c.ot b a).2.1 (K b a),(c.ot b a).2.2⟩,c.lR z⟩
 have l:bK k d:=⟨D.symm,fun b a=>by
  rcases n.qW b a with h|h|h
  ·left
   obtain⟨o,h⟩:=Option.isSome_iff_exists.1 (show(C.P.kept b).isSome=true from h);exact(u.kept b o h).1
  ·exact absurd h (p b)
  ·exact .inr ⟨h,a⟩,fun _ _=>rfl⟩
 refine⟨d,rfl,rfl,y,⟨f.keeps.trans z,f.size,f.os,f.tape,f.output,f.frame,fun b a=>?_,f.gC,fun i g=>(f.refs i g).trans (e i g),f.cls,f.mv⟩,rfl,?_⟩
 ·grind
 ·have:=H.move l r.lay some (fun i g=>by rw[s] at g;simp at g)
  rwa [jZ] at this
theorem zD{E}(H:aF E){C}(r:C.P=E.P)(j:Inv C){s a}(i:dh C s a){lo base}(hd:ij lo C a.defers)(A:base<=s.st.length)
  {F} (q:F=Fence.wide\/ ∃B,F=Fence.wide.inRound B) {n} {o:Oper} {x K} (h:bH E s o.op=some (true,x)) (z:K (put s o.dst x))
  {d Q} (t: ∀J b,cH lo base C K J b->d J b):o.wpIn F n E.P a C.w d Q:=by
 have g:I2 o.op=false:=by
  cases O:o.op<;>try rfl
  rw[O] at h;simp[bH] at h
 rcases FN H.prog H.fN r j i h with⟨v,c,l⟩|⟨f,m,u,c,rfl,l,p⟩|⟨f,m,c,l,p⟩
 ·rw[r] at c
  exact mf q g (.inl c) (t _ _ (cH.same j i hd A l z))
 ·rw[r] at c p
  refine pG q g (R:=fun e b=>e= .returned u/\ik C.w b) ?_ ?_
  ·rw[c];exact⟨rfl,lK q p⟩
  ·rintro e b ⟨rfl,T⟩
   obtain⟨W,N⟩:=oQ j T;refine⟨u,rfl,t _ _ (cH.after (C':={C with w:=b}) j i hd A rfl W N (aW l) ?_)⟩;show K (put {s with st:=C.st} o.dst (.lit u))
   rw[i.st];exact z
 ·rw[r] at c p
  refine pG q g (R:=fun e b=>∃v k,e= .returned v/\k.w=b/\k.P=C.P/\Inv k/\Rel k x v/\Ext 0 C.bare k) ?_ ?_
  ·rw[c];exact⟨rfl,lK q p⟩
  ·rintro e b ⟨v,k,rfl,rfl,y,D,U,V⟩
   obtain⟨I,X,Y,Z,k4,k5,L⟩:=Jb j y D U l V;rw[←X];refine⟨v,rfl,t _ _ (cH.after (C':=I) j i hd A Y Z k4 L ?_)⟩;show K (put {s with st:=I.st} o.dst x)
   rw[k5,i.st];exact z
theorem zz{E:Env}{C}(h:Inv C){s a}(e:dh C s a){lo base}(hd:ij lo C a.defers)(i:base<=s.st.length)
  {F} (k:F=Fence.wide\/ ∃B,F=Fence.wide.inRound B) {n} {o:Oper} {K c x y t} (l:o.op= .pick c x y) (g:ev s c= .lit (.bool t))
  (f:an t (K (put (eI s (sW c) true) o.dst (ev s x))) (K (put (eI s (sW c) false) o.dst (ev s y))))
  {b Q} (j: ∀p m,cH lo base C K p m->b p m):o.wpIn F n E.P a C.w b Q:=by
 have d:=bo e c;rw[g] at d;have d:=aL d;cases t with
 |true=>
  rw[fe g] at f;refine mf k (by rw[l];rfl) (.inl ?_) (j _ _ (cH.same h e hd i (bo e x) f))
  simp_all[execOp,asBool]
 |false=>
  rw[fe g] at f;refine mf k (by rw[l];rfl) (.inl ?_) (j _ _ (cH.same h e hd i (bo e y) f))
  simp_all[execOp,asBool]
theorem yj{E:Env}{C}(hC:C.P=E.P)(hI:Inv C){s a}(hs:dh C s a){lo base}(hd:ij lo C a.defers)(hb:base<=s.st.length)
  {F} (hF:F=Fence.wide\/ ∃B,F=Fence.wide.inRound B) {n} {o:Oper} {K} (h:cm E.P s o.dst o.op K)
  {next Q} (hn: ∀a' w',cH lo base C K a' w'->next a' w'):o.wpIn F n E.P a C.w next Q:=by
 have hdf:I2 o.op=false:=by
  cases ho:o.op<;>try rfl
  grind [cm]
 rw[←hC] at h;obtain⟨v,w',h1,C',s',rfl,h3,h4,h5,h6,h7⟩:=B5 hI hs h;rw[hC] at h1;have hsl:s.st.length=C.st.length:=by rw[hs.st]
 refine mf hF hdf h1 (hn _ _ ⟨C',s',rfl,h3,h4,h5,?_,?_,h6.mono (by omega),h7⟩)
 ·have:(a.put o.dst v).defers=a.defers:=by cases o.dst<;>rfl
  rw[this];exact hd.ext h6
 ·have:=h6.len
  rw[←h5.st];omega
theorem rR{F n P w R b r}(h:iZ F n P w R r)(c: ∀e a,R e a->b e a):iZ F n P w b r:=by
 cases r with
 |ok x a=>
  cases x<;>try exact h.elim
  ·exact⟨h.1,h.2.mono c⟩
  ·exact⟨h.1,h.2.mono c⟩
 |halt x a=>grind [iZ]
theorem sa{E d}(b:gn E.P d){f a st K}(h:ny E d f a st K){C}(k:C.P=E.P)(n:Inv C)(e:C.st=st){j}(l:MT C a j.toList):
  (∃i,E.P.funcs[f]? =some i/\i.body.isSome=true)/\CallsIn Fence.wide 0 E.P f j C.w (eP C C.st.length K):=by
 unfold ny at h;split at h
 ·rename_i i g
  split at h
  ·rename_i c m
   refine⟨by grind,?_⟩;subst e;exact vZ g m k n l (b _ _ _ _ _ _ h) 0
  grind
 grind
theorem zy{C}: ∀ps f e c b,MT C f e->gJ C c b->
  gJ C (kL ps f c) ((ps.zip e).foldl (fun b x=>b.setIfInBounds x.1 x.2) b)
 |[],f,e,c,b,_,g=>by simp_all[kL]
 |p::ps,[],e,c,b,d,g=>by
  simp_all[MT,kL]
 |p::ps,a::f,[],c,b,d,g=>by grind [MT]
 |p::ps,a::f,v::e,c,b,d,g=>by
  exact zy _ _ e _ _ d.2.2.2 (g.put ⟨d.1,d.2.1,d.2.2.1⟩)
theorem Mk{C}(q:Inv C){l r}(u:au C.st l= .loop r) st f:
  ∃c,C.w.heap[(C.ι l).block]? =some (.loop c)/\Eu C r c/\
   Inv (C.dR l (.loop {r with state:=st,pending:=f}) (C.w.putObj (C.ι l).block (.loop {c with state:=st,pending:=f})))/\
   Ext C.st.length C (C.dR l (.loop {r with state:=st,pending:=f}) (C.w.putObj (C.ι l).block (.loop {c with state:=st,pending:=f}))):=by
 have j:l<C.st.length:=by
  grind [Nat.lt_or_ge,eC]
 have y:=q.obj l j;rw[u] at y;obtain⟨x,c,v,o⟩:=y;have k:(C.ι l).block<C.w.heap.size:=(Array.getElem?_eq_some_iff.1 v).1;refine⟨c,v,o,?_⟩;have d: ∀b,b≠(C.ι l).block->(C.w.putObj (C.ι l).block (.loop {c with state:=st,pending:=f})).heap[b]? =C.w.heap[b]? :=fun b k=>World.putObj_heap_other k
 have B:bK C (C.dR l (.loop {r with state:=st,pending:=f}) _):=
  ⟨rfl,fun _ h=>h,fun b k=>d b (fun e=>x (e▸k))⟩
 have z:(C.dR l (.loop {r with state:=st,pending:=f}) (C.w.putObj (C.ι l).block (.loop {c with state:=st,pending:=f}))).st.length=C.st.length:=a9 _ _ _;have A:bW C (C.dR l (.loop {r with state:=st,pending:=f}) (C.w.putObj (C.ι l).block (.loop {c with state:=st,pending:=f}))) l l:=by
  have D:au (C.dR l _ (C.w.putObj (C.ι l).block (.loop {c with state:=st,pending:=f}))).st l= .loop {r with state:=st,pending:=f}:=bn _ _ _ j;refine⟨by omega,fun T xs g=>?_,fun T a g=>?_,fun K V J g=>?_,fun N g=>⟨r,u,rfl⟩,fun m n F g=>?_,fun t g=>?_,fun s p g=>?_,fun K V F L I g=>?_,fun T E O f g=>?_⟩<;>rw[D] at g<;>cases g
 refine hJ q j (by rw[u];rfl) World.putObj_size ⟨rfl,rfl,rfl⟩ d A ?_;refine⟨x,_,World.putObj_heap_same k,⟨rfl,rfl,o.params,o.assign,o.body,?_⟩⟩;refine o.bz.gr B q.lay (fun i H=>?_);by_cases e:l=i
 ·subst e;exact A
 ·exact xK q j (by rw[u];rfl) d H e
theorem zi{C}(hI:Inv C){l r}(hl:au C.st l= .loop r) st pd:
  ∃rec C',C.w.heap[(C.ι l).block]? =some (.loop rec)/\Eu C r rec/\C'.w=C.w.putObj (C.ι l).block (.loop {rec with state:=st,pending:=pd})/\C'.st=dj C.st l (.loop {r with state:=st,pending:=pd})/\C'.P=C.P/\C'.ι=C.ι/\
   Inv C'/\Ext C.st.length C C':=by
 obtain⟨rec,h1,h2,h3,h4⟩:=Mk hI hl _ _;exact⟨_,C.dR l _ _,h1,h2,rfl,rfl,rfl,rfl,h3,h4⟩
theorem u7{F}(a:F=Fence.wide\/ ∃B,F=Fence.wide.inRound B) l:F.inRound l=Fence.wide.inRound l:=by
 rcases a with rfl|⟨B,rfl⟩<;>rfl
theorem uP{E:Env}{L}(s:gn E.P L){l i st K}(h:jo L l i st K){C}(hC:C.P=E.P)(hI:Inv C)(hst:C.st=st){J}(hm:MT C i J.toList)
  {F} (hF:F=Fence.wide\/ ∃B,F=Fence.wide.inRound B) n:iZ F n E.P C.w (eP C C.st.length K) ((Instr.yield (C.ι l).block J).run E.P C.w)/\∃r,au C.st l= .loop r:=by
 subst hst;unfold jo at h;split at h
 ·rename_i r W
  split at h
  ·rename_i hc
   refine⟨?_,r,W⟩;have k:l<C.st.length:=by
    rcases Nat.lt_or_ge l C.st.length with h|h
    ·exact h
    ·rw[eC _ _ h] at W;cases W
   have ho:=hI.obj l k;rw[W] at ho;obtain⟨hX,c,h1,R⟩:=ho;have U:=pI _ _ hm;have hsz:J.size=c.params.size:=by rw[R.params,hc.2,←U];simp
   rw[run_yield h1 hsz];refine⟨rfl,?_⟩;rw[R.assign,R.body];have A:gJ C (kL r.params.toList i r.bz) ((c.params.zip J).foldl (fun tmps (t,a)=>tmps.setIfInBounds t a) c.tmps):=by
    have:=zy r.params.toList i J.toList r.bz c.tmps hm R.bz
    rw[R.params];rw[←Array.foldl_toList,Array.toList_zip];exact this
   refine roundIn_of_wpIn (mG hF _) ?_;rw[u7 hF];have hs0:=s _ _ _ _ _ _ h C {tmps:=(c.params.zip J).foldl (fun tmps (t,a)=>tmps.setIfInBounds t a) c.tmps,defers:=[]} (Fence.wide.inRound (C.ι l).block) (n - 1) 0 hC hI ⟨rfl,A⟩ ⟨fun d hd=>by simp at hd,by simp⟩ (Nat.zero_le _) (Nat.le_refl _) ⟨k,_,rfl,fun _ _=>rfl⟩;refine wpIn_mono hs0 ?_;rintro e a1 w1 ⟨C1,s1,rfl,N,V,D,hd1,hb1,y,f⟩;cases e<;>simp only[] at f<;>try exact f.elim
   split at f
   ·rename_i Y z
    split at f
    ·rename_i o
     rw[←D.st] at z;obtain⟨Q,C2,k1,k2,k3,k4,k5,k6,k7,X⟩:=zi V z .busy Y.pending;have q:(C1.ι l).block=(C.ι l).block:=by
      obtain⟨r0,_,e⟩:=(y.refs l k).loop Y z;rw[e]
     have hpd:Q.pending=Y.pending:=k2.pending;have m:C.st.length<=C1.st.length:=y.len;have hlen2:C.st.length<=C2.st.length:=Nat.le_trans m X.len;refine⟨C2.w,?_,?_⟩
     ·rw[run_beginRound (q▸k1) (k2.state.trans o),k3,q,←hpd]
     have hs2:=s _ _ _ _ _ _ f C2 a1 (Fence.wide.inRound (C.ι l).block) (n - 1) 0 (k5.trans (N.trans hC)) k7
      (by have:=D.step V X;rw[k4,D.st] at this;exact this) (hd1.ext X) (Nat.zero_le _) (by show C.st.length<=(dj s1.st l _).length;rw[a9];exact hb1)
      ⟨k,_,rfl,fun _ _=>by rw[k6];exact q⟩
     refine wpIn_mono hs2 ?_;rintro Z a2 w2 ⟨C3,s3,rfl,hP3,hI3,T,hd3,hb3,O,g⟩;split at g
     ·rename_i r2 H
      rw[←T.st] at H;have x:(C3.ι l).block=(C.ι l).block:=by
       obtain⟨r0,_,e⟩:=(O.refs l k).loop r2 H;rw[e,k6];exact q
      have u:Ext C.st.length C C3:=y.trans ((X.mono m).trans O (Nat.le_refl _)) (Nat.le_refl _);have I: ∀(j:Option Code) (b:Bool) (p:LoopState),p=(if j.isNone then .ready else .done)->b=j.isNone->K (.lit (.bool b)) (dj s3.st l (.loop {r2 with state:=p,pending:=j}))->
        ∃v w',(Instr.endRound (C.ι l).block j).run E.P C3.w= .ok v w'/\eP C C.st.length K (.returned v) w':=by
       intro j b p e1 Z hk;obtain⟨rec2,C4,m1,m2,m3,m4,m5,m6,m7,m8⟩:=zi hI3 H p j;rw[x] at m1;refine⟨.bool b,C4.w,?_, .bool b, .lit (.bool b),C4,rfl,rfl,m5.trans (hP3.trans (k5.trans N)),m7,aW rfl,u.trans (m8.mono u.len) (Nat.le_refl _),?_⟩
       ·rw[run_endRound j m1,m3,x,e1,Z]
       ·rw[m4,T.st];exact hk
      cases Z<;>simp only[] at g<;>try exact g.elim
      ·exact I none true .ready rfl rfl g
      ·exact I (some (.exit _)) false .done rfl rfl g
      ·exact I (some .ret) false .done rfl rfl g
     ·exact g.elim
    ·exact f.elim
   ·exact f.elim
  ·exact h.elim
 ·exact h.elim
theorem yH{C}: ∀l m c b,MT C l c->MT C m b->MT C (l++m) (c++b)
 |[],m,c,b,h,d=>by grind [MT]
 |_::_,_,[],_,h,_=>by grind [MT]
 |a::l,m,v::c,b,h,d=>by
  exact⟨h.1,h.2.1,h.2.2.1,yH l m _ _ h.2.2.2 d⟩
theorem wA: ∀b st l t,au st l= .ext t->au (cQ st b) l= .ext t
 |[],_,_,_,h=>h
 | i::b,st,l,t,h=>by
  refine wA b _ l t ?_;by_cases e:i=l
  ·subst e
   have a:i<st.length:=by
    grind [eC]
   rw[bn _ _ _ a,h];rfl
  grind [bw]
theorem JC{l}(h:MA l=true):l=[]:=by grind [MA]
theorem P0{C}(v:Inv C){l t k}(o:au C.st l= .ext t){w e}(g:C.mv (C.ι l).block k e C.X w)(z:dT C.w w)(y:C.w.heap.size<=w.heap.size)
  (B: ∀b,b<C.w.heap.size->C.cls b≠(C.ι l).block->w.heap[b]? =C.w.heap[b]?) (H: ∀b,C.cls b=(C.ι l).block->e b) (N: ∀b,e b->C.cls b=(C.ι l).block\/C.w.heap.size<=b) (D: ∀b,e b->b<w.heap.size):
  ∃C',C'.w=w/\C'.P=C.P/\C'.st=dj C.st l (.ext k)/\Inv C'/\Ext C.st.length C C':=by
 classical
 have d:l<C.st.length:=by
  rcases Nat.lt_or_ge l C.st.length with h|h
  ·exact h
  ·rw[eC _ _ h] at o;cases o
 have f:cv (C.ι l) (au C.st l)=true:=by rw[o];rfl
 have q:=v.obj l d;rw[o] at q;obtain⟨J,Y,_,j⟩:=q;have A:=v.eZ l d f
 let a:Nat->Nat:=fun b=>if e b then(C.ι l).block else C.cls b
 have u: ∀b,a b=(C.ι l).block↔e b:=fun b=>by
  grind
 have i: ∀b,b<C.w.heap.size->a b=C.cls b:=fun b x=>by
  grind
 let C':Ctx:={C with st:=dj C.st l (.ext k),w:=w,cls:=a}
 have I:au C'.st l= .ext k:=bn _ _ _ d;have F:bW C C' l l:=by
  refine⟨by show l<(dj _ _ _).length;rw[a9];exact d,fun T xs c=>?_,fun T b c=>?_,fun K V Q c=>?_,fun r c=>?_,fun m n O c=>?_,fun t c=>⟨_,o,rfl⟩,fun s p c=>?_,fun K V O W L c=>?_,fun T E R U c=>?_⟩<;>rw[I] at c<;>first|(simp[ib] at c;done)|cases c
 have:=Ij (C':=C') v d f rfl rfl rfl rfl rfl y z B (fun b x=>⟨i b x,rfl⟩) (fun b x=>by
  by_cases h:e b
  ·exact .inr ⟨if_pos h,D b h⟩
  ·exact .inl ⟨(if_neg h).trans (v.fresh x),rfl⟩) F (by
  refine⟨J,by show(C.ι l).block<w.heap.size;omega,?_,j⟩;show C.mv (C.ι l).block k (fun b=>a b=(C.ι l).block) C.X w
  rw[show(fun b=>a b=(C.ι l).block)=e from funext fun b=>propext (u b)];exact g)
 exact⟨C',rfl,rfl,rfl,this.1,this.2⟩
theorem D9{l t c st K}(h:B6 l t c st K){C}(O:Inv C)(z:C.st=st)(D:au C.st l= .ext t){J}(W:MT C c J.toList)
  {F} (Z:F=Fence.wide\/ ∃B,F=Fence.wide.inRound B) n:iZ F n C.P C.w (eP C C.st.length K) ((Instr.yield (C.ι l).block J).run C.P C.w):=by
 unfold B6 at h;split at h
 ·rename_i xs H I o
  obtain⟨Y,d,rfl,k,m⟩:=ai.1 h;rw[←z] at o k m;obtain⟨g,Q,E,y,x,j,f6⟩:=mI I O;have A:=se O j E _ H I _ o (fun i hi a D=>f6 i hi a D) W;have f:au g.st l= .ext (some (.aK H::d)):=by rw[Q];exact wA I _ _ _ D
  have a:l<g.st.length:=by
   grind [Nat.lt_or_ge,eC]
  have q:cv (g.ι l) (au g.st l)=true:=by rw[f];rfl
  have s:=x.obj l a;rw[f] at s;obtain⟨hX,hB,p,u⟩:=s;have N:=u.call H d _ g.X g.w J F n p Z x.xs (fun b v=>x.dA ⟨l,a,q,v.symm⟩) (JC Y) ⟨g,rfl,rfl,rfl,A⟩;rw[y,E,j.keeps.P] at N;refine rR N ?_;rintro e w' ⟨r,O',rfl,R,T,U,V,p5,p6,p7⟩;rw[←y] at R;rw[←E] at T U V p6;obtain⟨C2,g1,g2,g3,g4,g5⟩:=P0 x f R T U (fun b v L=>V b v (by rw[←y];exact L)) (fun b v=>p5 b (by rw[←y];exact v)) (by grind) p7;refine⟨.bool r, .lit (.bool r),C2,rfl,g1,g2.trans j.keeps.P,g4,aW rfl,j.trans (g5.mono j.len) (Nat.le_refl _),?_⟩;rw[g3,Q];cases r
  ·exact m
  ·exact k
 ·exact h.elim
theorem ED{E}(z:aF E){x}(c:gn E.P x){g args st K}(h:oC E x g args st K){C}(q:C.P=E.P)(s:Inv C)(a:C.st=st)
  {V b} (L:Rel C g V) (T:MT C args b.toList) {F} (J:F=Fence.wide\/ ∃B,F=Fence.wide.inRound B) n:
  ∃d,(Deferred.ofValue V b).run E.P C.w= .ok d C.w/\iZ F n E.P C.w (eP C C.st.length K) ((invoke d.target d.args).run E.P C.w):=by
 unfold oC at h;split at h
 ·rename_i f u
  obtain⟨o,rfl,A⟩:=vv L;have k:MT C (args++u) (b++o).toList:=by
   rw[Array.toList_append];exact yH _ _ _ _ T A
  refine⟨{target:= .fn (.func f) o,args:=b},by simp[Deferred.ofValue],?_⟩;have m: ∀{R:Ending->World->Prop},((∃fn,E.P.funcs[f]? =some fn/\fn.body.isSome=true)/\CallsIn Fence.wide 0 E.P f (b++o) C.w R)->iZ F n E.P C.w R ((invoke (.fn (.func f) o) b).run E.P C.w):=by
   rintro R ⟨⟨fn,D,I⟩,Z⟩;have:(invoke (.fn (.func f) o) b).run E.P C.w= .ok (.enter f (b++o)) C.w:=by
    simp only[invoke];exact kC z.prog D I _
   rw[this];exact⟨rfl,lK J Z⟩
  split at h
  ·exact m (sa c h q s a k)
  ·split at h
   ·exact m (py z h q s a k)
   ·split at h
    ·rename_i as Y j
     rw[←a] at j h;obtain⟨W,f1,X,f3,U,p,f6⟩:=mI Y s;have y:=vm U (mN E.P f) _ _ (se s p X _ as Y _ j (fun i hi H j=>f6 i hi H j) k);rw[show W.P=E.P from p.P.trans q] at y;obtain⟨k1,k2⟩:=py z h (p.P.trans q) U f1 y;refine m ⟨k1,?_⟩;rw[←X];refine k2.mono ?_;rintro e w' ⟨v,r,C',rfl,hw,hP,O,N,he,hK⟩;have Q:C.st.length<=W.st.length:=p.len;exact⟨v,r,C',rfl,hw,hP.trans p.P,O,N,p.trans (he.mono Q) (Nat.le_refl _),hK⟩
    ·exact h.elim
 ·rename_i l
  split at h
  ·rename_i t j
   rw[←a] at j;have:=(Bx L).2.2 t j
   subst this;refine⟨{target:= .fn (.yield (C.ι l).block) #[],args:=b},by simp[Deferred.ofValue],?_⟩;simp only[invoke];rw[←q];exact D9 h s a j T J n
  ·obtain⟨D,I⟩:=uP c h q s a T J n
   obtain⟨r,N⟩:=I;have:=(Bx L).2.1 r N
   subst this;refine⟨{target:= .fn (.yield (C.ι l).block) #[],args:=b},by simp[Deferred.ofValue],?_⟩;simp only[invoke];exact D
 ·exact h.elim
theorem yQ{E}(hE:aF E){rec}(hrec:gn E.P rec){C}(hC:C.P=E.P)(hI:Inv C){s a}(hs:dh C s a){lo base}(hd:ij lo C a.defers)(hb:base<=s.st.length)
  {F} (hF:F=Fence.wide\/ ∃B,F=Fence.wide.inRound B) {n} {o:Oper} {g args K} (hc:gM s o.op=some (g,args)) (h:oC E rec g args s.st fun x st=>K (put {s with st} o.dst x))
  {next Q} (hn: ∀a' w',cH lo base C K a' w'->next a' w'):o.wpIn F n E.P a C.w next Q:=by
 obtain⟨dst,op,type,pos,after,guard⟩:=o;simp only at hc;unfold gM at hc;split at hc
 ·rename_i gv ags ats
  obtain⟨rfl,rfl⟩:=hc;have hmt:MT C (oI s ags.toList) (ags.map a.eval).toList:=by
   simp_all[vl]
  obtain⟨d,h1,h2⟩:=ED hE hrec h hC hI hs.st (bo hs gv) hmt hF n;refine pG hF rfl (R:=eP C C.st.length fun x st=>K (put {s with st} dst x)) ?_ ?_
  ·grind [execOp,resolve,Sem.run_bind,Result.andThen_ok]
  ·rintro e w' ⟨v,r,C',rfl,rfl,hP,hI',hr,he,hK⟩
   grind [cH.after]
 ·simp at hc
theorem JI{E}(p:aF E){e}(d:gn E.P e){C}(r:C.P=E.P)(i:Inv C){s a}(j:dh C s a){lo base}(hd:ij lo C a.defers)(l:base<=s.st.length)
  {F} (k:F=Fence.wide\/ ∃B,F=Fence.wide.inRound B) {n} {o:Oper} {K} (h:Qw E e s o.dst o.op K)
  {b Q} (g: ∀q t,cH lo base C K q t->b q t):o.wpIn F n E.P a C.w b Q:=by
 unfold Qw at h;split at h
 ·rename_i c x u
  obtain⟨rfl,v⟩:=ai.1 h;exact zD p r i j hd l k u v g
 ·split at h
  ·rename_i m
   split at h
   ·rename_i f
    exact zz i j hd l k m f h g
   grind
  ·split at h
   ·rename_i f
    exact yQ p d r i j hd l k f h g
   grind [yj]
theorem P5{b st st' p}(h:frm b st st' p):p:=by
 cases b
 ·exact h
 ·exact h.2
theorem JJ{E}(hE:aF E){rec}(hrec:gn E.P rec){C}(hC:C.P=E.P)(hI:Inv C){s a}(hs:dh C s a){lo base}(hd:ij lo C a.defers)(hb:base<=s.st.length)
  {F} (hF:F=Fence.wide\/ ∃B,F=Fence.wide.inRound B) {n} {o:Oper} {K} (h:vb E rec s o.dst o.op K)
  {next Q} (hn: ∀a' w',cH lo base C K a' w'->next a' w'):o.wpIn F n E.P a C.w next Q:=by
 unfold vb at h;split at h
 ·split at h
  ·rename_i g args hc
   refine yQ (K:=fun s'=>frm (v8 E.calm o.op&& !Js E g args s.st) s.st s'.st (K s')) hE hrec hC hI hs hd hb hF hc ?_ (fun a' w' ⟨C',s',g1,g2,g3,g4,g5,g6,g7,g8⟩=>hn a' w' ⟨C',s',g1,g2,g3,g4,g5,g6,g7,P5 g8⟩);have e: ∀(a:AV) (st:List Obj),(put {s with st:=st} o.dst a).st=st:=fun a st=>by cases o.dst<;>rfl
   simp only[e];exact h
  ·exact yj hC hI hs hd hb hF h hn
 ·split at h
  ·rename_i c x hr
   obtain⟨rfl,hK⟩:=ai.1 h;exact zD hE hC hI hs hd hb hF hr hK hn
  ·split at h
   ·rename_i hop
    split at h
    ·rename_i hc
     exact zz hI hs hd hb hF hop hc h hn
    ·exact h.elim
   ·exact h.elim
theorem wh: ∀ops j t,nY ops j=some t->∃o,ops[j]? =some o/\o.dst=some t
 |[],_,_,h=>by grind [nY]
 |o::_,0,t,h=>⟨o,rfl,h⟩
 |_::l,j+1,t,h=>by simpa using wh l j t h
theorem Gl{C s a}(c:dh C s a){ops j t b}(h:nY ops.toList j=some t)(d:nth s.bz t= .lit (.bool b)):yielded ops a.tmps j=some b:=by
 obtain⟨o,f,g⟩:=wh _ _ _ h;have e:=(Np c d).1
 grind [yielded]
theorem zF{C}:Rel C (.aK []) undef:=cM  (by rfl)
theorem Ea{C s a}(c:dh C s a){ops j t}(h:nY ops.toList j=some t)(f:nth s.bz t= .aK []):yielded ops a.tmps j=none:=by
 obtain⟨o,g,i⟩:=wh _ _ _ h;have b:t<s.bz.length:=by grind [iF]
 have d:=c.bz.2 t b;rw[f] at d;obtain⟨k,l,_⟩:=Bv d;have e:=Nat.lt_of_lt_of_le b (Nat.le_of_eq c.bz.1)
 simp_all[yielded]
def je ops(p:S->(S->Prop)->Prop)(o:Oper) s K:=
 match o.guard with
 |none=>p s K
 | some (j,a)=>
  match nY ops j with
  |none=>False
  |some t=>
   match nth s.bz t with
   | .lit (.bool b)=>if b=a then p s K else K (put s o.dst (.aK []))
   | .aK []=>K (put s o.dst (.aK []))
   |_=>False
theorem ef{E a ops o s K}:dI E a ops o s K↔je ops (fun s K=>vb E a s o.dst o.op K) o s K:=by
 grind [dI,je,an,pb]
theorem xk{E rec ops o l s K}:oZ E rec ops (o::l) s K↔je ops (fun s K=>Qw E rec s o.dst o.op K) o s fun s'=>oZ E rec ops l s' K:=by
 grind [oZ,je,an,pb]
theorem uE{E:Env}{C}(u:Inv C){s a}(l:dh C s a){lo base}(hd:ij lo C a.defers)(A:base<=s.st.length)
  {F} (z:F=Fence.wide\/ ∃B,F=Fence.wide.inRound B) {n ops i o} (H:ops[i]? =some o) {K p}
  {c Q} (I:p s K->o.wpIn F n E.P a C.w c Q) (v: ∀x y,cH lo base C K x y->c x y)
  (h:je ops.toList p o s K):wpOpIn F n E.P ops Q i c a C.w:=by
 unfold wpOpIn;rw[H];simp only[];unfold je at h;cases m:o.guard with
 |none=>
  simp_all[Region.wanted,yielded,if_pos]
 | some g=>
  obtain⟨j,k⟩:=g;rw[m] at h;simp only[] at h;split at h
  ·exact h.elim
  ·rename_i t D
   split at h
   ·rename_i b d
    have r:=Gl l D d;by_cases e:b=k
    ·simp_all[Region.wanted,yielded,if_pos]
    ·have q: ¬ Region.wanted o (yielded ops a.tmps)=true:=by simp[Region.wanted,m,r,e]
     rw[if_neg q];rw[if_neg e] at h
     exact⟨fun f _=>mG z f,v _ _ (cH.same u l hd A zF h)⟩
   ·rename_i d
    have r:=Ea l D d;have q: ¬ Region.wanted o (yielded ops a.tmps)=true:=by simp[Region.wanted,m,r]
    rw[if_neg q];exact⟨fun f _=>mG z f,v _ _ (cH.same u l hd A zF h)⟩
   ·exact h.elim
theorem cH.trans{lo base C C' K a w}(hP:C'.P=C.P)(he:Ext base C C')(h:cH lo base C' K a w):cH lo base C K a w:=by
 obtain⟨C2,s2,h1,h2,h3,h4,h5,h6,h7,h8⟩:=h;exact⟨_,_,h1,h2.trans hP,h3,h4,h5,h6,he.trans h7 (Nat.le_refl _),h8⟩
theorem xl{E}(hE:aF E){rec}(hrec:gn E.P rec){F}(hF:F=Fence.wide\/ ∃B,F=Fence.wide.inRound B){n ops K lo base}:
  ∀l k,ops.toList.drop k=l->∀{C},C.P=E.P->Inv C->∀{s a},dh C s a->ij lo C a.defers->base<=s.st.length->oZ E rec ops.toList l s K->
   ∀{Q},(∀a' w',cH lo base C K a' w'->Q .normal a' w')->wpOpsIn F n E.P ops Q (List.range' k l.length) a C.w
 |[],k,_,C,hC,hI,s,a,hs,hd,hb,h,Q,hQ=>by
  exact hQ _ _ ⟨C,s,rfl,rfl,hI,hs,hd,hb,Ext.refl C (by rw[hs.st];exact hb),h⟩
 | o::l,k,hk,C,hC,hI,s,a,hs,hd,hb,h,Q,hQ=>by
  have ho:=by
   have:(ops.toList.drop k)[0]? =some o:=by rw[hk];rfl
   simpa using this
  have hk':ops.toList.drop (k+1)=l:=by
   rw[←List.drop_drop,hk];rfl
  rw[xk] at h;have hn: ∀a' w',cH lo base C (fun s'=>oZ E rec ops.toList l s' K) a' w'->wpOpsIn F n E.P ops Q (List.range' (k+1) l.length) a' w':=by
   rintro a' w' ⟨C',s',rfl,hP',hI',hs',hd',hb',he,hK⟩;exact xl hE hrec hF l (k+1) hk' (hP'.trans hC) hI' hs' hd' hb' hK (fun a2 w2 h2=>hQ _ _ (h2.trans hP' he))
  exact uE hI hs hd hb hF ho (fun hp=>JI hE hrec hC hI hs hd hb hF hp hn) hn h
end Go.Dn
