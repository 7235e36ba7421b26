import Derived.Test.YtioeffnadipbaaaGreatDoorDnX
import Derived.RangeFuncNested
namespace Go.Dn
open Go
theorem Ext.len{n C C'}(h:Ext n C C'):n<=C'.st.length:=by
 rcases Nat.eq_zero_or_pos n with e|e
 ·omega
 ·have:=(h.refs (n - 1) (by omega)).lt;omega
def cO lo base C(K:S->Prop):=fun a' w'=>
 ∃C' s',C'.w=w'/\C'.P=C.P/\Inv C'/\dr C' s' a'/\iP lo C' a'.defers/\base<=s'.st.length/\Ext base C C'/\K s'
theorem Ql{C s a}(d:dr C s a){t v}(h:nth s.bF t= .lit v):a.tmps[t]? =some v/\bj v=true/\t<s.bF.length:=by
 rcases Nat.lt_or_ge t _ with c|c
 ·have b:=d.bF.2 t c
  rw[h] at b;have e:=a0 b;have f:=d.bF.1;have g:bj v=true:=by have:=b.2.2;grind [M]
  simp_all
 grind [gr]
theorem FC: ∀l i x,nth l i=x->i<l.length->bP l i x=l
 |[],_,_,_,h=>by rfl
 |a::l,0,x,h,_=>by grind [nth,bP]
 |a::l,i+1,x,h,b=>by simp[bP];rw[FC l i x h (by grind)]
theorem pO{s t b}(h:nth s.bF t= .lit (.bool b)):fa s (some t) b=s:=by
 have a:t<s.bF.length:=by grind [gr]
 simp_all[fa,FC]
theorem fD{s c b}(h:ev s c= .lit (.bool b)):fa s (tz c) b=s:=by
 cases c with
 |tmp t=>exact pO h
 |_=>rfl
theorem dr.ext{C C' n}(hI:Inv C){s a}(h:dr C s a)(he:Ext n C C')(hn:n=C.st.length):dr C' {s with st:=C'.st} a:=by
 subst hn;exact h.step hI he
theorem cO.after{lo base C K}(hI:Inv C){s a}(hs:dr C s a)(hd:iP lo C a.defers)(hb:base<=s.st.length){C'}(hP:C'.P=C.P)(hI':Inv C')(he:Ext C.st.length C C'){dst x v}(hr:Rel C' x v)
  (hK:K (put {s with st:=C'.st} dst x)):cO lo base C K (a.put dst v) C'.w:=by
 have hsl:s.st.length=C.st.length:=by rw[hs.st]
 refine⟨_,_,rfl,hP,hI',(hs.step hI he).put hr,?_,?_,he.mono (by omega),hK⟩
 ·have:(a.put dst v).defers=a.defers:=by cases dst<;>rfl
  rw[this];exact hd.ext he
 ·have:=he.len
  have e:(put {s with st:=C'.st} dst x).st=C'.st:=by cases dst<;>rfl
  grind
theorem cO.same{lo base C K}(d:Inv C){s a}(c:dr C s a)(hd:iP lo C a.defers)(e:base<=s.st.length){b x v}(f:Rel C x v)(g:K (put s b x)):cO lo base C K (a.put b v) C.w:=by
 refine cO.after d c hd e rfl d (Ext.refl C (Nat.le_refl _)) f ?_;rw[c.st];omega
def Lq:Op->Bool
 | .defer _=>true
 |_=>false
theorem qd{F}(g:F=Fence.wide\/ ∃B,F=Fence.wide.inRound B){n P o a w b Q}(hd:Lq o.op=false)
  {R} (h:jA F n P w R ((execOp a.eval o).run P w)) (k: ∀e d,R e d->∃v,e= .returned v/\b (a.put o.dst v) d):o.wpIn F n P a w b Q:=by
 refine⟨fun f _=>nj g f,?_⟩;rw[Oper.semAt_eq _ _ _ (by intro c j;rw[j] at hd;simp[Lq] at hd)];generalize (execOp a.eval o).run P w=r at h
 cases r with
 |halt x d=>simp[jA] at h
 | ok x d=>
  cases x<;>simp only[jA] at h<;>try exact h.elim
  ·obtain⟨rfl,h⟩:=h
   exact⟨pk g,h.mono fun e d l=>by obtain⟨v,rfl,i⟩:=k e d l;exact i⟩
  ·obtain⟨rfl,h⟩:=h
   exact⟨pk g,h.mono (by grind)⟩
theorem mF{F}(e:F=Fence.wide\/ ∃B,F=Fence.wide.inRound B){n P o a w c b Q}(hd:Lq o.op=false)
  {v} (h:(execOp a.eval o).run P w= .ok (.value v) c\/(execOp a.eval o).run P w= .ok .skip c/\v=undef) (d:b (a.put o.dst v) c):o.wpIn F n P a w b Q:=by
 refine⟨fun f _=>nj e f,?_⟩;rw[Oper.semAt_eq _ _ _ (by grind [Lq])];rcases h with h|⟨h,rfl⟩
 ·rw[h];exact d
 ·rw[h];exact d
theorem Ly{C k}(u:Inv C)(D:k.P=C.P)(r:Inv k){x v}(H:Rel k x v)(s:refs x=[])(n:Ext 0 C.bare k):
  ∃d,d.w=k.w/\d.P=C.P/\Inv d/\Ext C.st.length C d/\d.st=C.st/\Rel d x v:=by
 have p: ∀b,¬ Own C.bare b:=fun b ⟨i,g,_⟩=>by simp[Ctx.bare] at g
 have E:iQ C.w k.w:=⟨n.size,n.os,n.tape,n.output,fun b a=>n.frame b a (p b)⟩
 obtain⟨J,f⟩:=pr u E
 let A:Ctx:={C with w:=k.w}
 have c:Inv A:=J
 let X:Nat->Prop:=fun b=>C.w.heap.size<=b/\k.X b
 let d:Ctx:={A with X:=fun b=>A.X b\/X b}
 have F: ∀b,Own A b-> ¬ X b:=fun b t q=>by
  have:b<C.w.heap.size:=(u.dG (show Own C b from t)).1
  have:=q.1;omega
 have K: ∀b,A.cls b≠b-> ¬ X b:=fun b B q=>by
  have:=(u.oX b B).1
  have:=q.1;omega
 have I: ∀b,X b->b<A.w.heap.size:=fun b q=>r.xs b q.2
 have z:bW A d:=⟨rfl,fun _ h=> .inl h,fun _ _=>rfl⟩
 have e: ∀i,i<A.st.length->cj A d i i:=fun i g=>eQ c g g rfl rfl (fun _ _ _=>⟨rfl,rfl,rfl⟩)
 have y:Inv d:=⟨c.lay,fun j m=>(c.obj j m).gI z c.lay (fun j m _=>e j m) (c.fz j m) ⟨fun b t a=>⟨fun s=>s.elim (c.dG ⟨j,m,t,a.symm⟩).2 (F b ⟨j,m,t,a.symm⟩),rfl⟩,fun _ _=>⟨Iff.rfl,fun _=>rfl⟩,er.refl _,Nat.le_refl _,fun _ _=>rfl⟩,
  c.tH,fun b a=>a.elim (c.xs b) (I b),c.fz,fun b a=>⟨(c.oX b a).1,fun s=>s.elim (c.oX b a).2.1 (K b a),(c.oX b a).2.2⟩,c.mo z⟩
 have l:bW k d:=⟨D.symm,fun b a=>by
  rcases n.rH b a with h|h|h
  ·left
   obtain⟨o,h⟩:=Option.isSome_iff_exists.1 (show(C.P.kept b).isSome=true from h);exact(u.kept b o h).1
  ·exact absurd h (p b)
  ·exact .inr ⟨h,a⟩,fun _ _=>rfl⟩
 refine⟨d,rfl,rfl,y,⟨f.keeps.trans z,f.size,f.os,f.tape,f.output,f.frame,fun b a=>?_,f.gT,fun i g=>(f.refs i g).trans (e i g),f.cls,f.mX⟩,rfl,?_⟩
 ·grind
 ·have:=H.move l r.lay some (fun i g=>by rw[s] at g;simp at g)
  rwa [lR] at this
theorem A3{E}(H:aE E){C}(r:C.P=E.P)(j:Inv C){s a}(i:dr C s a){lo base}(hd:iP lo C a.defers)(A:base<=s.st.length)
  {F} (q:F=Fence.wide\/ ∃B,F=Fence.wide.inRound B) {n} {o:Oper} {x K} (h:bM E s o.op=some (true,x)) (z:K (put s o.dst x))
  {d Q} (t: ∀J b,cO lo base C K J b->d J b):o.wpIn F n E.P a C.w d Q:=by
 have g:Lq o.op=false:=by
  cases O:o.op<;>try rfl
  rw[O] at h;simp[bM] at h
 rcases HY H.prog H.iI r j i h with⟨v,c,l⟩|⟨f,m,u,c,rfl,l,p⟩|⟨f,m,c,l,p⟩
 ·rw[r] at c
  exact mF q g (.inl c) (t _ _ (cO.same j i hd A l z))
 ·rw[r] at c p
  refine qd q g (R:=fun e b=>e= .returned u/\iQ C.w b) ?_ ?_
  ·rw[c];exact⟨rfl,mb q p⟩
  ·rintro e b ⟨rfl,T⟩
   obtain⟨W,N⟩:=pr j T;refine⟨u,rfl,t _ _ (cO.after (C':={C with w:=b}) j i hd A rfl W N (a9 l) ?_)⟩;show K (put {s with st:=C.st} o.dst (.lit u))
   rw[i.st];exact z
 ·rw[r] at c p
  refine qd q g (R:=fun e b=>∃v k,e= .returned v/\k.w=b/\k.P=C.P/\Inv k/\Rel k x v/\Ext 0 C.bare k) ?_ ?_
  ·rw[c];exact⟨rfl,mb q p⟩
  ·rintro e b ⟨v,k,rfl,rfl,y,D,U,V⟩
   obtain⟨I,X,Y,Z,k4,k5,L⟩:=Ly j y D U l V;rw[←X];refine⟨v,rfl,t _ _ (cO.after (C':=I) j i hd A Y Z k4 L ?_)⟩;show K (put {s with st:=I.st} o.dst x)
   rw[k5,i.st];exact z
theorem AX{E:Env}{C}(h:Inv C){s a}(e:dr C s a){lo base}(hd:iP lo C a.defers)(i:base<=s.st.length)
  {F} (k:F=Fence.wide\/ ∃B,F=Fence.wide.inRound B) {n} {o:Oper} {K c x y t} (l:o.op= .pick c x y) (g:ev s c= .lit (.bool t))
  (f:aq t (K (put (fa s (tz c) true) o.dst (ev s x))) (K (put (fa s (tz c) false) o.dst (ev s y))))
  {b Q} (j: ∀p m,cO lo base C K p m->b p m):o.wpIn F n E.P a C.w b Q:=by
 have d:=bz e c;rw[g] at d;have d:=a0 d;cases t with
 |true=>
  rw[fD g] at f;refine mF k (by rw[l];rfl) (.inl ?_) (j _ _ (cO.same h e hd i (bz e x) f))
  simp_all[execOp,asBool]
 |false=>
  rw[fD g] at f;refine mF k (by rw[l];rfl) (.inl ?_) (j _ _ (cO.same h e hd i (bz e y) f))
  simp_all[execOp,asBool]
theorem zy{E:Env}{C}(hC:C.P=E.P)(hI:Inv C){s a}(hs:dr C s a){lo base}(hd:iP lo C a.defers)(hb:base<=s.st.length)
  {F} (hF:F=Fence.wide\/ ∃B,F=Fence.wide.inRound B) {n} {o:Oper} {K} (h:cy E.P s o.dst o.op K)
  {next Q} (hn: ∀a' w',cO lo base C K a' w'->next a' w'):o.wpIn F n E.P a C.w next Q:=by
 have hdf:Lq o.op=false:=by
  cases ho:o.op<;>try rfl
  grind [cy]
 rw[←hC] at h;obtain⟨v,w',h1,C',s',rfl,h3,h4,h5,h6,h7⟩:=DL hI hs h;rw[hC] at h1;have hsl:s.st.length=C.st.length:=by rw[hs.st]
 refine mF hF hdf h1 (hn _ _ ⟨C',s',rfl,h3,h4,h5,?_,?_,h6.mono (by omega),h7⟩)
 ·have:(a.put o.dst v).defers=a.defers:=by cases o.dst<;>rfl
  rw[this];exact hd.ext h6
 ·have:=h6.len
  rw[←h5.st];omega
theorem sk{F n P w R b r}(h:jA F n P w R r)(c: ∀e a,R e a->b e a):jA F n P w b r:=by
 cases r with
 |ok x a=>
  cases x<;>try exact h.elim
  ·exact⟨h.1,h.2.mono c⟩
  ·exact⟨h.1,h.2.mono c⟩
 |halt x a=>grind [jA]
theorem sD{E d}(b:gC E.P d){f a st K}(h:nX E d f a st K){C}(k:C.P=E.P)(n:Inv C)(e:C.st=st){j}(l:MT C a j.toList):
  (∃i,E.P.funcs[f]? =some i/\i.body.isSome=true)/\CallsIn Fence.wide 0 E.P f j C.w (ff C C.st.length K):=by
 unfold nX at h;split at h
 ·rename_i i g
  split at h
  ·rename_i c m
   refine⟨by grind,?_⟩;subst e;exact xg g m k n l (b _ _ _ _ _ _ h) 0
  grind
 grind
theorem AW{C}: ∀ps f e c b,MT C f e->hJ C c b->
  hJ C (lp ps f c) ((ps.zip e).foldl (fun b x=>b.setIfInBounds x.1 x.2) b)
 |[],f,e,c,b,_,g=>by simp_all[lp]
 |p::ps,[],e,c,b,d,g=>by
  simp_all[MT,lp]
 |p::ps,a::f,[],c,b,d,g=>by grind [MT]
 |p::ps,a::f,v::e,c,b,d,g=>by
  exact AW _ _ e _ _ d.2.2.2 (g.put ⟨d.1,d.2.1,d.2.2.1⟩)
theorem Pc{C}(q:Inv C){l r}(u:ay C.st l= .loop r) st f:
  ∃c,C.w.heap[(C.ι l).block]? =some (.loop c)/\GA C r c/\
   Inv (C.eD l (.loop {r with state:=st,pending:=f}) (C.w.putObj (C.ι l).block (.loop {c with state:=st,pending:=f})))/\
   Ext C.st.length C (C.eD l (.loop {r with state:=st,pending:=f}) (C.w.putObj (C.ι l).block (.loop {c with state:=st,pending:=f}))):=by
 have j:l<C.st.length:=by
  grind [Nat.lt_or_ge,fk]
 have y:=q.obj l j;rw[u] at y;obtain⟨x,c,v,o⟩:=y;have k:(C.ι l).block<C.w.heap.size:=(Array.getElem?_eq_some_iff.1 v).1;refine⟨c,v,o,?_⟩;have d: ∀b,b≠(C.ι l).block->(C.w.putObj (C.ι l).block (.loop {c with state:=st,pending:=f})).heap[b]? =C.w.heap[b]? :=fun b k=>World.putObj_heap_other k
 have B:bW C (C.eD l (.loop {r with state:=st,pending:=f}) _):=
  ⟨rfl,fun _ h=>h,fun b k=>d b (fun e=>x (e▸k))⟩
 have z:(C.eD l (.loop {r with state:=st,pending:=f}) (C.w.putObj (C.ι l).block (.loop {c with state:=st,pending:=f}))).st.length=C.st.length:=bc _ _ _;have A:cj C (C.eD l (.loop {r with state:=st,pending:=f}) (C.w.putObj (C.ι l).block (.loop {c with state:=st,pending:=f}))) l l:=by
  have D:ay (C.eD l _ (C.w.putObj (C.ι l).block (.loop {c with state:=st,pending:=f}))).st l= .loop {r with state:=st,pending:=f}:=bw _ _ _ j;refine⟨by omega,fun T xs g=>?_,fun T a g=>?_,fun K V J g=>?_,fun N g=>⟨r,u,rfl⟩,fun m n F g=>?_,fun t g=>?_,fun s p g=>?_,fun K V F L I g=>?_,fun T E O f g=>?_⟩<;>rw[D] at g<;>cases g
 refine jj q j (by rw[u];rfl) World.putObj_size ⟨rfl,rfl,rfl⟩ d A ?_;refine⟨x,_,World.putObj_heap_same k,⟨rfl,rfl,o.params,o.assign,o.body,?_⟩⟩;refine o.bF.gI B q.lay (fun i H=>?_);by_cases e:l=i
 ·subst e;exact A
 ·exact yX q j (by rw[u];rfl) d H e
theorem AG{C}(hI:Inv C){l r}(hl:ay C.st l= .loop r) st pd:
  ∃rec C',C.w.heap[(C.ι l).block]? =some (.loop rec)/\GA C r rec/\C'.w=C.w.putObj (C.ι l).block (.loop {rec with state:=st,pending:=pd})/\C'.st=dv C.st l (.loop {r with state:=st,pending:=pd})/\C'.P=C.P/\C'.ι=C.ι/\
   Inv C'/\Ext C.st.length C C':=by
 obtain⟨rec,h1,h2,h3,h4⟩:=Pc hI hl _ _;exact⟨_,C.eD l _ _,h1,h2,rfl,rfl,rfl,rfl,h3,h4⟩
theorem v9{F}(a:F=Fence.wide\/ ∃B,F=Fence.wide.inRound B) l:F.inRound l=Fence.wide.inRound l:=by
 rcases a with rfl|⟨B,rfl⟩<;>rfl
theorem vE{E:Env}{L}(s:gC E.P L){l i st K}(h:gx L l i st K){C}(hC:C.P=E.P)(hI:Inv C)(hst:C.st=st){J}(hm:MT C i J.toList)
  {F} (hF:F=Fence.wide\/ ∃B,F=Fence.wide.inRound B) n:jA F n E.P C.w (ff C C.st.length K) ((Instr.yield (C.ι l).block J).run E.P C.w)/\∃r,ay C.st l= .loop r:=by
 subst hst;unfold gx at h;split at h
 ·rename_i r W
  split at h
  ·rename_i hc
   refine⟨?_,r,W⟩;have k:l<C.st.length:=by
    rcases Nat.lt_or_ge l C.st.length with h|h
    ·exact h
    ·rw[fk _ _ h] at W;cases W
   have ho:=hI.obj l k;rw[W] at ho;obtain⟨hX,c,h1,R⟩:=ho;have U:=qf _ _ hm;have hsz:J.size=c.params.size:=by rw[R.params,hc.2,←U];simp
   rw[run_yield h1 hsz];refine⟨rfl,?_⟩;rw[R.assign,R.body];have A:hJ C (lp r.params.toList i r.bF) ((c.params.zip J).foldl (fun tmps (t,a)=>tmps.setIfInBounds t a) c.tmps):=by
    have:=AW r.params.toList i J.toList r.bF c.tmps hm R.bF
    rw[R.params];rw[←Array.foldl_toList,Array.toList_zip];exact this
   refine roundIn_of_wpIn (nj hF _) ?_;rw[v9 hF];have hs0:=s _ _ _ _ _ _ h C {tmps:=(c.params.zip J).foldl (fun tmps (t,a)=>tmps.setIfInBounds t a) c.tmps,defers:=[]} (Fence.wide.inRound (C.ι l).block) (n - 1) 0 hC hI ⟨rfl,A⟩ ⟨fun d hd=>by simp at hd,by simp⟩ (Nat.zero_le _) (Nat.le_refl _) ⟨k,_,rfl,fun _ _=>rfl⟩;refine wpIn_mono hs0 ?_;rintro e a1 w1 ⟨C1,s1,rfl,N,V,D,hd1,hb1,y,f⟩;cases e<;>simp only[] at f<;>try exact f.elim
   split at f
   ·rename_i Y z
    split at f
    ·rename_i o
     rw[←D.st] at z;obtain⟨Q,C2,k1,k2,k3,k4,k5,k6,k7,X⟩:=AG V z .busy Y.pending;have q:(C1.ι l).block=(C.ι l).block:=by
      obtain⟨r0,_,e⟩:=(y.refs l k).loop Y z;rw[e]
     have hpd:Q.pending=Y.pending:=k2.pending;have m:C.st.length<=C1.st.length:=y.len;have hlen2:C.st.length<=C2.st.length:=Nat.le_trans m X.len;refine⟨C2.w,?_,?_⟩
     ·rw[run_beginRound (q▸k1) (k2.state.trans o),k3,q,←hpd]
     have hs2:=s _ _ _ _ _ _ f C2 a1 (Fence.wide.inRound (C.ι l).block) (n - 1) 0 (k5.trans (N.trans hC)) k7
      (by have:=D.step V X;rw[k4,D.st] at this;exact this) (hd1.ext X) (Nat.zero_le _) (by show C.st.length<=(dv s1.st l _).length;rw[bc];exact hb1)
      ⟨k,_,rfl,fun _ _=>by rw[k6];exact q⟩
     refine wpIn_mono hs2 ?_;rintro Z a2 w2 ⟨C3,s3,rfl,hP3,hI3,T,hd3,hb3,O,g⟩;split at g
     ·rename_i r2 H
      rw[←T.st] at H;have x:(C3.ι l).block=(C.ι l).block:=by
       obtain⟨r0,_,e⟩:=(O.refs l k).loop r2 H;rw[e,k6];exact q
      have u:Ext C.st.length C C3:=y.trans ((X.mono m).trans O (Nat.le_refl _)) (Nat.le_refl _);have I: ∀(j:Option Code) (b:Bool) (p:LoopState),p=(if j.isNone then .ready else .done)->b=j.isNone->K (.lit (.bool b)) (dv s3.st l (.loop {r2 with state:=p,pending:=j}))->
        ∃v w',(Instr.endRound (C.ι l).block j).run E.P C3.w= .ok v w'/\ff C C.st.length K (.returned v) w':=by
       intro j b p e1 Z hk;obtain⟨rec2,C4,m1,m2,m3,m4,m5,m6,m7,m8⟩:=AG hI3 H p j;rw[x] at m1;refine⟨.bool b,C4.w,?_, .bool b, .lit (.bool b),C4,rfl,rfl,m5.trans (hP3.trans (k5.trans N)),m7,a9 rfl,u.trans (m8.mono u.len) (Nat.le_refl _),?_⟩
       ·rw[run_endRound j m1,m3,x,e1,Z]
       ·rw[m4,T.st];exact hk
      cases Z<;>simp only[] at g<;>try exact g.elim
      ·exact I none true .ready rfl rfl g
      ·exact I (some (.exit _)) false .done rfl rfl g
      ·exact I (some .ret) false .done rfl rfl g
     ·exact g.elim
    ·exact f.elim
   ·exact f.elim
  ·exact h.elim
 ·exact h.elim
theorem zV{C}: ∀l m c b,MT C l c->MT C m b->MT C (l++m) (c++b)
 |[],m,c,b,h,d=>by grind [MT]
 |_::_,_,[],_,h,_=>by grind [MT]
 |a::l,m,v::c,b,h,d=>by
  exact⟨h.1,h.2.1,h.2.2.1,zV l m _ _ h.2.2.2 d⟩
theorem xG: ∀b st l t,ay st l= .ext t->ay (cV st b) l= .ext t
 |[],_,_,_,h=>h
 | i::b,st,l,t,h=>by
  refine xG b _ l t ?_;by_cases e:i=l
  ·subst e
   have a:i<st.length:=by
    grind [fk]
   rw[bw _ _ _ a,h];rfl
  grind [bJ]
theorem Ma{l}(h:Py l=true):l=[]:=by grind [Py]
theorem Tp{C}(v:Inv C){l t k}(o:ay C.st l= .ext t){w e}(g:C.mX (C.ι l).block k e C.X w)(z:er C.w w)(y:C.w.heap.size<=w.heap.size)
  (B: ∀b,b<C.w.heap.size->C.cls b≠(C.ι l).block->w.heap[b]? =C.w.heap[b]?) (H: ∀b,C.cls b=(C.ι l).block->e b) (N: ∀b,e b->C.cls b=(C.ι l).block\/C.w.heap.size<=b) (D: ∀b,e b->b<w.heap.size):
  ∃C',C'.w=w/\C'.P=C.P/\C'.st=dv C.st l (.ext k)/\Inv C'/\Ext C.st.length C C':=by
 classical
 have d:l<C.st.length:=by
  rcases Nat.lt_or_ge l C.st.length with h|h
  ·exact h
  ·rw[fk _ _ h] at o;cases o
 have f:cC (C.ι l) (ay C.st l)=true:=by rw[o];rfl
 have q:=v.obj l d;rw[o] at q;obtain⟨J,Y,_,j⟩:=q;have A:=v.fz l d f
 let a:Nat->Nat:=fun b=>if e b then(C.ι l).block else C.cls b
 have u: ∀b,a b=(C.ι l).block↔e b:=fun b=>by
  grind
 have i: ∀b,b<C.w.heap.size->a b=C.cls b:=fun b x=>by
  grind
 let C':Ctx:={C with st:=dv C.st l (.ext k),w:=w,cls:=a}
 have I:ay C'.st l= .ext k:=bw _ _ _ d;have F:cj C C' l l:=by
  refine⟨by show l<(dv _ _ _).length;rw[bc];exact d,fun T xs c=>?_,fun T b c=>?_,fun K V Q c=>?_,fun r c=>?_,fun m n O c=>?_,fun t c=>⟨_,o,rfl⟩,fun s p c=>?_,fun K V O W L c=>?_,fun T E R U c=>?_⟩<;>rw[I] at c<;>first|(simp[iL] at c;done)|cases c
 have:=KO (C':=C') v d f rfl rfl rfl rfl rfl y z B (fun b x=>⟨i b x,rfl⟩) (fun b x=>by
  by_cases h:e b
  ·exact .inr ⟨if_pos h,D b h⟩
  ·exact .inl ⟨(if_neg h).trans (v.fresh x),rfl⟩) F (by
  refine⟨J,by show(C.ι l).block<w.heap.size;omega,?_,j⟩;show C.mX (C.ι l).block k (fun b=>a b=(C.ι l).block) C.X w
  rw[show(fun b=>a b=(C.ι l).block)=e from funext fun b=>propext (u b)];exact g)
 exact⟨C',rfl,rfl,rfl,this.1,this.2⟩
theorem Ge{l t c st K}(h:DM l t c st K){C}(O:Inv C)(z:C.st=st)(D:ay C.st l= .ext t){J}(W:MT C c J.toList)
  {F} (Z:F=Fence.wide\/ ∃B,F=Fence.wide.inRound B) n:jA F n C.P C.w (ff C C.st.length K) ((Instr.yield (C.ι l).block J).run C.P C.w):=by
 unfold DM at h;split at h
 ·rename_i xs H I o
  obtain⟨Y,d,rfl,k,m⟩:=ai.1 h;rw[←z] at o k m;obtain⟨g,Q,E,y,x,j,f6⟩:=nq I O;have A:=sI O j E _ H I _ o (fun i hi a D=>f6 i hi a D) W;have f:ay g.st l= .ext (some (.aH H::d)):=by rw[Q];exact xG I _ _ _ D
  have a:l<g.st.length:=by
   grind [Nat.lt_or_ge,fk]
  have q:cC (g.ι l) (ay g.st l)=true:=by rw[f];rfl
  have s:=x.obj l a;rw[f] at s;obtain⟨hX,hB,p,u⟩:=s;have N:=u.call H d _ g.X g.w J F n p Z x.xs (fun b v=>x.dG ⟨l,a,q,v.symm⟩) (Ma Y) ⟨g,rfl,rfl,rfl,A⟩;rw[y,E,j.keeps.P] at N;refine sk N ?_;rintro e w' ⟨r,O',rfl,R,T,U,V,p5,p6,p7⟩;rw[←y] at R;rw[←E] at T U V p6;obtain⟨C2,g1,g2,g3,g4,g5⟩:=Tp x f R T U (fun b v L=>V b v (by rw[←y];exact L)) (fun b v=>p5 b (by rw[←y];exact v)) (by grind) p7;refine⟨.bool r, .lit (.bool r),C2,rfl,g1,g2.trans j.keeps.P,g4,a9 rfl,j.trans (g5.mono j.len) (Nat.le_refl _),?_⟩;rw[g3,Q];cases r
  ·exact m
  ·exact k
 ·exact h.elim
theorem GU{E}(z:aE E){x}(c:gC E.P x){g args st K}(h:o9 E x g args st K){C}(q:C.P=E.P)(s:Inv C)(a:C.st=st)
  {V b} (L:Rel C g V) (T:MT C args b.toList) {F} (J:F=Fence.wide\/ ∃B,F=Fence.wide.inRound B) n:
  ∃d,(Deferred.ofValue V b).run E.P C.w= .ok d C.w/\jA F n E.P C.w (ff C C.st.length K) ((invoke d.target d.args).run E.P C.w):=by
 unfold o9 at h;split at h
 ·rename_i f u
  obtain⟨o,rfl,A⟩:=wN L;have k:MT C (args++u) (b++o).toList:=by
   rw[Array.toList_append];exact zV _ _ _ _ T A
  refine⟨{target:= .fn (.func f) o,args:=b},by simp[Deferred.ofValue],?_⟩;have m: ∀{R:Ending->World->Prop},((∃fn,E.P.funcs[f]? =some fn/\fn.body.isSome=true)/\CallsIn Fence.wide 0 E.P f (b++o) C.w R)->jA F n E.P C.w R ((invoke (.fn (.func f) o) b).run E.P C.w):=by
   rintro R ⟨⟨fn,D,I⟩,Z⟩;have:(invoke (.fn (.func f) o) b).run E.P C.w= .ok (.enter f (b++o)) C.w:=by
    simp only[invoke];exact k9 z.prog D I _
   rw[this];exact⟨rfl,mb J Z⟩
  split at h
  ·exact m (sD c h q s a k)
  ·split at h
   ·exact m (pZ z h q s a k)
   ·split at h
    ·rename_i as Y j
     rw[←a] at j h;obtain⟨W,f1,X,f3,U,p,f6⟩:=nq Y s;have y:=wF U (nz E.P f) _ _ (sI s p X _ as Y _ j (fun i hi H j=>f6 i hi H j) k);rw[show W.P=E.P from p.P.trans q] at y;obtain⟨k1,k2⟩:=pZ z h (p.P.trans q) U f1 y;refine m ⟨k1,?_⟩;rw[←X];refine k2.mono ?_;rintro e w' ⟨v,r,C',rfl,hw,hP,O,N,he,hK⟩;have Q:C.st.length<=W.st.length:=p.len;exact⟨v,r,C',rfl,hw,hP.trans p.P,O,N,p.trans (he.mono Q) (Nat.le_refl _),hK⟩
    ·exact h.elim
 ·rename_i l
  split at h
  ·rename_i t j
   rw[←a] at j;have:=(CX L).2.2 t j
   subst this;refine⟨{target:= .fn (.yield (C.ι l).block) #[],args:=b},by simp[Deferred.ofValue],?_⟩;simp only[invoke];rw[←q];exact Ge h s a j T J n
  ·obtain⟨D,I⟩:=vE c h q s a T J n
   obtain⟨r,N⟩:=I;have:=(CX L).2.1 r N
   subst this;refine⟨{target:= .fn (.yield (C.ι l).block) #[],args:=b},by simp[Deferred.ofValue],?_⟩;simp only[invoke];exact D
 ·exact h.elim
theorem Ag{E}(hE:aE E){rec}(hrec:gC E.P rec){C}(hC:C.P=E.P)(hI:Inv C){s a}(hs:dr C s a){lo base}(hd:iP lo C a.defers)(hb:base<=s.st.length)
  {F} (hF:F=Fence.wide\/ ∃B,F=Fence.wide.inRound B) {n} {o:Oper} {g args K} (hc:ic s o.op=some (g,args)) (h:o9 E rec g args s.st fun x st=>K (put {s with st} o.dst x))
  {next Q} (hn: ∀a' w',cO lo base C K a' w'->next a' w'):o.wpIn F n E.P a C.w next Q:=by
 obtain⟨dst,op,type,pos,after,guard⟩:=o;simp only at hc;unfold ic at hc;split at hc
 ·rename_i gv ags ats
  obtain⟨rfl,rfl⟩:=hc;have hmt:MT C (pj s ags.toList) (ags.map a.eval).toList:=by
   simp_all[wD]
  obtain⟨d,h1,h2⟩:=GU hE hrec h hC hI hs.st (bz hs gv) hmt hF n;refine qd hF rfl (R:=ff C C.st.length fun x st=>K (put {s with st} dst x)) ?_ ?_
  ·grind [execOp,resolve,Sem.run_bind,Result.andThen_ok]
  ·rintro e w' ⟨v,r,C',rfl,rfl,hP,hI',hr,he,hK⟩
   grind [cO.after]
 ·simp at hc
theorem Mg{E}(p:aE E){e}(d:gC E.P e){C}(r:C.P=E.P)(i:Inv C){s a}(j:dr C s a){lo base}(hd:iP lo C a.defers)(l:base<=s.st.length)
  {F} (k:F=Fence.wide\/ ∃B,F=Fence.wide.inRound B) {n} {o:Oper} {K} (h:T8 E e s o.dst o.op K)
  {b Q} (g: ∀q t,cO lo base C K q t->b q t):o.wpIn F n E.P a C.w b Q:=by
 unfold T8 at h;split at h
 ·rename_i c x u
  obtain⟨rfl,v⟩:=ai.1 h;exact A3 p r i j hd l k u v g
 ·split at h
  ·rename_i m
   split at h
   ·rename_i f
    exact AX i j hd l k m f h g
   grind
  ·split at h
   ·rename_i f
    exact Ag p d r i j hd l k f h g
   grind [zy]
theorem Tx{b st st' p}(h:frm b st st' p):p:=by
 cases b
 ·exact h
 ·exact h.2
theorem Mh{E}(hE:aE E){rec}(hrec:gC E.P rec){C}(hC:C.P=E.P)(hI:Inv C){s a}(hs:dr C s a){lo base}(hd:iP lo C a.defers)(hb:base<=s.st.length)
  {F} (hF:F=Fence.wide\/ ∃B,F=Fence.wide.inRound B) {n} {o:Oper} {K} (h:wk E rec s o.dst o.op K)
  {next Q} (hn: ∀a' w',cO lo base C K a' w'->next a' w'):o.wpIn F n E.P a C.w next Q:=by
 unfold wk at h;split at h
 ·split at h
  ·rename_i g args hc
   refine Ag (K:=fun s'=>frm (xj E.calm o.op&& !LZ E g args s.st) s.st s'.st (K s')) hE hrec hC hI hs hd hb hF hc ?_ (fun a' w' ⟨C',s',g1,g2,g3,g4,g5,g6,g7,g8⟩=>hn a' w' ⟨C',s',g1,g2,g3,g4,g5,g6,g7,Tx g8⟩);have e: ∀(a:AV) (st:List Obj),(put {s with st:=st} o.dst a).st=st:=fun a st=>by cases o.dst<;>rfl
   simp only[e];exact h
  ·exact zy hC hI hs hd hb hF h hn
 ·split at h
  ·rename_i c x hr
   obtain⟨rfl,hK⟩:=ai.1 h;exact A3 hE hC hI hs hd hb hF hr hK hn
  ·split at h
   ·rename_i hop
    split at h
    ·rename_i hc
     exact AX hI hs hd hb hF hop hc h hn
    ·exact h.elim
   ·exact h.elim
theorem xt: ∀ops j t,oH ops j=some t->∃o,ops[j]? =some o/\o.dst=some t
 |[],_,_,h=>by grind [oH]
 |o::_,0,t,h=>⟨o,rfl,h⟩
 |_::l,j+1,t,h=>by simpa using xt l j t h
theorem IM{C s a}(c:dr C s a){ops j t b}(h:oH ops.toList j=some t)(d:nth s.bF t= .lit (.bool b)):yielded ops a.tmps j=some b:=by
 obtain⟨o,f,g⟩:=xt _ _ _ h;have e:=(Ql c d).1
 grind [yielded]
theorem A5{C}:Rel C (.aH []) undef:=cU  (by rfl)
theorem Gf{C s a}(c:dr C s a){ops j t}(h:oH ops.toList j=some t)(f:nth s.bF t= .aH []):yielded ops a.tmps j=none:=by
 obtain⟨o,g,i⟩:=xt _ _ _ h;have b:t<s.bF.length:=by grind [gr]
 have d:=c.bF.2 t b;rw[f] at d;obtain⟨k,l,_⟩:=CW d;have e:=Nat.lt_of_lt_of_le b (Nat.le_of_eq c.bF.1)
 simp_all[yielded]
def jF ops(p:S->(S->Prop)->Prop)(o:Oper) s K:=
 match o.guard with
 |none=>p s K
 | some (j,a)=>
  match oH ops j with
  |none=>False
  |some t=>
   match nth s.bF t with
   | .lit (.bool b)=>if b=a then p s K else K (put s o.dst (.aH []))
   | .aH []=>K (put s o.dst (.aH []))
   |_=>False
theorem eM{E a ops o s K}:eb E a ops o s K↔jF ops (fun s K=>wk E a s o.dst o.op K) o s K:=by
 grind [eb,jF,aq,pO]
theorem yx{E rec ops o l s K}:pI E rec ops (o::l) s K↔jF ops (fun s K=>T8 E rec s o.dst o.op K) o s fun s'=>pI E rec ops l s' K:=by
 grind [pI,jF,aq,pO]
theorem vo{E:Env}{C}(u:Inv C){s a}(l:dr C s a){lo base}(hd:iP lo C a.defers)(A:base<=s.st.length)
  {F} (z:F=Fence.wide\/ ∃B,F=Fence.wide.inRound B) {n ops i o} (H:ops[i]? =some o) {K p}
  {c Q} (I:p s K->o.wpIn F n E.P a C.w c Q) (v: ∀x y,cO lo base C K x y->c x y)
  (h:jF ops.toList p o s K):wpOpIn F n E.P ops Q i c a C.w:=by
 unfold wpOpIn;rw[H];simp only[];unfold jF at h;cases m:o.guard with
 |none=>
  simp_all[Region.wanted,yielded,if_pos]
 | some g=>
  obtain⟨j,k⟩:=g;rw[m] at h;simp only[] at h;split at h
  ·exact h.elim
  ·rename_i t D
   split at h
   ·rename_i b d
    have r:=IM l D d;by_cases e:b=k
    ·simp_all[Region.wanted,yielded,if_pos]
    ·have q: ¬ Region.wanted o (yielded ops a.tmps)=true:=by simp[Region.wanted,m,r,e]
     rw[if_neg q];rw[if_neg e] at h
     exact⟨fun f _=>nj z f,v _ _ (cO.same u l hd A A5 h)⟩
   ·rename_i d
    have r:=Gf l D d;have q: ¬ Region.wanted o (yielded ops a.tmps)=true:=by simp[Region.wanted,m,r]
    rw[if_neg q];exact⟨fun f _=>nj z f,v _ _ (cO.same u l hd A A5 h)⟩
   ·exact h.elim
theorem cO.trans{lo base C C' K a w}(hP:C'.P=C.P)(he:Ext base C C')(h:cO lo base C' K a w):cO lo base C K a w:=by
 obtain⟨C2,s2,h1,h2,h3,h4,h5,h6,h7,h8⟩:=h;exact⟨_,_,h1,h2.trans hP,h3,h4,h5,h6,he.trans h7 (Nat.le_refl _),h8⟩
theorem yy{E}(hE:aE E){rec}(hrec:gC E.P rec){F}(hF:F=Fence.wide\/ ∃B,F=Fence.wide.inRound B){n ops K lo base}:
  ∀l k,ops.toList.drop k=l->∀{C},C.P=E.P->Inv C->∀{s a},dr C s a->iP lo C a.defers->base<=s.st.length->pI E rec ops.toList l s K->
   ∀{Q},(∀a' w',cO lo base C K a' w'->Q .normal a' w')->wpOpsIn F n E.P ops Q (List.range' k l.length) a C.w
 |[],k,_,C,hC,hI,s,a,hs,hd,hb,h,Q,hQ=>by
  exact hQ _ _ ⟨C,s,rfl,rfl,hI,hs,hd,hb,Ext.refl C (by rw[hs.st];exact hb),h⟩
 | o::l,k,hk,C,hC,hI,s,a,hs,hd,hb,h,Q,hQ=>by
  have ho:=by
   have:(ops.toList.drop k)[0]? =some o:=by rw[hk];rfl
   simpa using this
  have hk':ops.toList.drop (k+1)=l:=by
   rw[←List.drop_drop,hk];rfl
  rw[yx] at h;have hn: ∀a' w',cO lo base C (fun s'=>pI E rec ops.toList l s' K) a' w'->wpOpsIn F n E.P ops Q (List.range' (k+1) l.length) a' w':=by
   rintro a' w' ⟨C',s',rfl,hP',hI',hs',hd',hb',he,hK⟩;exact yy hE hrec hF l (k+1) hk' (hP'.trans hC) hI' hs' hd' hb' hK (fun a2 w2 h2=>hQ _ _ (h2.trans hP' he))
  exact vo hI hs hd hb hF ho (fun hp=>Mg hE hrec hC hI hs hd hb hF hp hn) hn h
end Go.Dn
