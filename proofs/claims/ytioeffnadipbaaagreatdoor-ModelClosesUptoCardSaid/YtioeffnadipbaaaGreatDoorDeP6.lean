import Derived.Test.YtioeffnadipbaaaGreatDoorDeP1
import Derived.Test.YtioeffnadipbaaaGreatDoorDeP4
namespace Go.Rl
open Go Go.Dn
structure Dc where
 rel:ByteArray
 types:List Int
def jX(s:ByteArray):List Dc->Option Nat
 |[]=>none
 |d::l=>bif oT d.rel s then some 0 else(jX s l).map (· +1)
def bk(ds:List Dc)(s:ByteArray):List Int:=match jX s ds with|some i=>(ds.getD i ⟨ByteArray.empty,[]⟩).types|none=>[]
def known(ds:List Dc)(a:At):Int:=match jX a.rel ds with|none=>51|some _=>bif decide ((bk ds a.rel).length=a.l.length) then 0 else 52
def cQ(l:Lt):=decide (l.op<3)||decide (6<l.op)
def eV(ds:List Dc):List Lt->Int
 |[]=>0
 |l::b=>bif cQ l&& !decide (known ds l.a=0) then known ds l.a else eV ds b
def fA ds(r:Rl):=bif decide (known ds r.head=0) then eV ds r.body else known ds r.head
section
variable {σ:Type} (get:σ->ByteArray->Int) (set:σ->ByteArray->Int->σ)
def bq(t:Tm) st:=bif decide (t.op=1) then get st t.s else bif decide (t.op=3) then 2 else bif decide (t.op=4) then 0 else 1
mutual
def Tm.cw:Tm->Int->σ->Bool×σ
 | .mk op s _ l,w,st=>bif decide (op=1) then(bif decide (w=0)|| !decide (get st s=0) then(false,st) else(true,set st s w)) else de l st
def de:List Tm->σ->Bool×σ
 |[],st=>(false,st)
 |t::l,st=>((Tm.cw t 1 st).1||(de l (Tm.cw t 1 st).2).1,(de l (Tm.cw t 1 st).2).2)
end
mutual
def Tm.want:Tm->Int->σ×Bool->Bool×(σ×Bool)
 | .mk op s n l,k,x=>
  bif (eT l x).1 then eT l x
  else bif decide (k=0)||decide (op=4) then(false,(eT l x).2)
  else bif decide (bq get (.mk op s n l) (eT l x).2.1=0) then(false,(set (eT l x).2.1 s k,true))
  else(!decide (bq get (.mk op s n l) (eT l x).2.1=k),(eT l x).2)
def eT:List Tm->σ×Bool->Bool×(σ×Bool)
 |[],x=>(false,x)
 |t::l,x=>bif (Tm.want t 1 x).1 then Tm.want t 1 x else eT l (Tm.want t 1 x).2
end
mutual
def Tm.fits:Tm->Int->σ->Bool
 | .mk op s _ l,w,st=>bif decide (op=1) then decide (get st s=w) else bif decide (op=2) then decide (w=1) else bif decide (op=3) then decide (w=2) else bif decide (op=4) then true else decide (w=1)&&mh l st
def mh:List Tm->σ->Bool
 |[],_=>true
 |t::l,st=>Tm.fits t 1 st&&mh l st
end
def bV:List Int->List Tm->σ->Bool×σ
 |w::a,t::l,st=>((t.cw get set w st).1||(bV a l (t.cw get set w st).2).1,(bV a l (t.cw get set w st).2).2)
 |_,_,st=>(false,st)
def dW:List Int->List Tm->σ×Bool->Bool×(σ×Bool)
 |w::a,t::l,x=>bif (t.want get set w x).1 then t.want get set w x else dW a l (t.want get set w x).2
 |_,_,x=>(false,x)
def gX:List Int->List Tm->σ->Bool
 |w::a,t::l,st=>t.fits get w st&&gX a l st
 |_,_,_=>true
def eX(a:Int):=decide (3<=a)&&decide (a<=6)
def dZ(l:Lt) st:=bif decide (bq get l.y st>bq get l.x st) then bq get l.y st else bq get l.x st
def cW ds(l:Lt) st:=
 bif eX l.op then
  ((l.x.cw get set (dZ get l st) st).1||(l.y.cw get set (dZ get l st) (l.x.cw get set (dZ get l st) st).2).1,(l.y.cw get set (dZ get l st) (l.x.cw get set (dZ get l st) st).2).2)
 else bif decide (l.op=1)||decide (l.op=2) then bV get set (bk ds l.a.rel) l.a.l st
 else((bV get set (bk ds l.a.rel) l.a.l st).1||(l.x.cw get set 1 (bV get set (bk ds l.a.rel) l.a.l st).2).1||(l.y.cw get set 1 (l.x.cw get set 1 (bV get set (bk ds l.a.rel) l.a.l st).2).2).1,
  (l.y.cw get set 1 (l.x.cw get set 1 (bV get set (bk ds l.a.rel) l.a.l st).2).2).2)
def dT(ds:List Dc):List Lt->σ->Bool×σ
 |[],st=>(false,st)
 |l::b,st=>((cW get set ds l st).1||(dT ds b (cW get set ds l st).2).1,(dT ds b (cW get set ds l st).2).2)
def ee ds(r:Rl) st:=
 ((bV get set (bk ds r.head.rel) r.head.l st).1||(dT get set ds r.body (bV get set (bk ds r.head.rel) r.head.l st).2).1,(dT get set ds r.body (bV get set (bk ds r.head.rel) r.head.l st).2).2)
def gS ds(l:Lt) st:=
 bif eX l.op then(l.x.fits get 1 st&&l.y.fits get 1 st)||(l.x.fits get 2 st&&l.y.fits get 2 st)
 else bif decide (l.op=1)||decide (l.op=2) then gX get (bk ds l.a.rel) l.a.l st
 else gX get (bk ds l.a.rel) l.a.l st&&l.x.fits get 1 st&&(decide (l.op=7)||l.y.fits get 1 st)
def kl ds(r:Rl) st:=gX get (bk ds r.head.rel) r.head.l st&&r.body.all fun l=>gS get ds l st
def cG ds a x:=
 bif decide (known ds a=0) then(bif (dW get set (bk ds a.rel) a.l x).1 then 53 else 0,(dW get set (bk ds a.rel) a.l x).2) else(known ds a,x)
def jV(y:Bool×σ×Bool)(f:σ×Bool->Bool×σ×Bool):Int×σ×Bool:=bif y.1 then(53,y.2) else(bif (f y.2).1 then 53 else 0,(f y.2).2)
def jU ds(l:Lt) x:=
 bif eX l.op then jV (l.x.want get set (dZ get l x.1) x) (l.y.want get set (dZ get l x.1))
 else bif decide (l.op=1)||decide (l.op=2) then cG get set ds l.a x
 else bif !decide ((cG get set ds l.a x).1=0) then cG get set ds l.a x
 else bif decide (l.op=7) then(bif (l.x.want get set 1 (cG get set ds l.a x).2).1 then 53 else 0,(l.x.want get set 1 (cG get set ds l.a x).2).2)
 else jV (l.x.want get set 1 (cG get set ds l.a x).2) (l.y.want get set 1)
def sF(e:Int):=decide (e=51)||decide (e=52)
def iq w e:=bif decide (w=0)||decide (w=53)&&sF e then e else w
def ib(ds:List Dc):List Lt->Int×(σ×Bool)->Int×(σ×Bool)
 |[],y=>y
 |l::b,y=>bif sF (iq y.1 (jU get set ds l y.2).1) then(iq y.1 (jU get set ds l y.2).1,(jU get set ds l y.2).2)
  else ib ds b (iq y.1 (jU get set ds l y.2).1,(jU get set ds l y.2).2)
def eK ds(r:Rl) st:=ib get set ds r.body (cG get set ds r.head (st,false))
def ej(ds:List Dc)(r:Rl):Nat->σ->Int×σ
 |0,st=>(0,st)
 |n+1,st=>bif decide ((eK get set ds r st).1=0) then(bif (eK get set ds r st).2.2 then ej ds r n (eK get set ds r st).2.1 else(0,(eK get set ds r st).2.1)) else((eK get set ds r st).1,(eK get set ds r st).2.1)
def eR(ds:List Dc)(r:Rl):Nat->σ->σ
 |0,st=>st
 |n+1,st=>bif (ee get set ds r st).1 then eR ds r n (ee get set ds r st).2 else(ee get set ds r st).2
def Ext st st':=∀s,get st s≠0->get st' s=get st s
theorem Ext.refl st:Ext get st st:=fun _ _=>rfl
variable {get set}
theorem Ext.trans{a b c}(d:Ext get a b)(e:Ext get b c):Ext get a c:=fun s h=>by rw[e s (by rw[d s h];grind),d s h]
variable (hgs: ∀st s k t,get (set st s k) t=bif t==s then k else get st t)
include hgs
mutual
theorem Tm.dw: ∀(t:Tm) (w:Int) (st:σ),Ext get st (t.cw get set w st).2
 | .mk op s n l,w,st=>by
  rw[Tm.cw];cases decide (op=1) with
  |false=>exact oa l st
  | true=>
   rw[aD2];cases h:(decide (w=0)|| !decide (get st s=0)) with
   |true=>exact Ext.refl _ _
   | false=>
    intro t ht;rw[aD0,hgs];cases e:t==s with
    |false=>rfl
    |true=>
     rw[Bool.or_eq_false_iff,aD7,at3] at h;rw[eq_of_beq e] at ht;exact absurd h.2 ht
theorem oa: ∀(l:List Tm) (st:σ),Ext get st (de get set l st).2
 |[],st=>by have _:=hgs;exact Ext.refl _ _
 |t::l,st=>by rw[de];exact(Tm.dw t 1 st).trans (oa l _)
end
theorem gq: ∀a l st,Ext get st (bV get set a l st).2
 |w::a,t::l,st=>by exact(Tm.dw hgs t w _).trans (gq _ l _)
 |[],_,st=>by grind [bV,Ext.refl]
 |_::_,[],st=>by grind [bV,Ext.refl]
theorem vu ds l st:Ext get st (cW get set ds l st).2:=by
 unfold cW;cases eX _ with
 |true=>exact(Tm.dw hgs _ _ st).trans (Tm.dw hgs _ _ _)
 |false=>
  cases(decide (l.op=1)||decide (l.op=2)) with
  |true=>grind [gq]
  |false=>exact((gq hgs _ _ st).trans (Tm.dw hgs l.x 1 _)).trans (Tm.dw hgs l.y 1 _)
theorem j4 ds: ∀b st,Ext get st (dT get set ds b st).2
 |[],st=>Ext.refl _ _
 |l::b,st=>by exact(vu hgs _ l _).trans (j4 _ b _)
theorem oc ds r st:Ext get st (ee get set ds r st).2:=(gq hgs _ _ _).trans (j4 hgs _ _ _)
theorem vF ds r: ∀n st,Ext get st (eR get set ds r n st)
 |0,st=>Ext.refl _ _
 |n+1,st=>by
  rw[eR];cases(ee _ _ ds r st).1 with
  |true=>exact(oc hgs _ r _).trans (vF _ r n _)
  |false=>grind [oc]
end
def S2 o(s:ByteArray):=bif o.contains s then o else o++[s]
def zt(o m:List _):=m.foldl S2 o
theorem zu o s m:zt o (s::m)=zt (S2 o s) m:=rfl
theorem zw: ∀m o,zt o m=o++kV o m
 |[],o=>by simp[zt,kV]
 |s::m,o=>by
  rw[zu,zw m,S2,kV]
  grind
theorem Na m:zt [] m=kV [] m:=by grind [zw]
mutual
def Tm.rv:Tm->List ByteArray
 | .mk op s _ l=>bif decide (op=1) then[s] else rvL l []
def rvL:List Tm->List ByteArray->List ByteArray
 |[],o=>o
 |t::l,o=>rvL l (zt o t.rv)
end
mutual
def Tm.wf:Tm->Bool
 | .mk op _ _ l=>bif iY op then decide (l.length=2)&&wv l else decide (l.length=0)
def wv:List Tm->Bool
 |[]=>true
 |t::l=>t.wf&&wv l
end
theorem zr: ∀h t,au h t=true->t.wf=true
 |0,_,h=>by grind [au]
 | h+1, .mk b s n l,e=>by
  rw[qB] at e;rw[Tm.wf];have c: ∀l,mx h l=true->wv l=true:=by
   intro l;induction l with
   |nil=>intro _;rfl
   |cons t l a=>
    intro e;simp only[mx,aE3,aC6] at e;rw[wv,zr h t e.1.2,a e.2];rfl
  grind
theorem KY{t}(h:JK t=true):t.wf=true/\t.op=0:=by
 obtain⟨b,s,n,l⟩:=t;simp only[JK,aC6,at3] at h;have a:=h.1.1;subst a;exact⟨aD1 h.2,rfl⟩
theorem RY{h}: ∀{l},l.all (au h)=true->wv l=true
 |[],_=>rfl
 |t::l,e=>by
  simp only[aE3,aC6] at e;rw[wv,zr h t e.1,RY e.2];rfl
theorem tG{a}(h:bm a=true):wv a.l=true:=by
 grind [bm,RY]
structure vU(l:Lt):Prop where
 x:l.x.wf=true
 y:l.y.wf=true
 a:wv l.a.l=true
 cmp:eX l.op=true->l.x.op≠4/\l.y.op≠4
 one:l.op=7->l.y.op=0
theorem RZ{l}(h:fX l=true):vU l:=by
 unfold fX at h;have j:TU l.a=true->wv l.a.l=true:=fun h=>by
  simp only[TU,aC6,at3] at h;rw[List.eq_nil_of_length_eq_zero h.2];rfl
 have b: ∀{t:Tm},au 20 t=true->t.wf=true:=fun h=>zr _ _ h
 have g:eX l.op=true->3<=l.op/\l.op<=6:=fun h=>by
  simpa[eX] using h
 cases d:decide (l.op=1)||decide (l.op=2) with
 |true=>
  rw[d,aD2] at h;simp only[aC6] at h
  simp only[aD9,at3] at d;exact⟨(KY h.2.1).1,(KY h.2.2).1,tG h.1,fun e=>by have:=g e;omega,fun e=>by omega⟩
 | false=>
  rw[d,aD0] at h;cases c:decide (l.op=3)||decide (l.op=4)||decide (l.op=5)||decide (l.op=6) with
  |true=>
   rw[c,aD2] at h;simp only[aC6,Bool.not_eq_true',aC7] at h
   simp only[aD9,at3] at c;exact⟨b h.1.2,b h.2,j h.1.1.1.1,fun _=>⟨h.1.1.1.2,h.1.1.2⟩,fun e=>by omega⟩
  | false=>
   rw[c,aD0] at h;simp only[Bool.or_eq_false_iff,aC7] at d c;cases f:decide (l.op=7) with
   |true=>
    rw[f,aD2] at h;simp only[aC6] at h
    exact⟨b h.2,(KY h.1.2.2).1,tG h.1.1,fun e=>by have:=g e;omega,fun _=>(KY h.1.2.2).2⟩
   | false=>
    rw[f,aD0] at h;rw[aC7] at f;cases i:decide (l.op=8)||decide (l.op=9)||decide (l.op=10) with
    |true=>
     rw[i,aD2] at h;simp only[aC6] at h
     exact⟨b h.1.2,b h.2,tG h.1.1.1,fun e=>by have:=g e;omega,fun e=>absurd e f⟩
    |false=>rw[i,aD0] at h;cases h
section
variable {σ:Type} {get:σ->ByteArray->Int} {set:σ->ByteArray->Int->σ}
theorem PB{a}(h:a=1):iY a=false:=by subst h;rfl
mutual
theorem Tm.fP: ∀(t:Tm) (k:Int) (x:σ×Bool),t.wf=true->(t.want get set k x).1=false->(t.want get set k x).2=((t.cw get set k x.1).2,x.2||(t.cw get set k x.1).1)
 | .mk op s n l,k,x,hw,h=>by
  rw[Tm.wf] at hw;rw[Tm.want] at h⊢;rw[Tm.cw];cases he:(eT get set l x).1 with
  |true=>rw[he,aD2,he] at h;cases h
  | false=>
   rw[he,aD0] at h;rw[aD0];cases h1:decide (op=1) with
   | true=>
    rw[at3] at h1;rw[PB h1,aD0,at3] at hw;rw[List.eq_nil_of_length_eq_zero hw];rw[List.eq_nil_of_length_eq_zero hw] at h;rw[eT] at h⊢;subst h1;simp only[bq,Tm.op,Tm.s,aD2,decide_true,show decide ((1:Int)=4)=false from rfl,Bool.or_false] at h⊢;cases hk:decide (k=0) with
    |true=>simp
    |false=>
     rw[hk] at h;simp only[aD0,Bool.false_or] at h⊢;cases hg:decide (get x.1 s=0) with
     |true=>simp
     |false=>simp
   | false=>
    rw[aD0];have ih:(eT get set l x).2=((de get set l x.1).2,x.2||(de get set l x.1).1):=by
     cases h2:iY op with
     |true=>
      rw[h2,aD2,aC6] at hw;exact Ga l x hw.2 he
     |false=>
      rw[h2,aD0,at3] at hw;rw[List.eq_nil_of_length_eq_zero hw];simp[eT,de]
    cases hk:decide (k=0)||decide (op=4) with
    |true=>exact ih
    | false=>
     rw[hk,aD0] at h;rw[aD0];rw[Bool.or_eq_false_iff] at hk;have hn:decide (bq get (.mk op s n l) (eT get set l x).2.1=0)=false:=by
      unfold bq;rw[show(Tm.mk op s n l).op=op from rfl,h1,aD0,hk.2];cases decide (op=3)<;>rfl
     rw[hn,aD0];exact ih
theorem Ga: ∀(l:List Tm) (x:σ×Bool),wv l=true->(eT get set l x).1=false->(eT get set l x).2=((de get set l x.1).2,x.2||(de get set l x.1).1)
 |[],x,_,_=>by simp[eT,de]
 | t::l,x,hw,h=>by
  rw[wv,aC6] at hw;rw[eT] at h⊢;rw[de];cases he:(t.want get set 1 x).1 with
  |true=>rw[he,aD2,he] at h;cases h
  |false=>
   rw[he,aD0] at h;rw[aD0];have e1:=Tm.fP t 1 x hw.1 he;have e2:=Ga l _ hw.2 h;rw[e2,e1];simp only[Bool.or_assoc]
end
theorem lY: ∀a l x,wv l=true->(dW get set a l x).1=false->(dW get set a l x).2=((bV get set a l x.1).2,x.2||(bV get set a l x.1).1)
 |[],l,x,_,_=>by simp[dW,bV]
 |w::a,[],x,_,_=>by simp[dW,bV]
 | w::a,t::l,x,b,h=>by
  rw[wv,aC6] at b;rw[dW] at h⊢;rw[bV];cases c:(t.want get set w x).1 with
  |true=>grind
  |false=>
   rw[c,aD0] at h;have e:=t.fP w x b.1 c;have d:=lY a l _ b.2 h
   grind
theorem sg{y:Bool×σ×Bool}{f}(h:(jV y f).1=0):y.1=false/\(f y.2).1=false/\(jV y f).2=(f y.2).2:=by
 grind [jV]
theorem tQ{y:Bool×σ×Bool}{f}:(jV y f).1=0\/(jV y f).1=53:=by
 grind [jV]
theorem Hp{t:Tm}(b:t.wf=true)(h:t.op=0) k st:t.cw get set k st=(false,st):=by
 obtain⟨a,s,n,l⟩:=t;have h:a=0:=h
 grind [Tm.wf,iY,Tm.cw,de]
theorem Cd ds{l}(c:vU l)(t:cQ l=true->known ds l.a=0) x(h:(jU get set ds l x).1=0):(jU get set ds l x).2=((cW get set ds l x.1).2,x.2||(cW get set ds l x.1).1):=by
 unfold jU at h⊢;unfold cW;cases j:eX l.op with
 |true=>
  rw[j,aD2] at h;rw[aD2,aD2];obtain⟨n,o,k⟩:=sg h;have d:=l.x.fP _ x c.x n;have i:=l.y.fP _ _ c.y o;rw[k,i,d];simp only[Bool.or_assoc]
 | false=>
  rw[j,aD0] at h;rw[aD0,aD0];have m:cQ l=true:=by
   simp only[eX,Bool.and_eq_false_iff,aC7] at j;simp only[cQ,aD9,at3];omega
  have s:cG get set ds l.a x=(bif (dW get set (bk ds l.a.rel) l.a.l x).1 then 53 else 0,(dW get set (bk ds l.a.rel) l.a.l x).2):=by
   unfold cG;rw[t m];rfl
  have p:(cG get set ds l.a x).1=0->(cG get set ds l.a x).2=((bV get set (bk ds l.a.rel) l.a.l x.1).2,x.2||(bV get set (bk ds l.a.rel) l.a.l x.1).1):=fun e=>by
   rw[s] at e⊢;cases b:(dW get set (bk ds l.a.rel) l.a.l x).1 with
   |true=>rw[b] at e;cases e
   |false=>exact lY _ _ _ c.a b
  cases f:decide (l.op=1)||decide (l.op=2) with
  |true=>
   rw[f,aD2] at h;rw[aD2,aD2];exact p h
  | false=>
   rw[f,aD0] at h;rw[aD0,aD0];cases b:decide ((cG get set ds l.a x).1=0) with
   |false=>rw[b,Bool.not_false,aD2] at h;rw[h] at b;cases b
   | true=>
    rw[b,Bool.not_true,aD0] at h;rw[Bool.not_true,aD0];rw[at3] at b;have q:=p b;cases g:decide (l.op=7) with
    | true=>
     rw[g,aD2] at h;rw[aD2];have r:(l.x.want get set 1 (cG get set ds l.a x).2).1=false:=by
      cases e:(l.x.want get set 1 (cG get set ds l.a x).2).1 with
      |true=>rw[e] at h;cases h
      |false=>rfl
     have d:=l.x.fP 1 _ c.x r;rw[at3] at g;rw[d,q,Hp c.y (c.one g)];simp only[Bool.or_false,Bool.or_assoc]
    |false=>
     rw[g,aD0] at h;rw[aD0];obtain⟨n,o,k⟩:=sg h;have d:=l.x.fP _ _ c.x n;have i:=l.y.fP _ _ c.y o;rw[k,i,d,q];simp only[Bool.or_assoc]
theorem nw ds{l}(e:cQ l=true->known ds l.a=0) x:(jU get set ds l x).1=0\/(jU get set ds l x).1=53:=by
 unfold jU;cases c:eX l.op with
 |true=>rw[aD2];exact tQ
 | false=>
  have d:cQ l=true:=by
   simp only[eX,Bool.and_eq_false_iff,aC7] at c;simp only[cQ,aD9,at3];omega
  have b:(cG get set ds l.a x).1=0\/(cG get set ds l.a x).1=53:=by
   unfold cG;grind
  rw[aD0];cases decide (l.op=1)||decide (l.op=2) with
  |true=>exact b
  | false=>
   rw[aD0];cases decide ((cG get set ds l.a x).1=0) with
   |false=>exact b
   | true=>
    cases decide (l.op=7) with
    |true=>
     grind
    |false=>rw[aD0];exact tQ
theorem TO ds{l}(b:cQ l=true)(c:known ds l.a≠0) x:(jU get set ds l x).1=known ds l.a:=by
 grind [eX,cQ,cG,jU]
theorem lz ds: ∀b x,eV ds b=0->(ib get set ds b (53,x)).1=53
 |[],_,_=>rfl
 | l::b,x,h=>by
  rw[eV] at h;have d:cQ l=true->known ds l.a=0:=fun e=>by
   grind
  have f:eV ds b=0:=by
   grind
  rw[ib];have c:iq 53 (jU get set ds l x).1=53:=by
   rcases nw   ds d x with e|e<;>rw[e]<;>rfl
  simp only[c];exact lz ds b _ f
theorem D4 ds: ∀b x,eV ds b=0->(∀l,l∈b->vU l)->(ib get set ds b (0,x)).1=0->(ib get set ds b (0,x)).2=((dT get set ds b x.1).2,x.2||(dT get set ds b x.1).1)
 |[],x,_,_,_=>by simp[ib,dT]
 | l::b,x,h,d,c=>by
  rw[eV] at h;have f:cQ l=true->known ds l.a=0:=fun e=>by
   grind
  have i:eV ds b=0:=by
   grind
  rw[ib] at c⊢;rw[dT];have j: ∀e:Int,iq 0 e=e:=fun e=>rfl
  simp only[j] at c⊢;rcases nw (get:=get) (set:=set) ds f x with e|e
  ·rw[e] at c⊢
   have k:=Cd ds (d l List.mem_cons_self) f x e;have n:=D4 ds b _ i (fun m g=>d m (List.mem_cons_of_mem _ g)) c;rw[show sF 0=false from rfl,aD0,n,k];simp only[Bool.or_assoc]
  simp_all[sF,aD0,lz]
theorem Ff ds{r}(f:wv r.head.l=true)(e: ∀l,l∈r.body->vU l)(a:fA ds r=0) st(h:(eK get set ds r st).1=0):(eK get set ds r st).2=((ee get set ds r st).2,(ee get set ds r st).1):=by
 unfold fA at a;have c:known ds r.head=0:=by
  grind
 rw[c] at a;have d:eV ds r.body=0:=a;unfold eK at h⊢;have g:cG get set ds r.head (st,false)=(bif (dW get set (bk ds r.head.rel) r.head.l (st,false)).1 then 53 else 0,(dW get set (bk ds r.head.rel) r.head.l (st,false)).2):=by
  unfold cG;rw[c];rfl
 rw[g] at h⊢;cases b:(dW get set (bk ds r.head.rel) r.head.l (st,false)).1 with
 |true=>rw[b,aD2,lz ds _ _ d] at h;cases h
 |false=>
  rw[b,aD0] at h;rw[aD0,D4 ds _ _ d e h,lY _ _ _ f b];rfl
end
section
variable {σ:Type} {get:σ->ByteArray->Int} {set:σ->ByteArray->Int->σ}
variable (hgs: ∀st s k t,get (set st s k) t=bif t==s then k else get st t)
theorem qL{a}(h:iY a=true):decide (a=1)=false/\decide (a=2)=false/\decide (a=3)=false/\decide (a=4)=false:=by
 grind [iY]
theorem BS{t w st}(a:t.op≠4)(h:t.fits get w st=true):bq get t st=w:=by
 obtain⟨op,s,n,l⟩:=t;have a:op≠4:=a;rw[Tm.fits] at h;unfold bq;rw[show(Tm.mk _ s n l).op=op from rfl,show(Tm.mk _ s n l).s=s from rfl]
 grind
theorem IF{t st st'}(h:Ext get st st')(a:bq get t st≠0):bq get t st'=bq get t st:=by
 unfold bq at a⊢;cases b:decide (t.op=1) with
 |true=>rw[b] at a;exact h _ a
 |false=>rfl
theorem xy{b s n l w st}(h:(Tm.mk b s n l).fits get w st=true)(a:(Tm.mk b s n l).wf=true):mh get l st=true:=by
 rw[Tm.wf] at a;cases c:iY _ with
 |false=>
  rw[c,aD0,at3] at a;rw[List.eq_nil_of_length_eq_zero a];rfl
 |true=>
  grind [qL,Tm.fits]
include hgs
mutual
theorem Tm.nJ: ∀(t:Tm) (k:Int) (x:σ×Bool),t.wf=true->(t.want get set k x).1=true->∀τ,Ext get (t.cw get set k x.1).2 τ->t.fits get k τ=false
 | .mk op s n l,k,x,hw,h,τ,hx=>by
  cases hf:(Tm.mk op s n l).fits get k τ with
  |false=>rfl
  | true=>
   have _:=hgs;exfalso
   have hp:=xy hf hw;have hw':=hw;rw[Tm.wf] at hw;rw[Tm.want] at h;cases he:(eT get set l x).1 with
   | true=>
    cases h2:iY op with
    |false=>
     rw[h2,aD0,at3] at hw;rw[List.eq_nil_of_length_eq_zero hw,eT] at he;cases he
    |true=>
     rw[h2,aD2,aC6] at hw;rw[Tm.cw,(qL h2).1,aD0] at hx;rw[vb l x hw.2 he τ hx] at hp;cases hp
   | false=>
    rw[he,aD0] at h;cases hk:decide (k=0)||decide (op=4) with
    |true=>rw[hk,aD2] at h;cases h
    | false=>
     rw[hk,aD0] at h;simp only[Bool.or_eq_false_iff,aC7] at hk;cases h0:decide (bq get (.mk op s n l) (eT get set l x).2.1=0) with
     |true=>rw[h0,aD2] at h;cases h
     | false=>
      rw[h0,aD0,Bool.not_eq_true',aC7] at h;rw[aC7] at h0;have hty:=BS (t:= .mk op s n l) hk.2 hf;have hext:Ext get (eT get set l x).2.1 τ\/op≠1:=by
       cases h1:decide (op=1) with
       |false=>right;simpa using h1
       |true=>
        left
        rw[at3] at h1;rw[PB h1,aD0,at3] at hw;have hl:=List.eq_nil_of_length_eq_zero hw;subst hl;subst h1
        rw[eT] at h0⊢;rw[Tm.cw] at hx;have hg:get x.1 s≠0:=h0;rw[aC9 hg] at hx;simpa using hx
      rcases hext with e|e
      ·rw[IF e h0] at hty;exact h hty
      ·apply h
       rw[←hty];unfold bq;rw[show(Tm.mk op s n l).op=op from rfl,aC9 e];rfl
theorem vb: ∀(l:List Tm) (x:σ×Bool),wv l=true->(eT get set l x).1=true->∀τ,Ext get (de get set l x.1).2 τ->mh get l τ=false
 |[],x,_,h,_,_=>by rw[eT] at h;cases h
 | t::l,x,hw,h,τ,hx=>by
  rw[wv,aC6] at hw;rw[eT] at h;rw[de] at hx;rw[mh];cases he:(t.want get set 1 x).1 with
  |true=>
   rw[Tm.nJ t 1 x hw.1 he τ ((oa hgs l _).trans hx)];rfl
  |false=>
   rw[he,aD0] at h;have e1:=t.fP 1 x hw.1 he;rw[vb l _ hw.2 h τ (by rw[e1];exact hx),Bool.and_false]
end
theorem Bn: ∀(t:Tm) x,t.wf=true->(t.want get set 0 x).1=true->∀τ,Ext get (t.cw get set 0 x.1).2 τ->∀w,t.fits get w τ=false
 | .mk c s n m,x,a,g,τ,d,w=>by
  cases f:(Tm.mk c s n m).fits get w τ with
  |false=>rfl
  | true=>
   exfalso
   have e:=xy f a;rw[Tm.want] at g;cases h:(eT get set m x).1 with
   |false=>grind
   | true=>
    rw[Tm.wf] at a;cases b:iY c with
    |false=>
     simp_all[aD0,at3,eT]
    |true=>
     rw[b,aD2,aC6] at a;rw[Tm.cw,(qL b).1,aD0] at d
     grind [vb]
theorem va: ∀a l x,wv l=true->(dW get set a l x).1=true->∀τ,Ext get (bV get set a l x.1).2 τ->gX get a l τ=false
 |[],l,x,_,h,_,_=>by grind [dW]
 |w::a,[],x,_,h,_,_=>by simp[dW] at h
 | w::a,t::l,x,b,h,τ,d=>by
  rw[wv,aC6] at b;rw[dW] at h;rw[gX];cases c:(t.want get set w x).1 with
  |true=>rw[Tm.nJ hgs t w x b.1 c τ ((gq hgs a l _).trans d)];rfl
  |false=>
   rw[c] at h;have e:=t.fP w x b.1 c;rw[va a l _ b.2 h τ (by rw[e];exact d),Bool.and_false]
theorem Th{l}(f:vU l)(t:eX l.op=true) x(h:(jV (l.x.want get set (dZ get l x.1) x) (l.y.want get set (dZ get l x.1))).1≠0) τ
  (q:Ext get (l.y.cw get set (dZ get l x.1) (l.x.cw get set (dZ get l x.1) x.1).2).2 τ) w:l.x.fits get w τ=true->l.y.fits get w τ=true->False:=by
 intro j g;obtain⟨n,p⟩:=f.cmp t;have r:=BS n j;have s:=BS p g;have b:Ext get (l.x.cw get set (dZ get l x.1) x.1).2 τ:=(Tm.dw hgs l.y _ _).trans q;have i:Ext get x.1 τ:=(Tm.dw hgs l.x _ _).trans b;have d:bq get l.x x.1=dZ get l x.1\/bq get l.y x.1=dZ get l x.1:=by
  unfold dZ;cases decide (bq get l.y x.1>bq get l.x x.1)
  ·exact .inl rfl
  ·exact .inr rfl
 have a:dZ get l x.1≠0->w=dZ get l x.1:=fun c=>by
  rcases d with e|e
  ·rw[←r,IF i (by rw[e];exact c),e]
  ·rw[←s,IF i (by rw[e];exact c),e]
 unfold jV at h;cases k:(l.x.want get set (dZ get l x.1) x).1 with
 | true=>
  by_cases c:dZ get l x.1=0
  ·rw[c] at k b
   rw[Bn hgs l.x x f.x k τ b w] at j;cases j
  ·rw[a c,Tm.nJ hgs l.x _ x f.x k τ b] at j;cases j
 | false=>
  rw[k,aD0] at h;have u:=l.x.fP _ x f.x k;cases m:(l.y.want get set (dZ get l x.1) (l.x.want get set (dZ get l x.1) x).2).1 with
  |false=>rw[m] at h;exact h rfl
  | true=>
   have o:Ext get (l.y.cw get set (dZ get l x.1) (l.x.want get set (dZ get l x.1) x).2.1).2 τ:=by rw[u];exact q
   by_cases c:dZ get l x.1=0
   ·rw[c] at m o
    rw[Bn hgs l.y _ f.y m τ o w] at g;cases g
   ·rw[a c,Tm.nJ hgs l.y _ _ f.y m τ o] at g;cases g
theorem TP ds{l}(g:vU l)(w:cQ l=true->known ds l.a=0) x(h:(jU get set ds l x).1≠0) τ(b:Ext get (cW get set ds l x.1).2 τ):gS get ds l τ=false:=by
 unfold jU at h;unfold cW at b;unfold gS;cases k:eX l.op with
 | true=>
  rw[k,aD2] at h b;rw[aD2,Bool.or_eq_false_iff];have r:=Th hgs g k x h τ b;constructor
  ·cases p:l.x.fits get 1 τ with
   |false=>rfl
   |true=>cases o:l.y.fits get 1 τ with
    |false=>rfl
    |true=>exact(r 1 p o).elim
  ·cases p:l.x.fits get 2 τ with
   |false=>rfl
   |true=>cases o:l.y.fits get 2 τ with
    |false=>rfl
    |true=>exact(r 2 p o).elim
 | false=>
  rw[k,aD0] at h b;rw[aD0];have m:cQ l=true:=by
   simp only[eX,Bool.and_eq_false_iff,aC7] at k;simp only[cQ,aD9,at3];omega
  have s:cG get set ds l.a x=(bif (dW get set (bk ds l.a.rel) l.a.l x).1 then 53 else 0,(dW get set (bk ds l.a.rel) l.a.l x).2):=by
   unfold cG;rw[w m];rfl
  have d:(cG get set ds l.a x).1≠0->Ext get (bV get set (bk ds l.a.rel) l.a.l x.1).2 τ->gX get (bk ds l.a.rel) l.a.l τ=false:=fun e b=>by
   rw[s] at e;cases c:(dW get set (bk ds l.a.rel) l.a.l x).1 with
   |false=>rw[c] at e;exact absurd rfl e
   |true=>exact va hgs _ _ _ g.a c τ b
  cases i:decide (l.op=1)||decide (l.op=2) with
  |true=>
   rw[i,aD2] at h b;exact d h b
  | false=>
   rw[i,aD0] at h b;rw[aD0];have j:Ext get (l.x.cw get set 1 (bV get set (bk ds l.a.rel) l.a.l x.1).2).2 τ:=(Tm.dw hgs l.y _ _).trans b;have n:Ext get (bV get set (bk ds l.a.rel) l.a.l x.1).2 τ:=(Tm.dw hgs l.x _ _).trans j;cases c:decide ((cG get set ds l.a x).1=0) with
   |false=>
    rw[aC7] at c;rw[d c n];rfl
   | true=>
    rw[c,Bool.not_true,aD0] at h;rw[at3] at c;have t:(cG get set ds l.a x).2=((bV get set (bk ds l.a.rel) l.a.l x.1).2,x.2||(bV get set (bk ds l.a.rel) l.a.l x.1).1):=by
     rw[s] at c⊢;cases u:(dW get set (bk ds l.a.rel) l.a.l x).1 with
     |true=>rw[u] at c;cases c
     |false=>exact lY _ _ _ g.a u
    have f:(l.x.want get set 1 (cG get set ds l.a x).2).1=true->l.x.fits get 1 τ=false:=fun e=>Tm.nJ hgs l.x 1 _ g.x e τ (by rw[t];exact j)
    cases v:decide (l.op=7) with
    |true=>
     rw[v,aD2] at h;cases e:(l.x.want get set 1 (cG get set ds l.a x).2).1 with
     |false=>rw[e] at h;exact absurd rfl h
     |true=>rw[f e];simp
    | false=>
     rw[v,aD0] at h;unfold jV at h;cases e:(l.x.want get set 1 (cG get set ds l.a x).2).1 with
     |true=>rw[f e];simp
     | false=>
      rw[e,aD0] at h;have z:=l.x.fP 1 _ g.x e;cases q:(l.y.want get set 1 (l.x.want get set 1 (cG get set ds l.a x).2).2).1 with
      |false=>rw[q] at h;exact absurd rfl h
      |true=>
       rw[Tm.nJ hgs l.y 1 _ g.y q τ (by rw[z,t];exact b)];simp
theorem D3 ds: ∀b x,eV ds b=0->(∀l,l∈b->vU l)->(ib get set ds b (0,x)).1≠0->∀τ,Ext get (dT get set ds b x.1).2 τ->(b.all fun l=>gS get ds l τ)=false
 |[],x,_,_,h,_,_=>absurd rfl h
 | l::b,x,h,g,c,τ,f=>by
  rw[eV] at h;have d:cQ l=true->known ds l.a=0:=fun e=>by
   grind
  have i:eV ds b=0:=by
   grind
  rw[ib] at c;rw[dT] at f;have j: ∀e:Int,iq 0 e=e:=fun e=>rfl
  simp only[j] at c;rw[aE3];rcases nw (get:=get) (set:=set) ds d x with e|e
  ·rw[e,show sF 0=false from rfl,aD0] at c
   have k:=Cd ds (g l List.mem_cons_self) d x e;rw[D3 ds b _ i (by grind) c τ (by rw[k];exact f),Bool.and_false]
  ·rw[TP hgs ds (g l List.mem_cons_self) d x (by rw[e];decide) τ ((j4 hgs ds b _).trans f)];rfl
theorem Qg ds{r}(g:wv r.head.l=true)(j: ∀l,l∈r.body->vU l)(a:fA ds r=0) st(h:(eK get set ds r st).1≠0) τ(c:Ext get (ee get set ds r st).2 τ):(eK get set ds r st).1=53/\kl get ds r τ=false:=by
 unfold fA at a;have i:known ds r.head=0:=by
  cases e:decide (known ds r.head=0) with
  |true=>simpa using e
  |false=>rw[e,aD0] at a;exact a
 rw[i] at a;have f:eV ds r.body=0:=a;unfold eK at h⊢;unfold ee at c;unfold kl;have k:cG get set ds r.head (st,false)=(bif (dW get set (bk ds r.head.rel) r.head.l (st,false)).1 then 53 else 0,(dW get set (bk ds r.head.rel) r.head.l (st,false)).2):=by
  unfold cG;rw[i];rfl
 rw[k] at h⊢;cases d:(dW get set (bk ds r.head.rel) r.head.l (st,false)).1 with
 |true=>
  rw[aD2,lz ds _ _ f,va hgs _ _ _ g d τ ((j4 hgs ds _ _).trans c)];exact⟨rfl,rfl⟩
 | false=>
  rw[d,aD0] at h;rw[aD0];have m:=lY _ _ _ g d;rw[D3 hgs ds _ _ f j h τ (by rw[m];exact c),Bool.and_false];refine⟨?_,rfl⟩;have n: ∀(b:List Lt) (x:σ×Bool),eV ds b=0->(ib get set ds b (0,x)).1=0\/(ib get set ds b (0,x)).1=53:=by
   intro b;induction b with
   |nil=>intro x _;exact .inl rfl
   |cons l b o=>
    intro x h;rw[eV] at h
    grind [eV,cQ,decide_eq_true,ib,iq,nw,lz]
  rcases n r.body _ f with e|e
  ·exact absurd e h
  ·exact e
end
section
variable {σ:Type} {get:σ->ByteArray->Int} {set:σ->ByteArray->Int->σ}
mutual
theorem Tm.jb: ∀(t:Tm) (w:Int) (st:σ),(t.cw get set w st).1=false->(t.cw get set w st).2=st
 | .mk op s n l,w,st,h=>by
  rw[Tm.cw] at h⊢;cases h1:decide (op=1) with
  |false=>rw[h1,aD0] at h;exact AA l st h
  |true=>
   rw[h1,aD2] at h;rw[aD2];cases hc:(decide (w=0)|| !decide (get st s=0)) with
   |true=>rfl
   |false=>rw[hc,aD0] at h;cases h
theorem AA: ∀(l:List Tm) (st:σ),(de get set l st).1=false->(de get set l st).2=st
 |[],_,_=>rfl
 |t::l,st,h=>by
  rw[de] at h⊢;rw[Bool.or_eq_false_iff] at h;have e1:=Tm.jb t 1 st h.1;rw[e1] at h;simp only[e1];exact AA l st h.2
end
theorem lh: ∀a l st,(bV get set a l st).1=false->(bV get set a l st).2=st
 |[],l,st,_=>by rfl
 |w::a,[],st,_=>by rfl
 |w::a,t::l,st,h=>by
  rw[bV] at h⊢;rw[Bool.or_eq_false_iff] at h;have b:=Tm.jb t w _ h.1;rw[b] at h;simp[b];exact lh _ l _ h.2
theorem yc ds l st(h:(cW get set ds l st).1=false):(cW get set ds l st).2=st:=by
 unfold cW at h⊢;cases b:eX l.op with
 |true=>
  rw[b,aD2,Bool.or_eq_false_iff] at h;have c:=Tm.jb l.x _ st h.1
  simp_all[aD2,Tm.jb]
 | false=>
  rw[b,aD0] at h;rw[aD0];cases a:decide (l.op=1)||decide (l.op=2) with
  |true=>rw[a,aD2] at h;exact lh _ _ _ h
  |false=>
   rw[aD0]
   grind [lh,Tm.jb]
theorem Az ds: ∀b st,(dT get set ds b st).1=false->(dT get set ds b st).2=st/\∀l,l∈b->(cW get set ds l st).1=false
 |[],st,_=>⟨rfl,by simp⟩
 |l::b,st,h=>by
  rw[dT] at h⊢;rw[Bool.or_eq_false_iff] at h;have a:=yc _ l _ h.1;rw[a] at h;obtain⟨d,c⟩:=Az _ b _ h.2
  grind
mutual
theorem Tm.fix: ∀(t:Tm) (k:Int) (x:σ×Bool),t.wf=true->(t.want get set k x).1=false->(t.cw get set k x.1).1=false->k≠0->t.fits get k x.1=true
 | .mk op s n l,k,x,hw,h,hl,hk=>by
  have hok:=Tm.fP (.mk op s n l) k x hw h;have hno:=Tm.jb (get:=get) (set:=set) (.mk op s n l) k x.1 hl;have hw':=hw;rw[Tm.wf] at hw;rw[Tm.want] at h;rw[Tm.cw] at hl;cases he:(eT get set l x).1 with
  |true=>rw[he,aD2,he] at h;cases h
  | false=>
   rw[he,aD0] at h;rw[Tm.fits];cases h2:iY op with
   | false=>
    rw[h2,aD0,at3] at hw;have hn:=List.eq_nil_of_length_eq_zero hw;subst hn;rw[eT] at h;rw[aC9 hk,Bool.false_or] at h;cases h1:decide (op=1) with
    | true=>
     rw[h1,aD2,aC9 hk,Bool.false_or] at hl;rw[aD2];rw[at3] at h1;subst h1;have hg:decide (get x.1 s=0)=false:=by
      cases e:decide (get x.1 s=0) with
      |false=>rfl
      |true=>rw[e] at hl;simp at hl
     simp only[bq,Tm.op,Tm.s,show decide ((1:Int)=4)=false from rfl,decide_true,aD2,aD0,hg] at h;simpa using h
    | false=>
     rw[aD0];cases h22:decide (op=2) with
     |true=>
      rw[at3] at h22;subst h22;simp only[bq,Tm.op,show decide ((2:Int)=4)=false from rfl,show decide ((2:Int)=1)=false from rfl,show decide ((2:Int)=3)=false from rfl,show decide ((1:Int)=0)=false from rfl,aD0] at h;rw[aD2,at3];have:(1:Int)=k:=by simpa using h
      exact this.symm
     | false=>
      rw[aD0];cases h3:decide (op=3) with
      |true=>
       rw[at3] at h3;subst h3;simp only[bq,Tm.op,show decide ((3:Int)=4)=false from rfl,show decide ((3:Int)=1)=false from rfl,decide_true,aD2,show decide ((2:Int)=0)=false from rfl,aD0] at h;rw[aD2,at3];have:(2:Int)=k:=by simpa using h
       exact this.symm
      | false=>
       rw[aD0];cases h4:decide (op=4) with
       |true=>rfl
       | false=>
        rw[h4,aD0] at h;have ht:bq get (.mk op s n []) x.1=1:=by
         unfold bq;rw[show(Tm.mk op s n []).op=op from rfl,h1,h3,h4];rfl
        rw[ht,show decide ((1:Int)=0)=false from rfl,aD0] at h;have:(1:Int)=k:=by simpa using h
        subst this;rfl
   | true=>
    rw[h2,aD2,aC6] at hw;obtain⟨e1,e2,e3,e4⟩:=qL h2;rw[e1,e2,e3,e4];rw[e1,aD0] at hl;rw[aC9 hk,e4,Bool.or_false,aD0] at h;have ht:bq get (.mk op s n l) (eT get set l x).2.1=1:=by
     unfold bq;rw[show(Tm.mk op s n l).op=op from rfl,e1,e3,e4];rfl
    rw[ht,show decide ((1:Int)=0)=false from rfl,aD0] at h;have:(1:Int)=k:=by simpa using h
    subst this;simp only[aD0,decide_true,aE2];exact ac8 l x hw.2 he hl
theorem ac8: ∀(l:List Tm) (x:σ×Bool),wv l=true->(eT get set l x).1=false->(de get set l x.1).1=false->mh get l x.1=true
 |[],_,_,_,_=>rfl
 | t::l,x,hw,h,hl=>by
  rw[wv,aC6] at hw;rw[eT] at h;rw[de,Bool.or_eq_false_iff] at hl;rw[mh];cases he:(t.want get set 1 x).1 with
  |true=>rw[he,aD2,he] at h;cases h
  |false=>
   rw[he,aD0] at h;have e1:=t.fP 1 x hw.1 he;have e2:=Tm.jb t 1 x.1 hl.1;rw[e2] at hl e1;rw[Tm.fix t 1 x hw.1 he hl.1 (by decide),aE2];have:=ac8 l (t.want get set 1 x).2 hw.2 h (by rw[e1];exact hl.2)
   rw[e1] at this;exact this
end
theorem Tt: ∀a l x,wv l=true->(∀w,w∈a->w≠0)->(dW get set a l x).1=false->(bV get set a l x.1).1=false->gX get a l x.1=true
 |[],_,_,_,_,_,_=>by simp[gX]
 |_::_,[],_,_,_,_,_=>by simp[gX]
 | w::a,t::l,x,c,d,h,b=>by
  rw[wv,aC6] at c;rw[dW] at h;rw[bV,Bool.or_eq_false_iff] at b;rw[gX];cases e:(t.want get set w x).1 with
  |true=>grind
  |false=>
   rw[e,aD0] at h;have f:=t.fP w x c.1 e;have g:=Tm.jb t w x.1 b.1;rw[g] at b f;rw[Tm.fix t w x c.1 e b.1 (d w List.mem_cons_self),aE2];have:=Tt a l (t.want get set w x).2 c.2 (by grind) h (by rw[f];exact b.2)
   grind
def zX(get:σ->ByteArray->Int) st:=∀s,get st s=0\/get st s=1\/get st s=2
def Bz ds:=∀s w,w∈bk ds s->w=1\/w=2
theorem RR{st}(a:zX get st) t:bq get t st=0\/bq get t st=1\/bq get t st=2:=by
 unfold bq;cases decide (t.op=1) with
 |true=>exact a _
 |false=>
  grind
theorem Ex{st}(a:zX get st) l:dZ get l st=0\/dZ get l st=1\/dZ get l st=2:=by
 grind [dZ,RR]
theorem O9 ds(t:Bz ds){l}(c:vU l)(K:cQ l=true->known ds l.a=0) x(B:zX get x.1)(F:l.x.op=1->get x.1 l.x.s≠0)(h:(jU get set ds l x).1=0)(b:(cW get set ds l x.1).1=false):gS get ds l x.1=true:=by
 unfold jU at h;unfold cW at b;unfold gS;cases p:eX l.op with
 | true=>
  rw[p,aD2] at h b;rw[aD2];obtain⟨q,H,_⟩:=sg h;rw[Bool.or_eq_false_iff] at b;have j:=l.x.fP _ x c.x q;have L:=Tm.jb l.x _ x.1 b.1;rw[L] at b j;have i:dZ get l x.1≠0:=by
   have u:bq get l.x x.1≠0:=by
    unfold bq;cases q:decide (l.x.op=1) with
    |true=>rw[aD2];exact F (by simpa using q)
    |false=>
     rw[aD0];cases decide (l.x.op=3) with
     |true=>rw[aD2];decide
     |false=>rw[aD0,aC9 (c.cmp p).1,aD0];decide
   have N:=RR B l.x;unfold dZ;cases e:decide (bq get l.y x.1>bq get l.x x.1) with
   |false=>exact u
   |true=>rw[at3] at e;rw[aD2];omega
  have d:=Tm.fix l.x _ x c.x q b.1 i;have f:=Tm.fix l.y _ (l.x.want get set (dZ get l x.1) x).2 c.y H (by rw[j];exact b.2) i;rw[j] at f;rcases Ex B l with e|e|e
  ·exact absurd e i
  ·rw[e] at d f;rw[d,f];rfl
  ·rw[e] at d f;rw[d,f];simp
 | false=>
  rw[p,aD0] at h b;rw[aD0];have v:cQ l=true:=by
   simp only[eX,Bool.and_eq_false_iff,aC7] at p;simp only[cQ,aD9,at3];omega
  have A:cG get set ds l.a x=(bif (dW get set (bk ds l.a.rel) l.a.l x).1 then 53 else 0,(dW get set (bk ds l.a.rel) l.a.l x).2):=by
   unfold cG;rw[K v];rfl
  have k: ∀w,w∈bk ds l.a.rel->w≠0:=fun w I=>by rcases t _ w I with e|e<;>omega
  have n:(cG get set ds l.a x).1=0->(dW get set (bk ds l.a.rel) l.a.l x).1=false:=fun e=>by
   rw[A] at e;cases g:(dW get set (bk ds l.a.rel) l.a.l x).1 with
   |true=>rw[g] at e;cases e
   |false=>rfl
  cases m:decide (l.op=1)||decide (l.op=2) with
  |true=>
   rw[m,aD2] at h b;rw[aD2];exact Tt _ _ x c.a k (n h) b
  | false=>
   rw[m,aD0] at h b;rw[aD0];rw[Bool.or_eq_false_iff,Bool.or_eq_false_iff] at b;have z:=lh _ _ _ b.1.1;rw[z] at b;have j:=Tm.jb l.x _ x.1 b.1.2;rw[j] at b;cases g:decide ((cG get set ds l.a x).1=0) with
   |false=>rw[g,Bool.not_false,aD2] at h;rw[h] at g;cases g
   | true=>
    rw[g,Bool.not_true,aD0] at h;rw[at3] at g;have C:=n g;have J:=Tt _ _ x c.a k C b.1.1;have o:(cG get set ds l.a x).2.1=x.1:=by
     rw[A];show(dW get set (bk ds l.a.rel) l.a.l x).2.1=x.1
     rw[lY _ _ _ c.a C];exact z
    rw[J,aE2];cases D:decide (l.op=7) with
    | true=>
     rw[D,aD2] at h;have r:(l.x.want get set 1 (cG get set ds l.a x).2).1=false:=by
      cases e:(l.x.want get set 1 (cG get set ds l.a x).2).1 with
      |true=>rw[e] at h;cases h
      |false=>rfl
     have d:=Tm.fix l.x 1 (cG get set ds l.a x).2 c.x r (by rw[o];exact b.1.2) (by decide);rw[o] at d;rw[d];rfl
    | false=>
     rw[D,aD0] at h;obtain⟨r,E,_⟩:=sg h;have d:=Tm.fix l.x 1 (cG get set ds l.a x).2 c.x r (by rw[o];exact b.1.2) (by decide);rw[o] at d;have s1:(l.x.want get set 1 (cG get set ds l.a x).2).2.1=x.1:=by
      rw[l.x.fP 1 _ c.x r,o];exact j
     have f:=Tm.fix l.y 1 (l.x.want get set 1 (cG get set ds l.a x).2).2 c.y E (by rw[s1];exact b.2) (by decide);rw[s1] at f;rw[d,f];rfl
theorem Ae ds(f:Bz ds): ∀b x,zX get x.1->eV ds b=0->(∀l,l∈b->vU l)->(∀l,l∈b->l.x.op=1->get x.1 l.x.s≠0)->(ib get set ds b (0,x)).1=0->(dT get set ds b x.1).1=false->(b.all fun l=>gS get ds l x.1)=true
 |[],x,_,_,_,_,_,_=>rfl
 | l::b,x,p,h,k,o,g,c=>by
  rw[eV] at h;have i:cQ l=true->known ds l.a=0:=fun e=>by
   grind
  have r:eV ds b=0:=by
   grind
  rw[ib] at g;rw[dT,Bool.or_eq_false_iff] at c;have j: ∀e:Int,iq 0 e=e:=fun e=>rfl
  simp only[j] at g;rw[aE3];rcases nw (get:=get) (set:=set) ds i x with e|e
  ·rw[e,show sF 0=false from rfl,aD0] at g
   have d:=Cd ds (k l List.mem_cons_self) i x e;have q:=yc ds l x.1 c.1;rw[q] at c d;rw[O9 ds f (k l List.mem_cons_self) i x p (o l List.mem_cons_self) e c.1,aE2];have:=Ae ds f b (jU get set ds l x).2 (by rw[d];exact p) r (fun m n=>k m (List.mem_cons_of_mem _ n)) (fun m n=>by rw[d];exact o m (List.mem_cons_of_mem _ n)) g (by rw[d];exact c.2)
   rw[d] at this;exact this
  simp_all[sF,aD0,lz]
theorem Mn ds(d:Bz ds){r}(j:wv r.head.l=true)(k: ∀l,l∈r.body->vU l)(a:fA ds r=0) st(q:zX get st)(p: ∀l,l∈r.body->l.x.op=1->get st l.x.s≠0)(h:(eK get set ds r st).1=0)(b:(ee get set ds r st).1=false):kl get ds r st=true:=by
 unfold fA at a;have i:known ds r.head=0:=by
  cases e:decide (known ds r.head=0) with
  |true=>simpa using e
  |false=>rw[e,aD0] at a;exact a
 rw[i] at a;have m:eV ds r.body=0:=a;unfold eK at h;unfold ee at b;unfold kl;have n:cG get set ds r.head (st,false)=(bif (dW get set (bk ds r.head.rel) r.head.l (st,false)).1 then 53 else 0,(dW get set (bk ds r.head.rel) r.head.l (st,false)).2):=by
  unfold cG;rw[i];rfl
 rw[n] at h;rw[Bool.or_eq_false_iff] at b;have g:=lh _ _ _ b.1;rw[g] at b;have f: ∀w,w∈bk ds r.head.rel->w≠0:=fun w k=>by rcases d _ w k with e|e<;>omega
 cases c:(dW get set (bk ds r.head.rel) r.head.l (st,false)).1 with
 |true=>rw[c,aD2,lz ds _ _ m] at h;cases h
 |false=>
  rw[c,aD0] at h;have o:=lY _ _ _ j c;rw[g] at o;rw[Tt _ _ (st,false) j f c b.1,aE2]
  grind [Ae,dW,bk]
end
theorem uk{l s}(h:s∈l.x.vars):s∈dK l:=by grind [dK,ar]
theorem yf{l s}(h:s∈l.y.vars):s∈dK l:=by grind [dK,ar]
theorem Ce{l s}(h:s∈ar l.a.l):s∈dK l:=by grind [dK]
theorem PC{t:Tm}(h:t.op=1):t.s∈t.vars:=by
 obtain⟨a,s,n,l⟩:=t;have h:a=1:=h
 grind [Tm.vars,Tm.s]
section
variable {σ:Type} {get:σ->ByteArray->Int} {set:σ->ByteArray->Int->σ}
def zW(get:σ->ByteArray->Int)(V:ByteArray->Prop) a b:=∃s,V s/\get a s=0/\get b s≠0
theorem zW.left{V W a b c}(h:zW get V a b)(e:Ext get b c)(f: ∀s,V s->W s):zW get W a c:=by
 obtain⟨s,g,i,d⟩:=h;exact⟨s,f s g,i,by rw[e s d];omega⟩
theorem zW.right{V W a b c}(f:Ext get a b)(h:zW get V b c)(g: ∀s,V s->W s):zW get W a c:=by
 obtain⟨s,i,j,d⟩:=h;refine⟨s,g s i,?_,d⟩;cases e:decide (get a s=0) with
 |true=>grind
 |false=>rw[aC7] at e;rw[f s e] at j;omega
variable (hgs: ∀st s k t,get (set st s k) t=bif t==s then k else get st t)
include hgs
mutual
theorem Tm.lj: ∀(t:Tm) (w:Int) (st:σ),(t.cw get set w st).1=true->zW get (fun s=>s∈t.vars) st (t.cw get set w st).2
 | .mk op s n l,w,st,h=>by
  rw[Tm.cw] at h⊢;cases h1:decide (op=1) with
  |false=>
   rw[h1,aD0] at h;rw[aD0];exact(ya l st h).left (Ext.refl _ _) fun s hs=>by rw[Tm.vars];exact aD8 _ hs
  | true=>
   rw[h1,aD2] at h;rw[aD2];cases hc:(decide (w=0)|| !decide (get st s=0)) with
   |true=>rw[hc,aD2] at h;cases h
   |false=>
    rw[aD0];simp only[Bool.or_eq_false_iff,aC7,aD7,at3] at hc;refine⟨s,by rw[Tm.vars,h1];simp,hc.2,?_⟩;rw[hgs];simpa using hc.1
theorem ya: ∀(l:List Tm) (st:σ),(de get set l st).1=true->zW get (fun s=>s∈ar l) st (de get set l st).2
 |[],_,h=>by rw[de] at h;cases h
 | t::l,st,h=>by
  rw[de] at h⊢;cases h1:(t.cw get set 1 st).1 with
  |true=>exact(Tm.lj t 1 st h1).left (oa hgs l _) fun s hs=>by rw[ar];exact List.mem_append_left _ hs
  |false=>
   rw[h1,Bool.false_or] at h;exact zW.right (Tm.dw hgs t 1 st) (ya l _ h) fun s hs=>by rw[ar];exact aD8 _ hs
end
theorem n8: ∀a l st,(bV get set a l st).1=true->zW get (fun s=>s∈ar l) st (bV get set a l st).2
 |[],l,st,h=>by simp[bV] at h
 |w::a,[],st,h=>by simp[bV] at h
 | w::a,t::l,st,h=>by
  rw[bV] at h⊢;cases b:(t.cw get set w st).1 with
  |true=>exact(Tm.lj hgs t w st b).left (gq hgs a l _) fun s c=>by rw[ar];grind
  |false=>
   rw[b] at h;exact zW.right (Tm.dw hgs t w st) (n8 a l _ h) fun s c=>by rw[ar];grind
theorem Ey ds l st(h:(cW get set ds l st).1=true):zW get (fun s=>s∈dK l) st (cW get set ds l st).2:=by
 unfold cW at h⊢;cases d:eX l.op with
 | true=>
  rw[d,aD2] at h;rw[aD2];cases b:(l.x.cw get set (dZ get l st) st).1 with
  |true=>exact(Tm.lj hgs _ _ _ b).left (Tm.dw hgs l.y _ _) fun s=>uk
  |false=>
   rw[b,Bool.false_or] at h;exact zW.right (Tm.dw hgs l.x _ st) (Tm.lj hgs _ _ _ h) fun s=>yf
 | false=>
  rw[d,aD0] at h;rw[aD0];cases c:decide (l.op=1)||decide (l.op=2) with
  |true=>rw[c,aD2] at h;exact(n8 hgs _ _ _ h).left (Ext.refl _ _) fun s=>Ce
  | false=>
   rw[c,aD0] at h;rw[aD0];cases e:(bV get set (bk ds l.a.rel) l.a.l st).1 with
   |true=>exact(n8 hgs _ _ _ e).left ((Tm.dw hgs l.x _ _).trans (Tm.dw hgs l.y _ _)) fun s=>Ce
   | false=>
    rw[e,Bool.false_or] at h;cases b:(l.x.cw get set 1 (bV get set (bk ds l.a.rel) l.a.l st).2).1 with
    |true=>exact zW.right (gq hgs _ _ st) ((Tm.lj hgs _ _ _ b).left (W:=fun s=>s∈dK l) (Tm.dw hgs l.y _ _) fun s=>uk) fun s f=>f
    |false=>
     rw[b,Bool.false_or] at h;exact zW.right ((gq hgs _ _ st).trans (Tm.dw hgs l.x _ _)) (Tm.lj hgs _ _ _ h) fun s=>yf
theorem x7 ds: ∀b st,(dT get set ds b st).1=true->zW get (fun s=>s∈b.flatMap dK) st (dT get set ds b st).2
 |[],_,h=>by cases h
 | l::b,st,h=>by
  rw[dT] at h⊢;cases a:(cW get set ds l st).1 with
  |true=>exact(Ey hgs ds l st a).left (j4 hgs ds b _) (by grind)
  |false=>
   rw[a] at h;exact zW.right (vu hgs ds l st) (x7 ds b _ h) (by grind)
theorem yd ds r st(h:(ee get set ds r st).1=true):zW get (fun s=>s∈eL r) st (ee get set ds r st).2:=by
 unfold ee at h⊢;cases a:(bV get set (bk ds r.head.rel) r.head.l st).1 with
 |true=>exact(n8 hgs _ _ _ a).left (j4 hgs ds _ _) fun s b=>by rw[eL];grind
 |false=>
  grind [zW.right,gq,x7,eL,List.mem_append_right]
theorem U9{st}(a:zX get st){s w}(b:w=0\/w=1\/w=2):zX get (set st s w):=fun t=>by
 rw[hgs];cases t==s
 ·exact a t
 grind
mutual
theorem Tm.nv: ∀(t:Tm) (w:Int) (st:σ),zX get st->(w=0\/w=1\/w=2)->zX get (t.cw get set w st).2
 | .mk op s n l,w,st,hv,hw=>by
  rw[Tm.cw];cases decide (op=1) with
  |false=>exact yb l st hv
  |true=>
   rw[aD2];cases(decide (w=0)|| !decide (get st s=0)) with
   |true=>exact hv
   |false=>exact U9 hgs hv hw
theorem yb: ∀(l:List Tm) (st:σ),zX get st->zX get (de get set l st).2
 |[],_,h=>h
 |t::l,st,h=>by have _:=hgs;rw[de];exact yb l _ (Tm.nv t 1 st h (.inr (.inl rfl)))
end
theorem n9: ∀a l st,(∀w,w∈a->w=1\/w=2)->zX get st->zX get (bV get set a l st).2
 |[],l,st,_,h=>by grind [bV]
 |w::a,[],st,_,h=>by grind [bV]
 |w::a,t::l,st,b,h=>by
  exact n9 _ l _ (by grind) (Tm.nv hgs t w _ h (by simp_all))
theorem Ez ds(a:Bz ds) l st(h:zX get st):zX get (cW get set ds l st).2:=by
 unfold cW;cases eX l.op with
 |true=>grind [Tm.nv,Ex]
 |false=>
  cases decide (l.op=1)||decide (l.op=2) with
  |true=>exact n9 hgs _ _ _ (a _) h
  |false=>exact Tm.nv hgs _ _ _ (Tm.nv hgs _ _ _ (n9 hgs _ _ _ (a _) h) (.inr (.inl rfl))) (by simp)
theorem x9 ds(a:Bz ds): ∀b st,zX get st->zX get (dT get set ds b st).2
 |[],_,h=>h
 |l::b,st,h=>by exact x9 _ a b _ (Ez hgs _ a l _ h)
theorem Ho ds(a:Bz ds) r st(h:zX get st):zX get (ee get set ds r st).2:=x9 hgs _ a _ _ (n9 hgs _ _ _ (a _) h)
omit hgs
def mG(get:σ->ByteArray->Int)(V:List _) st:=(V.filter fun s=>decide (get st s=0)).length
theorem Gh get V(st:σ):mG get V st<=V.length:=List.length_filter_le _ _
theorem Bp{a b}(h:Ext get a b): ∀V,mG get V b<=mG get V a
 |[]=>Nat.le_refl _
 | s::V=>by
  have c:=Bp h V;unfold mG at c⊢;rw[List.filter_cons,List.filter_cons];cases e:decide (get a s=0) with
  |true=>
   grind
  |false=>
   rw[aC7] at e;rw[aC9 (by rw[h s e];exact e)]
   grind
theorem ve{a b}(h:Ext get a b): ∀V,zW get (fun s=>s∈V) a b->mG get V b<mG get V a
 |[],⟨_,c,_⟩=>nomatch c
 | s::V,⟨t,c,f,g⟩=>by
  rcases List.mem_cons.1 c with rfl|c
  ·have d:=Bp h V
   unfold mG at d⊢
   grind
  ·have d:=ve h V ⟨t,c,f,g⟩
   unfold mG at d⊢;rw[List.filter_cons,List.filter_cons];cases e:decide (get a s=0) with
   |true=>
    grind
   |false=>
    rw[aC7] at e;rw[aC9 (by rw[h s e];exact e)];simpa using d
theorem LV ds r st(h:(ee get set ds r st).1=false):(ee get set ds r st).2=st:=by
 grind [ee,lh,Az]
include hgs
theorem vH ds(b:Bz ds){r}(m:ba r=true)(g:fA ds r=0) V(p: ∀s,s∈eL r->s∈V): ∀n st,mG get V st<n->zX get st->
  ((ej get set ds r n st).1=0->(ej get set ds r n st).2=eR get set ds r n st/\((∀s,s∈eL r->get (eR get set ds r n st) s≠0)->kl get ds r (eR get set ds r n st)=true))/\
  ((ej get set ds r n st).1≠0->(ej get set ds r n st).1=53/\kl get ds r (eR get set ds r n st)=false)
 |0,_,h,_=>by omega
 | n+1,st,x,o=>by
  have a:=m;simp only[ba,aC6,List.all_eq_true] at a;have t:wv r.head.l=true:=tG a.1.1.1;have q: ∀l,l∈r.body->vU l:=fun l j=>RZ (a.2 l j)
  have d:=oc hgs ds r st;rw[ej,eR];cases i:decide ((eK get set ds r st).1=0) with
  |false=>
   rw[aD0]
   grind [decide_eq_false_iff_not,Qg,ee,vF,Ext.refl]
  | true=>
   rw[at3] at i;have v:=Ff ds t q g st i;rw[aD2,v];cases k:(ee get set ds r st).1 with
   |true=>
    rw[aD2,aD2];have f:=(yd hgs ds r st k).left (Ext.refl _ _) p;have u:=ve d V f;exact vH ds b m g V p n _ (by simp only;omega) (Ho hgs ds b r st o)
   |false=>
    rw[aD0,aD0];have w:=LV ds r st k;rw[w];refine⟨fun _=>⟨rfl,fun c=>Mn ds b t q g st o (fun l j e=>c _ ?_) i k⟩,fun e=>absurd rfl e⟩;rw[eL,List.mem_append];right
    refine List.mem_flatMap.2 ⟨l,j,uk ?_⟩;exact PC e
end
section
variable {σ ρ:Type} {get:σ->ByteArray->Int} {set:σ->ByteArray->Int->σ} {get':ρ->ByteArray->Int} {set':ρ->ByteArray->Int->ρ} {V:ByteArray->Prop} {P:ρ->Prop}
def Alike(get:σ->ByteArray->Int)(c:ρ->ByteArray->Int)(V:ByteArray->Prop)(P:ρ->Prop) a b:=P b/\∀s,V s->get a s=c b s
variable (hg: ∀st s k t,get (set st s k) t=bif t==s then k else get st t) (hg': ∀st s k t,P st->V s->V t->get' (set' st s k) t=bif t==s then k else get' st t) (hp: ∀st s k,P st->V s->P (set' st s k))
theorem Alike.ty{a b}(h:Alike get get' V P a b){t}(d: ∀s,s∈t.vars->V s):bq get t a=bq get' t b:=by
 unfold bq;cases e:decide (t.op=1) with
 |false=>rfl
 |true=>
  refine h.2 _ (d _ ?_);obtain⟨c,s,n,l⟩:=t;rw[Tm.vars,show decide (c=1)=true from e];simp[Tm.s]
theorem Alike.kind{a b}(h:Alike get get' V P a b){l}(d: ∀s,s∈dK l->V s):dZ get l a=dZ get' l b:=by
 unfold dZ;rw[h.ty  fun s c=>d s (uk c),h.ty  fun s c=>d s (yf c)]
mutual
theorem Alike.fits{a:σ}{b:ρ}(h:Alike get get' V P a b): ∀(t:Tm) (w:Int),(∀s,s∈t.vars->V s)->t.fits get w a=t.fits get' w b
 | .mk op s n l,w,hv=>by
  rw[Tm.fits,Tm.fits];have hl:=h.mh l fun s hs=>hv s (by rw[Tm.vars];exact aD8 _ hs)
  rw[hl];cases h1:decide (op=1) with
  |false=>rfl
  |true=>rw[aD2,aD2,h.2 s (hv s (by rw[Tm.vars,h1];simp))]
theorem Alike.mh{a:σ}{b:ρ}(h:Alike get get' V P a b): ∀(l:List Tm),(∀s,s∈ar l->V s)->mh get l a=mh get' l b
 |[],_=>rfl
 |t::l,hv=>by
  rw[Rl.mh,Rl.mh,h.fits t 1 fun s hs=>hv s (by rw[ar];exact List.mem_append_left _ hs),h.mh l fun s hs=>hv s (by rw[ar];exact aD8 _ hs)]
end
theorem Alike.gX{a b}(h:Alike get get' V P a b): ∀c l,(∀s,s∈ar l->V s)->gX get c l a=gX get' c l b
 |[],_,_=>by rfl
 |_::_,[],_=>by rfl
 |w::c,t::l,d=>by
  rw[Rl.gX,Rl.gX,h.fits t w fun s e=>d s (by grind [ar]),h.gX _ l fun s e=>d s (by grind [ar])]
theorem Alike.gS{a b}(h:Alike get get' V P a b) ds{l}(d: ∀s,s∈dK l->V s):gS get ds l a=gS get' ds l b:=by
 unfold Rl.gS;have f:=fun w=>h.fits _ w fun s c=>d s (uk c)
 have g:=fun w=>h.fits _ w fun s c=>d s (yf c)
 have i:=fun e=>h.gX e _ fun s c=>d s (Ce c)
 grind
theorem Alike.kl{a b}(h:Alike get get' V P a b) ds{r}(e: ∀s,s∈eL r->V s):kl get ds r a=kl get' ds r b:=by
 unfold Rl.kl;rw[h.gX _ r.head.l fun s g=>e s (by rw[eL];exact List.mem_append_left _ g)];congr 1
 have j: ∀c:List Lt,(∀l,l∈c->∀s,s∈dK l->V s)->(c.all fun l=>Rl.gS get ds l a)=c.all fun l=>Rl.gS get' ds l b:=by
  intro c;induction c with
  |nil=>intro _;rfl
  |cons l c i=>
   intro d;rw[aE3,aE3,h.gS ds (d l List.mem_cons_self),i fun m f=>d m (List.mem_cons_of_mem _ f)]
 grind [eL]
include hg hg' hp
mutual
theorem Alike.cw: ∀(t:Tm) (w:Int) {a:σ} {b:ρ},Alike get get' V P a b->(∀s,s∈t.vars->V s)->(t.cw get set w a).1=(t.cw get' set' w b).1/\Alike get get' V P (t.cw get set w a).2 (t.cw get' set' w b).2
 | .mk op s n l,w,a,b,h,hv=>by
  rw[Tm.cw,Tm.cw];cases h1:decide (op=1) with
  |false=>exact Alike.de l h fun s hs=>hv s (by rw[Tm.vars];exact aD8 _ hs)
  | true=>
   have hs:V s:=hv s (by rw[Tm.vars,h1];simp);rw[aD2,aD2,h.2 s hs];cases(decide (w=0)|| !decide (get' b s=0)) with
   |true=>exact⟨rfl,h⟩
   |false=>
    refine⟨rfl,hp b s w h.1 hs,fun t ht=>?_⟩;rw[aD0,aD0,hg,hg' b s w t h.1 hs ht,h.2 t ht]
theorem Alike.de: ∀(l:List Tm) {a:σ} {b:ρ},Alike get get' V P a b->(∀s,s∈ar l->V s)->(de get set l a).1=(de get' set' l b).1/\Alike get get' V P (de get set l a).2 (de get' set' l b).2
 |[],a,b,h,_=>by have _:=hg;have _:=hg';have _:=hp;exact⟨rfl,h⟩
 |t::l,a,b,h,hv=>by
  rw[Rl.de,Rl.de];obtain⟨e1,h1⟩:=Alike.cw t 1 h fun s hs=>hv s (by rw[ar];exact List.mem_append_left _ hs)
  obtain⟨e2,h2⟩:=Alike.de l h1 fun s hs=>hv s (by rw[ar];exact aD8 _ hs)
  exact⟨by rw[e1,e2],h2⟩
end
theorem Alike.bV: ∀c l {a b},Alike get get' V P a b->(∀s,s∈ar l->V s)->(bV get set c l a).1=(bV get' set' c l b).1/\Alike get get' V P (bV get set c l a).2 (bV get' set' c l b).2
 |[],l,a,b,h,_=>by simpa[Rl.bV] using h
 |w::c,[],a,b,h,_=>by simpa[Rl.bV] using h
 |w::c,t::l,a,b,h,d=>by
  rw[Rl.bV,Rl.bV];obtain⟨g,e⟩:=Alike.cw hg hg' hp t w h fun s f=>d s (by rw[ar];grind)
  obtain⟨j,i⟩:=Alike.bV c l e fun s f=>d s (by rw[ar];grind)
  grind
theorem Alike.cW ds l{a b}(h:Alike get get' V P a b)(d: ∀s,s∈dK l->V s):(cW get set ds l a).1=(cW get' set' ds l b).1/\Alike get get' V P (cW get set ds l a).2 (cW get' set' ds l b).2:=by
 unfold Rl.cW;have j: ∀s,s∈l.x.vars->V s:=fun s c=>d s (uk c)
 have g: ∀s,s∈l.y.vars->V s:=fun s c=>d s (yf c)
 have k: ∀s,s∈ar l.a.l->V s:=fun s c=>d s (Ce c)
 cases eX l.op with
 |true=>
  rw[aD2,aD2,h.kind d]
  grind [Alike.cw,dZ]
 | false=>
  rw[aD0,aD0];obtain⟨e,f⟩:=Alike.bV hg hg' hp (bk ds l.a.rel) l.a.l h k;cases decide (l.op=1)||decide (l.op=2) with
  |true=>exact⟨e,f⟩
  |false=>
   obtain⟨m,n⟩:=Alike.cw hg hg' hp l.x 1 f j;obtain⟨o,i⟩:=Alike.cw hg hg' hp l.y 1 n g;exact⟨by rw[aD0,aD0,e,m,o],i⟩
theorem Alike.dT ds: ∀l {a b},Alike get get' V P a b->(∀s,s∈l.flatMap dK->V s)->(dT get set ds l a).1=(dT get' set' ds l b).1/\Alike get get' V P (dT get set ds l a).2 (dT get' set' ds l b).2
 |[],a,b,h,_=>⟨rfl,h⟩
 |l::m,a,b,h,d=>by
  rw[Rl.dT,Rl.dT];obtain⟨f,c⟩:=Alike.cW hg hg' hp ds l h (by grind);obtain⟨g,e⟩:=Alike.dT ds m c (by grind)
  grind
theorem Alike.ee ds r{a b}(h:Alike get get' V P a b)(c: ∀s,s∈eL r->V s):(ee get set ds r a).1=(ee get' set' ds r b).1/\Alike get get' V P (ee get set ds r a).2 (ee get' set' ds r b).2:=by
 grind [Rl.ee,Alike.bV,eL,Alike.dT]
theorem Alike.rounds ds r(c: ∀s,s∈eL r->V s): ∀n {a b},Alike get get' V P a b->Alike get get' V P (eR get set ds r n a) (eR get' set' ds r n b)
 |0,_,_,h=>h
 |n+1,a,b,h=>by
  rw[eR,eR];obtain⟨e,d⟩:=Alike.ee hg hg' hp _ r h c;rw[e];cases(Rl.ee _ _ _ r b).1
  ·grind
  ·exact Alike.rounds _ r c n d
end
def getM a s:=toInt (dj a (.string s) (.lit (.int .i64 0)))
def fY a s k:=fb a (.string s) (.lit (.int .i64 k))
theorem lG: ∀a s k t,getM (fY a s k) t=bif t==s then k else getM a t
 |[],s,k,t=>by
  simp only[getM,fY,fb,dj,eP];cases t==s<;>rfl
 | (d,e)::a,s,k,t=>by
  have b:=lG a s k t;simp only[getM,fY,fb,dj] at b⊢;cases h:eP (.string s) d with
  |true=>
   have c:=Ax h;subst c;simp only[aD2,dj,eP];cases f:t==s<;>rfl
  |false=>
   simp only[aD0,dj]
   grind
def Yy(V:List _) s:=V.findIdx (oT s)
def ru V(τ:List Int) s:=τ.getD (Yy V s) 0
def iD V(τ:List Int) s k:=τ.set (Yy V s) k
theorem HT{V s}(h:s∈V):Yy V s<V.length:=List.findIdx_lt_length_of_exists ⟨s,h,BN.2 rfl⟩
theorem J7{V s} h:V[Yy V s]'(HT h)=s:=by
 have:=List.findIdx_getElem   (w:=HT h)
 exact(BN.1 this).symm
theorem Ua{V s t}(b:s∈V)(a:t∈V)(h:Yy V s=Yy V t):s=t:=by
 grind [J7]
theorem Yz{V}(a:V.Nodup){i} h:Yy V V[i]=i:=by
 grind [J7,List.pairwise_iff_getElem]
theorem OF V: ∀τ s k t,τ.length=V.length->s∈V->t∈V->ru V (iD V τ s k) t=bif t==s then k else ru V τ t:=by
 grind [ru,iD,Ua,HT]
theorem EI{V:List _}(b:V.Nodup){τ}(a:τ.length=V.length):V.map (ru V τ)=τ:=by
 apply List.ext_getElem
 ·grind
 grind [ru,Yz]
def uY ds r:=
 bif decide ((ej getM fY ds r ((bK r).length+1) []).1=0) then
  bif (bK r).all fun s=>!decide (getM (ej getM fY ds r ((bK r).length+1) []).2 s=0) then(0,(bK r).map (getM (ej getM fY ds r ((bK r).length+1) []).2)) else(53,[])
 else((ej getM fY ds r ((bK r).length+1) []).1,[])
def IG ds r:=
 bif decide (fA ds r=0) then
  bif (eR (ru (bK r)) (iD (bK r)) ds r ((bK r).length+1) ((bK r).map fun _=>0)).all (fun k=>!decide (k=0))&&kl (ru (bK r)) ds r (eR (ru (bK r)) (iD (bK r)) ds r ((bK r).length+1) ((bK r).map fun _=>0)) then
   (0,eR (ru (bK r)) (iD (bK r)) ds r ((bK r).length+1) ((bK r).map fun _=>0)) else(53,[])
 else(fA ds r,[])
theorem uh ds a:known ds a=0\/known ds a=51\/known ds a=52:=by
 grind [known]
section
variable {σ:Type} {get:σ->ByteArray->Int} {set:σ->ByteArray->Int->σ}
theorem D2 ds: ∀b y,y.1=0\/y.1=53->eV ds b≠0->(ib get set ds b y).1=eV ds b
 |[],_,_,h=>absurd rfl h
 | l::b,y,i,h=>by
  rw[eV] at h⊢;rw[ib];cases c:cQ l&& !decide (known ds l.a=0) with
  |true=>
   rw[aD2]
   grind [TO,iq,known,uh,sF]
  | false=>
   rw[c,aD0] at h;rw[aD0];have j:cQ l=true->known ds l.a=0:=fun e=>by
    rw[e,aE2] at c;simpa using c
   have d:iq y.1 (jU get set ds l y.2).1=0\/iq y.1 (jU get set ds l y.2).1=53:=by
    rcases nw (get:=get) (set:=set) ds j y.2 with e|e<;>rcases i with f|f<;>rw[e,f]<;>decide
   have g:sF (iq y.1 (jU get set ds l y.2).1)=false:=by rcases d with e|e<;>rw[e]<;>rfl
   rw[g,aD0];exact D2 ds b _ d h
theorem yH ds r st(h:fA ds r≠0):(eK get set ds r st).1=fA ds r:=by
 unfold eK;unfold fA at h⊢;cases a:decide (known ds r.head=0) with
 |true=>
  rw[a,aD2] at h;rw[aD2];refine D2 ds _ _ ?_ h;unfold cG
  grind
 | false=>
  rw[aD0];have b:cG get set ds r.head (st,false)=(known ds r.head,(st,false)):=by
   unfold cG;rw[a];rfl
  rw[b];rw[aC7] at a;cases r.body<;>grind [ib,iq,known,uh,sF]
end
theorem G2 m:(kV [] m).Nodup:=by
 rw[←Na];have b: ∀m o,o.Nodup->(zt o m).Nodup:=by
  intro m;induction m with
  |nil=>intro o h;exact h
  |cons s m a=>
   grind [zu,S2]
 grind
theorem vG ds r(c:ba r=true) n:Alike getM (ru (bK r)) (fun s=>s∈bK r) (fun τ=>τ.length=(bK r).length) (eR getM fY ds r n []) (eR (ru (bK r)) (iD (bK r)) ds r n ((bK r).map fun _=>0)):=by
 refine Alike.rounds lG (fun st s k t b a d=>OF _ st s k t b a d) (fun st s k b _=>by grind [iD]) ds r (fun s a=>(qu c).2 a) n ⟨by simp,fun s a=>?_⟩;have e:getM [] s=0:=rfl
 grind [ru]
theorem RS ds(m:Bz ds){r}(h:ba r=true):uY ds r=IG ds r:=by
 have p:(bK r).Nodup:=by unfold bK;rw[h];exact G2 _
 unfold IG;cases f:decide (fA ds r=0) with
 |false=>
  rw[aD0];rw[aC7] at f;have e:=yH (get:=getM) (set:=fY) ds r [] f;unfold uY;rw[ej,e,aC9 f,aD0];simp only[aC9 f,aD0]
 | true=>
  rw[aD2];rw[at3] at f;have n: ∀s,s∈eL r->s∈bK r:=fun s g=>(qu h).2 g
  have c:=vH lG ds m h f (bK r) n ((bK r).length+1) [] (Nat.lt_succ_of_le (Gh _ _ _)) (fun s=> .inl rfl);have a:=Alike.kl (vG ds r h ((bK r).length+1)) ds (r:=r) n;obtain⟨b,i⟩:=vG ds r h ((bK r).length+1);generalize u:eR (ru (bK r)) (iD (bK r)) ds r ((bK r).length+1) ((bK r).map fun _=>0)=τ at b i a⊢
  have d:(bK r).all (fun s=>!decide (getM (eR getM fY ds r ((bK r).length+1) []) s=0))=τ.all fun k=>!decide (k=0):=by
   conv=>rhs;rw[←EI p b]
   grind
  unfold uY;cases j:decide ((ej getM fY ds r ((bK r).length+1) []).1=0) with
  |false=>
   rw[aC7] at j;obtain⟨o,l⟩:=c.2 j;rw[a] at l;rw[aD0,o,l,Bool.and_false,aD0]
  | true=>
   rw[at3] at j;obtain⟨o,l⟩:=c.1 j;rw[aD2,o,d];cases q:τ.all fun k=>!decide (k=0) with
   |false=>rw[Bool.false_and];rfl
   | true=>
    have:kl (ru (bK r)) ds r τ=true:=by
     rw[←a];refine l fun s g=>?_
     rw[←d,List.all_eq_true] at q;simpa using q s (n s g)
    rw[this,Bool.and_true,aD2,aD2];have t:(bK r).map (getM (eR getM fY ds r ((bK r).length+1) []))=τ:=by
     refine Eq.trans (List.map_congr_left fun s g=>i s g) (EI p b)
    rw[t]
end Go.Rl
namespace Go.Proofs.YtioeffnadipbaaaGreatDoor
open Go Go.Dn Go.Rl Go.Proofs Go.RowKit Go.Extern.Stop Go.Stop Go.Extern
def Vw(κ:Kp)(e:Int):=bif decide (e=51) then κ.gh else bif decide (e=52) then κ.arity else κ.type
def bh(κ:Kp)(e:Int):Value:=bif decide (e=0) then .nilIface else .iface 273 (.pointer (some (Vw κ e)))
def x0(e:Int):=e=51\/e=52\/e=53
def kq(e:Int):Prop:=e=0\/x0 e
theorem cR κ e:aD (bh κ e)=true:=by unfold bh;cases decide (e=0)<;>rfl
theorem j3 κ e:bU (bh κ e)=decide (e=0):=by unfold bh;cases decide (e=0)<;>rfl
theorem N5 κ{e k}(b:x0 e)(a:x0 k)(h:e≠k):Vw κ e≠Vw κ k:=by
 rcases b with rfl|rfl|rfl<;>rcases a with rfl|rfl|rfl<;>first|grind|exact κ.d1|exact κ.d2|exact κ.d3|exact κ.d1.symm|exact κ.d2.symm|exact κ.d3.symm
theorem Tn κ{e k}(a:kq e)(b:kq k):bh κ e=bh κ k↔e=k:=by
 rcases a with rfl|a
 ·grind [bh]
 ·have e0:decide (e=0)=false:=by rcases a with rfl|rfl|rfl<;>rfl
  rcases b with rfl|b
  ·grind [bh]
  grind [bh,N5]
theorem Jz κ{e}(f:x0 e): ∃c t,Aw κ (Vw κ e).block=some (.cells c t (0,0)):=by
 have d: ∀b,(∀g,g∈[1,0,3,4,2]->b≠g)->b=κ.gh.block\/b=κ.arity.block\/b=κ.type.block->∃c t,Aw κ b=some (.cells c t (0,0)):=by
  intro b a h;unfold Aw;rw[tP (a _ (by simp)),tP (a 0 (by simp)),tP (a 3 (by simp)),tP (a 4 (by simp)),tP (a 2 (by simp))];simp only[aD0];cases k:Nat.beq b κ.gh.block with
  |true=>exact⟨_,_,rfl⟩
  | false=>
   rw[aD0];cases i:Nat.beq b κ.arity.block with
   |true=>exact⟨_,_,rfl⟩
   |false=>
    rw[aD0];cases j:Nat.beq b κ.type.block<;>grind [Nat.beq_refl]
 rcases f with rfl|rfl|rfl
 ·exact d _ κ.n3 (.inl rfl)
 ·exact d _ κ.n4 (.inr (.inl rfl))
 ·exact d _ κ.n5 (.inr (.inr rfl))
theorem ag9 v a w:(Instr.typeAssert (.iface 273 v) a 259 true).run Tryz.prog w= .ok (.tuple #[.nilIface, .bool false]) w:=run_typeAssert_lacksB Tryz.underlying259 (by kernel_rfl) (by kernel_rfl) v _ w
theorem Mb v a w:(Instr.typeAssert (.iface 273 v) a 261 true).run Tryz.prog w= .ok (.tuple #[.nilIface, .bool false]) w:=run_typeAssert_lacksB Tryz.underlying261 (by kernel_rfl) (by kernel_rfl) v _ w
theorem HA v a w:(Instr.typeAssert (.iface 273 v) a 263 true).run Tryz.prog w= .ok (.tuple #[.nilIface, .bool false]) w:=run_typeAssert_lacksB Tryz.underlying263 (by kernel_rfl) (by kernel_rfl) v _ w
set_option maxRecDepth 8000 in
theorem OX(a b:Addr)(w:World)(hab:a≠b){ca cb:Array Value}{ta tb:TypeId}(ha:w.heap[a.block]? =some (.cells ca ta (0,0)))(hb:w.heap[b.block]? =some (.cells cb tb (0,0))):
  Calls Tryz.prog 108 #[.iface 273 (.pointer (some a)), .iface 273 (.pointer (some b))] w fun e w'=>e= .returned (.bool false)/\w'=w:=by
 obtain⟨i,hi,hcmp⟩:=Option.map_eq_some_iff.1 Hh;obtain⟨j,hj,hjs⟩:=Option.map_eq_some_iff.1 Hj;have h8:= @run_callFunc_extern Tryz.prog 157 _ Extern.ReflectliteType.typeOf Tryz.func157 (by kernel_rfl) (by kernel_rfl) (by kernel_rfl) (by kernel_rfl);have h32:= @run_callFunc_extern Tryz.prog 222 _ (Extern.ReflectliteType.method fun t=>do Go.Extern.Rtype.noPackHeld "Comparable" t;pure (.bool (←typeInfo t).comparable)) Tryz.func222 (by kernel_rfl) (by kernel_rfl) (by kernel_rfl) (by kernel_rfl);have tT:=x1;have cT:=nY;have mR:=jo;have hne:=run_eql_iface_ptr_other (P:=Tryz.prog) w Tryz.underlying171 Tryz.underlying273 hi hcmp hj (by omega) hab ha hb;have n1:=ag9;have n2:=Mb;have n3:=HA
 go_enter Tryz.func108,Tryz.ntmps108
 go_wp2
 refine wp_loop_rounds 1 ?_;rw[rounds_succ]
 go_wp2
 all_goals (go_ret;exact⟨rfl,rfl⟩)
open Classical in
noncomputable def lL(κ:Kp)(v:Value):Bool:=decide (∃e,kq e/\v=bh κ e)
open Classical in
noncomputable def mQ(κ:Kp)(v:Value):Bool:=decide (∃e,x0 e/\v=bh κ e)
open Classical in
noncomputable def iu(v t:Value):Bool:=decide (v=t)
theorem yu κ v:lL κ v=true↔ ∃e,kq e/\v=bh κ e:=by grind [lL]
theorem EU κ v:mQ κ v=true↔ ∃e,x0 e/\v=bh κ e:=by grind [mQ]
theorem MC v t:iu v t=true↔v=t:=by grind [iu]
theorem CC κ{e}(h:kq e):lL κ (bh κ e)=true:=(yu _ _).2 ⟨e,h,rfl⟩
theorem CE κ{e}(h:x0 e):mQ κ (bh κ e)=true:=(EU _ _).2 ⟨e,h,rfl⟩
theorem ji κ{e k}(b:kq e)(a:kq k):iu (bh κ e) (bh κ k)=decide (e=k):=by
 rw[Bool.eq_iff_iff,MC]
 grind [Tn]
noncomputable def X3(κ:Kp):List AV->Option (Bool×AV)
 |[.lit v, .lit t]=>some (lL κ v&&mQ κ t, .bool (iu v t))
 |_=>none
theorem ay9 κ:gW (Pr κ) 108 (X3 κ):=by
 intro i x v b;unfold X3 at b;split at b
 ·simp only[aC8,aD4,aC6] at b
  obtain⟨⟨m,l⟩,rfl⟩:=b;obtain⟨e,a,rfl⟩:=(yu _ _).1 m;obtain⟨k,d,rfl⟩:=(EU _ _).1 l;have q:decide (k=0)=false:=by rcases d with rfl|rfl|rfl<;>rfl
  have c:bh κ k= .iface 273 (.pointer (some (Vw κ k))):=by unfold bh;rw[q];rfl
  refine⟨_,_,Tryz.func108,rfl,rfl,rfl,fun C u j g o=>?_⟩;rw[zp o,ji κ a (.inr d)];rcases a with rfl|a
  ·have e0:bh κ 0= .nilIface:=rfl
   rw[e0,c];refine(callsIn_wide.2 (OW _ C.w)).mono ?_
   grind [iQ.refl,decide_eq_false]
  ·have e0:decide (e=0)=false:=by rcases a with rfl|rfl|rfl<;>rfl
   have f:bh κ e= .iface 273 (.pointer (some (Vw κ e))):=by unfold bh;rw[e0];rfl
   rw[f,c];by_cases h:e=k
   ·subst h
    refine(callsIn_wide.2 (Jx _ C.w)).mono ?_;rintro e r ⟨rfl,rfl⟩;refine⟨?_,iQ.refl _⟩;rw[aD1 rfl]
   ·obtain⟨A,B,p⟩:=Jz κ a
    obtain⟨y,z,s⟩:=Jz κ d;have t:=(g.kept _ _ (by rw[j];exact p)).2;have n:=(g.kept _ _ (by rw[j];exact s)).2;refine(callsIn_wide.2 (OX _ _ C.w (N5 κ a d h) t n)).mono ?_;rintro e r ⟨rfl,rfl⟩;refine⟨?_,iQ.refl _⟩;rw[aC9 h]
 ·cases b
noncomputable def SL κ:=(E15 κ).aO 108 (X3 κ)
theorem eIe κ:aE (SL κ):=(e15 _).fg (ay9 _)
theorem mIe κ:aj (SL κ):=(m15 _).aO
end Go.Proofs.YtioeffnadipbaaaGreatDoor
namespace Go.Proofs.YtioeffnadipbaaaGreatDoor
open Go Go.Dn Go.Rl Go.Proofs
attribute [local irreducible] a8 vc
set_option maxRecDepth 20000
structure WD where
 rel:ByteArray
 names:List AV
 types:List AV
 i:Bool
 o:Bool
 line:Int
abbrev Vz(d:WD):AV:= .agg [.lit (.string d.rel), .ah 9 d.names, .ah 3 d.types, .bool d.i, .bool d.o, .int d.line]
def M7 t:=decide (toInt t=1)||decide (toInt t=2)
def CD:List AV->List AV->Bool
 |n::b,t::a=>isName (toStr n)&&M7 t&&CD b a
 |_,_=>true
def xq b a c:=isName b&& !decide (a.length=0)&&decide (a.length<=8)&&decide (c.length=a.length)&&CD a c
def G1 a:=xq (toStr (af a 0)) (ag (af a 1)) (ag (af a 2))
theorem Mf{b a i}(d:i<b.length)(c:i<a.length):CD (b.drop i) (a.drop i)=(isName (toStr (nth b i))&&M7 (nth a i)&&CD (b.drop (i+1)) (a.drop (i+1))):=by
 grind [List.drop_eq_getElem_cons,CD,aV]
theorem xDc κ d i I n K:(vc (SL κ) 12 94 none 0 (ad (Pr κ).toProgram 94 4) (sp 58 [(1, .ptr 0 0 [] 0),(31, .ah 9 d.names),(32, .int d.names.length),(33, .int i)] [.box 43 (Vz d)]) (bg (SL κ) 94 4 0 I n K))=(
 letI a:=∃e0,e0<n/\I e0 (sp 58 [(1,.ptr 0 0 [] 0),(31,.ah 9 d.names),(32,AV.int ↑(d.names.length)),(33,AV.int (IntKind.wrap
  .i64 (i+1)))] [.box 43 (.agg [AV.str d.rel,.ah 9 d.names,.ah 3 d.types,AV.bool d.i,AV.bool d.o,AV.int d.line])])
 letI b:=decide (0<=i)&&decide (i<↑(d.types.length))
 letI c:=K .ret (sp 58 [(2,AV.bool false)] [])
 letI e:=i<↑(d.names.length)
 aq (decide e) (aW (decide (0<=i)&&decide e) (aq (!isName (toStr (nth d.names i.toNat))) c (aW b (aq (toInt (nth d.types i.toNat) != 1)
 (aW b (aq (toInt (nth d.types i.toNat) != 2) c a)) a)))) (K (.exit 0) (sp 58 [] []))):=by kernel_rfl
abbrev UB(a:WD×Int):=sp 58 [(1, .ptr 0 0 [] 0),(31, .ah 9 a.1.names),(32, .int a.1.names.length),(33, .int a.2)] [.box 43 (Vz a.1)]
def Ia(a:WD×Int):=a.1.types.length=a.1.names.length/\a.1.names.length<=8/\0<=a.2/\a.2<=a.1.names.length
def E1(a:WD×Int):Out (Exit×S):= .aq (CD (a.1.names.drop a.2.toNat) (a.1.types.drop a.2.toNat)) (.one (.exit 0,sp 58 [] [])) (.one (.ret,sp 58 [(2, .bool false)] []))
theorem lDc κ:aU (SL κ) 12 94 4 (aG 0 UB Ia E1):=by
 refine aC (fun a=>a.1.names.length - a.2.toNat) ?_;rintro⟨d,i⟩ K ⟨c,e,h,g⟩ b;simp only at c e h g;rw[show(SL κ).P=Pr κ from rfl];refine Eq.mpr (xDc κ d i _ _ K) ?_;simp only[E1,Out.run,ae] at b;simp only[ae,ai,at3,aC7,aC6,Bool.not_eq_true',aD7,bne_iff_ne,bne_eq_false_iff_eq];refine⟨fun j=>?_,fun j=>?_⟩
 ·have k:i.toNat<d.names.length:=by omega
  rw[Mf k (by omega)] at b;rw[az (n:=i+1) (by omega) (by omega)];have o:M7 (nth d.types i.toNat)=true->isName (toStr (nth d.names i.toNat))=true->∃m,m<d.names.length - i.toNat/\eW UB Ia E1 (fun a=>a.1.names.length - a.2.toNat) K m (UB (d,i+1)):=fun l f=>by
   rw[l,f,aE2,aE2] at b;refine⟨_,?_,(d,i+1),rfl,⟨c,e,by simp only;omega,by simp only;omega⟩,rfl,?_⟩
   ·simp only;omega
   ·simp only[E1,Out.run,ae,show(i+1).toNat=i.toNat+1 by omega]
    exact b
  simp_all[M7,nth,aC9,aD1,Bool.or_true,Bool.true_or]
 ·rw[aD3 (by omega)] at b
  exact b.1 rfl
noncomputable def EDl κ:=(SL κ).an 94 4 (aG 0 UB Ia E1)
theorem eDl κ:aE (EDl κ):=(eIe _).an (mIe _) (lDc _)
theorem mDl κ:aj (EDl κ):=(mIe _).an aK
theorem yDc κ d K:(a8 (EDl κ) 12 94 [Vz d] [] K)=(
 letI a:=AV.int
 letI b:=AV.bool
 letI c:=AV.ah
 letI e:=K (b false) []
 letI f:=d.names.length
 letI g:=Pg.toProgram (Env.P (SL κ))
 aq (!isName d.rel) e (aq (↑f==(0:Int)) e (aq (decide (↑f>(8:Int))) e (aq (↑(d.types.length) != (↑f:Int)) e (ad g 94 4
 =ad g 94 4/\∃(e0:WD×Int),sp 58 [(1,.ptr 0 0 [] 0),(31,c 9 d.names),(32,a ↑f),(33,a 0)] [.box 43 (.agg [AV.str
 d.rel,c 9 d.names,c 3 d.types,b d.i,b d.o,a d.line])]=sp 58 [(1,.ptr 0 0 [] 0),(31,c 9 e0.1.names),(32,a
 ↑(e0.1.names.length)),(33,a e0.2)] [.box 43 (.agg [AV.str e0.1.rel,c 9 e0.1.names,c 3 e0.1.types,b e0.1.i,b e0.1.o,
 a e0.1.line])]/\(e0.1.types.length=e0.1.names.length/\e0.1.names.length<=8/\0<=e0.2/\e0.2<=↑(e0.1.names.length))/\aq (CD
 (List.drop e0.2.toNat e0.1.names) (List.drop e0.2.toNat e0.1.types)) (K (b true) []) e))))):=by kernel_rfl
def gDc:List AV->Option (Bool×AV)
 |[.agg [.lit (.string a), .ah 9 b, .ah 3 c, .lit (.bool _), .lit (.bool _), .lit (.int .i64 _)]]=>some (true, .bool (xq a b c))
 |_=>none
theorem pDc κ:cm (EDl κ) 12 94 gDc:=by
 intro h x d;unfold gDc at d;split at d
 ·rename_i c b f j i a
  simp only[aC8,aD4,true_and] at d;subst d;refine⟨_,rfl,rfl,?_⟩;refine Eq.mpr (yDc κ ⟨c,b,f,j,i,a⟩ _) ?_;unfold xq;simp only[ae,at3,aC7,Bool.not_eq_true',aD7,beq_iff_eq,beq_eq_false_iff_ne,bne_iff_ne,bne_eq_false_iff_eq];refine⟨fun e=>o6 (by rw[e];rfl),fun e=>⟨fun k=>o6 ?_,fun k=>⟨fun l=>o6 ?_,fun l=>⟨fun m=>o6 ?_,fun m=>⟨trivial,(⟨c,b,f,j,i,a⟩,0),rfl,⟨by simp only;omega,by simp only;omega,by simp only;omega,by simp only;omega⟩,?_⟩⟩⟩⟩⟩
  ·rw[aD1 (show b.length=0 by omega)];simp
  ·rw[aC9 (show ¬ b.length<=8 by omega)];simp
  ·rw[aC9 (show ¬ f.length=b.length by omega)];simp
  ·rw[e,aC9 (show ¬ b.length=0 by omega),aD1 (show b.length<=8 by omega),aD1 (show f.length=b.length by omega)]
   simp only[Int.toNat_zero,aD5,Bool.not_false,aE2];exact⟨fun g=>o6 g.symm,fun g=>o6 g.symm⟩
 ·cases d
noncomputable def SH κ:=(EDl κ).aO 94 gDc
theorem eDc κ:aE (SH κ):=(eDl _).aO (mDl _) (pDc _)
theorem mDc κ:aj (SH κ):=(mDl _).aO
theorem aB0 κ ds rs i I n K:(vc (SH κ) 12 109 none 1 (ad (Pr κ).toProgram 109 2) (sp 19 [(0, .ah 43 ds),(1, .bo 93 []),(7, .int ds.length),(8, .int i)] [.box 25 (.agg [.ah 43 ds, .ah 48 rs])]) (bg (SH κ) 109 2 1 I n K))=(
 letI a:=.agg [.ah 43 ds,.ah 48 rs]
 letI b:=nth ds i.toNat
 letI c:=i<↑(ds.length)
 aq (decide c) (aW (decide (0<=i)&&decide c) (aq (!xq (toStr (af b 0)) (ag (af b 1)) (ag (af b 2))) (K .ret (sp 19 [(4,AV.int i)] [.box
 25 a])) (∃e0,e0<n/\I e0 (sp 19 [(0,.ah 43 ds),(1,.bo 93 []),(7,AV.int ↑(ds.length)),(8,AV.int (IntKind.wrap .i64 (i+1)))] [.box 25 a])))) (K (.exit 0) (sp 19 [] [.box 25 a]))):=by kernel_rfl
abbrev OY:Nat:=109
abbrev ZG:Nat:=119
abbrev Lh(ds a:List AV):Dn.Obj:= .box 25 (.agg [.ah 43 ds, .ah 48 a])
abbrev Sb:=List AV×List AV×Int
abbrev Wl(a:Sb):=sp 19 [(0, .ah 43 a.1),(1, .bo 93 []),(7, .int a.1.length),(8, .int a.2.2)] [Lh a.1 a.2.1]
def Kx(a:Sb):=a.1.length<=aX/\0<=a.2.2/\a.2.2<=a.1.length
def CR(a:Sb):Out (Exit×S):= .aq ((a.1.drop a.2.2.toNat).all G1) (.one (.exit 0,sp 19 [] [Lh a.1 a.2.1])) (.all (fun j=>0<=j) fun j=> .one (.ret,sp 19 [(4, .int j)] [Lh a.1 a.2.1]))
theorem ay0 κ:aU (SH κ) 12 OY 2 (aG 1 Wl Kx CR):=by
 refine aC (fun a=>a.1.length - a.2.2.toNat) ?_;rintro⟨ds,f,i⟩ K ⟨d,c,j⟩ b;simp only at d c j;rw[show(SH κ).P=Pr κ from rfl];refine Eq.mpr (aB0 κ ds f i _ _ K) ?_;simp only[aX] at d;simp only[CR,Out.run,ae] at b;simp only[ae,ai,at3,aC7,aC6,Bool.not_eq_true',aD7];refine⟨fun g=>⟨⟨c,g⟩,?_⟩,fun g=>?_⟩
 ·have h:i.toNat<ds.length:=by omega
  rw[aD6 h,←aV ds i.toNat h,aE3] at b;refine⟨fun e=>b.2 (by rw[show G1 (nth ds i.toNat)=false from e];rfl) i c,fun e=>?_⟩;rw[show G1 (nth ds i.toNat)=true from e,aE2] at b;rw[az (n:=i+1) (by omega) (by omega)];refine⟨_,?_,(ds,f,i+1),rfl,⟨by simpa[aX] using d,by simp only;omega,by simp only;omega⟩,rfl,?_⟩
  ·simp only;omega
  grind [CR,Out.run,ae]
 ·rw[aD3 (by omega)] at b
  exact b.1 rfl
noncomputable def wW κ:=(SH κ).an OY 2 (aG 1 Wl Kx CR)
theorem aw2 κ:aE (wW κ):=(eDc _).an (mDc _) (ay0 _)
theorem ag3 κ:aj (wW κ):=(mDc _).an aK
theorem aB1 κ ds rs i I n K:(vc (wW κ) 12 119 none 1 (ad (Pr κ).toProgram 119 2) (sp 19 [(0, .ah 48 rs),(1, .bo 95 []),(7, .int rs.length),(8, .int i)] [.box 25 (.agg [.ah 43 ds, .ah 48 rs])]) (bg (wW κ) 119 2 1 I n K))=(
 letI b:=.agg [.ah 43 ds,.ah 48 rs]
 letI a:=nth rs i.toNat
 letI c:=i<↑(rs.length)
 aq (decide c) (aW (decide (0<=i)&&decide c) (aW (decide (List.length (ag (af (af a 0) 1))<=9223372036854775807)&&decide (List.length (ag (af a 1))<=9223372036854775807)) (aq (!ba {head:={rel:=toStr (af (af a 0) 0),l:=aa (ag (af (af a 0) 1))},body:=dI (ag (af a 1))}) (K .ret (sp 19 [(4,AV.int i)] [.box 25 b])) (∃e0,e0<n/\I e0 (sp 19 [(0,.ah 48 rs),(1,.bo 95 []),(7,AV.int ↑(rs.length)),(8,AV.int (IntKind.wrap .i64 (i+1)))] [.box 25 b]))))) (K (.exit 0) (sp 19 [] [.box 25 b]))):=by kernel_rfl
def ei a:=decide ((ag (af (af a 0) 1)).length<=aX)&&decide ((ag (af a 1)).length<=aX)
def rK(a:AV):Bool:=ba (y1 a)
abbrev Wm(a:Sb):=sp 19 [(0, .ah 48 a.2.1),(1, .bo 95 []),(7, .int a.2.1.length),(8, .int a.2.2)] [Lh a.1 a.2.1]
def Ky(a:Sb):=a.2.1.length<=aX/\0<=a.2.2/\a.2.2<=a.2.1.length/\a.2.1.all ei=true
def CS(a:Sb):Out (Exit×S):= .aq ((a.2.1.drop a.2.2.toNat).all rK) (.one (.exit 0,sp 19 [] [Lh a.1 a.2.1])) (.all (fun j=>0<=j) fun j=> .one (.ret,sp 19 [(4, .int j)] [Lh a.1 a.2.1]))
theorem Tq{a}(h:a.all ei=true){k}(b:k<a.length):(ag (af (af (nth a k) 0) 1)).length<=aX/\(ag (af (nth a k) 1)).length<=aX:=by
 grind [aV,List.getElem_mem,ei]
theorem ay1 κ:aU (wW κ) 12 ZG 2 (aG 1 Wm Ky CS):=by
 refine aC (fun a=>a.2.1.length - a.2.2.toNat) ?_;rintro⟨ds,c,i⟩ K ⟨f,d,k,g⟩ b;simp only at f d k g;rw[show(wW κ).P=Pr κ from rfl];refine Eq.mpr (aB1 κ ds c i _ _ K) ?_;simp only[aX] at f;simp only[CS,Out.run,ae] at b;simp only[ae,ai,at3,aC7,aC6,Bool.not_eq_true',aD7];refine⟨fun j=>⟨⟨d,j⟩,Tq g (by omega),?_⟩,fun j=>?_⟩
 ·have h:i.toNat<c.length:=by omega
  rw[aD6 h,←aV c i.toNat h,aE3] at b;refine⟨fun e=>b.2 (by rw[show rK (nth c i.toNat)=false from e];rfl) i d,fun e=>?_⟩;rw[show rK (nth c i.toNat)=true from e,aE2] at b;rw[az (n:=i+1) (by omega) (by omega)];refine⟨_,?_,(ds,c,i+1),rfl,⟨by simpa[aX] using f,by simp only;omega,by simp only;omega,g⟩,rfl,?_⟩
  ·simp only;omega
  grind [CS,Out.run,ae]
 ·rw[aD3 (by omega)] at b
  exact b.1 rfl
noncomputable def NR κ:=(wW κ).an ZG 2 (aG 1 Wm Ky CS)
theorem aw3 κ:aE (NR κ):=(aw2 _).an (ag3 _) (ay1 _)
theorem ag4 κ:aj (NR κ):=(ag3 _).an aK
theorem yRt κ ds rs K:(a8 (NR κ) 12 48 [.agg [.ah 43 ds, .ah 48 rs]] [] K)=(
 letI a:=AV.int
 letI b:=AV.ah
 letI h:=∀e0,0<=e0->K (.lit (.bool !decide (e0>=(0:Int)))) []
 letI d:=Pg.toProgram (Env.P (wW κ))
 letI c:=K (AV.bool false) []
 letI e:=Pg.toProgram (Env.P (SH κ))
 aq (decide (↑(ds.length)>(60:Int))) c (aq (decide (↑(rs.length)>(200:Int))) c (ad e OY 2=ad e OY 2/\∃(e3:Sb),letI f:=[.box 25 (.agg [b 43 e3.1,b 48 e3.2.1])];letI g:=ad d ZG 2=ad d ZG 2/\∃(e1:Sb),sp 19 [(0,b 48 e3.2.1),(1,.bo 95 []),(7,a ↑(e3.2.1.length)),(8,a 0)] f=sp 19 [(0,b 48 e1.2.1),(1,.bo 95 []),(7,a ↑(e1.2.1.length)),(8,a e1.2.2)] [.box 25 (.agg [b 43 e1.1,b 48 e1.2.1])]/\(e1.2.1.length<=9223372036854775807/\0<=e1.2.2/\e1.2.2<=↑(e1.2.1.length)/\List.all e1.2.1 ei=true)/\aq (List.all (List.drop (Int.toNat e1.2.2) e1.2.1) rK) (K (AV.bool true) []) h;sp 19 [(0,b 43 ds),(1,.bo 93 []),(7,a ↑(ds.length)),(8,a 0)] [.box 25 (.agg [b 43 ds,b 48 rs])]=sp 19 [(0,b 43 e3.1),(1,.bo 93 []),(7,a ↑(e3.1.length)),(8,a e3.2.2)] f/\(e3.1.length<=9223372036854775807/\0<=e3.2.2/\e3.2.2<=↑(e3.1.length))/\aq (List.all (List.drop (Int.toNat e3.2.2) e3.1) G1) g (∀e2,0<=e2->aq (!decide (e2>=(0:Int))) g c)))):=by kernel_rfl
def fB(ds a:List _):=decide (ds.length<=60)&&decide (a.length<=200)&&ds.all G1&&a.all rK
def gRt:List AV->Option (Bool×AV)
 |[.agg [.ah 43 ds, .ah 48 a]]=>some (a.all ei, .bool (fB ds a))
 |_=>none
theorem pRt κ:cm (NR κ) 12 48 gRt:=by
 intro g x a;unfold gRt at a;split at a
 ·rename_i ds b
  simp only[aC8,aD4] at a;obtain⟨h,rfl⟩:=a;refine⟨_,rfl,rfl,?_⟩;refine Eq.mpr (yRt κ ds b _) ?_;unfold fB;rw[ae,at3,aC7];refine⟨fun e=>o6 (by rw[aC9 (show ¬ ds.length<=60 by omega)];rfl),fun e=>?_⟩;rw[ae,at3,aC7];refine⟨fun i=>o6 (by rw[aC9 (show ¬ b.length<=200 by omega)];simp),fun i=>?_⟩;rw[aD1 (show ds.length<=60 by omega),aD1 (show b.length<=200 by omega)];refine⟨rfl,(ds,b,0),rfl,⟨by simp only[aX];omega,by simp only;omega,by simp only;omega⟩,?_⟩;simp only[Int.toNat_zero,aD5,aE2];rw[ae];refine⟨fun f=>⟨trivial,(ds,b,0),rfl,⟨by simp only[aX];omega,by simp only;omega,by simp only;omega,h⟩,?_⟩,fun f y d=>?_⟩
  ·simp only[Int.toNat_zero,aD5]
   rw[ae,f];refine⟨fun c=>o6 (by rw[c];rfl),fun c y d=>o6 ?_⟩;rw[c,aD1 (show y>=0 from d)];rfl
  ·rw[aD1 (show y>=0 from d)]
   exact o6 (by rw[f];rfl)
 ·cases a
noncomputable def SQ κ:=(NR κ).aO 48 gRt
theorem eRt κ:aE (SQ κ):=(aw3 _).aO (ag4 _) (pRt _)
theorem mRt κ:aj (SQ κ):=(ag4 _).aO
theorem xFi κ ds s i I n K:(vc (SQ κ) 12 OY none 1 (ad (Pr κ).toProgram OY 2) (sp 19 [(0, .ah 43 ds),(1, .bo 110 [.ptr 0 0 [] 0]),(7, .int ds.length),(8, .int i)] [.box 9 (.lit (.string s))]) (bg (SQ κ) OY 2 1 I n K))=(
 letI a:=i<↑(ds.length)
 aq (decide a) (aW (decide (0<=i)&&decide a) (aq (ByteArray.toList (toStr (af (nth ds i.toNat) 0))==ByteArray.toList s) (K .ret (sp 19 [(4,
 AV.int i)] [.box 9 (AV.str s)])) (∃e0,e0<n/\I e0 (sp 19 [(0,.ah 43 ds),(1,.bo 110 [.ptr 0 0 [] 0]),(7,AV.int ↑(ds.length)),
 (8,AV.int (IntKind.wrap .i64 (i+1)))] [.box 9 (AV.str s)])))) (K (.exit 0) (sp 19 [] [.box 9 (AV.str s)]))):=by kernel_rfl
def jE(s:ByteArray):List AV->Int->Int
 |[],_=> -1
 |d::l,i=>bif oT (toStr (af d 0)) s then i else jE s l (i+1)
abbrev ao1(a:List _×ByteArray×Int):=sp 19 [(0, .ah 43 a.1),(1, .bo 110 [.ptr 0 0 [] 0]),(7, .int a.1.length),(8, .int a.2.2)] [.box 9 (.lit (.string a.2.1))]
def QC(a:List AV×ByteArray×Int):=a.1.length<=aX/\0<=a.2.2/\a.2.2<=a.1.length
def JX(a:List AV×ByteArray×Int):Out (Exit×S):= .aq (decide (0<=jE a.2.1 (a.1.drop a.2.2.toNat) a.2.2)) (.one (.ret,sp 19 [(4, .int (jE a.2.1 (a.1.drop a.2.2.toNat) a.2.2))] [.box 9 (.lit (.string a.2.1))])) (.one (.exit 0,sp 19 [] [.box 9 (.lit (.string a.2.1))]))
theorem lFi κ:aU (SQ κ) 12 OY 2 (aG 1 ao1 QC JX):=by
 refine aC (fun a=>a.1.length - a.2.2.toNat) ?_;rintro⟨ds,s,i⟩ K ⟨d,c,h⟩ b;simp only at d c h;rw[show(SQ κ).P=Pr κ from rfl];refine Eq.mpr (xFi κ ds s i _ _ K) ?_;simp only[aX] at d;simp only[JX,Out.run,ae] at b;simp only[ae,ai,at3,aC7,aC6];refine⟨fun g=>⟨⟨c,g⟩,?_⟩,fun g=>?_⟩
 ·have f:i.toNat<ds.length:=by omega
  rw[aD6 f,←aV ds i.toNat f,jE] at b;refine⟨fun e=>?_,fun e=>?_⟩
  ·rw[show oT (toStr (af (nth ds i.toNat) 0)) s=true from e,aD2] at b
   exact b.1 (aD1 c)
  ·rw[show oT (toStr (af (nth ds i.toNat) 0)) s=false from e,aD0] at b
   rw[az (n:=i+1) (by omega) (by omega)];refine⟨_,?_,(ds,s,i+1),rfl,⟨by simpa[aX] using d,by simp only;omega,by simp only;omega⟩,rfl,?_⟩
   ·simp only;omega
   ·simp only[JX,Out.run,ae,show(i+1).toNat=i.toNat+1 by omega]
    exact b
 ·rw[aD3 (by omega)] at b
  exact b.2 rfl
noncomputable def EFl κ:=(SQ κ).an OY 2 (aG 1 ao1 QC JX)
theorem eFl κ:aE (EFl κ):=(eRt _).an (mRt _) (lFi _)
theorem mFl κ:aj (EFl κ):=(mRt _).an aK
theorem yFi κ ds s K:(a8 (EFl κ) 12 63 [.ah 43 ds, .lit (.string s)] [] K)=(
 letI b:=AV.int
 ad (Pg.toProgram (Env.P (SQ κ))) OY 2=ad (Pg.toProgram (Env.P (SQ κ))) OY 2/\∃(a:List AV×ByteArray×Int),letI c:=List.drop (Int.toNat a.2.2) a.1;sp 19 [(0,AV.ah 43 ds),(1,AV.bo 110 [AV.ptr 0 0 [] 0]),(7,b (↑(ds.length):Int)),(8,b 0)] [Obj.box 9 (AV.str s)]=sp 19 [(0,AV.ah 43 a.1),(1,AV.bo 110 [AV.ptr 0 0 [] 0]),(7,b (↑(a.1.length):Int)),(8,b a.2.2)] [Obj.box 9 (AV.str a.2.1)]/\(a.1.length<=9223372036854775807/\(0:Int)<=a.2.2/\a.2.2<=(↑(a.1.length):Int))/\aq (decide ((0:Int)<=jE a.2.1 c a.2.2)) (K (AV.aH [b (if(0:Int)>jE a.2.1 c a.2.2 then(0:Int) else jE a.2.1 c a.2.2),AV.bool (decide (jE a.2.1 c a.2.2>=(0:Int)))]) []) (K (AV.aH [b 0,AV.bool false]) [])):=by kernel_rfl
def bu s ds:=bif decide (0<=jE s ds 0) then jE s ds 0 else 0
def BU s ds:=decide (0<=jE s ds 0)
def Bh(a:List AV×ByteArray):List AV×List Dn.Obj:=([.ah 43 a.1, .lit (.string a.2)],[])
def gZ(a:List AV×ByteArray):=a.1.length<=aX
def CQ(a:List AV×ByteArray):Out (AV×List Dn.Obj):= .one (.aH [.int (bu a.2 a.1), .bool (BU a.2 a.1)],[])
theorem cFi κ:bd (EFl κ) 12 63 (aM Bh gZ CQ):=by
 refine aQ ?_;rintro⟨ds,s⟩ K b a;refine Eq.mpr (yFi κ ds s K) ?_;simp only[CQ,Out.run,bu,BU] at a;refine⟨rfl,(ds,s,0),rfl,⟨b,by simp,by simp⟩,?_⟩;rw[ae]
 grind
noncomputable def EFi κ:=(EFl κ).ax 63 (aM Bh gZ CQ)
theorem eFi κ:aE (EFi κ):=(eFl _).ax (mFl _) (cFi _)
theorem mFi κ:aj (EFi κ):=(mFl _).ax aJ
structure kP where
 ds:List AV
 es:List (Value×AV)
 more:Bool
abbrev bZ(a:kP):List Dn.Obj:=[.box 219 (.agg [.ah 43 a.ds, .mp 1, .bool a.more]), .map 9 3 a.es]
abbrev Gl:AV:= .ptr 0 0 [] 0
theorem yOf κ a t K:(a8 (EFi κ) 12 197 [Gl,dA t] (bZ a) K)=(
 letI b:=AV.int
 aq (t.op==1) (K (b (toInt (dj a.es (.string t.s) (b 0)))) (bZ a)) (aq (t.op==3) (K (b 2) (bZ a)) (aq (t.op==4)
 (K (b 0) (bZ a)) (K (b 1) (bZ a))))):=by kernel_rfl
def ap8(x:kP×AT):=([Gl,dA x.2],bZ x.1)
def QU(_:kP×AT):Prop:=True
def Qa(x:kP×AT):Out (AV×List Dn.Obj):= .one (.int (bq getM x.2.tm x.1.es),bZ x.1)
theorem cOf κ:bd (EFi κ) 12 197 (aM ap8 QU Qa):=by
 refine aQ ?_;rintro⟨a,t⟩ K _ b;refine Eq.mpr (yOf κ a t K) ?_;simp[Qa] at b;have e:bq _ t.tm _=bif decide (t.op=1) then getM a.es _ else bif decide (t.op=3) then 2 else bif decide (t.op=4) then 0 else 1:=rfl
 rw[e] at b;simp[ZB];cases d:decide (t.op=1) with
 |true=>rw[d] at b;exact b
 | false=>
  rw[d] at b;cases f:decide (t.op=3) with
  |true=>rw[f] at b;exact b
  |false=>
   rw[f] at b;cases c:decide (t.op=4) with
   |true=>rw[c] at b;exact b
   |false=>rw[c] at b;exact b
noncomputable def EYo κ:=(EFi κ).ax 197 (aM ap8 QU Qa)
theorem eYo κ:aE (EYo κ):=(eFi _).ax (mFi _) (cOf _)
theorem mYo κ:aj (EYo κ):=(mFi _).ax aJ
structure qN where
 a:kP
 t:AT
 k:Int
def a7(a:kP)(t:AT) k:=t.tm.want getM fY k (a.es,a.more)
def eo(a:kP)(r:List (Value×AV)×Bool):kP:=⟨a.ds,r.1,r.2⟩
def iK(b:Bool):Int:=bif b then 53 else 0
def Zd(x:qN):=([Gl,dA x.t, .int x.k],bZ x.a)
def YI n(x:qN):=x.t.tm.nK=n/\n<=100000
noncomputable def J6(κ:Kp)(x:qN):Out (AV×List Dn.Obj):= .one (.lit (bh κ (iK (a7 x.a x.t x.k).1)),bZ (eo x.a (a7 x.a x.t x.k).2))
noncomputable def Ur κ n:=aM Zd (YI n) (J6 κ)
noncomputable def Xv κ r:=(EYo κ).ax 196 fun a st K=>∃m,m<r/\Ur κ m a st K
theorem xWt κ r a t k i I n K:(vc (Xv κ r) 12 196 none 2 (ad (Pr κ).toProgram 196 2) (sp 56 [(0,Gl),(2, .int k),(4, .ptr 2 0 [] 0),(12, .ah 38 t.l),(13, .int t.l.length),(14, .int i)] (bZ a++[.box 38 (dA t)])) (bg (Xv κ r) 196 2 2 I n K))=(
 letI b:=AV.ptr 0 0 []
 letI c:=AV.int
 letI d:=Obj.box
 letI e:=nth t.l i.toNat
 letI h:=i<↑(t.l.length)
 aq (decide h) (aW (decide (0<=i)&&decide h) (∃(e2:Nat),e2<r/\∃(e1:qN),letI f:=eo e1.a (Prod.snd (a7 e1.a e1.t e1.k));letI g:=bh κ (iK (Prod.fst (a7 e1.a e1.t e1.k)));([b 0,AV.agg [c (toInt (af e 0)),AV.str (toStr (af e 1)),c (toInt (af e 2)),AV.ah 38 (ag (af e 3))],c 1],(bZ a))=([b 0,dA e1.t,c e1.k],(bZ e1.a))/\(Tm.nK (AT.tm e1.t)=e2/\e2<=100000)/\aW (aD g) (aq (!bU g) (K Exit.ret (sp 56 [(6,AV.lit g)] (bZ f))) (∃(e0:Nat),e0<n/\I e0 (sp 56 [(0,b 0),(2,c k),(4,AV.ptr 2 0 [] 0),(12,AV.ah 38 t.l),(13,c (↑(t.l.length):Int)),(14,c (IntKind.wrap IntKind.i64 (i+(1:Int))))] [d 219 (AV.agg [AV.ah 43 (kP.ds f),AV.mp 1,AV.bool (kP.more f)]),Dn.Obj.map 9 3 (kP.es f),d 38 (dA t)]))))) (K (Exit.exit 0) (sp 56 [(0,b 0),(2,c k),(4,AV.ptr 2 0 [] 0)] [d 219 (AV.agg [AV.ah 43 a.ds,AV.mp 1,AV.bool a.more]),Dn.Obj.map 9 3 a.es,d 38 (dA t)]))):=by kernel_rfl
abbrev Z1:=qN×Int
abbrev aq8(x:Z1):=sp 56 [(0,Gl),(2, .int x.1.k),(4, .ptr 2 0 [] 0),(12, .ah 38 x.1.t.l),(13, .int x.1.t.l.length),(14, .int x.2)] (bZ x.1.a++[.box 38 (dA x.1.t)])
def Q3 r(x:Z1):=x.1.t.l.length<=aX/\0<=x.2/\x.2<=x.1.t.l.length/\bn (aa (x.1.t.l.drop x.2.toNat))<r/\bn (aa (x.1.t.l.drop x.2.toNat))<=100000
def gM(x:Z1):=eT getM fY (aa (x.1.t.l.drop x.2.toNat)) (x.1.a.es,x.1.a.more)
noncomputable def J5(κ:Kp)(x:Z1):Out (Exit×S):= .aq (gM x).1 (.one (.ret,sp 56 [(6, .lit (bh κ 53))] (bZ (eo x.1.a (gM x).2))))
 (.one (.exit 0,sp 56 [(0,Gl),(2, .int x.1.k),(4, .ptr 2 0 [] 0)] (bZ (eo x.1.a (gM x).2)++[.box 38 (dA x.1.t)])))
theorem BK b:decide (iK b=0)= !b:=by cases b<;>rfl
theorem lWt κ r:aU (Xv κ r) 12 196 2 (aG 2 aq8 (Q3 r) (J5 κ)):=by
 refine aC (fun x=>x.1.t.l.length - x.2.toNat) ?_;rintro⟨⟨a,t,k⟩,i⟩ K ⟨f,g,p,m,h⟩ b;simp only at f g p m h;rw[show(Xv κ r).P=Pr κ from rfl];refine Eq.mpr (xWt κ r a t k i _ _ K) ?_;simp only[aX] at f;simp only[J5,Out.run,ae] at b;rw[ae,at3,aC7];refine⟨fun j=>?_,fun j=>?_⟩
 ·have o:i.toNat<t.l.length:=by omega
  have e:=fo t.l i.toNat o;have d:gM (⟨a,t,k⟩,i)=bif (a7 a (dQ (nth t.l i.toNat)) 1).1 then a7 a (dQ (nth t.l i.toNat)) 1 else gM (⟨eo a (a7 a (dQ (nth t.l i.toNat)) 1).2,t,k⟩,i+1):=by
   unfold gM a7;simp only[show(i+1).toNat=i.toNat+1 by omega];rw[e,eT,gn];rfl
  rw[e,bn] at m h;rw[d] at b;rw[ai,aC6,at3,at3];refine⟨⟨g,j⟩,(cx (nth t.l i.toNat)).nK,by omega,⟨a,dQ (nth t.l i.toNat),1⟩,rfl,⟨by rw[gn],by omega⟩,?_⟩;rw[ai];refine⟨cR _ _,?_⟩;rw[j3,BK,Bool.not_not,ae];refine⟨fun c=>?_,fun c=>?_⟩
  ·simp only[c,aD2] at b⊢
   exact b.1 trivial
  ·simp only[c,aD0] at b
   rw[az (n:=i+1) (by omega) (by omega)];refine⟨_,?_,(⟨eo a (a7 a (dQ (nth t.l i.toNat)) 1).2,t,k⟩,i+1),rfl,⟨by simpa[aX] using f,by simp only;omega,by simp only;omega,?_,?_⟩,rfl,?_⟩
   ·simp only;omega
   ·simp only[show(i+1).toNat=i.toNat+1 by omega];omega
   ·simp only[show(i+1).toNat=i.toNat+1 by omega];omega
   ·simp only[J5,Out.run,ae]
    exact b
 ·have d:gM (⟨a,t,k⟩,i)=(false,(a.es,a.more)):=by
   unfold gM;simp only;rw[aD3 (by omega)];rfl
  rw[d] at b;exact b.2 rfl
noncomputable def EYr κ r:=(Xv κ r).an 196 2 (aG 2 aq8 (Q3 r) (J5 κ))
theorem yWt κ r a t k K:(a8 (EYr κ r) 12 196 [Gl,dA t, .int k] (bZ a) K)=(
 letI b:=AV.ptr 0 0 []
 letI c:=AV.int
 letI d:=Obj.box
 letI e:=Dn.Obj.map
 letI h:=.lit .nilIface
 letI i:=Pg.toProgram (Env.P (Xv κ r))
 ad i 196 2=ad i 196 2/\∃e1,letI f:=.string e1.1.t.s;letI j:=aa (List.drop e1.2.toNat e1.1.t.l);letI l:=bZ (eo e1.1.a (Prod.snd (gM e1)));sp 56 [(0,b 0),(2,c k),(4,.ptr 2 0 [] 0),(12,.ah 38 t.l),(13,c ↑(t.l.length)),(14,c 0)] [d 219 (.agg [.ah 43 a.ds,.mp 1,AV.bool a.more]),e 9 3 a.es,d 38 (dA t)]=sp 56 [(0,b 0),(2,c e1.1.k),(4,.ptr 2 0 [] 0),(12,.ah 38 e1.1.t.l),(13,c (↑(List.length e1.1.t.l))),(14,c e1.2)] [d 219 (.agg [.ah 43 e1.1.a.ds,.mp 1,AV.bool e1.1.a.more]),e 9 3 e1.1.a.es,d 38 (dA e1.1.t)]/\(List.length e1.1.t.l<=9223372036854775807/\0<=e1.2/\e1.2<=(↑(List.length e1.1.t.l))/\bn j<r/\bn j<=100000)/\aq (Prod.fst (gM e1)) (K (.lit (.iface 273 (.pointer (some (Vw κ 53))))) l) (∃(e0:kP×AT),letI g:=K h (bZ e0.1);([b 0,dA e1.1.t],l)=([b 0,dA e0.2],(bZ e0.1))/\True/\aq (e1.1.k==0) g (aq (e1.1.t.op==4) g (aq (bq getM (AT.tm e0.2) e0.1.es==0) (K h [d 219 (.agg [.ah 43 e0.1.ds,.mp 1,AV.bool true]),e 9 3 (fb (fb e0.1.es f (c (toInt (dj e0.1.es f (c 0))))) f (c e1.1.k))]) (aq (bq getM (AT.tm e0.2) e0.1.es != e1.1.k) (K (.lit (.iface 273 (.pointer (some (Kp.type κ))))) (bZ e0.1)) g))))):=by kernel_rfl
theorem KU s v w: ∀a,fb (fb a (.string s) v) (.string s) w=fb a (.string s) w
 |[]=>by simp[fb,eP]
 |(c,b)::a=>by
  rw[fb,fb];cases h:eP _ _ with
  |true=>simp[fb,eP]
  |false=>simp[fb,h,KU s v w _]
theorem MQ κ n:(Ur κ n).gl:=aJ
theorem eYr κ r(d: ∀a st K,(∃m,m<r/\Ur κ m a st K)->cf (Pr κ) 196 a st K):aE (EYr κ r)/\aj (EYr κ r)/\(EYr κ r).P=Pr κ:=
 have h:=(eYo _).fQ d;have b:=(mYo _).ax fun _ _ _ _ e ⟨m,f,c⟩=>⟨m,f,MQ _ m _ _ _ _ e c⟩
 ⟨h.an b (lWt _ r),b.an aK,rfl⟩
theorem cWt κ r:bd (EYr κ r) 12 196 (Ur κ r):=by
 refine aQ ?_;rintro⟨a,t,k⟩ K ⟨g,n⟩ b;refine Eq.mpr (yWt κ r a t k K) ?_;simp only[J6,Out.run] at b;have m:t.tm.nK=1+bn (aa t.l):=rfl;have i:=im (aa t.l);rw[eS] at i;simp only at g;refine⟨rfl,(⟨a,t,k⟩,0),rfl,⟨by simp only[aX];omega,by simp only;omega,by simp only;omega,by simp only[Int.toNat_zero,aD5];omega,by simp only[Int.toNat_zero,aD5];omega⟩,?_⟩;have h:a7 a t k=bif (gM (⟨a,t,k⟩,0)).1 then gM (⟨a,t,k⟩,0) else bif decide (k=0)||decide (t.op=4) then(false,(gM (⟨a,t,k⟩,0)).2)
   else bif decide (bq getM t.tm (gM (⟨a,t,k⟩,0)).2.1=0) then(false,(fY (gM (⟨a,t,k⟩,0)).2.1 t.s k,true)) else(!decide (bq getM t.tm (gM (⟨a,t,k⟩,0)).2.1=k),(gM (⟨a,t,k⟩,0)).2):=by
  unfold a7 gM;rw[AT.tm,Tm.want];rfl
 rw[h] at b;simp only[ZB,Od];cases hd:(gM (⟨a,t,k⟩,0)).1 with
 |true=>
  rw[hd,aD2,hd] at b;exact b
 | false=>
  rw[hd,aD0] at b;refine⟨(eo a (gM (⟨a,t,k⟩,0)).2,t),rfl,trivial,?_⟩;cases c:decide (k=0) with
  |true=>rw[c] at b;exact b
  | false=>
   rw[c] at b;cases e:decide (t.op=4) with
   |true=>rw[e] at b;exact b
   | false=>
    rw[e] at b;rw[show(false||false)=false from rfl,aD0] at b;have j:bq getM t.tm (eo a (gM (⟨a,t,k⟩,0)).2).es=bq getM t.tm (gM (⟨a,t,k⟩,0)).2.1:=rfl;simp only[j];cases f:decide (bq getM t.tm (gM (⟨a,t,k⟩,0)).2.1=0) with
    |true=>
     rw[f,aD2] at b;simp only[aq,KU];exact b
    |false=>
     rw[f,aD0] at b;cases d:decide (bq getM t.tm (gM (⟨a,t,k⟩,0)).2.1=k) with
     |true=>rw[d] at b;exact b
     |false=>rw[d] at b;exact b
def dy(x:qN):=x.t.tm.nK<=100000
theorem qWt κ: ∀b st K,aM Zd dy (J6 κ) b st K->cf (Pr κ) 196 b st K:=by
 rintro b st K ⟨a,d,e,c⟩;exact aE.qh _ _ (eYr _) (cWt _) _ _ _ K ⟨a,d,⟨rfl,e⟩,c⟩
noncomputable def SW κ:=(EYo κ).ax 196 (aM Zd dy (J6 κ))
theorem eYw κ:aE (SW κ):=(eYo _).fQ (qWt _)
theorem mYw κ:aj (SW κ):=(mYo _).ax aJ
def ac2(x:AV):Dc:=⟨toStr (af x 0),(ag (af x 2)).map toInt⟩
def cv(l:List AV):List Dc:=l.map ac2
theorem xw s: ∀ds i,jE s ds i=match jX s (cv ds) with|some k=>i+k|none=> -1
 |[],i=>rfl
 |d::ds,i=>by
  have a:=xw s ds (i+1)
  grind [jE,cv,ac2,jX]
theorem Ee s: ∀ds k,jX s ds=some k->k<ds.length
 |[],_,h=>by cases h
 | d::ds,k,h=>by
  rw[jX] at h;cases e:oT d.rel s with
  |true=>grind
  | false=>
   rw[e] at h;cases a:jX s ds with
   |none=>grind
   |some j=>
    rw[a] at h;have:=Ee s ds j a
    grind
theorem xB{s ds}(h:jX s (cv ds)=none):BU s ds=false/\bu s ds=0:=by
 grind [xw,BU,bu]
theorem lD{s ds k}(h:jX s (cv ds)=some k):BU s ds=true/\bu s ds=k/\k<ds.length:=by
 have e:=xw s ds 0;have a:=Ee s _ k h
 grind [BU,bu,cv]
def lb ds(i:Int):=(ag (af (nth ds i.toNat) 2)).map toInt
theorem qb{s ds k}(h:jX s (cv ds)=some k):bk (cv ds) s=lb ds k:=by
 obtain⟨_,_,a⟩:=lD h;unfold bk lb;rw[h,aV _ _ _];simp only[cv];rw[List.getD_eq_getElem?_getD,List.getElem?_map,aE0 a];rfl
theorem LU ds a l:known (cv ds) ⟨a,aa l⟩=bif BU a ds then bif decide ((lb ds (bu a ds)).length=l.length) then 0 else 52 else 51:=by
 unfold known;cases h:jX _ _<;>simp_all[xB,lD,qb,eS]
theorem Vc{ds i k}(h:k<(lb ds i).length):(lb ds i).drop k=toInt (nth (ag (af (nth ds i.toNat) 2)) k)::(lb ds i).drop (k+1):=by
 grind [List.drop_eq_getElem_cons,lb,aV]
structure ZN where
 a:kP
 fi:Int
 l:List AV
 k:Int
abbrev YT(x:ZN):=sp 65 [(0,Gl),(5, .int x.fi),(40, .ah 38 x.l),(41, .int x.l.length),(42, .int x.k)] (bZ x.a)
theorem xAt κ x I n K:(vc (SW κ) 12 180 none 2 (ad (Pr κ).toProgram 180 7) (YT x) (bg (SW κ) 180 7 2 I n K))=(
 letI a:=AV.ptr 0 0 []
 letI b:=AV.int
 letI c:=nth x.l x.k.toNat
 letI e:=ag (af (nth x.a.ds x.fi.toNat) 2)
 letI f:=x.k<↑(x.l.length)
 aq (decide f) (aW (decide (0<=x.k)&&decide f) (aW (decide (0<=x.fi)&&decide (x.fi<(↑(List.length x.a.ds)))) (aW (decide (0<=x.k)&&decide (x.k<(↑(List.length e)))) (∃e1,letI d:=bh κ (iK (Prod.fst (a7 e1.a e1.t e1.k)));letI g:=bZ (eo e1.a (Prod.snd (a7 e1.a e1.t e1.k)));([a 0,.agg [b (toInt (af c 0)),AV.str (toStr (af c 1)),b (toInt (af c 2)),.ah 38 (ag (af c 3))],b (toInt (nth e x.k.toNat))],(bZ x.a))=([a 0,dA e1.t,b e1.k],(bZ e1.a))/\dy e1/\aW (aD d) (aq (!bU d) (K .ret (sp 65 [(4,.lit d)] g)) (∃e0,e0<n/\I e0 (sp 65 [(0,a 0),(5,b x.fi),(40,.ah 38 x.l),(41,b ↑(x.l.length)),(42,b (IntKind.wrap .i64 (x.k+1)))] g))))))) (K (.exit 1) (sp 65 [] (bZ x.a)))):=by kernel_rfl
def ka(x:ZN):=dW getM fY ((lb x.a.ds x.fi).drop x.k.toNat) (aa (x.l.drop x.k.toNat)) (x.a.es,x.a.more)
def Qz(x:ZN):=0<=x.fi/\x.fi<x.a.ds.length/\(lb x.a.ds x.fi).length=x.l.length/\x.l.length<=aX/\0<=x.k/\x.k<=x.l.length/\bn (aa (x.l.drop x.k.toNat))<=100000
noncomputable def JV(κ:Kp)(x:ZN):Out (Exit×S):= .aq (ka x).1 (.one (.ret,sp 65 [(4, .lit (bh κ 53))] (bZ (eo x.a (ka x).2)))) (.one (.exit 1,sp 65 [] (bZ (eo x.a (ka x).2))))
theorem lAt κ:aU (SW κ) 12 180 7 (aG 2 YT Qz (JV κ)):=by
 refine aC (fun x=>x.l.length - x.k.toNat) ?_;rintro⟨a,b,l,k⟩ K ⟨j,f,r,p,g,u,q⟩ c;simp only at j f r p g u q;rw[show(SW κ).P=Pr κ from rfl];refine Eq.mpr (xAt κ ⟨a,b,l,k⟩ _ _ K) ?_;simp only[aX] at p;simp only[JV,Out.run,ae] at c;have h:(ag (af (nth a.ds b.toNat) 2)).length=(lb a.ds b).length:=by simp[lb]
 rw[ae,at3,aC7];refine⟨fun d=>?_,fun d=>?_⟩
 ·simp only at d
  have s:k.toNat<l.length:=by omega
  have e:=fo l k.toNat s;have t:=Vc (ds:=a.ds) (i:=b) (k:=k.toNat) (by omega);have o:ka ⟨a,b,l,k⟩=bif (a7 a (dQ (nth l k.toNat)) (toInt (nth (ag (af (nth a.ds b.toNat) 2)) k.toNat))).1 then a7 a (dQ (nth l k.toNat)) (toInt (nth (ag (af (nth a.ds b.toNat) 2)) k.toNat)) else ka ⟨eo a (a7 a (dQ (nth l k.toNat)) (toInt (nth (ag (af (nth a.ds b.toNat) 2)) k.toNat))).2,b,l,k+1⟩:=by
   unfold ka a7;simp only[show(k+1).toNat=k.toNat+1 by omega];rw[e,t,dW,gn];rfl
  rw[e,bn] at q;rw[o] at c;simp only[ai,aC6,at3,h];refine⟨⟨g,d⟩,⟨j,f⟩,⟨g,by omega⟩,⟨a,dQ (nth l k.toNat),toInt (nth (ag (af (nth a.ds b.toNat) 2)) k.toNat)⟩,rfl,by show(dQ (nth l k.toNat)).tm.nK<=100000;rw[gn];omega,cR _ _,?_⟩;rw[j3,BK,Bool.not_not,ae];refine⟨fun m=>?_,fun m=>?_⟩
  ·simp only[m,aD2] at c⊢
   exact c.1 trivial
  ·simp only[m,aD0] at c
   rw[az (n:=k+1) (by omega) (by omega)];refine⟨_,?_,⟨eo a (a7 a (dQ (nth l k.toNat)) (toInt (nth (ag (af (nth a.ds b.toNat) 2)) k.toNat))).2,b,l,k+1⟩,rfl,⟨j,f,r,by simpa[aX] using p,by simp only;omega,by simp only;omega,?_⟩,rfl,?_⟩
   ·simp only;omega
   ·simp only[show(k+1).toNat=k.toNat+1 by omega];omega
   ·simp only[JV,Out.run,ae]
    exact c
 ·simp only at d
  have o:ka ⟨a,b,l,k⟩=(false,(a.es,a.more)):=by
   unfold ka;simp only;rw[aD3 (show l.length<=k.toNat by omega),aD3 (show(lb a.ds b).length<=k.toNat by omega)];rfl
  rw[o] at c;exact c.2 rfl
noncomputable def EYl κ:=(SW κ).an 180 7 (aG 2 YT Qz (JV κ))
theorem eYl κ:aE (EYl κ):=(eYw _).an (mYw _) (lAt _)
theorem mYl κ:aj (EYl κ):=(mYw _).an aK
theorem yAt κ a rel l K:(a8 (EYl κ) 12 180 [Gl, .agg [.lit (.string rel), .ah 38 l]] (bZ a) K)=(
 letI b:=AV.int
 letI c:=Pg.toProgram (Env.P (SW κ))
 ∃e1,([.ah 43 a.ds,AV.str rel],aR)=([.ah 43 e1.1,AV.str e1.2],aR)/\gZ e1/\aq (!BU e1.2 e1.1) (K (.lit (.iface 273 (.pointer (some (Kp.gh κ))))) (bZ a)) (aW (decide (0<=bu e1.2 e1.1)&&decide (bu e1.2 e1.1<↑(a.ds.length))) (aq ((↑(List.length (ag (af (nth a.ds (Int.toNat (bu e1.2 e1.1))) 2)))) != (↑(l.length):Int)) (K (.lit (.iface 273 (.pointer (some (Kp.arity κ))))) (bZ a)) (ad c 180 7=ad c 180 7/\∃e0,letI d:=bZ (eo e0.a (Prod.snd (ka e0)));sp 65 [(0,.ptr 0 0 [] 0),(5,b (bu e1.2 e1.1)),(40,.ah 38 l),(41,b ↑(l.length)),(42,b 0)] (bZ a)=sp 65 [(0,.ptr 0 0 [] 0),(5,b e0.fi),(40,.ah 38 e0.l),(41,b ↑(e0.l.length)),(42,b e0.k)] (bZ e0.a)/\(0<=e0.fi/\e0.fi<(↑(List.length e0.a.ds))/\List.length (lb e0.a.ds e0.fi)=e0.l.length/\e0.l.length<=9223372036854775807/\0<=e0.k/\e0.k<=↑(e0.l.length)/\bn (aa (List.drop e0.k.toNat e0.l))<=100000)/\aq (Prod.fst (ka e0)) (K (.lit (.iface 273 (.pointer (some (Vw κ 53))))) d) (K (.lit .nilIface) d))))):=by kernel_rfl
def dO(a:kP) b l:=cG getM fY (cv a.ds) ⟨b,aa l⟩ (a.es,a.more)
abbrev WC:=kP×ByteArray×List AV
def an8(x:WC):=([Gl, .agg [.lit (.string x.2.1), .ah 38 x.2.2]],bZ x.1)
def Qy(x:WC):=x.1.ds.length<=aX/\bn (aa x.2.2)<=100000
noncomputable def PS(κ:Kp)(x:WC):Out (AV×List Dn.Obj):= .one (.lit (bh κ (dO x.1 x.2.1 x.2.2).1),bZ (eo x.1 (dO x.1 x.2.1 x.2.2).2))
theorem cAc κ:bd (EYl κ) 12 180 (aM an8 Qy (PS κ)):=by
 refine aQ ?_;rintro⟨a,c,l⟩ K ⟨h,n⟩ b;simp only at h n;refine Eq.mpr (yAt κ a c l K) ?_;simp only[PS,Out.run,dO,cG,LU] at b;have m:=im (aa l);rw[eS] at m;refine⟨(a.ds,c),rfl,h,?_⟩;cases f:jX c (cv a.ds) with
 |none=>
  rw[(xB f).1] at b;simp only[(xB f).1];exact b
 | some k=>
  obtain⟨i,j,o⟩:=lD f;rw[i,j,qb f] at b;have g:(ag (af (nth a.ds (Int.toNat (k:Int))) 2)).length=(lb a.ds k).length:=by simp[lb]
  simp only[i,j,g,Od];refine ai.2 ⟨by simp;omega,?_⟩;cases d:decide ((lb a.ds k).length=l.length) with
  |false=>
   rw[d] at b;rw[aC7] at d;rw[aC9 (show ¬ (((lb a.ds k).length:Int)=(l.length:Int)) by omega)];exact b
  | true=>
   rw[d] at b;rw[at3] at d;rw[aD1 (show(((lb a.ds k).length:Int)=(l.length:Int)) by omega)];refine⟨trivial,⟨a,k,l,0⟩,rfl,by grind,?_⟩;have hd:ka ⟨a,k,l,0⟩=dW getM fY (lb a.ds k) (aa l) (a.es,a.more):=by
    unfold ka;simp only[Int.toNat_zero,aD5]
   rw[hd];simp only[aD2,decide_true] at b;rw[ae];refine⟨fun e=>by rw[e] at b;exact b,fun e=>by rw[e] at b;exact b⟩
noncomputable def EYa κ:=(EYl κ).ax 180 (aM an8 Qy (PS κ))
theorem eYa κ:aE (EYa κ):=(eYl _).ax (mYl _) (cAc _)
theorem mYa κ:aj (EYa κ):=(mYl _).ax aJ
theorem yLi(κ:Kp)(a:kP)(op:Int) rel l(u v:AT) K:(a8 (EYa κ) 12 181 [Gl, .agg [.int op, .agg [.lit (.string rel), .ah 38 l],dA u,dA v]] (bZ a) K)=(
 letI b:=AV.ptr 0 0 []
 letI c:=AV.int
 letI d:=AV.lit
 letI j:=∃(e3:kP×AT),letI n:=AT.tm e3.2;([b 0,dA u],(bZ a))=([b 0,dA e3.2],(bZ e3.1))/\True/\∃(e2:kP×AT),letI f:=if bq getM (AT.tm e2.2) e2.1.es>bq getM n e3.1.es then bq getM (AT.tm e2.2) e2.1.es else bq getM n e3.1.es;([b 0,dA v],(bZ e3.1))=([b 0,dA e2.2],(bZ e2.1))/\True/\∃(e1:qN),letI e:=bh κ (iK (Prod.fst (a7 e1.a e1.t e1.k)));letI g:=bZ (eo e1.a (Prod.snd (a7 e1.a e1.t e1.k)));([b 0,dA u,c f],(bZ e2.1))=([b 0,dA e1.t,c e1.k],(bZ e1.a))/\dy e1/\aW (aD e) (aq (!bU e) (K (d e) g) (∃(e0:qN),([b 0,dA v,c f],g)=([b 0,dA e0.t,c e0.k],(bZ e0.a))/\dy e0/\K (d (bh κ (iK (Prod.fst (a7 e0.a e0.t e0.k))))) (bZ (eo e0.a (Prod.snd (a7 e0.a e0.t e0.k))))))
 letI o:=∃(e0:WC),([b 0,AV.agg [AV.str rel,AV.ah 38 l]],(bZ a))=([b 0,AV.agg [AV.str e0.2.1,AV.ah 38 e0.2.2]],(bZ e0.1))/\
  (e0.1.ds.length<=9223372036854775807/\bn (aa e0.2.2)<=100000)/\K (d (bh κ (Prod.fst (dO e0.1 e0.2.1 e0.2.2)))) (bZ (eo e0.1 (Prod.snd (dO e0.1 e0.2.1
  e0.2.2))))
 letI h:=j/\j/\j
 aq (op==(3:Int)) h (aq (op==(4:Int)) h (aq (op==(5:Int)) h (aq (op==(6:Int)) h (aq (op==(1:Int)) o (aq (op==(2:Int)) o (∃(e2:WC),letI p:=dO e2.1 e2.2.1 e2.2.2;letI k:=bh κ (Prod.fst p);letI q:=bZ (eo e2.1 (Prod.snd p));([b 0,AV.agg [AV.str rel,AV.ah 38 l]],(bZ a))=([b 0,AV.agg [AV.str e2.2.1,AV.ah 38 e2.2.2]],(bZ e2.1))/\(e2.1.ds.length<=9223372036854775807/\bn (aa e2.2.2)<=100000)/\aW (aD k) (aq (!bU k) (K (d k) q) (∃(e1:qN),letI i:=bh κ (iK (Prod.fst (a7 e1.a e1.t e1.k)));letI m:=bZ (eo e1.a (Prod.snd (a7 e1.a e1.t e1.k)));([b 0,dA u,c 1],q)=([b 0,dA e1.t,c e1.k],(bZ e1.a))/\dy e1/\aW (aD i) (aq (!bU i) (K (d i) m) (aq (op==(7:Int)) (K (d i) m) (∃(e0:qN),([b 0,dA v,c 1],m)=([b 0,dA e0.t,c e0.k],(bZ e0.a))/\dy e0/\K (d (bh κ (iK (Prod.fst (a7 e0.a e0.t e0.k))))) (bZ (eo e0.a (Prod.snd (a7 e0.a e0.t e0.k)))))))))))))))):=by kernel_rfl
structure IP where
 a:kP
 op:Int
 rel:ByteArray
 l:List AV
 u:AT
 v:AT
def IP.lt(x:IP):Lt:=⟨x.op,⟨x.rel,aa x.l⟩,x.u.tm,x.v.tm⟩
def b9(x:IP):=jU getM fY (cv x.a.ds) x.lt (x.a.es,x.a.more)
def ao9(x:IP):=([Gl, .agg [.int x.op, .agg [.lit (.string x.rel), .ah 38 x.l],dA x.u,dA x.v]],bZ x.a)
def QM(x:IP):=x.a.ds.length<=aX/\kt x.lt<=100000
noncomputable def VV(κ:Kp)(x:IP):Out (AV×List Dn.Obj):= .one (.lit (bh κ (b9 x).1),bZ (eo x.a (b9 x).2))
def kd(a:kP)(u v:AT):=if bq getM v.tm a.es>bq getM u.tm a.es then bq getM v.tm a.es else bq getM u.tm a.es
theorem ad3(x:IP):dZ getM x.lt x.a.es=kd x.a x.u x.v:=by
 unfold dZ kd;show(bif decide (bq _ x.v.tm _>bq _ x.u.tm _) then _ else _)=_
 by_cases h:bq getM x.v.tm x.a.es>bq getM x.u.tm x.a.es
 ·rw[aD1 h,if_pos h];rfl
 ·rw[aC9 h,if_neg h];rfl
theorem Cx κ b:(!bU (bh κ (iK b)))=b:=by rw[j3,BK,Bool.not_not]
theorem cLi κ:bd (EYa κ) 12 181 (aM ao9 QM (VV κ)):=by
 refine aQ ?_;rintro⟨a,op,c,l,u,v⟩ K ⟨s,o⟩ f;simp only at s;refine Eq.mpr (yLi κ a op c l u v K) ?_;have f:K (.lit (bh κ (b9 ⟨a,op,c,l,u,v⟩).1)) (bZ (eo a (b9 ⟨a,op,c,l,u,v⟩).2)):=f;have o:bn [u.tm,v.tm]+bn (aa l)<=100000:=o;simp only[bn] at o;have i:dy ⟨a,u,kd a u v⟩:=by show u.tm.nK<=100000;omega
 have g:dy ⟨eo a (a7 a u (kd a u v)).2,v,kd a u v⟩:=by show v.tm.nK<=100000;omega
 have k:eX op=true->b9 ⟨a,op,c,l,u,v⟩=jV (a7 a u (kd a u v)) (v.tm.want getM fY (kd a u v)):=fun d=>by
  unfold b9 jU;rw[ad3 ⟨a,op,c,l,u,v⟩,show(IP.lt ⟨a,op,c,l,u,v⟩).op=op from rfl,d];rfl
 have h:eX op=true->(!bU (bh κ (iK (a7 a u (kd a u v)).1)))=true->K (.lit (bh κ (iK (a7 a u (kd a u v)).1))) (bZ (eo a (a7 a u (kd a u v)).2)):=fun d q=>by
  rw[Cx] at q;rw[k d] at f;unfold jV at f;rw[q] at f⊢;exact f
 have j:eX op=true->(!bU (bh κ (iK (a7 a u (kd a u v)).1)))=false->K (.lit (bh κ (iK (a7 (eo a (a7 a u (kd a u v)).2) v (kd a u v)).1))) (bZ (eo (eo a (a7 a u (kd a u v)).2) (a7 (eo a (a7 a u (kd a u v)).2) v (kd a u v)).2)):=fun d q=>by
  rw[Cx] at q;rw[k d] at f;unfold jV at f;rw[q] at f;exact f
 have n: ∀b:kP,b=a->(b.ds.length<=9223372036854775807/\bn (aa l)<=100000):=fun b D=>by subst D;exact⟨s,by omega⟩
 have x:eX op=false->(decide (op=1)||decide (op=2))=true->b9 ⟨a,op,c,l,u,v⟩=dO a c l:=fun d p=>by
  unfold b9 jU;rw[show(IP.lt ⟨a,op,c,l,u,v⟩).op=op from rfl,d,p];rfl
 refine ae.2 ⟨fun e=>by
   have d:eX op=true:=(by rw[show op=3 from eq_of_beq e];rfl)
   exact⟨⟨(a,u),rfl,trivial,(a,v),rfl,trivial,⟨a,u,_⟩,rfl,i,ai.2 ⟨cR _ _,ae.2 ⟨fun q=>h d q,fun q=>⟨⟨_,v,_⟩,rfl,g,j d q⟩⟩⟩⟩,
    ⟨(a,u),rfl,trivial,(a,v),rfl,trivial,⟨a,u,_⟩,rfl,i,ai.2 ⟨cR _ _,ae.2 ⟨fun q=>h d q,fun q=>⟨⟨_,v,_⟩,rfl,g,j d q⟩⟩⟩⟩,
    ⟨(a,u),rfl,trivial,(a,v),rfl,trivial,⟨a,u,_⟩,rfl,i,ai.2 ⟨cR _ _,ae.2 ⟨fun q=>h d q,fun q=>⟨⟨_,v,_⟩,rfl,g,j d q⟩⟩⟩⟩⟩,fun A=>ae.2 ⟨fun e=>by
   have d:eX op=true:=(by rw[show op=4 from eq_of_beq e];rfl)
   exact⟨⟨(a,u),rfl,trivial,(a,v),rfl,trivial,⟨a,u,_⟩,rfl,i,ai.2 ⟨cR _ _,ae.2 ⟨fun q=>h d q,fun q=>⟨⟨_,v,_⟩,rfl,g,j d q⟩⟩⟩⟩,
    ⟨(a,u),rfl,trivial,(a,v),rfl,trivial,⟨a,u,_⟩,rfl,i,ai.2 ⟨cR _ _,ae.2 ⟨fun q=>h d q,fun q=>⟨⟨_,v,_⟩,rfl,g,j d q⟩⟩⟩⟩,
    ⟨(a,u),rfl,trivial,(a,v),rfl,trivial,⟨a,u,_⟩,rfl,i,ai.2 ⟨cR _ _,ae.2 ⟨fun q=>h d q,fun q=>⟨⟨_,v,_⟩,rfl,g,j d q⟩⟩⟩⟩⟩,fun B=>ae.2 ⟨fun e=>by
   have d:eX op=true:=(by rw[show op=5 from eq_of_beq e];rfl)
   exact⟨⟨(a,u),rfl,trivial,(a,v),rfl,trivial,⟨a,u,_⟩,rfl,i,ai.2 ⟨cR _ _,ae.2 ⟨fun q=>h d q,fun q=>⟨⟨_,v,_⟩,rfl,g,j d q⟩⟩⟩⟩,
    ⟨(a,u),rfl,trivial,(a,v),rfl,trivial,⟨a,u,_⟩,rfl,i,ai.2 ⟨cR _ _,ae.2 ⟨fun q=>h d q,fun q=>⟨⟨_,v,_⟩,rfl,g,j d q⟩⟩⟩⟩,
    ⟨(a,u),rfl,trivial,(a,v),rfl,trivial,⟨a,u,_⟩,rfl,i,ai.2 ⟨cR _ _,ae.2 ⟨fun q=>h d q,fun q=>⟨⟨_,v,_⟩,rfl,g,j d q⟩⟩⟩⟩⟩,fun E=>ae.2 ⟨fun e=>by
   have d:eX op=true:=(by rw[show op=6 from eq_of_beq e];rfl)
   exact⟨⟨(a,u),rfl,trivial,(a,v),rfl,trivial,⟨a,u,_⟩,rfl,i,ai.2 ⟨cR _ _,ae.2 ⟨fun q=>h d q,fun q=>⟨⟨_,v,_⟩,rfl,g,j d q⟩⟩⟩⟩,
    ⟨(a,u),rfl,trivial,(a,v),rfl,trivial,⟨a,u,_⟩,rfl,i,ai.2 ⟨cR _ _,ae.2 ⟨fun q=>h d q,fun q=>⟨⟨_,v,_⟩,rfl,g,j d q⟩⟩⟩⟩,
    ⟨(a,u),rfl,trivial,(a,v),rfl,trivial,⟨a,u,_⟩,rfl,i,ai.2 ⟨cR _ _,ae.2 ⟨fun q=>h d q,fun q=>⟨⟨_,v,_⟩,rfl,g,j d q⟩⟩⟩⟩⟩,fun z=>?_⟩⟩⟩⟩
 simp only[beq_eq_false_iff_ne] at A B E z;have d:eX op=false:=by
  unfold eX;rw[Bool.and_eq_false_iff,aC7,aC7];omega
 refine ae.2 ⟨fun e=>⟨(a,c,l),rfl,n a rfl,?_⟩,fun w=>ae.2 ⟨fun e=>⟨(a,c,l),rfl,n a rfl,?_⟩,fun t=>?_⟩⟩
 ·rw[x d (by rw[show op=1 by simpa using e];rfl)] at f;exact f
 ·rw[x d (by rw[show op=2 by simpa using e];rfl)] at f;exact f
 simp only[beq_eq_false_iff_ne] at w t;have C:b9 ⟨a,op,c,l,u,v⟩=bif !decide ((dO a c l).1=0) then dO a c l
   else bif decide (op=7) then(iK (a7 (eo a (dO a c l).2) u 1).1,(a7 (eo a (dO a c l).2) u 1).2)
   else jV (a7 (eo a (dO a c l).2) u 1) (v.tm.want getM fY 1):=by
  unfold b9 jU;rw[show(IP.lt ⟨a,op,c,l,u,v⟩).op=op from rfl,d,aC9 w,aC9 t];rfl
 rw[C] at f;refine⟨(a,c,l),rfl,n a rfl,ai.2 ⟨cR _ _,?_⟩⟩;rw[j3];refine ae.2 ⟨fun q=>?_,fun q=>?_⟩
 ·rw[q] at f;exact f
 ·rw[q,aD0] at f
  refine⟨⟨eo a (dO a c l).2,u,1⟩,rfl,by show u.tm.nK<=100000;omega,ai.2 ⟨cR _ _,?_⟩⟩;rw[Cx];refine ae.2 ⟨fun m=>?_,fun m=>ae.2 ⟨fun r=>?_,fun r=>⟨⟨eo (eo a (dO a c l).2) (a7 (eo a (dO a c l).2) u 1).2,v,1⟩,rfl,by show v.tm.nK<=100000;omega,?_⟩⟩⟩
  ·have m:(a7 (eo a (dO a c l).2) u 1).1=true:=m
   unfold jV at f;rw[m] at f;simp only[m];cases y:decide (op=7)<;>rw[y] at f<;>exact f
  ·rw[show decide (op=7)=true by simpa using r] at f
   exact f
  ·have m:(a7 (eo a (dO a c l).2) u 1).1=false:=m
   rw[show decide (op=7)=false by simpa using r,aD0] at f;unfold jV at f;rw[m] at f;exact f
noncomputable def EYt κ:=(EYa κ).ax 181 (aM ao9 QM (VV κ))
theorem eYt κ:aE (EYt κ):=(eYa _).ax (mYa _) (cLi _)
theorem mYt κ:aj (EYt κ):=(mYa _).ax aJ
theorem yCo κ v K:(a8 (EYt κ) 12 153 [.lit v] [] K)=(
 letI a:=.iface 273 (.pointer (some (Kp.arity κ)))
 letI b:=.iface 273 (.pointer (some (Kp.type κ)))
 letI c:=.iface 273 (.pointer (some (Kp.gh κ)))
 aW (lL κ v&&mQ κ c) (aq (iu v c) (K (AV.int 51) []) (aW (lL κ v&&mQ κ a) (aq (iu v a) (K (AV.int 52) []) (aW (lL κ v&&mQ κ b) (aq (iu v b) (K
 (AV.int 53) []) (K (AV.int 0) []))))))):=by kernel_rfl
noncomputable def TY(κ:Kp)(v:Value):Int:=bif iu v (bh κ 51) then 51 else bif iu v (bh κ 52) then 52 else bif iu v (bh κ 53) then 53 else 0
theorem Pz κ{e}(h:kq e):TY κ (bh κ e)=e:=by
 unfold TY;rw[ji _ h (.inr (.inl rfl)),ji _ h (.inr (.inr (.inl rfl))),ji _ h (.inr (.inr (.inr rfl)))];rcases h with rfl|rfl|rfl|rfl<;>rfl
noncomputable def gCo(κ:Kp):List AV->Option (Bool×AV)
 |[.lit v]=>some (lL κ v, .int (TY κ v))
 |_=>none
theorem pCo κ:cm (EYt κ) 12 153 (gCo κ):=by
 intro h x b;unfold gCo at b;split at b
 ·simp only[aC8,aD4] at b
  obtain⟨i,rfl⟩:=b;refine⟨_,rfl,rfl,?_⟩;obtain⟨e,a,rfl⟩:=(yu _ _).1 i;refine Eq.mpr (yCo κ _ _) ?_;rw[Pz κ a];have d: ∀k,x0 k->(lL κ (bh κ e)&&mQ κ (bh κ k))=true:=fun k j=>by grind [CC,CE]
  have c:Value.iface 273 (.pointer (some κ.gh))=bh κ 51:=rfl;have f:Value.iface 273 (.pointer (some κ.arity))=bh κ 52:=rfl;have g:Value.iface 273 (.pointer (some κ.type))=bh κ 53:=rfl;rw[c,f,g,d _ (.inl rfl),d _ (.inr (.inl rfl)),d _ (.inr (.inr rfl)),ji κ a (.inr (.inl rfl)),ji κ a (.inr (.inr (.inl rfl))),ji κ a (.inr (.inr (.inr rfl)))];rcases a with rfl|rfl|rfl|rfl<;>rfl
 ·cases b
noncomputable def SS κ:=(EYt κ).aO 153 (gCo κ)
theorem eYc κ:aE (SS κ):=(eYt _).aO (mYt _) (pCo _)
theorem mYc κ:aj (SS κ):=(mYt _).aO
structure Zo where
 a:kP
 w:Int
 bl:List AV
 i:Int
noncomputable abbrev UU κ(x:Zo):=sp 52 [(0,Gl),(5, .lit (bh κ x.w)),(14, .ah 80 x.bl),(15, .int x.bl.length),(16, .int x.i)] (bZ x.a)
theorem xPa(κ:Kp)(x:Zo) I n K:(vc (SS κ) 12 152 none 2 (ad (Pr κ).toProgram 152 3) (UU κ x) (bg (SS κ) 152 3 2 I n K))=(
 letI a:=AV.ptr 0 0 []
 letI b:=AV.int
 letI c:=AV.agg
 letI d:=AV.str
 letI e:=AV.lit
 letI f:=Exit.ret
 letI g:=AV.ah
 letI k:=Value.iface 273 (Value.pointer (some (Kp.arity κ)))
 letI l:=Value.iface 273 (Value.pointer (some (Kp.gh κ)))
 letI j:=nth x.bl x.i.toNat
 letI q:=IntKind.wrap IntKind.i64 (x.i+(1:Int))
 letI o:=x.bl.length
 letI r:=Value.iface 273 (Value.pointer (some (Kp.type κ)))
 letI s:=lL κ (bh κ x.w)&&mQ κ l
 letI t:=lL κ (bh κ x.w)&&mQ κ k
 aq (decide (x.i<(↑o:Int))) (aW (decide ((0:Int)<=x.i)&&decide (x.i<(↑o:Int))) (∃(e1:IP),letI h:=bh κ (Prod.fst (b9 e1));letI i:=bZ (eo e1.a (Prod.snd (b9 e1)));letI p:=aW (lL κ h&&mQ κ l) (aq (iu h l) (K f (sp 52 [(4,e h)] i)) (aW (lL κ h&&mQ κ k) (aq (iu h k) (K f (sp 52 [(4,e h)] i)) (∃(e0:Nat),e0<n/\I e0 (sp 52 [(0,a 0),(5,e h),(14,g 80 x.bl),(15,b (↑o:Int)),(16,b q)] i)))));letI m:=aW s (aq (iu (bh κ x.w) l) (K f (sp 52 [(4,e (bh κ x.w))] i)) (aW t (aq (iu (bh κ x.w) k) (K f (sp 52 [(4,e (bh κ x.w))] i)) (∃(e0:Nat),e0<n/\I e0 (sp 52 [(0,a 0),(5,e (bh κ x.w)),(14,g 80 x.bl),(15,b (↑o:Int)),(16,b q)] i)))));([a 0,c [b (toInt (af j 0)),c [d (toStr (af (af j 1) 0)),g 38 (ag (af (af j 1) 1))],c [b (toInt (af (af j 2) 0)),d (toStr (af (af j 2) 1)),b (toInt (af (af j 2) 2)),g 38 (ag (af (af j 2) 3))],c [b (toInt (af (af j 3) 0)),d (toStr (af (af j 3) 1)),b (toInt (af (af j 3) 2)),g 38 (ag (af (af j 3) 3))]]],(bZ x.a))=([a 0,c [b e1.op,c [d e1.rel,g 38 e1.l],c [b e1.u.op,d e1.u.s,b e1.u.n,g 38 e1.u.l],c [b e1.v.op,d e1.v.s,b e1.v.n,g 38 e1.v.l]]],(bZ e1.a))/\(List.length e1.a.ds<=9223372036854775807/\kt (IP.lt e1)<=100000)/\aW (aD (bh κ x.w)) (aq (bU (bh κ x.w)) p (aW (lL κ (bh κ x.w)&&mQ κ r) (aq (iu (bh κ x.w) r) (aW (lL κ h&&mQ κ l) (aq (iu h l) p (aW (lL κ h&&mQ κ k) (aq (iu h k) p m)))) m))))) (K (Exit.exit 0) (sp 52 [(5,e (bh κ x.w))] (bZ x.a)))):=by kernel_rfl
def jB(a:kP)(x:AV):IP:=⟨a,toInt (af x 0),toStr (af (af x 1) 0),ag (af (af x 1) 1),dQ (af x 2),dQ (af x 3)⟩
theorem DZ a x:(jB a x).lt=bQ x:=by
 unfold IP.lt jB;simp[gn];rfl
theorem rE{σ get set} ds l(x:σ×Bool):kq (jU get set ds l x).1:=by
 have b: ∀e,(e=0\/e=51\/e=52)->kq e:=fun e h=>by
  rcases h with rfl|rfl|rfl
  ·exact .inl rfl
  ·exact .inr (.inl rfl)
  ·exact .inr (.inr (.inl rfl))
 have a:kq 53:= .inr (.inr (.inr rfl))
 grind [kq,jV,tQ,cG,known,uh,jU]
theorem vg{σ get set} ds a(x:σ×Bool):kq (cG get set ds a x).1:=by
 have h:=rE (get:=get) (set:=set) ds ⟨1,a, .mk 0 ByteArray.empty 0 [], .mk 0 ByteArray.empty 0 []⟩ x;exact h
theorem vv{w e}(b:kq w)(a:kq e):kq (iq w e):=by
 grind [iq]
theorem vh{σ get set} ds: ∀b (y:Int×σ×Bool),kq y.1->kq (ib get set ds b y).1
 |[],_,h=>h
 |l::b,y,h=>by
  rw[ib];have:=vv h (rE (get:=get) (set:=set) ds l y.2)
  cases sF _ with
  |true=>grind
  |false=>exact vh _ b _ this
def ma(x:Zo):=ib getM fY (cv x.a.ds) (dI (x.bl.drop x.i.toNat)) (x.w,(x.a.es,x.a.more))
def Iq(x:Zo):=x.a.ds.length<=aX/\kq x.w/\x.bl.length<=100000/\(∀l,l∈x.bl->kt (bQ l)<=100000)/\0<=x.i/\x.i<=x.bl.length
noncomputable def Qb(κ:Kp)(x:Zo):Out (Exit×S):= .all (fun _=>True) fun b=> .aq b (.one (.ret,sp 52 [(4, .lit (bh κ (ma x).1))] (bZ (eo x.a (ma x).2)))) (.one (.exit 0,sp 52 [(5, .lit (bh κ (ma x).1))] (bZ (eo x.a (ma x).2))))
theorem lPa κ:aU (SS κ) 12 152 3 (aG 2 (UU κ) Iq (Qb κ)):=by
 refine aC (fun x=>x.bl.length - x.i.toNat) ?_;rintro⟨a,w,c,i⟩ K ⟨o,h,v,t,B,z⟩ u;simp only at o h v t B z;rw[show(SS κ).P=Pr κ from rfl];refine Eq.mpr (xPa κ ⟨a,w,c,i⟩ _ _ K) ?_;have f:=u true trivial;have d:=u false trivial;simp only[Out.run,aq] at f d;rw[ae,at3,aC7];refine⟨fun k=>?_,fun k=>?_⟩
 ·simp only at k
  have l:i.toNat<c.length:=by omega
  have j:ma ⟨a,w,c,i⟩=bif sF (iq w (b9 (jB a (nth c i.toNat))).1) then(iq w (b9 (jB a (nth c i.toNat))).1,(b9 (jB a (nth c i.toNat))).2) else ma ⟨eo a (b9 (jB a (nth c i.toNat))).2,iq w (b9 (jB a (nth c i.toNat))).1,c,i+1⟩:=by
   unfold ma b9;simp only[show(i+1).toNat=i.toNat+1 by omega];rw[pC c i.toNat l,ib,DZ];rfl
  have g:kq (b9 (jB a (nth c i.toNat))).1:=rE _ _ _;have q:kt (bQ (nth c i.toNat))<=100000:=t _ (by rw[aV _ _ l];exact List.getElem_mem l);have R:sF (iq w (b9 (jB a (nth c i.toNat))).1)=true->K .ret (sp 52 [(4, .lit (bh κ (iq w (b9 (jB a (nth c i.toNat))).1)))] (bZ (eo a (b9 (jB a (nth c i.toNat))).2))):=fun e=>by
   rw[j,e,aD2] at f;exact f
  have N:sF (iq w (b9 (jB a (nth c i.toNat))).1)=false->∃m,m<c.length - i.toNat/\eW (UU κ) Iq (Qb κ) (fun x=>x.bl.length - x.i.toNat) K m (sp 52 [(0,Gl),(5, .lit (bh κ (iq w (b9 (jB a (nth c i.toNat))).1))),(14, .ah 80 c),(15, .int c.length),(16, .int (IntKind.wrap .i64 (i+1)))] (bZ (eo a (b9 (jB a (nth c i.toNat))).2))):=fun e=>by
   rw[j,e,aD0] at f d;rw[az (n:=i+1) (by omega) (by omega)];refine⟨_,?_,⟨eo a (b9 (jB a (nth c i.toNat))).2,iq w (b9 (jB a (nth c i.toNat))).1,c,i+1⟩,rfl,⟨o,vv h g,v,t,by simp only;omega,by simp only;omega⟩,rfl,?_⟩
   ·simp only;omega
   ·intro b _
    cases b
    ·exact d
    ·exact f
  refine ai.2 ⟨by simp;omega,jB a (nth c i.toNat),rfl,⟨o,by rw[DZ];exact q⟩,?_⟩;have p:Value.iface 273 (.pointer (some κ.gh))=bh κ 51:=rfl;have s:Value.iface 273 (.pointer (some κ.arity))=bh κ 52:=rfl;have r:Value.iface 273 (.pointer (some κ.type))=bh κ 53:=rfl;have A:(jB a (nth c i.toNat)).a=a:=rfl;simp only[p,s,r,A,cR,j3]
  revert R N g
  generalize b9 (jB a (nth c i.toNat))=y
  intro g R N;simp only[CC κ g,CC κ h,CE κ (show x0 51 from .inl rfl),CE κ (show x0 52 from .inr (.inl rfl)),CE κ (show x0 53 from .inr (.inr rfl)),ji κ g (show kq 51 from .inr (.inl rfl)),ji κ g (show kq 52 from .inr (.inr (.inl rfl))),ji κ h (show kq 51 from .inr (.inl rfl)),ji κ h (show kq 52 from .inr (.inr (.inl rfl))),ji κ h (show kq 53 from .inr (.inr (.inr rfl)))];obtain⟨e,C⟩:=y;simp only at g R N⊢;rcases h with rfl|rfl|rfl|rfl<;>rcases g with rfl|rfl|rfl|rfl<;>first|exact R rfl|exact N rfl
 ·simp only at k
  have j:ma ⟨a,w,c,i⟩=(w,(a.es,a.more)):=by
   unfold ma;simp only;rw[aD3 (by omega)];rfl
  rw[j] at d;exact d
noncomputable def EYq κ:=(SS κ).an 152 3 (aG 2 (UU κ) Iq (Qb κ))
theorem eYq κ:aE (EYq κ):=(eYc _).an (mYc _) (lPa _)
theorem mYq κ:aj (EYq κ):=(mYc _).an aK
theorem yPa κ a r K:(a8 (EYq κ) 12 152 [Gl,aw r] (bZ a) K)=(
 letI b:=AV.ptr 0 0 []
 letI c:=Pg.toProgram (Env.P (SS κ))
 ∃(e2:WC),([b 0,.agg [AV.str r.rel,.ah 38 r.hl]],(bZ a))=([b 0,.agg [AV.str e2.2.1,.ah 38 e2.2.2]],(bZ e2.1))/\(e2.1.ds.length<=9223372036854775807/\bn (aa e2.2.2)<=100000)/\ad c 152 3=ad c 152 3/\∃e1,letI d:=K (.lit (bh κ (Prod.fst (ma e1)))) (bZ (eo e1.a (Prod.snd (ma e1))));sp 52 [(0,b 0),(5,.lit (bh κ (Prod.fst (dO e2.1 e2.2.1 e2.2.2)))),(14,.ah 80 r.bl),(15,AV.int ↑(r.bl.length)),(16,AV.int 0)] (bZ (eo e2.1 (Prod.snd (dO e2.1 e2.2.1 e2.2.2))))=sp 52 [(0,b 0),(5,.lit (bh κ e1.w)),(14,.ah 80 e1.bl),(15,AV.int ↑(e1.bl.length)),(16,AV.int e1.i)] (bZ e1.a)/\(List.length e1.a.ds<=9223372036854775807/\(e1.w=0\/e1.w=51\/e1.w=52\/e1.w=53)/\e1.bl.length<=100000/\(∀e0,List.Mem e0 e1.bl->kt (bQ e0)<=100000)/\0<=e1.i/\e1.i<=↑(e1.bl.length))/\∀e0,True->aq e0 d d):=by kernel_rfl
abbrev ZX:=kP×dx
def nA(x:ZX):=ib getM fY (cv x.1.ds) (dI x.2.bl) (cG getM fY (cv x.1.ds) ⟨x.2.rel,aa x.2.hl⟩ (x.1.es,x.1.more))
def aq1(x:ZX):=([Gl,aw x.2],bZ x.1)
def QW(x:ZX):=x.1.ds.length<=aX/\du x.2
noncomputable def V5(κ:Kp)(x:ZX):Out (AV×List Dn.Obj):= .one (.lit (bh κ (nA x).1),bZ (eo x.1 (nA x).2))
theorem cPs κ:bd (EYq κ) 12 152 (aM aq1 QW (V5 κ)):=by
 refine aQ ?_;rintro⟨a,r⟩ K ⟨g,d⟩ f;simp only at g d;refine Eq.mpr (yPa κ a r K) ?_;have c: ∀l,l∈r.bl->kt (bQ l)<=100000:=fun l i=>by
  obtain⟨k,h,e⟩:=List.getElem_of_mem i;have:=lU d h
  rwa [aV _ _ h,e] at this
 have j:nA (a,r)=ma ⟨eo a (dO a r.rel r.hl).2,(dO a r.rel r.hl).1,r.bl,0⟩:=by
  rfl
 have f:K (.lit (bh κ (nA (a,r)).1)) (bZ (eo a (nA (a,r)).2)):=f;rw[j] at f;refine⟨(a,r.rel,r.hl),rfl,⟨g,qF d⟩,rfl,⟨eo a (dO a r.rel r.hl).2,(dO a r.rel r.hl).1,r.bl,0⟩,rfl,⟨g,vg _ _ _,d.2,c,by simp only;omega,by simp only;omega⟩,fun b _=>?_⟩;cases b<;>exact f
noncomputable def SU κ:=(EYq κ).ax 152 (aM aq1 QW (V5 κ))
theorem eYs κ:aE (SU κ):=(eYq _).ax (mYq _) (cPs _)
theorem mYs κ:aj (SU κ):=(mYq _).ax aJ
end Go.Proofs.YtioeffnadipbaaaGreatDoor
namespace Go.Rl
open Go Go.Dn
section
variable {σ:Type} {get:σ->ByteArray->Int} {set:σ->ByteArray->Int->σ}
variable (hgs: ∀st s k t,get (set st s k) t=bif t==s then k else get st t)
include hgs
theorem uB ds{r}(a:ba r=true) V(g: ∀s,s∈eL r->s∈V) st(c:(eK get set ds r st).1=0)(b:(eK get set ds r st).2.2=true):mG get V (eK get set ds r st).2.1<mG get V st:=by
 have d:fA ds r=0:=by
  grind [fA,yH]
 simp only[ba,aC6,List.all_eq_true] at a;have e:=Ff   ds  (tG a.1.1.1) (fun l f=>RZ (a.2 l f)) d st c;rw[e] at b⊢;exact ve (oc hgs ds r st) V ((yd hgs ds r st b).left (Ext.refl _ _) g)
theorem pP ds{r}(b:ba r=true) V(a: ∀s,s∈eL r->s∈V): ∀n m st,mG get V st<n->mG get V st<m->ej get set ds r n st=ej get set ds r m st
 |0,_,_,h,_=>by omega
 |_+1,0,_,_,h=>by omega
 | n+1,m+1,st,d,f=>by
  rw[ej,ej];cases e:decide ((eK get set ds r st).1=0) with
  |false=>rfl
  | true=>
   cases c:(eK get set ds r st).2.2 with
   |false=>rfl
   |true=>
    have:=uB hgs ds b V a st (by grind) c
    exact pP ds b V a n m _ (by omega) (by omega)
end
end Go.Rl
namespace Go.Proofs.YtioeffnadipbaaaGreatDoor
open Go Go.Dn Go.Rl Go.Proofs
attribute [local irreducible] a8 vc
set_option maxRecDepth 20000
structure vM where
 ds:List AV
 r:dx
 es:List (Value×AV)
 more:Bool
abbrev U0(x:vM):=sp 60 [(3, .ptr 0 0 [] 0),(6, .ptr 1 0 [] 0)] [.box 48 (aw x.r), .box 219 (.agg [.ah 43 x.ds, .mp 2, .bool x.more]), .map 9 3 x.es]
theorem xTy κ x I n K:(vc (SU κ) 12 106 none 0 (ad (Pr κ).toProgram 106 4) (U0 x) (bg (SU κ) 106 4 0 I n K))=(
 letI b:=AV.ptr 0 0 []
 letI c:=AV.bool
 letI d:=Obj.box
 letI e:=Dn.Obj.map
 aq x.more (∃a,letI f:=bh κ (Prod.fst (nA a));letI g:=eo a.1 (Prod.snd (nA a));([b 0,aw x.r],[d 219 (.agg [.ah 43 x.ds,.mp 1,c false]),e 9 3 x.es])=([b 0,aw a.2],[d 219 (.agg [.ah 43 a.1.ds,.mp 1,c a.1.more]),e 9 3 a.1.es])/\(a.1.ds.length<=9223372036854775807/\bn (aa (bp 38 a.2.hl a.2.bl))<=100000/\a.2.bl.length<=100000)/\aW (aD f) (aq (!bU f) (aW (lL κ f) (K .ret (sp 60 [(4,AV.nil),(5,AV.int (TY κ f))] []))) (∃m,m<n/\I m (sp 60 [(3,b 0),(6,.ptr 1 0 [] 0)] [d 48 (aw x.r),d 219 (.agg [.ah 43 (kP.ds g),.mp 2,c (kP.more g)]),e 9 3 (kP.es g)])))) (K (.exit 0) (sp 60 [(3,b 0),(6,.ptr 1 0 [] 0)] [d 48 (aw x.r),d 219 (.agg [.ah 43 x.ds,.mp 2,c x.more]),e 9 3 x.es]))):=by kernel_rfl
abbrev dsR(x:vM):List Dc:=cv x.ds
def zTy(x:vM):=mG getM (bK (aL x.r)) x.es
def az3 x:=ej getM fY (dsR x) (aL x.r) (zTy x+1) x.es
def ie x:=bif x.more then az3 x else(0,x.es)
def Q1(x:vM):=ba (aL x.r)=true/\x.ds.length<=aX/\du x.r
def J3(x:vM):Out (Exit×S):= .aq (decide ((ie x).1=0)) (.one (.exit 0,U0 ⟨x.ds,x.r,(ie x).2,false⟩)) (.one (.ret,sp 60 [(4, .nil),(5, .int (ie x).1)] []))
theorem Fg ds r a:kq (eK getM fY ds r a).1:=vh _ _ _ (vg _ _ _)
theorem lTy κ:aU (SU κ) 12 106 4 (aG 0 U0 Q1 J3):=by
 refine aC (fun x=>bif x.more then zTy x+1 else 0) ?_;rintro⟨ds,r,a,b⟩ K ⟨c,g,f⟩ e;simp only at c g f;rw[show(SU κ).P=Pr κ from rfl];refine Eq.mpr (xTy κ ⟨ds,r,a,b⟩ _ _ K) ?_;simp only[J3,Out.run,ae] at e;cases b with
 |false=>exact e.1 rfl
 | true=>
  have m:nA (⟨ds,a,false⟩,r)=eK getM fY (cv ds) (aL r) a:=rfl;have h: ∀s,s∈eL (aL r)->s∈bK (aL r):=fun s l=>(qu c).2 l
  have j:=Fg (cv ds) (aL r) a;have k:ie ⟨ds,r,a,true⟩=bif decide ((eK getM fY (cv ds) (aL r) a).1=0) then ie ⟨ds,r,(eK getM fY (cv ds) (aL r) a).2.1,(eK getM fY (cv ds) (aL r) a).2.2⟩ else((eK getM fY (cv ds) (aL r) a).1,(eK getM fY (cv ds) (aL r) a).2.1):=by
   have e0:ie ⟨ds,r,a,true⟩=ej getM fY (cv ds) (aL r) (zTy ⟨ds,r,a,true⟩+1) a:=rfl;rw[e0,ej];cases d:decide ((eK getM fY (cv ds) (aL r) a).1=0) with
   |false=>rfl
   | true=>
    rw[aD2,aD2];unfold ie;cases i:(eK getM fY (cv ds) (aL r) a).2.2 with
    |false=>rfl
    |true=>
     rw[aD2];have:=uB lG (cv ds) c _ h a (by simpa using d) i
     exact pP lG (cv ds) c _ h _ _ _ this (Nat.lt_succ_self _)
  refine⟨(⟨ds,a,false⟩,r),rfl,⟨g,f⟩,?_⟩;rw[m];refine ai.2 ⟨cR _ _,?_⟩;rw[j3];cases d:decide ((eK getM fY (cv ds) (aL r) a).1=0) with
  |false=>
   rw[k,d,aD0] at e;refine ai.2 ⟨CC κ j,?_⟩;rw[Pz κ j];exact e.2 d
  | true=>
   rw[k,d,aD2] at e;refine⟨_,?_,⟨ds,r,(eK getM fY (cv ds) (aL r) a).2.1,(eK getM fY (cv ds) (aL r) a).2.2⟩,rfl,⟨c,g,f⟩,rfl,?_⟩
   ·simp only
    cases i:(eK getM fY (cv ds) (aL r) a).2.2 with
    |false=>exact Nat.succ_pos _
    |true=>
     have:=uB lG (cv ds) c _ h a (by simpa using d) i
     exact Nat.succ_lt_succ this
   ·simp only[J3,Out.run,ae]
    exact e
noncomputable def SV κ:=(SU κ).an 106 4 (aG 0 U0 Q1 J3)
theorem eYv κ:aE (SV κ):=(eYs _).an (mYs _) (lTy _)
theorem mYv κ:aj (SV κ):=(mYs _).an aK
def iA(l:List Int):List AV:=l.map fun k=> .lit (.int .i64 k)
theorem jG l:(iA l).length=l.length:=by simp[iA]
theorem xV l m:iA (l++m)=iA l++iA m:=by simp[iA]
structure Zq where
 ds:List AV
 es:List (Value×AV)
 o:List Int
 vs:List ByteArray
 i:Int
abbrev U1(x:Zq):=sp 60 [(6, .ptr 0 0 [] 0),(8, .ak 2 0 (iA x.o).length),(36, .ak 3 0 x.vs.length),(37, .int x.vs.length),(38, .int x.i)] [.box 219 (.agg [.ah 43 x.ds, .mp 1, .bool false]), .map 9 3 x.es, .row 3 (iA x.o), .row 9 (strs x.vs)]
theorem xTz κ ds es o vs i I n K:(vc (SV κ) 12 106 none 0 (ad (Pr κ).toProgram 106 11) (sp 60 [(6, .ptr 0 0 [] 0),(8, .ak 2 0 o.length),(36, .ak 3 0 vs.length),(37, .int vs.length),(38, .int i)] [.box 219 (.agg [.ah 43 ds, .mp 1, .bool false]), .map 9 3 es, .row 3 o, .row 9 vs]) (bg (SV κ) 106 11 0 I n K))=(
 letI a:=AV.int
 letI b:=dj es (.string (toStr (nth vs (0+i.toNat)))) (a 0)
 letI c:=i<↑(vs.length)
 aq (decide c) (aW (decide (0<=i)&&decide c) (aq (toInt b==0) (K .ret (sp 60 [(4,AV.nil),(5,a 53)] [])) (aW (decide
 ((o.length+1+1)*9<=70368744177664)) (∃e0,e0<n/\I e0 (sp 60 [(6,.ptr 0 0 [] 0),(8,.ak 2 0 (o.length+1)),(36,.ak 3 0 vs.length),
 (37,a ↑(vs.length)),(38,a (IntKind.wrap .i64 (i+1)))] [.box 219 (.agg [.ah 43 ds,.mp 1,AV.bool false]),
 .map 9 3 es,.row 3 (List.take o.length o++[a (toInt b)]),.row 9 vs]))))) (K (.exit 2) (sp 60 [(8,.ak 0 0 o.length)] [.row 3 o]))):=by kernel_rfl
def mT(x:Zq):=x.vs.drop x.i.toNat
def vf x:=(mT x).all fun s=>!decide (getM x.es s=0)
def Q2(x:Zq):=x.vs.length<=100000/\x.o.length<=x.i.toNat/\0<=x.i/\x.i<=x.vs.length
def J4(x:Zq):Out (Exit×S):= .aq (vf x) (.one (.exit 2,sp 60 [(8, .ak 0 0 (iA (x.o++(mT x).map (getM x.es))).length)] [.row 3 (iA (x.o++(mT x).map (getM x.es)))])) (.one (.ret,sp 60 [(4, .nil),(5, .int 53)] []))
theorem lTz κ:aU (SV κ) 12 106 11 (aG 0 U1 Q2 J4):=by
 refine aC (fun x=>x.vs.length - x.i.toNat) ?_;rintro⟨ds,a,o,vs,i⟩ K ⟨h,m,f,k⟩ b;simp only at h m f k;rw[show(SV κ).P=Pr κ from rfl];have e0:(⟨ds,a,o,vs,i⟩:Zq).vs.length=(strs vs).length:=(bf vs).symm;simp only[U1,e0];refine Eq.mpr (xTz κ ds a (iA o) (strs vs) i _ _ K) ?_;simp only[J4,Out.run,ae] at b;simp only[bf];rw[ae,at3,aC7,ai,aC6,at3,at3];refine⟨fun g=>⟨⟨f,g⟩,?_⟩,fun g=>?_⟩
 ·have j:i.toNat<vs.length:=by omega
  have c:mT ⟨ds,a,o,vs,i⟩=vs[i.toNat]::mT ⟨ds,a,o++[getM a vs[i.toNat]],vs,i+1⟩:=by
   unfold mT;simp only[show(i+1).toNat=i.toNat+1 by omega];exact aD6 j
  have d:vf ⟨ds,a,o,vs,i⟩=(!decide (getM a vs[i.toNat]=0)&&vf ⟨ds,a,o++[getM a vs[i.toNat]],vs,i+1⟩):=by
   unfold vf;rw[c,aE3]
  rw[Nat.zero_add,zk vs _ j,ZB];have l:toInt (dj a (Value.string (toStr (.lit (.string vs[i.toNat])))) (AV.int 0))=getM a vs[i.toNat]:=rfl;rw[l,ae];refine⟨fun e=>?_,fun e=>?_⟩
  ·rw[d,e] at b
   exact b.2 rfl
  ·rw[d,e,c,Bool.not_false,aE2] at b
   rw[ai,at3,jG];rw[az (n:=i+1) (by omega) (by omega)];refine⟨by omega,_,?_,⟨ds,a,o++[getM a vs[i.toNat]],vs,i+1⟩,?_,⟨h,by simp only[aE1,List.length_singleton];omega,by simp only;omega,by simp only;omega⟩,rfl,?_⟩
   ·simp only;omega
   ·simp only[U1,xV,jG,aE1,List.length_singleton,List.take_of_length_le (show(iA o).length<=o.length by rw[jG];omega)]
    rfl
   ·simp only[J4,Out.run,ae]
    grind
 ·have c:mT ⟨ds,a,o,vs,i⟩=[]:=by
   unfold mT;exact aD3 (by simp only;omega)
  have d:vf ⟨ds,a,o,vs,i⟩=true:=by
   unfold vf;rw[c];rfl
  rw[d,c] at b;have:=b.1 rfl
  simp only[List.map_nil,List.append_nil] at this;exact this
noncomputable def EYz κ:=(SV κ).an 106 11 (aG 0 U1 Q2 J4)
theorem eYz κ:aE (EYz κ):=(eYv _).an (mYv _) (lTz _)
theorem mYz κ:aj (EYz κ):=(mYv _).an aK
theorem yTz κ ds r K:(a8 (EYz κ) 12 106 [.ah 43 ds,aw r] [] K)=(
 letI a:=AV.ptr 0 0 []
 letI b:=AV.int
 letI c:=AV.agg
 letI d:=AV.bool
 letI e:=AV.str
 letI f:=Obj.box
 letI g:=Obj.row
 letI h:=Dn.Obj.map
 letI i:=AV.ah
 letI k:=Pg.toProgram (Env.P (SU κ))
 letI l:=Pg.toProgram (Env.P (SV κ))
 aW (List.all [c [c [e r.rel,i 38 r.hl],i 80 r.bl,b r.line]] ei) (aq (!fB ds [c [c [e r.rel,i 38 r.hl],i 80 r.bl,b r.line]]) (K (.aH [AV.nil,b 30]) []) (ad k 106 4=ad k 106 4/\∃e2,letI j:=vM.r {ds:=e2.ds,r:=e2.r,es:=Prod.snd (ie e2),more:=false};sp 60 [(3,a 0),(6,.ptr 1 0 [] 0)] [f 48 (c [c [e r.rel,i 38 r.hl],i 80 r.bl,b r.line]),f 219 (c [i 43 ds,.mp 2,d true]),h 9 3 []]=sp 60 [(3,a 0),(6,.ptr 1 0 [] 0)] [f 48 (c [c [e e2.r.rel,i 38 e2.r.hl],i 80 e2.r.bl,b e2.r.line]),f 219 (c [i 43 e2.ds,.mp 2,d e2.more]),h 9 3 e2.es]/\(ba (aL e2.r)=true/\e2.ds.length<=9223372036854775807/\bn (aa (bp 38 e2.r.hl e2.r.bl))<=100000/\List.length e2.r.bl<=100000)/\aq (decide (Prod.fst (ie e2)=0)) (∃e1,letI m:=List.length (bK (aL e1));([c [c [.lit (.string (dx.rel j)),i 38 (dx.hl j)],i 80 (dx.bl j),.lit (.int .i64 (dx.line j))]],aR)=([c [c [e e1.rel,i 38 e1.hl],i 80 e1.bl,b e1.line]],aR)/\(ba (aL e1)=true/\bn (aa (bp 38 e1.hl e1.bl))<=100000/\e1.bl.length<=100000)/\ad l 106 11=ad l 106 11/\∃e0,letI n:=iA (e0.o++List.map (getM e0.es) (mT e0));sp 60 [(6,a 0),(8,.ak 2 0 0),(36,.ak 3 0 m),(37,b ↑m),(38,b 0)] [f 219 (c [i 43 (vM.ds {ds:=e2.ds,r:=e2.r,es:=Prod.snd (ie e2),more:=false}),.mp 1,d false]),h 9 3 (vM.es {ds:=e2.ds,r:=e2.r,es:=Prod.snd (ie e2),more:=false}),g 3 [],g 9 (strs (bK (aL e1)))]=sp 60 [(6,a 0),(8,.ak 2 0 (List.length (iA e0.o))),(36,.ak 3 0 e0.vs.length),(37,b ↑(e0.vs.length)),(38,b e0.i)] [f 219 (c [i 43 e0.ds,.mp 1,d false]),h 9 3 e0.es,g 3 (iA e0.o),g 9 (strs e0.vs)]/\(e0.vs.length<=100000/\e0.o.length<=e0.i.toNat/\0<=e0.i/\e0.i<=↑(e0.vs.length))/\aq (vf e0) (K (.aH [.ak 0 0 (List.length n),b 0]) [g 3 n]) (K (.aH [AV.nil,b 53]) [])) (K (.aH [AV.nil,b (Prod.fst (ie e2))]) [])))):=by kernel_rfl
abbrev ZY:=List AV×dx
def wq(x:ZY):=uY (cv x.1) (aL x.2)
def aq6(x:ZY):List AV×List Dn.Obj:=([.ah 43 x.1,aw x.2],[])
def Q0(x:ZY):=x.1.length<=aX/\du x.2
def Qe(x:ZY):Out (AV×List Dn.Obj):= .aq (fB x.1 [aw x.2]) (.aq (decide ((wq x).1=0)) (.one (.aH [.ak 0 0 (iA (wq x).2).length, .int 0],[.row 3 (iA (wq x).2)])) (.one (.aH [.nil, .int (wq x).1],[]))) (.one (.aH [.nil, .int 30],[]))
theorem MA{ds r}(h:fB ds [aw r]=true):ba (aL r)=true:=by
 unfold fB at h;rw[aC6] at h;have:=h.2
 rw[aE3,aC6] at this;exact this.1
theorem cTs κ:bd (EYz κ) 12 106 (aM aq6 Q0 Qe):=by
 refine aQ ?_;rintro⟨ds,r⟩ K ⟨i,b⟩ h;simp only at i b;refine Eq.mpr (yTz κ ds r K) ?_;simp only[Qe,Out.run,ae] at h;have g:=im (aa r.hl);rw[eS] at g;have p:=qF b;have o:=b.2;refine ai.2 ⟨?_,?_⟩
 ·show(ei (aw r)&&true)=true
  have:ei (aw r)=(decide (r.hl.length<=aX)&&decide (r.bl.length<=aX)):=rfl
  rw[this,aD1 (by simp only[aX];omega),aD1 (by simp only[aX];omega)];rfl
 refine ae.2 ⟨fun e=>h.2 (by simpa using e),fun e=>?_⟩;have j:fB ds [aw r]=true:=by simpa using e
 have c:=MA j;have a:=h.1 j;have n:ie ⟨ds,r,[],true⟩=ej getM fY (cv ds) (aL r) ((bK (aL r)).length+1) []:=pP lG (cv ds) c _ (fun s k=>(qu c).2 k) _ _ _ (Nat.lt_succ_self _) (Nat.lt_succ_of_le (Gh _ _ _));have l:wq (ds,r)=bif decide ((ie ⟨ds,r,[],true⟩).1=0) then(bif (bK (aL r)).all (fun s=>!decide (getM (ie ⟨ds,r,[],true⟩).2 s=0)) then(0,(bK (aL r)).map (getM (ie ⟨ds,r,[],true⟩).2)) else(53,[])) else((ie ⟨ds,r,[],true⟩).1,[]):=by
  rw[n];rfl
 rw[l] at a;refine⟨rfl,⟨ds,r,[],true⟩,rfl,⟨c,i,b⟩,?_⟩;refine ae.2 ⟨fun d=>⟨r,rfl,⟨c,b⟩,rfl,⟨ds,(ie ⟨ds,r,[],true⟩).2,[],bK (aL r),0⟩,rfl,⟨M8 b,Nat.zero_le _,by simp only;omega,by simp only;omega⟩,?_⟩,fun d=>?_⟩
 ·rw[d,aD2] at a
  have m:vf ⟨ds,(ie ⟨ds,r,[],true⟩).2,[],bK (aL r),0⟩=(bK (aL r)).all (fun s=>!decide (getM (ie ⟨ds,r,[],true⟩).2 s=0)):=rfl;rw[m];refine ae.2 ⟨fun f=>?_,fun f=>?_⟩
  ·rw[f] at a
   exact a.1 rfl
  ·rw[f] at a
   exact a.2 rfl
 ·rw[d,aD0] at a
  exact a.2 d
noncomputable def SR κ:=(EYz κ).ax 106 (aM aq6 Q0 Qe)
theorem eTy κ:aE (SR κ):=(eYz _).ax (mYz _) (cTs _)
theorem mTy κ:aj (SR κ):=(mYz _).ax aJ
abbrev eg(ds a:List AV):AV:= .agg [.ah 43 ds, .ah 48 a]
def cK(x:AV):dx:=⟨[],[],toStr (af (af x 0) 0),ag (af (af x 0) 1),ag (af x 1),toInt (af x 2),0⟩
structure Nf where
 ds:List AV
 rs:List AV
 i:Int
abbrev XF(x:Nf):Dn.Obj:= .box 25 (eg x.ds x.rs)
def Ww(ds:List AV):List AV->Int->Int×Int
 |[],_=>(0,0)
 |d::l,i=>bif decide (bu (toStr (af d 0)) ds=i) then Ww ds l (i+1) else(toInt (af d 5),50)
def ky ds x:=bif fB ds [aw (cK x)] then(wq (ds,cK x)).1 else 30
def Kb(f:AV->Int):List AV->Int×Int
 |[]=>(0,0)
 |x::l=>bif decide (f x=0) then Kb f l else(toInt (af x 2),f x)
def BH ds a:=bif fB ds a then bif decide ((Ww ds ds 0).2=0) then Kb (ky ds) a else Ww ds ds 0 else(0,30)
def lM(x:AV):Int:=HD (aL (cK x))
def lA ds a:=bif decide ((BH ds a).2=0) then Kb lM a else BH ds a
def oN(ds a:List AV):=ds.length<=aX/\a.length<=aX/\∀x,x∈a->du (cK x)
theorem qm{ds c}(h:oN ds c):c.all ei=true:=by
 refine List.all_eq_true.2 fun x d=>?_
 have b:=h.2.2 x d;have a:=im (aa (cK x).hl);rw[eS] at a;have e:=qF b;have hl:=b.2
 grind [ei,cK,aX]
abbrev YV x:=sp 57 [(1, .ptr 0 0 [] 0),(16, .ah 43 x.ds),(17, .int x.ds.length),(18, .int x.i)] [XF x]
theorem xC1 κ x I n K:(vc (SR κ) 12 61 none 0 (ad (Pr κ).toProgram 61 4) (YV x) (bg (SR κ) 61 4 0 I n K))=(
 letI a:=.agg [.ah 43 x.ds,.ah 48 x.rs]
 letI b:=x.i<↑(x.ds.length)
 aq (decide b) (aW (decide (0<=x.i)&&decide b) (∃e1,([.ah 43 x.ds,AV.str (toStr (af (nth x.ds x.i.toNat) 0))],aR)=
 ([.ah 43 e1.1,AV.str e1.2],aR)/\gZ e1/\aq (bu e1.2 e1.1 != x.i) (K .ret (sp 57 [(2,AV.int (toInt (af (nth x.ds x.i.toNat) 5))),(3,AV.int 50)] []))
 (∃e0,e0<n/\I e0 (sp 57 [(1,.ptr 0 0 [] 0),(16,.ah 43 x.ds),(17,AV.int ↑(x.ds.length)),(18,AV.int (IntKind.wrap .i64 (x.i
 +1)))] [.box 25 a])))) (K (.exit 0) (sp 57 [(1,.ptr 0 0 [] 0)] [.box 25 a]))):=by kernel_rfl
def No(x:Nf):=Ww x.ds (x.ds.drop x.i.toNat) x.i
def QA(x:Nf):=x.ds.length<=aX/\0<=x.i/\x.i<=x.ds.length
def JW(x:Nf):Out (Exit×S):= .aq (decide ((No x).2=0)) (.one (.exit 0,sp 57 [(1, .ptr 0 0 [] 0)] [XF x])) (.one (.ret,sp 57 [(2, .int (No x).1),(3, .int (No x).2)] []))
theorem lC1 κ:aU (SR κ) 12 61 4 (aG 0 YV QA JW):=by
 refine aC (fun x=>x.ds.length - x.i.toNat) ?_;rintro⟨ds,b,i⟩ K ⟨c,g,j⟩ a;simp only at c g j;rw[show(SR κ).P=Pr κ from rfl];refine Eq.mpr (xC1 κ ⟨ds,b,i⟩ _ _ K) ?_;simp only[aX] at c;simp only[JW,Out.run,ae] at a;rw[ae,at3,aC7,ai,aC6,at3,at3];refine⟨fun d=>⟨⟨g,d⟩,(ds,toStr (af (nth ds i.toNat) 0)),rfl,c,?_⟩,fun d=>?_⟩
 ·simp only at d
  have h:i.toNat<ds.length:=by omega
  have f:No ⟨ds,b,i⟩=bif decide (bu (toStr (af (nth ds i.toNat) 0)) ds=i) then No ⟨ds,b,i+1⟩ else(toInt (af (nth ds i.toNat) 5),50):=by
   unfold No;simp only[show(i+1).toNat=i.toNat+1 by omega];rw[aD6 h,←aV ds i.toNat h,Ww]
  rw[f] at a;simp only[Od];cases e:decide (bu (toStr (af (nth ds i.toNat) 0)) ds=i) with
  |false=>
   rw[e] at a;exact a.2 rfl
  | true=>
   rw[e] at a;rw[az (n:=i+1) (by omega) (by omega)];refine⟨_,?_,⟨ds,b,i+1⟩,rfl,⟨by simpa[aX] using c,by simp only;omega,by simp only;omega⟩,rfl,?_⟩
   ·simp only;omega
   ·simp only[JW,Out.run,ae]
    exact a
 ·simp only at d
  have f:No ⟨ds,b,i⟩=(0,0):=by
   unfold No;simp only;rw[aD3 (by omega)];rfl
  rw[f] at a;exact a.1 rfl
noncomputable def SE κ:=(SR κ).an 61 4 (aG 0 YV QA JW)
theorem eC1 κ:aE (SE κ):=(eTy _).an (mTy _) (lC1 _)
theorem mC1 κ:aj (SE κ):=(mTy _).an aK
abbrev Rn x:=sp 57 [(1, .ptr 0 0 [] 0),(38, .ah 48 x.rs),(39, .int x.rs.length),(40, .int x.i)] [XF x]
theorem xC2 κ x I n K:(vc (SE κ) 12 61 none 0 (ad (Pr κ).toProgram 61 11) (Rn x) (bg (SE κ) 61 11 0 I n K))=(
 letI a:=AV.int
 letI b:=AV.ah
 letI e:=∃e0,e0<n/\I e0 (sp 57 [(1,.ptr 0 0 [] 0),(38,b 48 x.rs),(39,a ↑(x.rs.length)),(40,a (IntKind.wrap
  .i64 (x.i+1)))] [.box 25 (.agg [b 43 x.ds,b 48 x.rs])])
 letI c:=nth x.rs x.i.toNat
 letI f:=x.i<↑(x.rs.length)
 letI d:=toInt (af c 2)
 aq (decide f) (aW (decide (0<=x.i)&&decide f) (∃e1,([b 43 x.ds,.agg [.agg [AV.str (toStr (af (af c 0) 0)),b 38 (ag (af (af
 c 0) 1))],b 80 (ag (af c 1)),a d]],aR)=([b 43 e1.1,aw e1.2],aR)/\(e1.1.length<=9223372036854775807/\bn (aa (bp 38 e1.2.hl e1.2.bl))<=
 100000/\e1.2.bl.length<=100000)/\aq (fB e1.1 [aw e1.2]) (aq (decide (Prod.fst (wq e1)=0)) e (aq (Prod.fst (wq e1) != 0) (K .ret (sp 57
 [(2,a d),(3,a (Prod.fst (wq e1)))] [])) e)) (K .ret (sp 57 [(2,a d),(3,a 30)] [])))) (K (.exit 2) (sp 57 [] []))):=by kernel_rfl
def CY f(x:Nf):=Kb f (x.rs.drop x.i.toNat)
def uP(x:Nf):=oN x.ds x.rs/\0<=x.i/\x.i<=x.rs.length
def EY(x:Nf):Out (Exit×S):= .aq (decide ((CY (ky x.ds) x).2=0)) (.one (.exit 2,sp 57 [] [])) (.one (.ret,sp 57 [(2, .int (CY (ky x.ds) x).1),(3, .int (CY (ky x.ds) x).2)] []))
theorem Kd f ds a i(c:0<=i)(b:i.toNat<a.length):CY f ⟨ds,a,i⟩=bif decide (f (nth a i.toNat)=0) then CY f ⟨ds,a,i+1⟩ else(toInt (af (nth a i.toNat) 2),f (nth a i.toNat)):=by
 grind [CY,List.drop_eq_getElem_cons,aV,Kb]
theorem Kc f ds a i(h:a.length<=i.toNat):CY f ⟨ds,a,i⟩=(0,0):=by
 unfold CY;rw[aD3 h];rfl
theorem lC2 κ:aU (SE κ) 12 61 11 (aG 0 Rn uP EY):=by
 refine aC (fun x=>x.rs.length - x.i.toNat) ?_;rintro⟨ds,a,i⟩ K ⟨c,h,p⟩ b;simp only at c h p;rw[show(SE κ).P=Pr κ from rfl];refine Eq.mpr (xC2 κ ⟨ds,a,i⟩ _ _ K) ?_;have g:=c.2.1;simp only[aX] at g;simp only[EY,Out.run,ae] at b;rw[ae,at3,aC7,ai,aC6,at3,at3];refine⟨fun d=>⟨⟨h,d⟩,(ds,cK (nth a i.toNat)),rfl,⟨c.1,?_⟩,?_⟩,fun d=>?_⟩
 ·simp only at d
  exact c.2.2 _ (by rw[aV _ _ (show i.toNat<a.length by omega)];exact List.getElem_mem _)
 ·simp only at d
  have r:i.toNat<a.length:=by omega
  rw[Kd _ _ _ _ h r] at b;have l:ky ds (nth a i.toNat)=0->∃m,m<a.length - i.toNat/\eW Rn uP EY (fun x=>x.rs.length - x.i.toNat) K m (Rn ⟨ds,a,i+1⟩):=fun e=>by
   rw[e] at b;refine⟨_,?_,⟨ds,a,i+1⟩,rfl,⟨c,by simp only;omega,by simp only;omega⟩,rfl,?_⟩
   ·simp only;omega
   ·simp only[EY,Out.run,ae]
    exact b
  have f: ∀e:Int,ky ds (nth a i.toNat)=e->e≠0->K .ret (sp 57 [(2, .int (toInt (af (nth a i.toNat) 2))),(3, .int e)] []):=fun e q k=>by
   rw[q,aC9 k] at b;exact b.2 (aC9 k)
  rw[az (n:=i+1) (by omega) (by omega)];have o:ky ds (nth a i.toNat)=bif fB ds [aw (cK (nth a i.toNat))] then(wq (ds,cK (nth a i.toNat))).1 else 30:=rfl
  refine ae.2 ⟨fun j=>?_,fun j=>?_⟩
  ·simp_all[aD2,ae,aC7,Od,aD7,at3]
  ·rw[j,aD0] at o
   exact f 30 o (by decide)
 ·simp only at d
  rw[Kc _ _ _ _ (by omega)] at b;exact b.1 rfl
noncomputable def EC2 κ:=(SE κ).an 61 11 (aG 0 Rn uP EY)
theorem eC2 κ:aE (EC2 κ):=(eC1 _).an (mC1 _) (lC2 _)
theorem mC2 κ:aj (EC2 κ):=(mC1 _).an aK
theorem yCd κ ds rs K:(a8 (EC2 κ) 12 61 [eg ds rs] [] K)=(
 letI a:=AV.ptr 0 0 []
 letI b:=AV.int
 letI c:=AV.ah
 letI e:=Pg.toProgram (Env.P (SR κ))
 letI f:=Pg.toProgram (Env.P (SE κ))
 aW (List.all rs ei) (aq (!fB ds rs) (K (.aH [b 0,b 30]) []) (ad e 61 4=ad e 61 4/\∃e2,letI g:=[.box 25 (.agg [c 43 e2.ds,c 48 e2.rs])];sp 57 [(1,a 0),(16,c 43 ds),(17,b ↑(ds.length)),(18,b 0)] [.box 25 (.agg [c 43 ds,c 48 rs])]=sp 57 [(1,a 0),(16,c 43 e2.ds),(17,b ↑(e2.ds.length)),(18,b e2.i)] g/\(e2.ds.length<=9223372036854775807/\0<=e2.i/\e2.i<=↑(e2.ds.length))/\aq (decide (Prod.snd (No e2)=0)) (ad f 61 11=ad f 61 11/\∃e1,letI d:=CY (ky e1.ds) e1;sp 57 [(1,a 0),(38,c 48 e2.rs),(39,b ↑(e2.rs.length)),(40,b 0)] g=sp 57 [(1,a 0),(38,c 48 e1.rs),(39,b ↑(e1.rs.length)),(40,b e1.i)] [.box 25 (.agg [c 43 e1.ds,c 48 e1.rs])]/\((e1.ds.length<=9223372036854775807/\e1.rs.length<=9223372036854775807/\∀e0,List.Mem e0 e1.rs->bn (aa (bp 38 (dx.hl (cK e0)) (dx.bl (cK e0))))<=100000/\List.length (dx.bl (cK e0))<=100000)/\0<=e1.i/\e1.i<=↑(e1.rs.length))/\aq (decide (Prod.snd d=0)) (K (.aH [b 0,b 0]) []) (K (.aH [b (Prod.fst d),b (Prod.snd d)]) [])) (K (.aH [b (Prod.fst (No e2)),b (Prod.snd (No e2))]) [])))):=by kernel_rfl
abbrev zT:=List AV×List AV
def Rp(x:zT):List AV×List Dn.Obj:=([eg x.1 x.2],[])
def za(x:zT):Prop:=oN x.1 x.2
def PU(x:zT):Out (AV×List Dn.Obj):= .one (.aH [.int (BH x.1 x.2).1, .int (BH x.1 x.2).2],[])
theorem H4 f: ∀l,(Kb f l).2=0->Kb f l=(0,0)
 |[],_=>rfl
 | x::l,h=>by
  rw[Kb] at h⊢;cases e:decide (f x=0) with
  |true=>rw[e] at h;exact H4 f l h
  |false=>
   grind
theorem cCd κ:bd (EC2 κ) 12 61 (aM Rp za PU):=by
 refine aQ ?_;rintro⟨ds,a⟩ K c b;have c:oN ds a:=c;refine Eq.mpr (yCd κ ds a K) ?_;simp only[PU,Out.run,BH] at b;refine ai.2 ⟨qm c,ae.2 ⟨fun e=>?_,fun e=>?_⟩⟩
 ·grind
 ·rw[show fB ds a=true by simpa using e,aD2] at b
  have g:No ⟨ds,a,0⟩=Ww ds ds 0:=rfl;have h:CY (ky ds) ⟨ds,a,0⟩=Kb (ky ds) a:=rfl;refine⟨rfl,⟨ds,a,0⟩,rfl,⟨c.1,by simp only;omega,by simp only;omega⟩,?_⟩;rw[g];refine ae.2 ⟨fun f=>⟨rfl,⟨ds,a,0⟩,rfl,⟨c,by simp only;omega,by simp only;omega⟩,?_⟩,fun f=>?_⟩
  ·rw[f,aD2] at b
   rw[h];refine ae.2 ⟨fun d=>?_,fun d=>b⟩;rw[at3] at d;rw[H4 _ _ d] at b;exact b
  grind
noncomputable def SF κ:=(EC2 κ).ax 61 (aM Rp za PU)
theorem eCd κ:aE (SF κ):=(eC2 _).ax (mC2 _) (cCd _)
theorem mCd κ:aj (SF κ):=(mC2 _).ax aJ
abbrev Ro(x:Nf):=sp 37 [(20, .ah 48 x.rs),(21, .int x.rs.length),(22, .int x.i)] []
theorem xC3 κ x I n K:(vc (SF κ) 12 31 none 0 (ad (Pr κ).toProgram 31 5) (Ro x) (bg (SF κ) 31 5 0 I n K))=(
 letI a:=AV.int
 letI b:=nth x.rs x.i.toNat
 letI d:=x.i<↑(x.rs.length)
 letI c:=toInt (af b 2)
 aq (decide d) (aW (decide (0<=x.i)&&decide d) (∃e1,([.agg [.agg [AV.str (toStr (af (af b 0) 0)),.ah 38 (ag (af (af b 0) 1))],
 .ah 80 (ag (af b 1)),a c]],aR)=([aw e1],aR)/\(bn (aa (bp 38 e1.hl e1.bl))<=100000/\e1.bl.length<=100000)/\aq (ba (aL e1)) (aq (jZ (aL e1)) (∃
 e0,e0<n/\I e0 (sp 37 [(20,.ah 48 x.rs),(21,a ↑(x.rs.length)),(22,a (IntKind.wrap .i64 (x.i+1)))] [])) (K
 .ret (sp 37 [(2,a c),(3,a 60)] []))) (K .ret (sp 37 [(2,a c),(3,a 30)] [])))) (K (.exit 0) (sp 37 [] []))):=by kernel_rfl
def EZ(x:Nf):Out (Exit×S):= .aq (decide ((CY lM x).2=0)) (.one (.exit 0,sp 37 [] [])) (.one (.ret,sp 37 [(2, .int (CY lM x).1),(3, .int (CY lM x).2)] []))
theorem lC3 κ:aU (SF κ) 12 31 5 (aG 0 Ro uP EZ):=by
 refine aC (fun x=>x.rs.length - x.i.toNat) ?_;rintro⟨ds,a,i⟩ K ⟨f,h,p⟩ b;simp only at f h p;rw[show(SF κ).P=Pr κ from rfl];refine Eq.mpr (xC3 κ ⟨ds,a,i⟩ _ _ K) ?_;have j:=f.2.1;simp only[aX] at j;simp only[EZ,Out.run,ae] at b;rw[ae,at3,aC7,ai,aC6,at3,at3];refine⟨fun d=>⟨⟨h,d⟩,cK (nth a i.toNat),rfl,?_,?_⟩,fun d=>?_⟩
 ·simp only at d
  exact f.2.2 _ (by rw[aV _ _ (show i.toNat<a.length by omega)];exact List.getElem_mem _)
 ·simp only at d
  have r:i.toNat<a.length:=by omega
  rw[Kd _ _ _ _ h r] at b;have l:lM (nth a i.toNat)=0->∃m,m<a.length - i.toNat/\eW Ro uP EZ (fun x=>x.rs.length - x.i.toNat) K m (Ro ⟨ds,a,i+1⟩):=fun e=>by
   rw[e] at b;refine⟨_,?_,⟨ds,a,i+1⟩,rfl,⟨f,by simp only;omega,by simp only;omega⟩,rfl,?_⟩
   ·simp only;omega
   ·simp only[EZ,Out.run,ae]
    exact b
  have c: ∀e:Int,lM (nth a i.toNat)=e->e≠0->K .ret (sp 37 [(2, .int (toInt (af (nth a i.toNat) 2))),(3, .int e)] []):=fun e q o=>by
   rw[q,aC9 o] at b;exact b.2 (aC9 o)
  rw[az (n:=i+1) (by omega) (by omega)];have k:lM (nth a i.toNat)=bif ba (aL (cK (nth a i.toNat))) then bif jZ (aL (cK (nth a i.toNat))) then 0 else 60 else 30:=rfl
  refine ae.2 ⟨fun g=>?_,fun g=>?_⟩
  ·rw[g,aD2] at k
   grind [ae]
  ·rw[g,aD0] at k
   exact c 30 k (by decide)
 ·simp only at d
  rw[Kc _ _ _ _ (by omega)] at b;exact b.1 rfl
noncomputable def EC3 κ:=(SF κ).an 31 5 (aG 0 Ro uP EZ)
theorem eC3 κ:aE (EC3 κ):=(eCd _).an (mCd _) (lC3 _)
theorem mC3 κ:aj (EC3 κ):=(mCd _).an aK
theorem yCs κ ds rs K:(a8 (EC3 κ) 12 31 [eg ds rs] [] K)=(
 letI b:=AV.int
 letI c:=AV.ah
 ∃(a:zT),([.agg [c 43 ds,c 48 rs]],aR)=([AV.agg [c 43 a.1,c 48 a.2]],aR)/\(a.1.length<=9223372036854775807/\a.2.length<=
 9223372036854775807/\∀x,List.Mem x a.2->bn (aa (bp 38 (dx.hl (cK x)) (dx.bl (cK x))))<=100000/\List.length (dx.bl (cK x))<=100000)
 /\aq (Prod.snd (BH a.1 a.2) != 0) (K (.aH [b (Prod.fst (BH a.1 a.2)),b (Prod.snd (BH a.1 a.2))]) []) (ad (Pg.toProgram
 (Env.P (SF κ))) 31 5=ad (Pg.toProgram (Env.P (SF κ))) 31 5/\∃a,sp 37 [(20,c 48 rs),(21,b ↑(rs.length)),(22,b
 0)] []=sp 37 [(20,c 48 a.rs),(21,b ↑(a.rs.length)),(22,b a.i)] []/\((a.ds.length<=9223372036854775807/\a.rs.length<=
 9223372036854775807/\∀x,List.Mem x a.rs->bn (aa (bp 38 (dx.hl (cK x)) (dx.bl (cK x))))<=100000/\List.length (dx.bl (cK x))<=
 100000)/\0<=a.i/\a.i<=↑(a.rs.length))/\aq (decide (Prod.snd (CY lM a)=0)) (K (.aH [b 0,b 0]) []) (K (.aH
 [b (Prod.fst (CY lM a)),b (Prod.snd (CY lM a))]) []))):=by kernel_rfl
def PY(x:zT):Out (AV×List Dn.Obj):= .one (.aH [.int (lA x.1 x.2).1, .int (lA x.1 x.2).2],[])
theorem cCs κ:bd (EC3 κ) 12 31 (aM Rp za PY):=by
 refine aQ ?_;rintro⟨ds,a⟩ K c b;refine Eq.mpr (yCs κ ds a K) ?_;simp only[PY,Out.run,lA] at b;refine⟨(ds,a),rfl,c,?_⟩;simp only[Od];have f:CY lM ⟨ds,a,0⟩=Kb lM a:=rfl;refine ae.2 ⟨fun e=>?_,fun e=>?_⟩
 ·grind
 ·rw[show decide _=true by simpa using e] at b
  refine⟨trivial,⟨ds,a,0⟩,rfl,⟨c,by simp only;omega,by simp only;omega⟩,?_⟩;rw[f];refine ae.2 ⟨fun d=>?_,fun d=>b⟩
  simp_all[at3,aD2,H4]
noncomputable def ECs κ:=(EC3 κ).ax 31 (aM Rp za PY)
theorem eCs κ:aE (ECs κ):=(eC3 _).ax (mC3 _) (cCs _)
theorem mCs κ:aj (ECs κ):=(mC3 _).ax aJ
end Go.Proofs.YtioeffnadipbaaaGreatDoor
