import Derived.Test.YtioeffnadipbaaaGreatDoorDeP1
import Derived.Test.YtioeffnadipbaaaGreatDoorDeP4
namespace Go.Rl
open Go Go.Dn
structure Dc where
 rel:ByteArray
 types:List Int
def kQ(s:ByteArray):List Dc->Option Nat
 |[]=>none
 |d::l=>bif o7 d.rel s then some 0 else(kQ s l).map (· +1)
def df(ds:List Dc)(s:ByteArray):List Int:=match kQ s ds with|some i=>(ds.getD i ⟨ByteArray.empty,[]⟩).types|none=>[]
def known(ds:List Dc)(a:At):Int:=match kQ a.rel ds with|none=>51|some _=>bif decide ((df ds a.rel).length=a.l.length) then 0 else 52
def dJ(l:Lt):=decide (l.op<3)||decide (6<l.op)
def jd(ds:List Dc):List Lt->Int
 |[]=>0
 |l::b=>bif dJ l&& !decide (known ds l.a=0) then known ds l.a else jd ds b
def jn ds(r:Rl):=bif decide (known ds r.head=0) then jd ds r.body else known ds r.head
section
variable {σ:Type} (get:σ->ByteArray->Int) (set:σ->ByteArray->Int->σ)
def bF(t:Tm) st:=bif decide (t.op=1) then get st t.s else bif decide (t.op=3) then 2 else bif decide (t.op=4) then 0 else 1
mutual
def Tm.di:Tm->Int->σ->Bool×σ
 | .mk op s _ l,w,st=>bif decide (op=1) then(bif decide (w=0)|| !decide (get st s=0) then(false,st) else(true,set st s w)) else dY l st
def dY:List Tm->σ->Bool×σ
 |[],st=>(false,st)
 |t::l,st=>((Tm.di t 1 st).1||(dY l (Tm.di t 1 st).2).1,(dY l (Tm.di t 1 st).2).2)
end
mutual
def Tm.want:Tm->Int->σ×Bool->Bool×(σ×Bool)
 | .mk op s n l,k,x=>
  bif (jc l x).1 then jc l x
  else bif decide (k=0)||decide (op=4) then(false,(jc l x).2)
  else bif decide (bF get (.mk op s n l) (jc l x).2.1=0) then(false,(set (jc l x).2.1 s k,true))
  else(!decide (bF get (.mk op s n l) (jc l x).2.1=k),(jc l x).2)
def jc:List Tm->σ×Bool->Bool×(σ×Bool)
 |[],x=>(false,x)
 |t::l,x=>bif (Tm.want t 1 x).1 then Tm.want t 1 x else jc l (Tm.want t 1 x).2
end
def cv:List Int->List Tm->σ->Bool×σ
 |w::ws,t::l,st=>((t.di get set w st).1||(cv ws l (t.di get set w st).2).1,(cv ws l (t.di get set w st).2).2)
 |_,_,st=>(false,st)
def jT:List Int->List Tm->σ×Bool->Bool×(σ×Bool)
 |w::ws,t::l,x=>bif (t.want get set w x).1 then t.want get set w x else jT ws l (t.want get set w x).2
 |_,_,x=>(false,x)
def gE(op:Int):=decide (3<=op)&&decide (op<=6)
def lT(l:Lt) st:=bif decide (bF get l.y st>bF get l.x st) then bF get l.y st else bF get l.x st
def eB ds(l:Lt) st:=
 bif gE l.op then
  ((l.x.di get set (lT get l st) st).1||(l.y.di get set (lT get l st) (l.x.di get set (lT get l st) st).2).1,(l.y.di get set (lT get l st) (l.x.di get set (lT get l st) st).2).2)
 else bif decide (l.op=1)||decide (l.op=2) then cv get set (df ds l.a.rel) l.a.l st
 else((cv get set (df ds l.a.rel) l.a.l st).1||(l.x.di get set 1 (cv get set (df ds l.a.rel) l.a.l st).2).1||(l.y.di get set 1 (l.x.di get set 1 (cv get set (df ds l.a.rel) l.a.l st).2).2).1,
  (l.y.di get set 1 (l.x.di get set 1 (cv get set (df ds l.a.rel) l.a.l st).2).2).2)
def fr(ds:List Dc):List Lt->σ->Bool×σ
 |[],st=>(false,st)
 |l::b,st=>((eB get set ds l st).1||(fr ds b (eB get set ds l st).2).1,(fr ds b (eB get set ds l st).2).2)
def ki ds(r:Rl) st:=
 ((cv get set (df ds r.head.rel) r.head.l st).1||(fr get set ds r.body (cv get set (df ds r.head.rel) r.head.l st).2).1,(fr get set ds r.body (cv get set (df ds r.head.rel) r.head.l st).2).2)
def fm ds a x:=
 bif decide (known ds a=0) then(bif (jT get set (df ds a.rel) a.l x).1 then 53 else 0,(jT get set (df ds a.rel) a.l x).2) else(known ds a,x)
def lk(y:Bool×σ×Bool)(f:σ×Bool->Bool×σ×Bool):Int×σ×Bool:=bif y.1 then(53,y.2) else(bif (f y.2).1 then 53 else 0,(f y.2).2)
def ll ds(l:Lt) x:=
 bif gE l.op then lk (l.x.want get set (lT get l x.1) x) (l.y.want get set (lT get l x.1))
 else bif decide (l.op=1)||decide (l.op=2) then fm get set ds l.a x
 else bif !decide ((fm get set ds l.a x).1=0) then fm get set ds l.a x
 else bif decide (l.op=7) then(bif (l.x.want get set 1 (fm get set ds l.a x).2).1 then 53 else 0,(l.x.want get set 1 (fm get set ds l.a x).2).2)
 else lk (l.x.want get set 1 (fm get set ds l.a x).2) (l.y.want get set 1)
def xQ(e:Int):=decide (e=51)||decide (e=52)
def iR w e:=bif decide (w=0)||decide (w=53)&&xQ e then e else w
def kn(ds:List Dc):List Lt->Int×(σ×Bool)->Int×(σ×Bool)
 |[],y=>y
 |l::b,y=>bif xQ (iR y.1 (ll get set ds l y.2).1) then(iR y.1 (ll get set ds l y.2).1,(ll get set ds l y.2).2)
  else kn ds b (iR y.1 (ll get set ds l y.2).1,(ll get set ds l y.2).2)
def fe ds(r:Rl) st:=kn get set ds r.body (fm get set ds r.head (st,false))
def fR(ds:List Dc)(r:Rl):Nat->σ->Int×σ
 |0,st=>(0,st)
 |n+1,st=>bif decide ((fe get set ds r st).1=0) then(bif (fe get set ds r st).2.2 then fR ds r n (fe get set ds r st).2.1 else(0,(fe get set ds r st).2.1)) else((fe get set ds r st).1,(fe get set ds r st).2.1)
def Ext st st':=∀s,get st s≠0->get st' s=get st s
theorem Ext.refl st:Ext get st st:=fun _ _=>rfl
variable {get set}
theorem Ext.trans{a b c}(h1:Ext get a b)(h2:Ext get b c):Ext get a c:=fun s h=>by rw[h2 s (by rw[h1 s h];grind),h1 s h]
variable (hgs: ∀st s k t,get (set st s k) t=bif t==s then k else get st t)
include hgs
mutual
theorem Tm.eb: ∀(t:Tm) (w:Int) (st:σ),Ext get st (t.di get set w st).2
 | .mk op s n l,w,st=>by
  rw[Tm.di];cases decide (op=1) with
  |false=>exact qU l st
  | true=>
   rw[an9];cases h:(decide (w=0)|| !decide (get st s=0)) with
   |true=>exact Ext.refl _ _
   | false=>
    intro t ht;rw[an7,hgs];cases e:t==s with
    |false=>rfl
    |true=>
     rw[Bool.or_eq_false_iff,ao4,an2] at h;rw[eq_of_beq e] at ht;exact absurd h.2 ht
theorem qU: ∀(l:List Tm) (st:σ),Ext get st (dY get set l st).2
 |[],st=>by have _:=hgs;exact Ext.refl _ _
 |t::l,st=>by rw[dY];exact(Tm.eb t 1 st).trans (qU l _)
end
theorem gK: ∀ws l st,Ext get st (cv get set ws l st).2
 |w::ws,t::l,st=>by exact(Tm.eb hgs t w _).trans (gK _ l _)
 |[],_,st=>by grind [cv,Ext.refl]
 |_::_,[],st=>by grind [cv,Ext.refl]
theorem uB ds l st:Ext get st (eB get set ds l st).2:=by
 unfold eB;cases gE _ with
 |true=>exact(Tm.eb hgs _ _ st).trans (Tm.eb hgs _ _ _)
 |false=>
  cases(decide (l.op=1)||decide (l.op=2)) with
  |true=>grind [gK]
  |false=>exact((gK hgs _ _ st).trans (Tm.eb hgs l.x 1 _)).trans (Tm.eb hgs l.y 1 _)
theorem nj ds: ∀b st,Ext get st (fr get set ds b st).2
 |[],st=>Ext.refl _ _
 |l::b,st=>by exact(uB hgs _ l _).trans (nj _ b _)
theorem GC ds r st:Ext get st (ki get set ds r st).2:=(gK hgs _ _ _).trans (nj hgs _ _ _)
end
def ad5 o(s:ByteArray):=bif o.contains s then o else o++[s]
def XR(o m:List _):=m.foldl ad5 o
mutual
def Tm.rv:Tm->List ByteArray
 | .mk op s _ l=>bif decide (op=1) then[s] else rvL l []
def rvL:List Tm->List ByteArray->List ByteArray
 |[],o=>o
 |t::l,o=>rvL l (XR o t.rv)
end
mutual
def Tm.wf:Tm->Bool
 | .mk op _ _ l=>bif mI op then decide (l.length=2)&&Iq l else decide (l.length=0)
def Iq:List Tm->Bool
 |[]=>true
 |t::l=>t.wf&&Iq l
end
theorem wW: ∀h t,ar h t=true->t.wf=true
 |0,_,h=>by grind [ar]
 | h+1, .mk op s n l,e=>by
  rw[tJ] at e;rw[Tm.wf];have go: ∀l,lB h l=true->Iq l=true:=by
   intro l;induction l with
   |nil=>intro _;rfl
   |cons t l ih=>
    intro e;simp only[lB,List.all_cons,an3] at e;rw[Iq,wW h t e.1.2,ih e.2];rfl
  grind
theorem HY{t}(h:Le t=true):t.wf=true/\t.op=0:=by
 obtain⟨op,s,n,l⟩:=t;simp only[Le,an3,an2] at h;have h0:=h.1.1;subst h0;exact⟨an8 h.2,rfl⟩
theorem PS{h}: ∀{l},l.all (ar h)=true->Iq l=true
 |[],_=>rfl
 |t::l,e=>by
  simp only[List.all_cons,an3] at e;rw[Iq,wW h t e.1,PS e.2];rfl
theorem vj{a}(h:bk a=true):Iq a.l=true:=by
 grind [bk,PS]
structure RW(l:Lt):Prop where
 x:l.x.wf=true
 y:l.y.wf=true
 a:Iq l.a.l=true
 cmp:gE l.op=true->l.x.op≠4/\l.y.op≠4
 one:l.op=7->l.y.op=0
theorem U0{l}(h:j6 l=true):RW l:=by
 unfold j6 at h;have nA:VM l.a=true->Iq l.a.l=true:=fun h=>by
  simp only[VM,an3,an2] at h;rw[List.eq_nil_of_length_eq_zero h.2];rfl
 have v1: ∀{t:Tm},ar 20 t=true->t.wf=true:=fun h=>wW _ _ h
 have hc:gE l.op=true->3<=l.op/\l.op<=6:=fun h=>by
  simpa[gE] using h
 cases h1:decide (l.op=1)||decide (l.op=2) with
 |true=>
  rw[h1,an9] at h;simp only[an3] at h
  simp only[ao5,an2] at h1;exact⟨(HY h.2.1).1,(HY h.2.2).1,vj h.1,fun e=>by have:=hc e;omega,fun e=>by omega⟩
 | false=>
  rw[h1,an7] at h;cases h2:decide (l.op=3)||decide (l.op=4)||decide (l.op=5)||decide (l.op=6) with
  |true=>
   rw[h2,an9] at h;simp only[an3,Bool.not_eq_true',an4] at h
   simp only[ao5,an2] at h2;exact⟨v1 h.1.2,v1 h.2,nA h.1.1.1.1,fun _=>⟨h.1.1.1.2,h.1.1.2⟩,fun e=>by omega⟩
  | false=>
   rw[h2,an7] at h;simp only[Bool.or_eq_false_iff,an4] at h1 h2;cases h3:decide (l.op=7) with
   |true=>
    rw[h3,an9] at h;simp only[an3] at h
    exact⟨v1 h.2,(HY h.1.2.2).1,vj h.1.1,fun e=>by have:=hc e;omega,fun _=>(HY h.1.2.2).2⟩
   | false=>
    rw[h3,an7] at h;rw[an4] at h3;cases h4:decide (l.op=8)||decide (l.op=9)||decide (l.op=10) with
    |true=>
     rw[h4,an9] at h;simp only[an3] at h
     exact⟨v1 h.1.2,v1 h.2,vj h.1.1.1,fun e=>by have:=hc e;omega,fun e=>absurd e h3⟩
    |false=>rw[h4,an7] at h;cases h
section
variable {σ:Type} {get:σ->ByteArray->Int} {set:σ->ByteArray->Int->σ}
theorem Uj{op}(h:op=1):mI op=false:=by subst h;rfl
mutual
theorem Tm.nq: ∀(t:Tm) (k:Int) (x:σ×Bool),t.wf=true->(t.want get set k x).1=false->(t.want get set k x).2=((t.di get set k x.1).2,x.2||(t.di get set k x.1).1)
 | .mk op s n l,k,x,hw,h=>by
  rw[Tm.wf] at hw;rw[Tm.want] at h⊢;rw[Tm.di];cases he:(jc get set l x).1 with
  |true=>rw[he,an9,he] at h;cases h
  | false=>
   rw[he,an7] at h;rw[an7];cases h1:decide (op=1) with
   | true=>
    rw[an2] at h1;rw[Uj h1,an7,an2] at hw;rw[List.eq_nil_of_length_eq_zero hw];rw[List.eq_nil_of_length_eq_zero hw] at h;rw[jc] at h⊢;subst h1;simp only[bF,Tm.op,Tm.s,an9,decide_true,show decide ((1:Int)=4)=false from rfl,Bool.or_false] at h⊢;cases hk:decide (k=0) with
    |true=>simp
    |false=>
     rw[hk] at h;simp only[an7,Bool.false_or] at h⊢;cases hg:decide (get x.1 s=0) with
     |true=>simp
     |false=>simp
   | false=>
    rw[an7];have ih:(jc get set l x).2=((dY get set l x.1).2,x.2||(dY get set l x.1).1):=by
     cases h2:mI op with
     |true=>
      rw[h2,an9,an3] at hw;exact Dw l x hw.2 he
     |false=>
      rw[h2,an7,an2] at hw;rw[List.eq_nil_of_length_eq_zero hw];simp[jc,dY]
    cases hk:decide (k=0)||decide (op=4) with
    |true=>exact ih
    | false=>
     rw[hk,an7] at h;rw[an7];rw[Bool.or_eq_false_iff] at hk;have hn:decide (bF get (.mk op s n l) (jc get set l x).2.1=0)=false:=by
      unfold bF;rw[show(Tm.mk op s n l).op=op from rfl,h1,an7,hk.2];cases decide (op=3)<;>rfl
     rw[hn,an7];exact ih
theorem Dw: ∀(l:List Tm) (x:σ×Bool),Iq l=true->(jc get set l x).1=false->(jc get set l x).2=((dY get set l x.1).2,x.2||(dY get set l x.1).1)
 |[],x,_,_=>by simp[jc,dY]
 | t::l,x,hw,h=>by
  rw[Iq,an3] at hw;rw[jc] at h⊢;rw[dY];cases he:(t.want get set 1 x).1 with
  |true=>rw[he,an9,he] at h;cases h
  |false=>
   rw[he,an7] at h;rw[an7];have e1:=Tm.nq t 1 x hw.1 he;have e2:=Dw l _ hw.2 h;rw[e2,e1];simp only[Bool.or_assoc]
end
theorem xi: ∀ws l x,Iq l=true->(jT get set ws l x).1=false->(jT get set ws l x).2=((cv get set ws l x.1).2,x.2||(cv get set ws l x.1).1)
 |[],l,x,_,_=>by simp[jT,cv]
 |w::ws,[],x,_,_=>by simp[jT,cv]
 | w::ws,t::l,x,hw,h=>by
  rw[Iq,an3] at hw;rw[jT] at h⊢;rw[cv];cases he:(t.want get set w x).1 with
  |true=>grind
  |false=>
   rw[he,an7] at h;have e1:=t.nq w x hw.1 he;have e2:=xi ws l _ hw.2 h
   grind
theorem CQ{y:Bool×σ×Bool}{f}(h:(lk y f).1=0):y.1=false/\(f y.2).1=false/\(lk y f).2=(f y.2).2:=by
 grind [lk]
theorem sW{y:Bool×σ×Bool}{f}:(lk y f).1=0\/(lk y f).1=53:=by
 grind [lk]
theorem G4{t:Tm}(hw:t.wf=true)(h:t.op=0) k st:t.di get set k st=(false,st):=by
 obtain⟨op,s,n,l⟩:=t;have h:op=0:=h
 grind [Tm.wf,mI,Tm.di,dY]
theorem Qa ds{l}(hl:RW l)(hk:dJ l=true->known ds l.a=0) x(h:(ll get set ds l x).1=0):(ll get set ds l x).2=((eB get set ds l x.1).2,x.2||(eB get set ds l x.1).1):=by
 unfold ll at h⊢;unfold eB;cases hc:gE l.op with
 |true=>
  rw[hc,an9] at h;rw[an9,an9];obtain⟨h1,h2,h3⟩:=CQ h;have e1:=l.x.nq _ x hl.x h1;have e2:=l.y.nq _ _ hl.y h2;rw[h3,e2,e1];simp only[Bool.or_assoc]
 | false=>
  rw[hc,an7] at h;rw[an7,an7];have hat:dJ l=true:=by
   simp only[gE,Bool.and_eq_false_iff,an4] at hc;simp only[dJ,ao5,an2];omega
  have ha:fm get set ds l.a x=(bif (jT get set (df ds l.a.rel) l.a.l x).1 then 53 else 0,(jT get set (df ds l.a.rel) l.a.l x).2):=by
   unfold fm;rw[hk hat];rfl
  have ok:(fm get set ds l.a x).1=0->(fm get set ds l.a x).2=((cv get set (df ds l.a.rel) l.a.l x.1).2,x.2||(cv get set (df ds l.a.rel) l.a.l x.1).1):=fun e=>by
   rw[ha] at e⊢;cases he:(jT get set (df ds l.a.rel) l.a.l x).1 with
   |true=>rw[he] at e;cases e
   |false=>exact xi _ _ _ hl.a he
  cases h12:decide (l.op=1)||decide (l.op=2) with
  |true=>
   rw[h12,an9] at h;rw[an9,an9];exact ok h
  | false=>
   rw[h12,an7] at h;rw[an7,an7];cases he:decide ((fm get set ds l.a x).1=0) with
   |false=>rw[he,Bool.not_false,an9] at h;rw[h] at he;cases he
   | true=>
    rw[he,Bool.not_true,an7] at h;rw[Bool.not_true,an7];rw[an2] at he;have e0:=ok he;cases h7:decide (l.op=7) with
    | true=>
     rw[h7,an9] at h;rw[an9];have hx:(l.x.want get set 1 (fm get set ds l.a x).2).1=false:=by
      cases e:(l.x.want get set 1 (fm get set ds l.a x).2).1 with
      |true=>rw[e] at h;cases h
      |false=>rfl
     have e1:=l.x.nq 1 _ hl.x hx;rw[an2] at h7;rw[e1,e0,G4 hl.y (hl.one h7)];simp only[Bool.or_false,Bool.or_assoc]
    |false=>
     rw[h7,an7] at h;rw[an7];obtain⟨h1,h2,h3⟩:=CQ h;have e1:=l.x.nq _ _ hl.x h1;have e2:=l.y.nq _ _ hl.y h2;rw[h3,e2,e1,e0];simp only[Bool.or_assoc]
theorem xt ds{l}(hk:dJ l=true->known ds l.a=0) x:(ll get set ds l x).1=0\/(ll get set ds l x).1=53:=by
 unfold ll;cases hc:gE l.op with
 |true=>rw[an9];exact sW
 | false=>
  have hat:dJ l=true:=by
   simp only[gE,Bool.and_eq_false_iff,an4] at hc;simp only[dJ,ao5,an2];omega
  have ha:(fm get set ds l.a x).1=0\/(fm get set ds l.a x).1=53:=by
   unfold fm;grind
  rw[an7];cases decide (l.op=1)||decide (l.op=2) with
  |true=>exact ha
  | false=>
   rw[an7];cases decide ((fm get set ds l.a x).1=0) with
   |false=>exact ha
   | true=>
    cases decide (l.op=7) with
    |true=>
     grind
    |false=>rw[an7];exact sW
theorem SF ds{l}(hat:dJ l=true)(hk:known ds l.a≠0) x:(ll get set ds l x).1=known ds l.a:=by
 grind [gE,dJ,fm,ll]
theorem yc ds: ∀b x,jd ds b=0->(kn get set ds b (53,x)).1=53
 |[],_,_=>rfl
 | l::b,x,h=>by
  rw[jd] at h;have hk:dJ l=true->known ds l.a=0:=fun e=>by
   grind
  have hb:jd ds b=0:=by
   grind
  rw[kn];have hn:iR 53 (ll get set ds l x).1=53:=by
   rcases xt   ds hk x with e|e<;>rw[e]<;>rfl
  simp only[hn];exact yc ds b _ hb
theorem Cn ds: ∀b x,jd ds b=0->(∀l,l∈b->RW l)->(kn get set ds b (0,x)).1=0->(kn get set ds b (0,x)).2=((fr get set ds b x.1).2,x.2||(fr get set ds b x.1).1)
 |[],x,_,_,_=>by simp[kn,fr]
 | l::b,x,h,hw,he=>by
  rw[jd] at h;have hk:dJ l=true->known ds l.a=0:=fun e=>by
   grind
  have hb:jd ds b=0:=by
   grind
  rw[kn] at he⊢;rw[fr];have hn: ∀e:Int,iR 0 e=e:=fun e=>rfl
  simp only[hn] at he⊢;rcases xt (get:=get) (set:=set) ds hk x with e|e
  ·rw[e] at he⊢
   have e1:=Qa ds (hw l List.mem_cons_self) hk x e;have e2:=Cn ds b _ hb (fun m hm=>hw m (List.mem_cons_of_mem _ hm)) he;rw[show xQ 0=false from rfl,an7,e2,e1];simp only[Bool.or_assoc]
  simp_all[xQ,yc]
theorem Md ds{r}(hh:Iq r.head.l=true)(hw: ∀l,l∈r.body->RW l)(hk:jn ds r=0) st(h:(fe get set ds r st).1=0):(fe get set ds r st).2=((ki get set ds r st).2,(ki get set ds r st).1):=by
 unfold jn at hk;have h0:known ds r.head=0:=by
  grind
 rw[h0] at hk;have hb:jd ds r.body=0:=hk;unfold fe at h⊢;have ha:fm get set ds r.head (st,false)=(bif (jT get set (df ds r.head.rel) r.head.l (st,false)).1 then 53 else 0,(jT get set (df ds r.head.rel) r.head.l (st,false)).2):=by
  unfold fm;rw[h0];rfl
 rw[ha] at h⊢;cases he:(jT get set (df ds r.head.rel) r.head.l (st,false)).1 with
 |true=>rw[he,an9,yc ds _ _ hb] at h;cases h
 |false=>
  rw[he,an7] at h;rw[an7,Cn ds _ _ hb hw h,xi _ _ _ hh he];rfl
end
section
variable {σ:Type} {get:σ->ByteArray->Int} {set:σ->ByteArray->Int->σ}
variable (hgs: ∀st s k t,get (set st s k) t=bif t==s then k else get st t)
include hgs
end
section
variable {σ:Type} {get:σ->ByteArray->Int} {set:σ->ByteArray->Int->σ}
def Val(get:σ->ByteArray->Int) st:=∀s,get st s=0\/get st s=1\/get st s=2
end
theorem AQ{l s}(h:s∈l.x.vars):s∈ej l:=by grind [ej,ax]
theorem Av{l s}(h:s∈l.y.vars):s∈ej l:=by grind [ej,ax]
theorem Ft{l s}(h:s∈ax l.a.l):s∈ej l:=by grind [ej]
section
variable {σ:Type} {get:σ->ByteArray->Int} {set:σ->ByteArray->Int->σ}
def z6(get:σ->ByteArray->Int)(V:ByteArray->Prop) a b:=∃s,V s/\get a s=0/\get b s≠0
theorem z6.left{V W a b c}(h:z6 get V a b)(hx:Ext get b c)(hs: ∀s,V s->W s):z6 get W a c:=by
 obtain⟨s,h1,h2,h3⟩:=h;exact⟨s,hs s h1,h2,by rw[hx s h3];omega⟩
theorem z6.right{V W a b c}(hx:Ext get a b)(h:z6 get V b c)(hs: ∀s,V s->W s):z6 get W a c:=by
 obtain⟨s,h1,h2,h3⟩:=h;refine⟨s,hs s h1,?_,h3⟩;cases e:decide (get a s=0) with
 |true=>grind
 |false=>rw[an4] at e;rw[hx s e] at h2;omega
variable (hgs: ∀st s k t,get (set st s k) t=bif t==s then k else get st t)
include hgs
mutual
theorem Tm.kE: ∀(t:Tm) (w:Int) (st:σ),(t.di get set w st).1=true->z6 get (fun s=>s∈t.vars) st (t.di get set w st).2
 | .mk op s n l,w,st,h=>by
  rw[Tm.di] at h⊢;cases h1:decide (op=1) with
  |false=>
   rw[h1,an7] at h;rw[an7];exact(x9 l st h).left (Ext.refl _ _) fun s hs=>by rw[Tm.vars];exact List.mem_append_right _ hs
  | true=>
   rw[h1,an9] at h;rw[an9];cases hc:(decide (w=0)|| !decide (get st s=0)) with
   |true=>rw[hc,an9] at h;cases h
   |false=>
    rw[an7];simp only[Bool.or_eq_false_iff,an4,ao4,an2] at hc;refine⟨s,by rw[Tm.vars,h1];simp,hc.2,?_⟩;rw[hgs];simpa using hc.1
theorem x9: ∀(l:List Tm) (st:σ),(dY get set l st).1=true->z6 get (fun s=>s∈ax l) st (dY get set l st).2
 |[],_,h=>by rw[dY] at h;cases h
 | t::l,st,h=>by
  rw[dY] at h⊢;cases h1:(t.di get set 1 st).1 with
  |true=>exact(Tm.kE t 1 st h1).left (qU hgs l _) fun s hs=>by rw[ax];exact List.mem_append_left _ hs
  |false=>
   rw[h1,Bool.false_or] at h;exact z6.right (Tm.eb hgs t 1 st) (x9 l _ h) fun s hs=>by rw[ax];exact List.mem_append_right _ hs
end
theorem nu: ∀ws l st,(cv get set ws l st).1=true->z6 get (fun s=>s∈ax l) st (cv get set ws l st).2
 |[],l,st,h=>by simp[cv] at h
 |w::ws,[],st,h=>by simp[cv] at h
 | w::ws,t::l,st,h=>by
  rw[cv] at h⊢;cases h1:(t.di get set w st).1 with
  |true=>exact(Tm.kE hgs t w st h1).left (gK hgs ws l _) fun s hs=>by rw[ax];grind
  |false=>
   rw[h1] at h;exact z6.right (Tm.eb hgs t w st) (nu ws l _ h) fun s hs=>by rw[ax];grind
theorem CM ds l st(h:(eB get set ds l st).1=true):z6 get (fun s=>s∈ej l) st (eB get set ds l st).2:=by
 unfold eB at h⊢;cases hc:gE l.op with
 | true=>
  rw[hc,an9] at h;rw[an9];cases h1:(l.x.di get set (lT get l st) st).1 with
  |true=>exact(Tm.kE hgs _ _ _ h1).left (Tm.eb hgs l.y _ _) fun s=>AQ
  |false=>
   rw[h1,Bool.false_or] at h;exact z6.right (Tm.eb hgs l.x _ st) (Tm.kE hgs _ _ _ h) fun s=>Av
 | false=>
  rw[hc,an7] at h;rw[an7];cases h12:decide (l.op=1)||decide (l.op=2) with
  |true=>rw[h12,an9] at h;exact(nu hgs _ _ _ h).left (Ext.refl _ _) fun s=>Ft
  | false=>
   rw[h12,an7] at h;rw[an7];cases h0:(cv get set (df ds l.a.rel) l.a.l st).1 with
   |true=>exact(nu hgs _ _ _ h0).left ((Tm.eb hgs l.x _ _).trans (Tm.eb hgs l.y _ _)) fun s=>Ft
   | false=>
    rw[h0,Bool.false_or] at h;cases h1:(l.x.di get set 1 (cv get set (df ds l.a.rel) l.a.l st).2).1 with
    |true=>exact z6.right (gK hgs _ _ st) ((Tm.kE hgs _ _ _ h1).left (W:=fun s=>s∈ej l) (Tm.eb hgs l.y _ _) fun s=>AQ) fun s hs=>hs
    |false=>
     rw[h1,Bool.false_or] at h;exact z6.right ((gK hgs _ _ st).trans (Tm.eb hgs l.x _ _)) (Tm.kE hgs _ _ _ h) fun s=>Av
theorem xV ds: ∀b st,(fr get set ds b st).1=true->z6 get (fun s=>s∈b.flatMap ej) st (fr get set ds b st).2
 |[],_,h=>by cases h
 | l::b,st,h=>by
  rw[fr] at h⊢;cases h1:(eB get set ds l st).1 with
  |true=>exact(CM hgs ds l st h1).left (nj hgs ds b _) (by grind)
  |false=>
   rw[h1] at h;exact z6.right (uB hgs ds l st) (xV ds b _ h) (by grind)
theorem G3 ds r st(h:(ki get set ds r st).1=true):z6 get (fun s=>s∈fB r) st (ki get set ds r st).2:=by
 unfold ki at h⊢;cases h1:(cv get set (df ds r.head.rel) r.head.l st).1 with
 |true=>exact(nu hgs _ _ _ h1).left (nj hgs ds _ _) fun s hs=>by rw[fB];grind
 |false=>
  grind [z6.right,gK,xV,fB,List.mem_append_right]
omit hgs
def mM(get:σ->ByteArray->Int)(V:List _) st:=(V.filter fun s=>decide (get st s=0)).length
theorem Oe get V(st:σ):mM get V st<=V.length:=List.length_filter_le _ _
theorem zF{a b}(h:Ext get a b): ∀V,mM get V b<=mM get V a
 |[]=>Nat.le_refl _
 | s::V=>by
  have ih:=zF h V;unfold mM at ih⊢;rw[List.filter_cons,List.filter_cons];cases e:decide (get a s=0) with
  |true=>
   grind
  |false=>
   rw[an4] at e;rw[an6 (by rw[h s e];exact e)]
   grind
theorem zB{a b}(h:Ext get a b): ∀V,z6 get (fun s=>s∈V) a b->mM get V b<mM get V a
 |[],⟨_,h1,_⟩=>nomatch h1
 | s::V,⟨t,h1,h2,h3⟩=>by
  rcases List.mem_cons.1 h1 with rfl|h1
  ·have ih:=zF h V
   unfold mM at ih⊢
   grind
  ·have ih:=zB h V ⟨t,h1,h2,h3⟩
   unfold mM at ih⊢;rw[List.filter_cons,List.filter_cons];cases e:decide (get a s=0) with
   |true=>
    grind
   |false=>
    rw[an4] at e;rw[an6 (by rw[h s e];exact e)];simpa using ih
include hgs
end
section
variable {σ ρ:Type} {get:σ->ByteArray->Int} {set:σ->ByteArray->Int->σ} {get':ρ->ByteArray->Int} {set':ρ->ByteArray->Int->ρ} {V:ByteArray->Prop} {P:ρ->Prop}
def Alike(get:σ->ByteArray->Int)(get':ρ->ByteArray->Int)(V:ByteArray->Prop)(P:ρ->Prop) a b:=P b/\∀s,V s->get a s=get' b s
variable (hg: ∀st s k t,get (set st s k) t=bif t==s then k else get st t) (hg': ∀st s k t,P st->V s->V t->get' (set' st s k) t=bif t==s then k else get' st t) (hp: ∀st s k,P st->V s->P (set' st s k))
theorem Alike.ty{a b}(h:Alike get get' V P a b){t}(hv: ∀s,s∈t.vars->V s):bF get t a=bF get' t b:=by
 unfold bF;cases h1:decide (t.op=1) with
 |false=>rfl
 |true=>
  refine h.2 _ (hv _ ?_);obtain⟨op,s,n,l⟩:=t;rw[Tm.vars,show decide (op=1)=true from h1];simp[Tm.s]
theorem Alike.kind{a b}(h:Alike get get' V P a b){l}(hv: ∀s,s∈ej l->V s):lT get l a=lT get' l b:=by
 unfold lT;rw[h.ty  fun s hs=>hv s (AQ hs),h.ty  fun s hs=>hv s (Av hs)]
include hg hg' hp
mutual
theorem Alike.di: ∀(t:Tm) (w:Int) {a:σ} {b:ρ},Alike get get' V P a b->(∀s,s∈t.vars->V s)->(t.di get set w a).1=(t.di get' set' w b).1/\Alike get get' V P (t.di get set w a).2 (t.di get' set' w b).2
 | .mk op s n l,w,a,b,h,hv=>by
  rw[Tm.di,Tm.di];cases h1:decide (op=1) with
  |false=>exact Alike.dY l h fun s hs=>hv s (by rw[Tm.vars];exact List.mem_append_right _ hs)
  | true=>
   have hs:V s:=hv s (by rw[Tm.vars,h1];simp);rw[an9,an9,h.2 s hs];cases(decide (w=0)|| !decide (get' b s=0)) with
   |true=>exact⟨rfl,h⟩
   |false=>
    refine⟨rfl,hp b s w h.1 hs,fun t ht=>?_⟩;rw[an7,an7,hg,hg' b s w t h.1 hs ht,h.2 t ht]
theorem Alike.dY: ∀(l:List Tm) {a:σ} {b:ρ},Alike get get' V P a b->(∀s,s∈ax l->V s)->(dY get set l a).1=(dY get' set' l b).1/\Alike get get' V P (dY get set l a).2 (dY get' set' l b).2
 |[],a,b,h,_=>by have _:=hg;have _:=hg';have _:=hp;exact⟨rfl,h⟩
 |t::l,a,b,h,hv=>by
  rw[Rl.dY,Rl.dY];obtain⟨e1,h1⟩:=Alike.di t 1 h fun s hs=>hv s (by rw[ax];exact List.mem_append_left _ hs)
  obtain⟨e2,h2⟩:=Alike.dY l h1 fun s hs=>hv s (by rw[ax];exact List.mem_append_right _ hs)
  exact⟨by rw[e1,e2],h2⟩
end
theorem Alike.cv: ∀ws l {a b},Alike get get' V P a b->(∀s,s∈ax l->V s)->(cv get set ws l a).1=(cv get' set' ws l b).1/\Alike get get' V P (cv get set ws l a).2 (cv get' set' ws l b).2
 |[],l,a,b,h,_=>by simpa[Rl.cv] using h
 |w::ws,[],a,b,h,_=>by simpa[Rl.cv] using h
 |w::ws,t::l,a,b,h,hv=>by
  rw[Rl.cv,Rl.cv];obtain⟨e1,h1⟩:=Alike.di hg hg' hp t w h fun s hs=>hv s (by rw[ax];grind)
  obtain⟨e2,h2⟩:=Alike.cv ws l h1 fun s hs=>hv s (by rw[ax];grind)
  grind
theorem Alike.eB ds l{a b}(h:Alike get get' V P a b)(hv: ∀s,s∈ej l->V s):(eB get set ds l a).1=(eB get' set' ds l b).1/\Alike get get' V P (eB get set ds l a).2 (eB get' set' ds l b).2:=by
 unfold Rl.eB;have vx: ∀s,s∈l.x.vars->V s:=fun s hs=>hv s (AQ hs)
 have vy: ∀s,s∈l.y.vars->V s:=fun s hs=>hv s (Av hs)
 have va: ∀s,s∈ax l.a.l->V s:=fun s hs=>hv s (Ft hs)
 cases gE l.op with
 |true=>
  rw[an9,an9,h.kind hv]
  grind [Alike.di,lT]
 | false=>
  rw[an7,an7];obtain⟨e0,h0⟩:=Alike.cv hg hg' hp (df ds l.a.rel) l.a.l h va;cases decide (l.op=1)||decide (l.op=2) with
  |true=>exact⟨e0,h0⟩
  |false=>
   obtain⟨e1,h1⟩:=Alike.di hg hg' hp l.x 1 h0 vx;obtain⟨e2,h2⟩:=Alike.di hg hg' hp l.y 1 h1 vy;exact⟨by rw[an7,an7,e0,e1,e2],h2⟩
theorem Alike.fr ds: ∀l {a b},Alike get get' V P a b->(∀s,s∈l.flatMap ej->V s)->(fr get set ds l a).1=(fr get' set' ds l b).1/\Alike get get' V P (fr get set ds l a).2 (fr get' set' ds l b).2
 |[],a,b,h,_=>⟨rfl,h⟩
 |l::m,a,b,h,hv=>by
  rw[Rl.fr,Rl.fr];obtain⟨e1,h1⟩:=Alike.eB hg hg' hp ds l h (by grind);obtain⟨e2,h2⟩:=Alike.fr ds m h1 (by grind)
  grind
theorem Alike.ki ds r{a b}(h:Alike get get' V P a b)(hv: ∀s,s∈fB r->V s):(ki get set ds r a).1=(ki get' set' ds r b).1/\Alike get get' V P (ki get set ds r a).2 (ki get' set' ds r b).2:=by
 grind [Rl.ki,Alike.cv,fB,Alike.fr]
end
def getM es s:=toInt (cV es (.string s) (.lit (.int .i64 0)))
def gB es s k:=eC es (.string s) (.lit (.int .i64 k))
theorem pE: ∀es s k t,getM (gB es s k) t=bif t==s then k else getM es t
 |[],s,k,t=>by
  simp only[getM,gB,eC,cV,eg];cases t==s<;>rfl
 | (k',a')::es,s,k,t=>by
  have ih:=pE es s k t;simp only[getM,gB,eC,cV] at ih⊢;cases h:eg (.string s) k' with
  |true=>
   have hk:=zA h;subst hk;simp only[an9,cV,eg];cases h2:t==s<;>rfl
  |false=>
   simp only[an7,cV]
   grind
def plc(V:List _) s:=V.findIdx (o7 s)
def j4 V(τ:List Int) s k:=τ.set (plc V s) k
def NN ds r:=
 bif decide ((fR getM gB ds r ((de r).length+1) []).1=0) then
  bif (de r).all fun s=>!decide (getM (fR getM gB ds r ((de r).length+1) []).2 s=0) then(0,(de r).map (getM (fR getM gB ds r ((de r).length+1) []).2)) else(53,[])
 else((fR getM gB ds r ((de r).length+1) []).1,[])
theorem uj ds a:known ds a=0\/known ds a=51\/known ds a=52:=by
 grind [known]
section
variable {σ:Type} {get:σ->ByteArray->Int} {set:σ->ByteArray->Int->σ}
theorem DA ds: ∀b y,y.1=0\/y.1=53->jd ds b≠0->(kn get set ds b y).1=jd ds b
 |[],_,_,h=>absurd rfl h
 | l::b,y,hy,h=>by
  rw[jd] at h⊢;rw[kn];cases hc:dJ l&& !decide (known ds l.a=0) with
  |true=>
   rw[an9]
   grind [SF,iR,known,uj,xQ]
  | false=>
   rw[hc,an7] at h;rw[an7];have hk:dJ l=true->known ds l.a=0:=fun e=>by
    rw[e,ao8] at hc;simpa using hc
   have hn:iR y.1 (ll get set ds l y.2).1=0\/iR y.1 (ll get set ds l y.2).1=53:=by
    rcases xt (get:=get) (set:=set) ds hk y.2 with e|e<;>rcases hy with e2|e2<;>rw[e,e2]<;>decide
   have hi:xQ (iR y.1 (ll get set ds l y.2).1)=false:=by rcases hn with e|e<;>rw[e]<;>rfl
   rw[hi,an7];exact DA ds b _ hn h
theorem Ej ds r st(h:jn ds r≠0):(fe get set ds r st).1=jn ds r:=by
 unfold fe;unfold jn at h⊢;cases h0:decide (known ds r.head=0) with
 |true=>
  rw[h0,an9] at h;rw[an9];refine DA ds _ _ ?_ h;unfold fm
  grind
 | false=>
  rw[an7];have ha:fm get set ds r.head (st,false)=(known ds r.head,(st,false)):=by
   unfold fm;rw[h0];rfl
  rw[ha];rw[an4] at h0;cases r.body<;>grind [kn,iR,known,uj,xQ]
end
end Go.Rl
namespace Go.Proofs.YtioeffnadipbaaaGreatDoor
open Go Go.Dn Go.Rl Go.Proofs Go.RowKit Go.Extern.Stop Go.Stop Go.Extern
def SP(κ:Kp)(e:Int):=bif decide (e=51) then κ.fL else bif decide (e=52) then κ.arity else κ.type
def bd(κ:Kp)(e:Int):Value:=bif decide (e=0) then .nilIface else .iface 273 (.pointer (some (SP κ e)))
def xP(e:Int):=e=51\/e=52\/e=53
def j3(e:Int):Prop:=e=0\/xP e
theorem cC κ e:aC (bd κ e)=true:=by unfold bd;cases decide (e=0)<;>rfl
theorem jE κ e:bP (bd κ e)=decide (e=0):=by unfold bd;cases decide (e=0)<;>rfl
theorem LL κ{e k}(he:xP e)(hk:xP k)(h:e≠k):SP κ e≠SP κ k:=by
 rcases he with rfl|rfl|rfl<;>rcases hk with rfl|rfl|rfl<;>first|grind|exact κ.d1|exact κ.d2|exact κ.d3|exact κ.d1.symm|exact κ.d2.symm|exact κ.d3.symm
theorem Qx κ{e k}(he:j3 e)(hk:j3 k):bd κ e=bd κ k↔e=k:=by
 rcases he with rfl|he
 ·grind [bd]
 ·have e0:decide (e=0)=false:=by rcases he with rfl|rfl|rfl<;>rfl
  rcases hk with rfl|hk
  ·grind [bd]
  grind [bd,LL]
theorem Iu κ{e}(he:xP e): ∃c t,zf κ (SP κ e).block=some (.cells c t (0,0)):=by
 have go: ∀b,(∀g,g∈[1,0,3,4,2]->b≠g)->b=κ.fL.block\/b=κ.arity.block\/b=κ.type.block->∃c t,zf κ b=some (.cells c t (0,0)):=by
  intro b hb h;unfold zf;rw[s7 (hb _ (by simp)),s7 (hb 0 (by simp)),s7 (hb 3 (by simp)),s7 (hb 4 (by simp)),s7 (hb 2 (by simp))];simp only[an7];cases h1:Nat.beq b κ.fL.block with
  |true=>exact⟨_,_,rfl⟩
  | false=>
   rw[an7];cases h2:Nat.beq b κ.arity.block with
   |true=>exact⟨_,_,rfl⟩
   |false=>
    rw[an7];cases h3:Nat.beq b κ.type.block<;>grind [Nat.beq_refl]
 rcases he with rfl|rfl|rfl
 ·exact go _ κ.n3 (.inl rfl)
 ·exact go _ κ.n4 (.inr (.inl rfl))
 ·exact go _ κ.n5 (.inr (.inr rfl))
theorem ab0 v xT w:(Instr.typeAssert (.iface 273 v) xT 259 true).run Tryz.prog w= .ok (.tuple #[.nilIface, .bool false]) w:=run_typeAssert_lacksB Tryz.underlying259 (by kernel_rfl) (by kernel_rfl) v _ w
theorem JP v xT w:(Instr.typeAssert (.iface 273 v) xT 261 true).run Tryz.prog w= .ok (.tuple #[.nilIface, .bool false]) w:=run_typeAssert_lacksB Tryz.underlying261 (by kernel_rfl) (by kernel_rfl) v _ w
theorem EV v xT w:(Instr.typeAssert (.iface 273 v) xT 263 true).run Tryz.prog w= .ok (.tuple #[.nilIface, .bool false]) w:=run_typeAssert_lacksB Tryz.underlying263 (by kernel_rfl) (by kernel_rfl) v _ w
set_option maxRecDepth 8000 in
theorem NB(a b:Addr)(w:World)(hab:a≠b){ca cb:Array Value}{ta tb:TypeId}(ha:w.heap[a.block]? =some (.cells ca ta (0,0)))(hb:w.heap[b.block]? =some (.cells cb tb (0,0))):
  Calls Tryz.prog 108 #[.iface 273 (.pointer (some a)), .iface 273 (.pointer (some b))] w fun e w'=>e= .returned (.bool false)/\w'=w:=by
 obtain⟨i,hi,hcmp⟩:=Option.map_eq_some_iff.1 Gf;obtain⟨j,hj,hjs⟩:=Option.map_eq_some_iff.1 Fk;have h8:= @run_callFunc_extern Tryz.prog 157 _ Extern.ReflectliteType.typeOf Tryz.func157 (by kernel_rfl) (by kernel_rfl) (by kernel_rfl) (by kernel_rfl);have h32:= @run_callFunc_extern Tryz.prog 222 _ (Extern.ReflectliteType.method fun t=>do Go.Extern.Rtype.noPackHeld "Comparable" t;pure (.bool (←typeInfo t).comparable)) Tryz.func222 (by kernel_rfl) (by kernel_rfl) (by kernel_rfl) (by kernel_rfl);have tT:=xm;have cT:=mW;have mR:=iG;have hne:=run_eql_iface_ptr_other (P:=Tryz.prog) w Tryz.underlying171 Tryz.underlying273 hi hcmp hj (by omega) hab ha hb;have n1:=ab0;have n2:=JP;have n3:=EV
 go_enter Tryz.func108,Tryz.ntmps108
 go_wp2
 refine wp_loop_rounds 1 ?_;rw[rounds_succ]
 go_wp2
 all_goals (go_ret;exact⟨rfl,rfl⟩)
open Classical in
noncomputable def lp(κ:Kp)(v:Value):Bool:=decide (∃e,j3 e/\v=bd κ e)
open Classical in
noncomputable def mm(κ:Kp)(v:Value):Bool:=decide (∃e,xP e/\v=bd κ e)
open Classical in
noncomputable def gT(v t:Value):Bool:=decide (v=t)
theorem yv κ v:lp κ v=true↔ ∃e,j3 e/\v=bd κ e:=by grind [lp]
theorem DI κ v:mm κ v=true↔ ∃e,xP e/\v=bd κ e:=by grind [mm]
theorem JT v t:gT v t=true↔v=t:=by grind [gT]
theorem Cd κ{e}(h:j3 e):lp κ (bd κ e)=true:=(yv _ _).2 ⟨e,h,rfl⟩
theorem B3 κ{e}(h:xP e):mm κ (bd κ e)=true:=(DI _ _).2 ⟨e,h,rfl⟩
theorem iC κ{e k}(he:j3 e)(hk:j3 k):gT (bd κ e) (bd κ k)=decide (e=k):=by
 rw[Bool.eq_iff_iff,JT]
 grind [Qx]
noncomputable def Vw(κ:Kp):List AV->Option (Bool×AV)
 |[.lit v, .lit t]=>some (lp κ v&&mm κ t, .bool (gT v t))
 |_=>none
theorem af2 κ:gy (Pr κ) 108 (Vw κ):=by
 intro args x hn hg;unfold Vw at hg;split at hg
 ·simp only[an5,ao1,an3] at hg
  obtain⟨⟨h1,h2⟩,rfl⟩:=hg;obtain⟨e,he,rfl⟩:=(yv _ _).1 h1;obtain⟨k,hk,rfl⟩:=(DI _ _).1 h2;have k0:decide (k=0)=false:=by rcases hk with rfl|rfl|rfl<;>rfl
  have hk':bd κ k= .iface 273 (.pointer (some (SP κ k))):=by unfold bd;rw[k0];rfl
  refine⟨_,_,Tryz.func108,rfl,rfl,rfl,fun C vs hC hI hm=>?_⟩;rw[xw hm,iC κ he (.inr hk)];rcases he with rfl|he
  ·have e0:bd κ 0= .nilIface:=rfl
   rw[e0,hk'];refine(callsIn_wide.2 (O8 _ C.w)).mono ?_
   grind [ir.refl,decide_eq_false]
  ·have e0:decide (e=0)=false:=by rcases he with rfl|rfl|rfl<;>rfl
   have he':bd κ e= .iface 273 (.pointer (some (SP κ e))):=by unfold bd;rw[e0];rfl
   rw[he',hk'];by_cases h:e=k
   ·subst h
    refine(callsIn_wide.2 (G8 _ C.w)).mono ?_;rintro e w' ⟨rfl,rfl⟩;refine⟨?_,ir.refl _⟩;rw[an8 rfl]
   ·obtain⟨c1,t1,q1⟩:=Iu κ he
    obtain⟨c2,t2,q2⟩:=Iu κ hk;have w1:=(hI.kept _ _ (by rw[hC];exact q1)).2;have w2:=(hI.kept _ _ (by rw[hC];exact q2)).2;refine(callsIn_wide.2 (NB _ _ C.w (LL κ he hk h) w1 w2)).mono ?_;rintro e w' ⟨rfl,rfl⟩;refine⟨?_,ir.refl _⟩;rw[an6 h]
 ·cases hg
noncomputable def Sa κ:=(E15 κ).aK 108 (Vw κ)
theorem eIe κ:aE (Sa κ):=(e15 _).eQ (af2 _)
theorem mIe κ:aj (Sa κ):=(m15 _).aK
end Go.Proofs.YtioeffnadipbaaaGreatDoor
namespace Go.Proofs.YtioeffnadipbaaaGreatDoor
open Go Go.Dn Go.Rl Go.Proofs
attribute [local irreducible] a7 vc
set_option maxRecDepth 20000
structure Vf where
 rel:ByteArray
 names:List AV
 types:List AV
 i:Bool
 o:Bool
 line:Int
abbrev SZ(d:Vf):AV:= .agg [.lit (.string d.rel), .ah 9 d.names, .ah 3 d.types, .bool d.i, .bool d.o, .int d.line]
def Qv t:=decide (toInt t=1)||decide (toInt t=2)
def G0:List AV->List AV->Bool
 |n::ns,t::ts=>isName (toStr n)&&Qv t&&G0 ns ts
 |_,_=>true
def DZ rel ns ts:=isName rel&& !decide (ns.length=0)&&decide (ns.length<=8)&&decide (ts.length=ns.length)&&G0 ns ts
def KL a:=DZ (toStr (af a 0)) (ag (af a 1)) (ag (af a 2))
theorem KC{ns ts i}(h1:i<ns.length)(h2:i<ts.length):G0 (ns.drop i) (ts.drop i)=(isName (toStr (nth ns i))&&Qv (nth ts i)&&G0 (ns.drop (i+1)) (ts.drop (i+1))):=by
 grind [List.drop_eq_getElem_cons,G0,aX]
theorem xDc κ d i I n K:(vc (Sa κ) 12 94 none 0 (ad (Pr κ).toProgram 94 4) (sp 58 [(1, .ptr 0 0 [] 0),(31, .ah 9 d.names),(32, .int d.names.length),(33, .int i)] [.box 43 (SZ d)]) (bh (Sa κ) 94 4 0 I n K))=(
 letI a:=∃(e0:Nat),e0<n/\I e0 (sp 58 [(1,AV.ptr 0 0 [] 0),(31,AV.ah 9 d.names),(32,AV.int (↑(d.names.length):Int)),(33,AV.int (IntKind.wrap
  IntKind.i64 (i+(1:Int))))] [Obj.box 43 (AV.agg [AV.str d.rel,AV.ah 9 d.names,AV.ah 3 d.types,AV.bool d.i,AV.bool d.o,AV.int d.line])])
 letI b:=decide ((0:Int)<=i)&&decide (i<(↑(d.types.length):Int))
 letI c:=K Exit.ret (sp 58 [(2,AV.bool false)] [])
 letI e:=i<(↑(d.names.length):Int)
 aq (decide e) (aW (decide ((0:Int)<=i)&&decide e) (aq (!isName (toStr (nth d.names i.toNat))) c (aW b (aq (toInt (nth d.types i.toNat) != (1:Int))
 (aW b (aq (toInt (nth d.types i.toNat) != (2:Int)) c a)) a)))) (K (Exit.exit 0) (sp 58 [] []))):=by kernel_rfl
abbrev Qi(a:Vf×Int):=sp 58 [(1, .ptr 0 0 [] 0),(31, .ah 9 a.1.names),(32, .int a.1.names.length),(33, .int a.2)] [.box 43 (SZ a.1)]
def EE(a:Vf×Int):=a.1.types.length=a.1.names.length/\a.1.names.length<=8/\0<=a.2/\a.2<=a.1.names.length
def DL(a:Vf×Int):Out (Exit×S):= .aq (G0 (a.1.names.drop a.2.toNat) (a.1.types.drop a.2.toNat)) (.one (.exit 0,sp 58 [] [])) (.one (.ret,sp 58 [(2, .bool false)] []))
theorem lDc κ:aR (Sa κ) 12 94 4 (aG 0 Qi EE DL):=by
 refine aD (fun a=>a.1.names.length - a.2.toNat) ?_;rintro⟨d,i⟩ K ⟨h1,h2,h3,h4⟩ ho;simp only at h1 h2 h3 h4;rw[show(Sa κ).P=Pr κ from rfl];refine Eq.mpr (xDc κ d i _ _ K) ?_;simp only[DL,Out.run,ae] at ho;simp only[ae,ai,an2,an4,an3,Bool.not_eq_true',ao4,bne_iff_ne,bne_eq_false_iff_eq];refine⟨fun hi=>?_,fun hi=>?_⟩
 ·have hk:i.toNat<d.names.length:=by omega
  rw[KC hk (by omega)] at ho;rw[az (n:=i+1) (by omega) (by omega)];have go:Qv (nth d.types i.toNat)=true->isName (toStr (nth d.names i.toNat))=true->∃m,m<d.names.length - i.toNat/\ei Qi EE DL (fun a=>a.1.names.length - a.2.toNat) K m (Qi (d,i+1)):=fun e1 e2=>by
   rw[e1,e2,ao8,ao8] at ho;refine⟨_,?_,(d,i+1),rfl,⟨h1,h2,by simp only;omega,by simp only;omega⟩,rfl,?_⟩
   ·simp only;omega
   ·simp only[DL,Out.run,ae,show(i+1).toNat=i.toNat+1 by omega]
    exact ho
  simp_all[Qv]
 ·rw[ao0 (by omega)] at ho
  exact ho.1 rfl
noncomputable def ZP κ:=(Sa κ).an 94 4 (aG 0 Qi EE DL)
theorem eDl κ:aE (ZP κ):=(eIe _).an (mIe _) (lDc _)
theorem mDl κ:aj (ZP κ):=(mIe _).an aI
theorem yDc κ d K:(a7 (ZP κ) 12 94 [SZ d] [] K)=(
 letI a:=AV.int
 letI b:=AV.bool
 letI c:=AV.ah
 letI e:=K (b false) []
 letI f:=d.names.length
 letI g:=Pg.toProgram (Env.P (Sa κ))
 aq (!isName d.rel) e (aq ((↑f:Int)==(0:Int)) e (aq (decide ((↑f:Int)>(8:Int))) e (aq ((↑(d.types.length):Int) != (↑f:Int)) e (ad g 94 4
 =ad g 94 4/\∃(e0:Vf×Int),sp 58 [(1,AV.ptr 0 0 [] 0),(31,c 9 d.names),(32,a (↑f:Int)),(33,a 0)] [Obj.box 43 (AV.agg [AV.str
 d.rel,c 9 d.names,c 3 d.types,b d.i,b d.o,a d.line])]=sp 58 [(1,AV.ptr 0 0 [] 0),(31,c 9 e0.1.names),(32,a
 (↑(e0.1.names.length):Int)),(33,a e0.2)] [Obj.box 43 (AV.agg [AV.str e0.1.rel,c 9 e0.1.names,c 3 e0.1.types,b e0.1.i,b e0.1.o,
 a e0.1.line])]/\(e0.1.types.length=e0.1.names.length/\e0.1.names.length<=8/\(0:Int)<=e0.2/\e0.2<=(↑(e0.1.names.length):Int))/\aq (G0
 (List.drop e0.2.toNat e0.1.names) (List.drop e0.2.toNat e0.1.types)) (K (b true) []) e))))):=by kernel_rfl
def gDc:List AV->Option (Bool×AV)
 |[.agg [.lit (.string rel), .ah 9 ns, .ah 3 ts, .lit (.bool _), .lit (.bool _), .lit (.int .i64 _)]]=>some (true, .bool (DZ rel ns ts))
 |_=>none
theorem pDc κ:cj (ZP κ) 12 94 gDc:=by
 intro args x hh;unfold gDc at hh;split at hh
 ·rename_i rel ns ts bi bo line
  simp only[an5,ao1,true_and] at hh;subst hh;refine⟨_,rfl,rfl,?_⟩;refine Eq.mpr (yDc κ ⟨rel,ns,ts,bi,bo,line⟩ _) ?_;unfold DZ;simp only[ae,an2,an4,Bool.not_eq_true',ao4,beq_iff_eq,beq_eq_false_iff_ne,bne_iff_ne,bne_eq_false_iff_eq];refine⟨fun e=>oZ (by rw[e];rfl),fun e=>⟨fun e2=>oZ ?_,fun e2=>⟨fun e3=>oZ ?_,fun e3=>⟨fun e4=>oZ ?_,fun e4=>⟨trivial,(⟨rel,ns,ts,bi,bo,line⟩,0),rfl,⟨by simp only;omega,by simp only;omega,by simp only;omega,by simp only;omega⟩,?_⟩⟩⟩⟩⟩
  ·rw[an8 (show ns.length=0 by omega)];simp
  ·rw[an6 (show ¬ ns.length<=8 by omega)];simp
  ·rw[an6 (show ¬ ts.length=ns.length by omega)];simp
  ·rw[e,an6 (show ¬ ns.length=0 by omega),an8 (show ns.length<=8 by omega),an8 (show ts.length=ns.length by omega)]
   simp only[Int.toNat_zero,ao2,Bool.not_false,ao8];exact⟨fun e5=>oZ e5.symm,fun e5=>oZ e5.symm⟩
 ·cases hh
noncomputable def Sx κ:=(ZP κ).aK 94 gDc
theorem eDc κ:aE (Sx κ):=(eDl _).aK (mDl _) (pDc _)
theorem mDc κ:aj (Sx κ):=(mDl _).aK
theorem ag8 κ ds rs i I n K:(vc (Sx κ) 12 109 none 1 (ad (Pr κ).toProgram 109 2) (sp 19 [(0, .ah 43 ds),(1, .bm 93 []),(7, .int ds.length),(8, .int i)] [.box 25 (.agg [.ah 43 ds, .ah 48 rs])]) (bh (Sx κ) 109 2 1 I n K))=(
 letI a:=AV.agg [AV.ah 43 ds,AV.ah 48 rs]
 letI b:=nth ds i.toNat
 letI c:=i<(↑(ds.length):Int)
 aq (decide c) (aW (decide ((0:Int)<=i)&&decide c) (aq (!DZ (toStr (af b 0)) (ag (af b 1)) (ag (af b 2))) (K Exit.ret (sp 19 [(4,AV.int i)] [Obj.box
 25 a])) (∃(e0:Nat),e0<n/\I e0 (sp 19 [(0,AV.ah 43 ds),(1,AV.bm 93 []),(7,AV.int (↑(ds.length):Int)),(8,AV.int (IntKind.wrap IntKind.i64 (i+(1
 :Int))))] [Obj.box 25 a])))) (K (Exit.exit 0) (sp 19 [] [Obj.box 25 a]))):=by kernel_rfl
abbrev Pq:Nat:=109
abbrev WW:Nat:=119
abbrev Jw(ds rs:List AV):Dn.Obj:= .box 25 (.agg [.ah 43 ds, .ah 48 rs])
abbrev Rv:=List AV×List AV×Int
abbrev S7(a:Rv):=sp 19 [(0, .ah 43 a.1),(1, .bm 93 []),(7, .int a.1.length),(8, .int a.2.2)] [Jw a.1 a.2.1]
def IS(a:Rv):=a.1.length<=aU/\0<=a.2.2/\a.2.2<=a.1.length
def BZ(a:Rv):Out (Exit×S):= .aq ((a.1.drop a.2.2.toNat).all KL) (.one (.exit 0,sp 19 [] [Jw a.1 a.2.1])) (.all (fun j=>0<=j) fun j=> .one (.ret,sp 19 [(4, .int j)] [Jw a.1 a.2.1]))
theorem ai0 κ:aR (Sx κ) 12 Pq 2 (aG 1 S7 IS BZ):=by
 refine aD (fun a=>a.1.length - a.2.2.toNat) ?_;rintro⟨ds,rs,i⟩ K ⟨h1,h2,h3⟩ ho;simp only at h1 h2 h3;rw[show(Sx κ).P=Pr κ from rfl];refine Eq.mpr (ag8 κ ds rs i _ _ K) ?_;simp only[aU] at h1;simp only[BZ,Out.run,ae] at ho;simp only[ae,ai,an2,an4,an3,Bool.not_eq_true',ao4];refine⟨fun hi=>⟨⟨h2,hi⟩,?_⟩,fun hi=>?_⟩
 ·have hk:i.toNat<ds.length:=by omega
  rw[ao3 hk,←aX ds i.toNat hk,List.all_cons] at ho;refine⟨fun e=>ho.2 (by rw[show KL (nth ds i.toNat)=false from e];rfl) i h2,fun e=>?_⟩;rw[show KL (nth ds i.toNat)=true from e,ao8] at ho;rw[az (n:=i+1) (by omega) (by omega)];refine⟨_,?_,(ds,rs,i+1),rfl,⟨by simpa[aU] using h1,by simp only;omega,by simp only;omega⟩,rfl,?_⟩
  ·simp only;omega
  grind [BZ,Out.run,ae]
 ·rw[ao0 (by omega)] at ho
  exact ho.1 rfl
noncomputable def wO κ:=(Sx κ).an Pq 2 (aG 1 S7 IS BZ)
theorem ad3 κ:aE (wO κ):=(eDc _).an (mDc _) (ai0 _)
theorem YL κ:aj (wO κ):=(mDc _).an aI
theorem ai3 κ ds rs i I n K:(vc (wO κ) 12 119 none 1 (ad (Pr κ).toProgram 119 2) (sp 19 [(0, .ah 48 rs),(1, .bm 95 []),(7, .int rs.length),(8, .int i)] [.box 25 (.agg [.ah 43 ds, .ah 48 rs])]) (bh (wO κ) 119 2 1 I n K))=(
 letI b:=AV.agg [AV.ah 43 ds,AV.ah 48 rs]
 letI a:=nth rs i.toNat
 letI c:=i<(↑(rs.length):Int)
 aq (decide c) (aW (decide ((0:Int)<=i)&&decide c) (aW (decide (List.length (ag (af (af a 0) 1))<=9223372036854775807)&&decide (List.length (ag (af a 1))<=9223372036854775807)) (aq (!a9 {head:={rel:=toStr (af (af a 0) 0),l:=aa (ag (af (af a 0) 1))},body:=dv (ag (af a 1))}) (K Exit.ret (sp 19 [(4,AV.int i)] [Obj.box 25 b])) (∃(e0:Nat),e0<n/\I e0 (sp 19 [(0,AV.ah 48 rs),(1,AV.bm 95 []),(7,AV.int (↑(rs.length):Int)),(8,AV.int (IntKind.wrap IntKind.i64 (i+(1:Int))))] [Obj.box 25 b]))))) (K (Exit.exit 0) (sp 19 [] [Obj.box 25 b]))):=by kernel_rfl
def fj a:=decide ((ag (af (af a 0) 1)).length<=aU)&&decide ((ag (af a 1)).length<=aU)
def qH(a:AV):Bool:=a9 (wN a)
abbrev S5(a:Rv):=sp 19 [(0, .ah 48 a.2.1),(1, .bm 95 []),(7, .int a.2.1.length),(8, .int a.2.2)] [Jw a.1 a.2.1]
def Jj(a:Rv):=a.2.1.length<=aU/\0<=a.2.2/\a.2.2<=a.2.1.length/\a.2.1.all fj=true
def Ae(a:Rv):Out (Exit×S):= .aq ((a.2.1.drop a.2.2.toNat).all qH) (.one (.exit 0,sp 19 [] [Jw a.1 a.2.1])) (.all (fun j=>0<=j) fun j=> .one (.ret,sp 19 [(4, .int j)] [Jw a.1 a.2.1]))
theorem Qg{rs}(h:rs.all fj=true){k}(hk:k<rs.length):(ag (af (af (nth rs k) 0) 1)).length<=aU/\(ag (af (nth rs k) 1)).length<=aU:=by
 grind [aX,List.getElem_mem,fj]
theorem ad9 κ:aR (wO κ) 12 WW 2 (aG 1 S5 Jj Ae):=by
 refine aD (fun a=>a.2.1.length - a.2.2.toNat) ?_;rintro⟨ds,rs,i⟩ K ⟨h1,h2,h3,h4⟩ ho;simp only at h1 h2 h3 h4;rw[show(wO κ).P=Pr κ from rfl];refine Eq.mpr (ai3 κ ds rs i _ _ K) ?_;simp only[aU] at h1;simp only[Ae,Out.run,ae] at ho;simp only[ae,ai,an2,an4,an3,Bool.not_eq_true',ao4];refine⟨fun hi=>⟨⟨h2,hi⟩,Qg h4 (by omega),?_⟩,fun hi=>?_⟩
 ·have hk:i.toNat<rs.length:=by omega
  rw[ao3 hk,←aX rs i.toNat hk,List.all_cons] at ho;refine⟨fun e=>ho.2 (by rw[show qH (nth rs i.toNat)=false from e];rfl) i h2,fun e=>?_⟩;rw[show qH (nth rs i.toNat)=true from e,ao8] at ho;rw[az (n:=i+1) (by omega) (by omega)];refine⟨_,?_,(ds,rs,i+1),rfl,⟨by simpa[aU] using h1,by simp only;omega,by simp only;omega,h4⟩,rfl,?_⟩
  ·simp only;omega
  grind [Ae,Out.run,ae]
 ·rw[ao0 (by omega)] at ho
  exact ho.1 rfl
noncomputable def PH κ:=(wO κ).an WW 2 (aG 1 S5 Jj Ae)
theorem ag4 κ:aE (PH κ):=(ad3 _).an (YL _) (ad9 _)
theorem Xw κ:aj (PH κ):=(YL _).an aI
theorem yRt κ ds rs K:(a7 (PH κ) 12 48 [.agg [.ah 43 ds, .ah 48 rs]] [] K)=(
 letI a:=AV.int
 letI b:=AV.ah
 letI h:=∀(e0:Int),(0:Int)<=e0->K (AV.lit (Value.bool !decide (e0>=(0:Int)))) []
 letI d:=Pg.toProgram (Env.P (wO κ))
 letI c:=K (AV.bool false) []
 letI e:=Pg.toProgram (Env.P (Sx κ))
 aq (decide ((↑(ds.length):Int)>(60:Int))) c (aq (decide ((↑(rs.length):Int)>(200:Int))) c (ad e Pq 2=ad e Pq 2/\∃(e3:Rv),letI f:=[Obj.box 25 (AV.agg [b 43 e3.1,b 48 e3.2.1])];letI g:=ad d WW 2=ad d WW 2/\∃(e1:Rv),sp 19 [(0,b 48 e3.2.1),(1,AV.bm 95 []),(7,a (↑(e3.2.1.length):Int)),(8,a 0)] f=sp 19 [(0,b 48 e1.2.1),(1,AV.bm 95 []),(7,a (↑(e1.2.1.length):Int)),(8,a e1.2.2)] [Obj.box 25 (AV.agg [b 43 e1.1,b 48 e1.2.1])]/\(e1.2.1.length<=9223372036854775807/\(0:Int)<=e1.2.2/\e1.2.2<=(↑(e1.2.1.length):Int)/\List.all e1.2.1 fj=true)/\aq (List.all (List.drop (Int.toNat e1.2.2) e1.2.1) qH) (K (AV.bool true) []) h;sp 19 [(0,b 43 ds),(1,AV.bm 93 []),(7,a (↑(ds.length):Int)),(8,a 0)] [Obj.box 25 (AV.agg [b 43 ds,b 48 rs])]=sp 19 [(0,b 43 e3.1),(1,AV.bm 93 []),(7,a (↑(e3.1.length):Int)),(8,a e3.2.2)] f/\(e3.1.length<=9223372036854775807/\(0:Int)<=e3.2.2/\e3.2.2<=(↑(e3.1.length):Int))/\aq (List.all (List.drop (Int.toNat e3.2.2) e3.1) KL) g (∀(e2:Int),(0:Int)<=e2->aq (!decide (e2>=(0:Int))) g c)))):=by kernel_rfl
def fF(ds rs:List _):=decide (ds.length<=60)&&decide (rs.length<=200)&&ds.all KL&&rs.all qH
def gRt:List AV->Option (Bool×AV)
 |[.agg [.ah 43 ds, .ah 48 rs]]=>some (rs.all fj, .bool (fF ds rs))
 |_=>none
theorem pRt κ:cj (PH κ) 12 48 gRt:=by
 intro args x hh;unfold gRt at hh;split at hh
 ·rename_i ds rs
  simp only[an5,ao1] at hh;obtain⟨h1,rfl⟩:=hh;refine⟨_,rfl,rfl,?_⟩;refine Eq.mpr (yRt κ ds rs _) ?_;unfold fF;rw[ae,an2,an4];refine⟨fun e=>oZ (by rw[an6 (show ¬ ds.length<=60 by omega)];rfl),fun e=>?_⟩;rw[ae,an2,an4];refine⟨fun e2=>oZ (by rw[an6 (show ¬ rs.length<=200 by omega)];simp),fun e2=>?_⟩;rw[an8 (show ds.length<=60 by omega),an8 (show rs.length<=200 by omega)];refine⟨rfl,(ds,rs,0),rfl,⟨by simp only;omega,by simp only;omega,by simp only;omega⟩,?_⟩;simp only[Int.toNat_zero,ao2,ao8];rw[ae];refine⟨fun e3=>⟨trivial,(ds,rs,0),rfl,⟨by simp only;omega,by simp only;omega,by simp only;omega,h1⟩,?_⟩,fun e3 y hy=>?_⟩
  ·simp only[Int.toNat_zero,ao2]
   rw[ae,e3];refine⟨fun e4=>oZ (by rw[e4];rfl),fun e4 y hy=>oZ ?_⟩;rw[e4,an8 (show y>=0 from hy)];rfl
  ·rw[an8 (show y>=0 from hy)]
   exact oZ (by rw[e3];rfl)
 ·cases hh
noncomputable def Qe κ:=(PH κ).aK 48 gRt
theorem eRt κ:aE (Qe κ):=(ag4 _).aK (Xw _) (pRt _)
theorem mRt κ:aj (Qe κ):=(Xw _).aK
theorem xFi κ ds s i I n K:(vc (Qe κ) 12 Pq none 1 (ad (Pr κ).toProgram Pq 2) (sp 19 [(0, .ah 43 ds),(1, .bm 110 [.ptr 0 0 [] 0]),(7, .int ds.length),(8, .int i)] [.box 9 (.lit (.string s))]) (bh (Qe κ) Pq 2 1 I n K))=(
 letI a:=i<(↑(ds.length):Int)
 aq (decide a) (aW (decide ((0:Int)<=i)&&decide a) (aq (ByteArray.toList (toStr (af (nth ds i.toNat) 0))==ByteArray.toList s) (K Exit.ret (sp 19 [(4,
 AV.int i)] [Obj.box 9 (AV.str s)])) (∃(e0:Nat),e0<n/\I e0 (sp 19 [(0,AV.ah 43 ds),(1,AV.bm 110 [AV.ptr 0 0 [] 0]),(7,AV.int (↑(ds.length):Int)),
 (8,AV.int (IntKind.wrap IntKind.i64 (i+(1:Int))))] [Obj.box 9 (AV.str s)])))) (K (Exit.exit 0) (sp 19 [] [Obj.box 9 (AV.str s)]))):=by kernel_rfl
def mz(s:ByteArray):List AV->Int->Int
 |[],_=> -1
 |d::l,i=>bif o7 (toStr (af d 0)) s then i else mz s l (i+1)
abbrev ZS(a:List _×ByteArray×Int):=sp 19 [(0, .ah 43 a.1),(1, .bm 110 [.ptr 0 0 [] 0]),(7, .int a.1.length),(8, .int a.2.2)] [.box 9 (.lit (.string a.2.1))]
def Pe(a:List AV×ByteArray×Int):=a.1.length<=aU/\0<=a.2.2/\a.2.2<=a.1.length
def HI(a:List AV×ByteArray×Int):Out (Exit×S):= .aq (decide (0<=mz a.2.1 (a.1.drop a.2.2.toNat) a.2.2)) (.one (.ret,sp 19 [(4, .int (mz a.2.1 (a.1.drop a.2.2.toNat) a.2.2))] [.box 9 (.lit (.string a.2.1))])) (.one (.exit 0,sp 19 [] [.box 9 (.lit (.string a.2.1))]))
theorem lFi κ:aR (Qe κ) 12 Pq 2 (aG 1 ZS Pe HI):=by
 refine aD (fun a=>a.1.length - a.2.2.toNat) ?_;rintro⟨ds,s,i⟩ K ⟨h1,h2,h3⟩ ho;simp only at h1 h2 h3;rw[show(Qe κ).P=Pr κ from rfl];refine Eq.mpr (xFi κ ds s i _ _ K) ?_;simp only[aU] at h1;simp only[HI,Out.run,ae] at ho;simp only[ae,ai,an2,an4,an3];refine⟨fun hi=>⟨⟨h2,hi⟩,?_⟩,fun hi=>?_⟩
 ·have hk:i.toNat<ds.length:=by omega
  rw[ao3 hk,←aX ds i.toNat hk,mz] at ho;refine⟨fun e=>?_,fun e=>?_⟩
  ·rw[show o7 (toStr (af (nth ds i.toNat) 0)) s=true from e,an9] at ho
   exact ho.1 (an8 h2)
  ·rw[show o7 (toStr (af (nth ds i.toNat) 0)) s=false from e,an7] at ho
   rw[az (n:=i+1) (by omega) (by omega)];refine⟨_,?_,(ds,s,i+1),rfl,⟨by simpa[aU] using h1,by simp only;omega,by simp only;omega⟩,rfl,?_⟩
   ·simp only;omega
   ·simp only[HI,Out.run,ae,show(i+1).toNat=i.toNat+1 by omega]
    exact ho
 ·rw[ao0 (by omega)] at ho
  exact ho.2 rfl
noncomputable def YT κ:=(Qe κ).an Pq 2 (aG 1 ZS Pe HI)
theorem eFl κ:aE (YT κ):=(eRt _).an (mRt _) (lFi _)
theorem mFl κ:aj (YT κ):=(mRt _).an aI
theorem yFi κ ds s K:(a7 (YT κ) 12 63 [.ah 43 ds, .lit (.string s)] [] K)=(
 letI b:=AV.int
 ad (Pg.toProgram (Env.P (Qe κ))) Pq 2=ad (Pg.toProgram (Env.P (Qe κ))) Pq 2/\∃(a:List AV×ByteArray×Int),letI c:=List.drop (Int.toNat a.2.2) a.1;sp 19 [(0,AV.ah 43 ds),(1,AV.bm 110 [AV.ptr 0 0 [] 0]),(7,b (↑(ds.length):Int)),(8,b 0)] [Obj.box 9 (AV.str s)]=sp 19 [(0,AV.ah 43 a.1),(1,AV.bm 110 [AV.ptr 0 0 [] 0]),(7,b (↑(a.1.length):Int)),(8,b a.2.2)] [Obj.box 9 (AV.str a.2.1)]/\(a.1.length<=9223372036854775807/\(0:Int)<=a.2.2/\a.2.2<=(↑(a.1.length):Int))/\aq (decide ((0:Int)<=mz a.2.1 c a.2.2)) (K (AV.aJ [b (if(0:Int)>mz a.2.1 c a.2.2 then(0:Int) else mz a.2.1 c a.2.2),AV.bool (decide (mz a.2.1 c a.2.2>=(0:Int)))]) []) (K (AV.aJ [b 0,AV.bool false]) [])):=by kernel_rfl
def bH s ds:=bif decide (0<=mz s ds 0) then mz s ds 0 else 0
def D6 s ds:=decide (0<=mz s ds 0)
def IM(a:List AV×ByteArray):List AV×List Dn.Obj:=([.ah 43 a.1, .lit (.string a.2)],[])
def iD(a:List AV×ByteArray):=a.1.length<=aU
def Fl(a:List AV×ByteArray):Out (AV×List Dn.Obj):= .one (.aJ [.int (bH a.2 a.1), .bool (D6 a.2 a.1)],[])
theorem cFi κ:bg (YT κ) 12 63 (aO IM iD Fl):=by
 refine aQ ?_;rintro⟨ds,s⟩ K h1 ho;refine Eq.mpr (yFi κ ds s K) ?_;simp only[Fl,Out.run,bH,D6] at ho;refine⟨rfl,(ds,s,0),rfl,⟨h1,by simp,by simp⟩,?_⟩;rw[ae]
 grind
noncomputable def YE κ:=(YT κ).aw 63 (aO IM iD Fl)
theorem eFi κ:aE (YE κ):=(eFl _).aw (mFl _) (cFi _)
theorem mFi κ:aj (YE κ):=(mFl _).aw aH
structure kq where
 ds:List AV
 es:List (Value×AV)
 more:Bool
abbrev bR(a:kq):List Dn.Obj:=[.box 219 (.agg [.ah 43 a.ds, .mp 1, .bool a.more]), .map 9 3 a.es]
abbrev Ex:AV:= .ptr 0 0 [] 0
theorem yOf κ a t K:(a7 (YE κ) 12 197 [Ex,dn t] (bR a) K)=(
 letI b:=AV.int
 aq (t.op==(1:Int)) (K (b (toInt (cV a.es (Value.string t.s) (b 0)))) (bR a)) (aq (t.op==(3:Int)) (K (b 2) (bR a)) (aq (t.op==(4:Int))
 (K (b 0) (bR a)) (K (b 1) (bR a))))):=by kernel_rfl
def ZG(x:kq×AT):=([Ex,dn x.2],bR x.1)
def MU(_:kq×AT):Prop:=True
def ME(x:kq×AT):Out (AV×List Dn.Obj):= .one (.int (bF getM x.2.tm x.1.es),bR x.1)
theorem cOf κ:bg (YE κ) 12 197 (aO ZG MU ME):=by
 refine aQ ?_;rintro⟨a,t⟩ K _ ho;refine Eq.mpr (yOf κ a t K) ?_;simp[ME] at ho;have e:bF _ t.tm _=bif decide (t.op=1) then getM a.es _ else bif decide (t.op=3) then 2 else bif decide (t.op=4) then 0 else 1:=rfl
 rw[e] at ho;simp[W2];cases h1:decide (t.op=1) with
 |true=>rw[h1] at ho;exact ho
 | false=>
  rw[h1] at ho;cases h3:decide (t.op=3) with
  |true=>rw[h3] at ho;exact ho
  |false=>
   rw[h3] at ho;cases h4:decide (t.op=4) with
   |true=>rw[h4] at ho;exact ho
   |false=>rw[h4] at ho;exact ho
noncomputable def EYo κ:=(YE κ).aw 197 (aO ZG MU ME)
theorem eYo κ:aE (EYo κ):=(eFi _).aw (mFi _) (cOf _)
theorem mYo κ:aj (EYo κ):=(mFi _).aw aH
structure qe where
 a:kq
 t:AT
 k:Int
def aZ(a:kq)(t:AT) k:=t.tm.want getM gB k (a.es,a.more)
def dI(a:kq)(r:List (Value×AV)×Bool):kq:=⟨a.ds,r.1,r.2⟩
def ie(b:Bool):Int:=bif b then 53 else 0
def UH(x:qe):=([Ex,dn x.t, .int x.k],bR x.a)
def VD n(x:qe):=x.t.tm.mS=n/\n<=100000
noncomputable def HG(κ:Kp)(x:qe):Out (AV×List Dn.Obj):= .one (.lit (bd κ (ie (aZ x.a x.t x.k).1)),bR (dI x.a (aZ x.a x.t x.k).2))
noncomputable def Qy κ n:=aO UH (VD n) (HG κ)
noncomputable def Um κ r:=(EYo κ).aw 196 fun args st K=>∃m,m<r/\Qy κ m args st K
theorem xWt κ r a t k i I n K:(vc (Um κ r) 12 196 none 2 (ad (Pr κ).toProgram 196 2) (sp 56 [(0,Ex),(2, .int k),(4, .ptr 2 0 [] 0),(12, .ah 38 t.l),(13, .int t.l.length),(14, .int i)] (bR a++[.box 38 (dn t)])) (bh (Um κ r) 196 2 2 I n K))=(
 letI b:=AV.ptr 0 0 []
 letI c:=AV.int
 letI d:=Obj.box
 letI e:=nth t.l i.toNat
 letI h:=i<(↑(t.l.length):Int)
 aq (decide h) (aW (decide ((0:Int)<=i)&&decide h) (∃(e2:Nat),e2<r/\∃(e1:qe),letI f:=dI e1.a (Prod.snd (aZ e1.a e1.t e1.k));letI g:=bd κ (ie (Prod.fst (aZ e1.a e1.t e1.k)));([b 0,AV.agg [c (toInt (af e 0)),AV.str (toStr (af e 1)),c (toInt (af e 2)),AV.ah 38 (ag (af e 3))],c 1],(bR a))=([b 0,dn e1.t,c e1.k],(bR e1.a))/\(Tm.mS (AT.tm e1.t)=e2/\e2<=100000)/\aW (aC g) (aq (!bP g) (K Exit.ret (sp 56 [(6,AV.lit g)] (bR f))) (∃(e0:Nat),e0<n/\I e0 (sp 56 [(0,b 0),(2,c k),(4,AV.ptr 2 0 [] 0),(12,AV.ah 38 t.l),(13,c (↑(t.l.length):Int)),(14,c (IntKind.wrap IntKind.i64 (i+(1:Int))))] [d 219 (AV.agg [AV.ah 43 (kq.ds f),AV.mp 1,AV.bool (kq.more f)]),Dn.Obj.map 9 3 (kq.es f),d 38 (dn t)]))))) (K (Exit.exit 0) (sp 56 [(0,b 0),(2,c k),(4,AV.ptr 2 0 [] 0)] [d 219 (AV.agg [AV.ah 43 a.ds,AV.mp 1,AV.bool a.more]),Dn.Obj.map 9 3 a.es,d 38 (dn t)]))):=by kernel_rfl
abbrev Yo:=qe×Int
abbrev YR(x:Yo):=sp 56 [(0,Ex),(2, .int x.1.k),(4, .ptr 2 0 [] 0),(12, .ah 38 x.1.t.l),(13, .int x.1.t.l.length),(14, .int x.2)] (bR x.1.a++[.box 38 (dn x.1.t)])
def Mo r(x:Yo):=x.1.t.l.length<=aU/\0<=x.2/\x.2<=x.1.t.l.length/\bj (aa (x.1.t.l.drop x.2.toNat))<r/\bj (aa (x.1.t.l.drop x.2.toNat))<=100000
def gg(x:Yo):=jc getM gB (aa (x.1.t.l.drop x.2.toNat)) (x.1.a.es,x.1.a.more)
noncomputable def H0(κ:Kp)(x:Yo):Out (Exit×S):= .aq (gg x).1 (.one (.ret,sp 56 [(6, .lit (bd κ 53))] (bR (dI x.1.a (gg x).2))))
 (.one (.exit 0,sp 56 [(0,Ex),(2, .int x.1.k),(4, .ptr 2 0 [] 0)] (bR (dI x.1.a (gg x).2)++[.box 38 (dn x.1.t)])))
theorem Aq b:decide (ie b=0)= !b:=by cases b<;>rfl
theorem lWt κ r:aR (Um κ r) 12 196 2 (aG 2 YR (Mo r) (H0 κ)):=by
 refine aD (fun x=>x.1.t.l.length - x.2.toNat) ?_;rintro⟨⟨a,t,k⟩,i⟩ K ⟨h1,h2,h3,h4,h5⟩ ho;simp only at h1 h2 h3 h4 h5;rw[show(Um κ r).P=Pr κ from rfl];refine Eq.mpr (xWt κ r a t k i _ _ K) ?_;simp only[aU] at h1;simp only[H0,Out.run,ae] at ho;rw[ae,an2,an4];refine⟨fun hi=>?_,fun hi=>?_⟩
 ·have hk:i.toNat<t.l.length:=by omega
  have e:=eR t.l i.toNat hk;have hw:gg (⟨a,t,k⟩,i)=bif (aZ a (eE (nth t.l i.toNat)) 1).1 then aZ a (eE (nth t.l i.toNat)) 1 else gg (⟨dI a (aZ a (eE (nth t.l i.toNat)) 1).2,t,k⟩,i+1):=by
   unfold gg aZ;simp only[show(i+1).toNat=i.toNat+1 by omega];rw[e,jc,iI];rfl
  rw[e,bj] at h4 h5;rw[hw] at ho;rw[ai,an3,an2,an2];refine⟨⟨h2,hi⟩,(cE (nth t.l i.toNat)).mS,by omega,⟨a,eE (nth t.l i.toNat),1⟩,rfl,⟨by rw[iI],by omega⟩,?_⟩;rw[ai];refine⟨cC _ _,?_⟩;rw[jE,Aq,Bool.not_not,ae];refine⟨fun e1=>?_,fun e1=>?_⟩
  ·simp only[e1,an9] at ho⊢
   exact ho.1 trivial
  ·simp only[e1,an7] at ho
   rw[az (n:=i+1) (by omega) (by omega)];refine⟨_,?_,(⟨dI a (aZ a (eE (nth t.l i.toNat)) 1).2,t,k⟩,i+1),rfl,⟨by simpa[aU] using h1,by simp only;omega,by simp only;omega,?_,?_⟩,rfl,?_⟩
   ·simp only;omega
   ·simp only[show(i+1).toNat=i.toNat+1 by omega];omega
   ·simp only[show(i+1).toNat=i.toNat+1 by omega];omega
   ·simp only[H0,Out.run,ae]
    exact ho
 ·have hw:gg (⟨a,t,k⟩,i)=(false,(a.es,a.more)):=by
   unfold gg;simp only;rw[ao0 (by omega)];rfl
  rw[hw] at ho;exact ho.2 rfl
noncomputable def YU κ r:=(Um κ r).an 196 2 (aG 2 YR (Mo r) (H0 κ))
theorem yWt κ r a t k K:(a7 (YU κ r) 12 196 [Ex,dn t, .int k] (bR a) K)=(
 letI b:=AV.ptr 0 0 []
 letI c:=AV.int
 letI d:=Obj.box
 letI e:=Dn.Obj.map
 letI h:=AV.lit Value.nilIface
 letI i:=Pg.toProgram (Env.P (Um κ r))
 ad i 196 2=ad i 196 2/\∃(e1:Yo),letI f:=Value.string e1.1.t.s;letI j:=aa (List.drop e1.2.toNat e1.1.t.l);letI l:=bR (dI e1.1.a (Prod.snd (gg e1)));sp 56 [(0,b 0),(2,c k),(4,AV.ptr 2 0 [] 0),(12,AV.ah 38 t.l),(13,c (↑(t.l.length):Int)),(14,c 0)] [d 219 (AV.agg [AV.ah 43 a.ds,AV.mp 1,AV.bool a.more]),e 9 3 a.es,d 38 (dn t)]=sp 56 [(0,b 0),(2,c e1.1.k),(4,AV.ptr 2 0 [] 0),(12,AV.ah 38 e1.1.t.l),(13,c (↑(List.length e1.1.t.l):Int)),(14,c e1.2)] [d 219 (AV.agg [AV.ah 43 e1.1.a.ds,AV.mp 1,AV.bool e1.1.a.more]),e 9 3 e1.1.a.es,d 38 (dn e1.1.t)]/\(List.length e1.1.t.l<=9223372036854775807/\(0:Int)<=e1.2/\e1.2<=(↑(List.length e1.1.t.l):Int)/\bj j<r/\bj j<=100000)/\aq (Prod.fst (gg e1)) (K (AV.lit (Value.iface 273 (Value.pointer (some (SP κ (53:Int)))))) l) (∃(e0:kq×AT),letI g:=K h (bR e0.1);([b 0,dn e1.1.t],l)=([b 0,dn e0.2],(bR e0.1))/\True/\aq (e1.1.k==(0:Int)) g (aq (e1.1.t.op==(4:Int)) g (aq (bF getM (AT.tm e0.2) e0.1.es==(0:Int)) (K h [d 219 (AV.agg [AV.ah 43 e0.1.ds,AV.mp 1,AV.bool true]),e 9 3 (eC (eC e0.1.es f (c (toInt (cV e0.1.es f (c 0))))) f (c e1.1.k))]) (aq (bF getM (AT.tm e0.2) e0.1.es != e1.1.k) (K (AV.lit (Value.iface 273 (Value.pointer (some (Kp.type κ))))) (bR e0.1)) g))))):=by kernel_rfl
theorem HM s v w: ∀es,eC (eC es (.string s) v) (.string s) w=eC es (.string s) w
 |[]=>by simp[eC,eg]
 |(k',a')::es=>by
  rw[eC,eC];cases h:eg _ _ with
  |true=>simp[eC,eg]
  |false=>simp[eC,h,HM s v w _]
theorem Ky κ n:(Qy κ n).gw:=aH
theorem eYr κ r(hp: ∀args st K,(∃m,m<r/\Qy κ m args st K)->b6 (Pr κ) 196 args st K):aE (YU κ r)/\aj (YU κ r)/\(YU κ r).P=Pr κ:=
 have h:=(eYo _).fV hp;have hm:=(mYo _).aw fun _ _ _ _ hK ⟨m,h1,h2⟩=>⟨m,h1,Ky _ m _ _ _ _ hK h2⟩
 ⟨h.an hm (lWt _ r),hm.an aI,rfl⟩
theorem cWt κ r:bg (YU κ r) 12 196 (Qy κ r):=by
 refine aQ ?_;rintro⟨a,t,k⟩ K ⟨h1,h2⟩ ho;refine Eq.mpr (yWt κ r a t k K) ?_;simp only[HG,Out.run] at ho;have e1:t.tm.mS=1+bj (aa t.l):=rfl;have hl:=gI (aa t.l);rw[er] at hl;simp only at h1;refine⟨rfl,(⟨a,t,k⟩,0),rfl,⟨by simp only;omega,by simp only;omega,by simp only;omega,by simp only[Int.toNat_zero,ao2];omega,by simp only[Int.toNat_zero,ao2];omega⟩,?_⟩;have hw:aZ a t k=bif (gg (⟨a,t,k⟩,0)).1 then gg (⟨a,t,k⟩,0) else bif decide (k=0)||decide (t.op=4) then(false,(gg (⟨a,t,k⟩,0)).2)
   else bif decide (bF getM t.tm (gg (⟨a,t,k⟩,0)).2.1=0) then(false,(gB (gg (⟨a,t,k⟩,0)).2.1 t.s k,true)) else(!decide (bF getM t.tm (gg (⟨a,t,k⟩,0)).2.1=k),(gg (⟨a,t,k⟩,0)).2):=by
  unfold aZ gg;rw[AT.tm,Tm.want];rfl
 rw[hw] at ho;simp only[W2,Px];cases hd:(gg (⟨a,t,k⟩,0)).1 with
 |true=>
  rw[hd,an9,hd] at ho;exact ho
 | false=>
  rw[hd,an7] at ho;refine⟨(dI a (gg (⟨a,t,k⟩,0)).2,t),rfl,trivial,?_⟩;cases hk:decide (k=0) with
  |true=>rw[hk] at ho;exact ho
  | false=>
   rw[hk] at ho;cases h4:decide (t.op=4) with
   |true=>rw[h4] at ho;exact ho
   | false=>
    rw[h4] at ho;rw[show(false||false)=false from rfl,an7] at ho;have ht:bF getM t.tm (dI a (gg (⟨a,t,k⟩,0)).2).es=bF getM t.tm (gg (⟨a,t,k⟩,0)).2.1:=rfl;simp only[ht];cases h0:decide (bF getM t.tm (gg (⟨a,t,k⟩,0)).2.1=0) with
    |true=>
     rw[h0,an9] at ho;simp only[aq,HM];exact ho
    |false=>
     rw[h0,an7] at ho;cases hq:decide (bF getM t.tm (gg (⟨a,t,k⟩,0)).2.1=k) with
     |true=>rw[hq] at ho;exact ho
     |false=>rw[hq] at ho;exact ho
def dj(x:qe):=x.t.tm.mS<=100000
theorem qWt κ: ∀args st K,aO UH dj (HG κ) args st K->b6 (Pr κ) 196 args st K:=by
 rintro args st K ⟨a,h1,h2,h3⟩;exact aE.pJ _ _ (eYr _) (cWt _) _ _ _ K ⟨a,h1,⟨rfl,h2⟩,h3⟩
noncomputable def Ru κ:=(EYo κ).aw 196 (aO UH dj (HG κ))
theorem eYw κ:aE (Ru κ):=(eYo _).fV (qWt _)
theorem mYw κ:aj (Ru κ):=(mYo _).aw aH
def ab8(x:AV):Dc:=⟨toStr (af x 0),(ag (af x 2)).map toInt⟩
def cM(l:List AV):List Dc:=l.map ab8
theorem yk s: ∀ds i,mz s ds i=match kQ s (cM ds) with|some k=>i+k|none=> -1
 |[],i=>rfl
 |d::ds,i=>by
  have ih:=yk s ds (i+1)
  grind [mz,cM,ab8,kQ]
theorem Dg s: ∀ds k,kQ s ds=some k->k<ds.length
 |[],_,h=>by cases h
 | d::ds,k,h=>by
  rw[kQ] at h;cases e:o7 d.rel s with
  |true=>grind
  | false=>
   rw[e] at h;cases h2:kQ s ds with
   |none=>grind
   |some j=>
    rw[h2] at h;have:=Dg s ds j h2
    grind
theorem we{s ds}(h:kQ s (cM ds)=none):D6 s ds=false/\bH s ds=0:=by
 grind [yk,D6,bH]
theorem px{s ds k}(h:kQ s (cM ds)=some k):D6 s ds=true/\bH s ds=k/\k<ds.length:=by
 have e:=yk s ds 0;have h1:=Dg s _ k h
 grind [D6,bH,cM]
def mf ds(i:Int):=(ag (af (nth ds i.toNat) 2)).map toInt
theorem wR{s ds k}(h:kQ s (cM ds)=some k):df (cM ds) s=mf ds k:=by
 obtain⟨_,_,h2⟩:=px h;unfold df mf;rw[h,aX _ _ _];simp only[cM];rw[List.getD_eq_getElem?_getD,List.getElem?_map,ao6 h2];rfl
theorem Kr ds rel l:known (cM ds) ⟨rel,aa l⟩=bif D6 rel ds then bif decide ((mf ds (bH rel ds)).length=l.length) then 0 else 52 else 51:=by
 unfold known;cases h:kQ _ _<;>simp_all[we,px,wR,er]
theorem Q5{ds i k}(h:k<(mf ds i).length):(mf ds i).drop k=toInt (nth (ag (af (nth ds i.toNat) 2)) k)::(mf ds i).drop (k+1):=by
 grind [List.drop_eq_getElem_cons,mf,aX]
structure X3 where
 a:kq
 fi:Int
 l:List AV
 k:Int
abbrev Wy(x:X3):=sp 65 [(0,Ex),(5, .int x.fi),(40, .ah 38 x.l),(41, .int x.l.length),(42, .int x.k)] (bR x.a)
theorem xAt κ x I n K:(vc (Ru κ) 12 180 none 2 (ad (Pr κ).toProgram 180 7) (Wy x) (bh (Ru κ) 180 7 2 I n K))=(
 letI a:=AV.ptr 0 0 []
 letI b:=AV.int
 letI c:=nth x.l x.k.toNat
 letI e:=ag (af (nth x.a.ds x.fi.toNat) 2)
 letI f:=x.k<(↑(x.l.length):Int)
 aq (decide f) (aW (decide ((0:Int)<=x.k)&&decide f) (aW (decide ((0:Int)<=x.fi)&&decide (x.fi<(↑(List.length x.a.ds):Int))) (aW (decide ((0:Int)<=x.k)&&decide (x.k<(↑(List.length e):Int))) (∃(e1:qe),letI d:=bd κ (ie (Prod.fst (aZ e1.a e1.t e1.k)));letI g:=bR (dI e1.a (Prod.snd (aZ e1.a e1.t e1.k)));([a 0,AV.agg [b (toInt (af c 0)),AV.str (toStr (af c 1)),b (toInt (af c 2)),AV.ah 38 (ag (af c 3))],b (toInt (nth e x.k.toNat))],(bR x.a))=([a 0,dn e1.t,b e1.k],(bR e1.a))/\dj e1/\aW (aC d) (aq (!bP d) (K Exit.ret (sp 65 [(4,AV.lit d)] g)) (∃(e0:Nat),e0<n/\I e0 (sp 65 [(0,a 0),(5,b x.fi),(40,AV.ah 38 x.l),(41,b (↑(x.l.length):Int)),(42,b (IntKind.wrap IntKind.i64 (x.k+(1:Int))))] g))))))) (K (Exit.exit 1) (sp 65 [] (bR x.a)))):=by kernel_rfl
def jF(x:X3):=jT getM gB ((mf x.a.ds x.fi).drop x.k.toNat) (aa (x.l.drop x.k.toNat)) (x.a.es,x.a.more)
def MK(x:X3):=0<=x.fi/\x.fi<x.a.ds.length/\(mf x.a.ds x.fi).length=x.l.length/\x.l.length<=aU/\0<=x.k/\x.k<=x.l.length/\bj (aa (x.l.drop x.k.toNat))<=100000
noncomputable def Hl(κ:Kp)(x:X3):Out (Exit×S):= .aq (jF x).1 (.one (.ret,sp 65 [(4, .lit (bd κ 53))] (bR (dI x.a (jF x).2)))) (.one (.exit 1,sp 65 [] (bR (dI x.a (jF x).2))))
theorem lAt κ:aR (Ru κ) 12 180 7 (aG 2 Wy MK (Hl κ)):=by
 refine aD (fun x=>x.l.length - x.k.toNat) ?_;rintro⟨a,fi,l,k⟩ K ⟨h1,h2,h3,h4,h5,h6,h7⟩ ho;simp only at h1 h2 h3 h4 h5 h6 h7;rw[show(Ru κ).P=Pr κ from rfl];refine Eq.mpr (xAt κ ⟨a,fi,l,k⟩ _ _ K) ?_;simp only[aU] at h4;simp only[Hl,Out.run,ae] at ho;have hwl:(ag (af (nth a.ds fi.toNat) 2)).length=(mf a.ds fi).length:=by simp[mf]
 rw[ae,an2,an4];refine⟨fun hi=>?_,fun hi=>?_⟩
 ·simp only at hi
  have hk:k.toNat<l.length:=by omega
  have e:=eR l k.toNat hk;have ew:=Q5 (ds:=a.ds) (i:=fi) (k:=k.toNat) (by omega);have hw:jF ⟨a,fi,l,k⟩=bif (aZ a (eE (nth l k.toNat)) (toInt (nth (ag (af (nth a.ds fi.toNat) 2)) k.toNat))).1 then aZ a (eE (nth l k.toNat)) (toInt (nth (ag (af (nth a.ds fi.toNat) 2)) k.toNat)) else jF ⟨dI a (aZ a (eE (nth l k.toNat)) (toInt (nth (ag (af (nth a.ds fi.toNat) 2)) k.toNat))).2,fi,l,k+1⟩:=by
   unfold jF aZ;simp only[show(k+1).toNat=k.toNat+1 by omega];rw[e,ew,jT,iI];rfl
  rw[e,bj] at h7;rw[hw] at ho;simp only[ai,an3,an2,hwl];refine⟨⟨h5,hi⟩,⟨h1,h2⟩,⟨h5,by omega⟩,⟨a,eE (nth l k.toNat),toInt (nth (ag (af (nth a.ds fi.toNat) 2)) k.toNat)⟩,rfl,by show(eE (nth l k.toNat)).tm.mS<=100000;rw[iI];omega,cC _ _,?_⟩;rw[jE,Aq,Bool.not_not,ae];refine⟨fun e1=>?_,fun e1=>?_⟩
  ·simp only[e1,an9] at ho⊢
   exact ho.1 trivial
  ·simp only[e1,an7] at ho
   rw[az (n:=k+1) (by omega) (by omega)];refine⟨_,?_,⟨dI a (aZ a (eE (nth l k.toNat)) (toInt (nth (ag (af (nth a.ds fi.toNat) 2)) k.toNat))).2,fi,l,k+1⟩,rfl,⟨h1,h2,h3,by simpa[aU] using h4,by simp only;omega,by simp only;omega,?_⟩,rfl,?_⟩
   ·simp only;omega
   ·simp only[show(k+1).toNat=k.toNat+1 by omega];omega
   ·simp only[Hl,Out.run,ae]
    exact ho
 ·simp only at hi
  have hw:jF ⟨a,fi,l,k⟩=(false,(a.es,a.more)):=by
   unfold jF;simp only;rw[ao0 (show l.length<=k.toNat by omega),ao0 (show(mf a.ds fi).length<=k.toNat by omega)];rfl
  rw[hw] at ho;exact ho.2 rfl
noncomputable def Xq κ:=(Ru κ).an 180 7 (aG 2 Wy MK (Hl κ))
theorem eYl κ:aE (Xq κ):=(eYw _).an (mYw _) (lAt _)
theorem mYl κ:aj (Xq κ):=(mYw _).an aI
theorem yAt κ a rel l K:(a7 (Xq κ) 12 180 [Ex, .agg [.lit (.string rel), .ah 38 l]] (bR a) K)=(
 letI b:=AV.int
 letI c:=Pg.toProgram (Env.P (Ru κ))
 ∃(e1:List AV×ByteArray),([AV.ah 43 a.ds,AV.str rel],aL)=([AV.ah 43 e1.1,AV.str e1.2],aL)/\iD e1/\aq (!D6 e1.2 e1.1) (K (AV.lit (Value.iface 273 (Value.pointer (some (Kp.fL κ))))) (bR a)) (aW (decide ((0:Int)<=bH e1.2 e1.1)&&decide (bH e1.2 e1.1<(↑(a.ds.length):Int))) (aq ((↑(List.length (ag (af (nth a.ds (Int.toNat (bH e1.2 e1.1))) 2))):Int) != (↑(l.length):Int)) (K (AV.lit (Value.iface 273 (Value.pointer (some (Kp.arity κ))))) (bR a)) (ad c 180 7=ad c 180 7/\∃(e0:X3),letI d:=bR (dI e0.a (Prod.snd (jF e0)));sp 65 [(0,AV.ptr 0 0 [] 0),(5,b (bH e1.2 e1.1)),(40,AV.ah 38 l),(41,b (↑(l.length):Int)),(42,b 0)] (bR a)=sp 65 [(0,AV.ptr 0 0 [] 0),(5,b e0.fi),(40,AV.ah 38 e0.l),(41,b (↑(e0.l.length):Int)),(42,b e0.k)] (bR e0.a)/\((0:Int)<=e0.fi/\e0.fi<(↑(List.length e0.a.ds):Int)/\List.length (mf e0.a.ds e0.fi)=e0.l.length/\e0.l.length<=9223372036854775807/\(0:Int)<=e0.k/\e0.k<=(↑(e0.l.length):Int)/\bj (aa (List.drop e0.k.toNat e0.l))<=100000)/\aq (Prod.fst (jF e0)) (K (AV.lit (Value.iface 273 (Value.pointer (some (SP κ (53:Int)))))) d) (K (AV.lit Value.nilIface) d))))):=by kernel_rfl
def dA(a:kq) rel l:=fm getM gB (cM a.ds) ⟨rel,aa l⟩ (a.es,a.more)
abbrev VE:=kq×ByteArray×List AV
def XT(x:VE):=([Ex, .agg [.lit (.string x.2.1), .ah 38 x.2.2]],bR x.1)
def Nj(x:VE):=x.1.ds.length<=aU/\bj (aa x.2.2)<=100000
noncomputable def OR(κ:Kp)(x:VE):Out (AV×List Dn.Obj):= .one (.lit (bd κ (dA x.1 x.2.1 x.2.2).1),bR (dI x.1 (dA x.1 x.2.1 x.2.2).2))
theorem cAc κ:bg (Xq κ) 12 180 (aO XT Nj (OR κ)):=by
 refine aQ ?_;rintro⟨a,rel,l⟩ K ⟨h1,h2⟩ ho;simp only at h1 h2;refine Eq.mpr (yAt κ a rel l K) ?_;simp only[OR,Out.run,dA,fm,Kr] at ho;have hl:=gI (aa l);rw[er] at hl;refine⟨(a.ds,rel),rfl,h1,?_⟩;cases hf:kQ rel (cM a.ds) with
 |none=>
  rw[(we hf).1] at ho;simp only[(we hf).1];exact ho
 | some k=>
  obtain⟨e1,e2,e3⟩:=px hf;rw[e1,e2,wR hf] at ho;have hwl:(ag (af (nth a.ds (Int.toNat (k:Int))) 2)).length=(mf a.ds k).length:=by simp[mf]
  simp only[e1,e2,hwl,Px];refine ai.2 ⟨by simp;omega,?_⟩;cases hq:decide ((mf a.ds k).length=l.length) with
  |false=>
   rw[hq] at ho;rw[an4] at hq;rw[an6 (show ¬ (((mf a.ds k).length:Int)=(l.length:Int)) by omega)];exact ho
  | true=>
   rw[hq] at ho;rw[an2] at hq;rw[an8 (show(((mf a.ds k).length:Int)=(l.length:Int)) by omega)];refine⟨trivial,⟨a,k,l,0⟩,rfl,by grind,?_⟩;have hd:jF ⟨a,k,l,0⟩=jT getM gB (mf a.ds k) (aa l) (a.es,a.more):=by
    unfold jF;simp only[Int.toNat_zero,ao2]
   rw[hd];simp only[an9,decide_true] at ho;rw[ae];refine⟨fun e=>by rw[e] at ho;exact ho,fun e=>by rw[e] at ho;exact ho⟩
noncomputable def Xj κ:=(Xq κ).aw 180 (aO XT Nj (OR κ))
theorem eYa κ:aE (Xj κ):=(eYl _).aw (mYl _) (cAc _)
theorem mYa κ:aj (Xj κ):=(mYl _).aw aH
theorem yLi(κ:Kp)(a:kq)(op:Int) rel l(u v:AT) K:(a7 (Xj κ) 12 181 [Ex, .agg [.int op, .agg [.lit (.string rel), .ah 38 l],dn u,dn v]] (bR a) K)=(
 letI b:=AV.ptr 0 0 []
 letI c:=AV.int
 letI d:=AV.lit
 letI j:=∃(e3:kq×AT),letI n:=AT.tm e3.2;([b 0,dn u],(bR a))=([b 0,dn e3.2],(bR e3.1))/\True/\∃(e2:kq×AT),letI f:=if bF getM (AT.tm e2.2) e2.1.es>bF getM n e3.1.es then bF getM (AT.tm e2.2) e2.1.es else bF getM n e3.1.es;([b 0,dn v],(bR e3.1))=([b 0,dn e2.2],(bR e2.1))/\True/\∃(e1:qe),letI e:=bd κ (ie (Prod.fst (aZ e1.a e1.t e1.k)));letI g:=bR (dI e1.a (Prod.snd (aZ e1.a e1.t e1.k)));([b 0,dn u,c f],(bR e2.1))=([b 0,dn e1.t,c e1.k],(bR e1.a))/\dj e1/\aW (aC e) (aq (!bP e) (K (d e) g) (∃(e0:qe),([b 0,dn v,c f],g)=([b 0,dn e0.t,c e0.k],(bR e0.a))/\dj e0/\K (d (bd κ (ie (Prod.fst (aZ e0.a e0.t e0.k))))) (bR (dI e0.a (Prod.snd (aZ e0.a e0.t e0.k))))))
 letI o:=∃(e0:VE),([b 0,AV.agg [AV.str rel,AV.ah 38 l]],(bR a))=([b 0,AV.agg [AV.str e0.2.1,AV.ah 38 e0.2.2]],(bR e0.1))/\
  (e0.1.ds.length<=9223372036854775807/\bj (aa e0.2.2)<=100000)/\K (d (bd κ (Prod.fst (dA e0.1 e0.2.1 e0.2.2)))) (bR (dI e0.1 (Prod.snd (dA e0.1 e0.2.1
  e0.2.2))))
 letI h:=j/\j/\j
 aq (op==(3:Int)) h (aq (op==(4:Int)) h (aq (op==(5:Int)) h (aq (op==(6:Int)) h (aq (op==(1:Int)) o (aq (op==(2:Int)) o (∃(e2:VE),letI p:=dA e2.1 e2.2.1 e2.2.2;letI k:=bd κ (Prod.fst p);letI q:=bR (dI e2.1 (Prod.snd p));([b 0,AV.agg [AV.str rel,AV.ah 38 l]],(bR a))=([b 0,AV.agg [AV.str e2.2.1,AV.ah 38 e2.2.2]],(bR e2.1))/\(e2.1.ds.length<=9223372036854775807/\bj (aa e2.2.2)<=100000)/\aW (aC k) (aq (!bP k) (K (d k) q) (∃(e1:qe),letI i:=bd κ (ie (Prod.fst (aZ e1.a e1.t e1.k)));letI m:=bR (dI e1.a (Prod.snd (aZ e1.a e1.t e1.k)));([b 0,dn u,c 1],q)=([b 0,dn e1.t,c e1.k],(bR e1.a))/\dj e1/\aW (aC i) (aq (!bP i) (K (d i) m) (aq (op==(7:Int)) (K (d i) m) (∃(e0:qe),([b 0,dn v,c 1],m)=([b 0,dn e0.t,c e0.k],(bR e0.a))/\dj e0/\K (d (bd κ (ie (Prod.fst (aZ e0.a e0.t e0.k))))) (bR (dI e0.a (Prod.snd (aZ e0.a e0.t e0.k)))))))))))))))):=by kernel_rfl
structure HB where
 a:kq
 op:Int
 rel:ByteArray
 l:List AV
 u:AT
 v:AT
def HB.lt(x:HB):Lt:=⟨x.op,⟨x.rel,aa x.l⟩,x.u.tm,x.v.tm⟩
def bW(x:HB):=ll getM gB (cM x.a.ds) x.lt (x.a.es,x.a.more)
def X7(x:HB):=([Ex, .agg [.int x.op, .agg [.lit (.string x.rel), .ah 38 x.l],dn x.u,dn x.v]],bR x.a)
def NZ(x:HB):=x.a.ds.length<=aU/\jZ x.lt<=100000
noncomputable def TN(κ:Kp)(x:HB):Out (AV×List Dn.Obj):= .one (.lit (bd κ (bW x).1),bR (dI x.a (bW x).2))
def kd(a:kq)(u v:AT):=if bF getM v.tm a.es>bF getM u.tm a.es then bF getM v.tm a.es else bF getM u.tm a.es
theorem XD(x:HB):lT getM x.lt x.a.es=kd x.a x.u x.v:=by
 unfold lT kd;show(bif decide (bF _ x.v.tm _>bF _ x.u.tm _) then _ else _)=_
 by_cases h:bF getM x.v.tm x.a.es>bF getM x.u.tm x.a.es
 ·rw[an8 h,if_pos h];rfl
 ·rw[an6 h,if_neg h];rfl
theorem AW κ b:(!bP (bd κ (ie b)))=b:=by rw[jE,Aq,Bool.not_not]
theorem cLi κ:bg (Xj κ) 12 181 (aO X7 NZ (TN κ)):=by
 refine aQ ?_;rintro⟨a,op,rel,l,u,v⟩ K ⟨h1,h2⟩ ho;simp only at h1;refine Eq.mpr (yLi κ a op rel l u v K) ?_;have ho:K (.lit (bd κ (bW ⟨a,op,rel,l,u,v⟩).1)) (bR (dI a (bW ⟨a,op,rel,l,u,v⟩).2)):=ho;have h2:bj [u.tm,v.tm]+bj (aa l)<=100000:=h2;simp only[bj] at h2;have hu:dj ⟨a,u,kd a u v⟩:=by show u.tm.mS<=100000;omega
 have hv:dj ⟨dI a (aZ a u (kd a u v)).2,v,kd a u v⟩:=by show v.tm.mS<=100000;omega
 have both:gE op=true->bW ⟨a,op,rel,l,u,v⟩=lk (aZ a u (kd a u v)) (v.tm.want getM gB (kd a u v)):=fun hc=>by
  unfold bW ll;rw[XD ⟨a,op,rel,l,u,v⟩,show(HB.lt ⟨a,op,rel,l,u,v⟩).op=op from rfl,hc];rfl
 have c1:gE op=true->(!bP (bd κ (ie (aZ a u (kd a u v)).1)))=true->K (.lit (bd κ (ie (aZ a u (kd a u v)).1))) (bR (dI a (aZ a u (kd a u v)).2)):=fun hc q=>by
  rw[AW] at q;rw[both hc] at ho;unfold lk at ho;rw[q] at ho⊢;exact ho
 have c2:gE op=true->(!bP (bd κ (ie (aZ a u (kd a u v)).1)))=false->K (.lit (bd κ (ie (aZ (dI a (aZ a u (kd a u v)).2) v (kd a u v)).1))) (bR (dI (dI a (aZ a u (kd a u v)).2) (aZ (dI a (aZ a u (kd a u v)).2) v (kd a u v)).2)):=fun hc q=>by
  rw[AW] at q;rw[both hc] at ho;unfold lk at ho;rw[q] at ho;exact ho
 have hat: ∀b:kq,b=a->(b.ds.length<=9223372036854775807/\bj (aa l)<=100000):=fun b hb=>by subst hb;exact⟨h1,by omega⟩
 have nc:gE op=false->(decide (op=1)||decide (op=2))=true->bW ⟨a,op,rel,l,u,v⟩=dA a rel l:=fun hc h12=>by
  unfold bW ll;rw[show(HB.lt ⟨a,op,rel,l,u,v⟩).op=op from rfl,hc,h12];rfl
 refine ae.2 ⟨fun e=>by
   have hc:gE op=true:=(by rw[show op=3 from eq_of_beq e];rfl)
   exact⟨⟨(a,u),rfl,trivial,(a,v),rfl,trivial,⟨a,u,_⟩,rfl,hu,ai.2 ⟨cC _ _,ae.2 ⟨fun q=>c1 hc q,fun q=>⟨⟨_,v,_⟩,rfl,hv,c2 hc q⟩⟩⟩⟩,
    ⟨(a,u),rfl,trivial,(a,v),rfl,trivial,⟨a,u,_⟩,rfl,hu,ai.2 ⟨cC _ _,ae.2 ⟨fun q=>c1 hc q,fun q=>⟨⟨_,v,_⟩,rfl,hv,c2 hc q⟩⟩⟩⟩,
    ⟨(a,u),rfl,trivial,(a,v),rfl,trivial,⟨a,u,_⟩,rfl,hu,ai.2 ⟨cC _ _,ae.2 ⟨fun q=>c1 hc q,fun q=>⟨⟨_,v,_⟩,rfl,hv,c2 hc q⟩⟩⟩⟩⟩,fun e3=>ae.2 ⟨fun e=>by
   have hc:gE op=true:=(by rw[show op=4 from eq_of_beq e];rfl)
   exact⟨⟨(a,u),rfl,trivial,(a,v),rfl,trivial,⟨a,u,_⟩,rfl,hu,ai.2 ⟨cC _ _,ae.2 ⟨fun q=>c1 hc q,fun q=>⟨⟨_,v,_⟩,rfl,hv,c2 hc q⟩⟩⟩⟩,
    ⟨(a,u),rfl,trivial,(a,v),rfl,trivial,⟨a,u,_⟩,rfl,hu,ai.2 ⟨cC _ _,ae.2 ⟨fun q=>c1 hc q,fun q=>⟨⟨_,v,_⟩,rfl,hv,c2 hc q⟩⟩⟩⟩,
    ⟨(a,u),rfl,trivial,(a,v),rfl,trivial,⟨a,u,_⟩,rfl,hu,ai.2 ⟨cC _ _,ae.2 ⟨fun q=>c1 hc q,fun q=>⟨⟨_,v,_⟩,rfl,hv,c2 hc q⟩⟩⟩⟩⟩,fun e4=>ae.2 ⟨fun e=>by
   have hc:gE op=true:=(by rw[show op=5 from eq_of_beq e];rfl)
   exact⟨⟨(a,u),rfl,trivial,(a,v),rfl,trivial,⟨a,u,_⟩,rfl,hu,ai.2 ⟨cC _ _,ae.2 ⟨fun q=>c1 hc q,fun q=>⟨⟨_,v,_⟩,rfl,hv,c2 hc q⟩⟩⟩⟩,
    ⟨(a,u),rfl,trivial,(a,v),rfl,trivial,⟨a,u,_⟩,rfl,hu,ai.2 ⟨cC _ _,ae.2 ⟨fun q=>c1 hc q,fun q=>⟨⟨_,v,_⟩,rfl,hv,c2 hc q⟩⟩⟩⟩,
    ⟨(a,u),rfl,trivial,(a,v),rfl,trivial,⟨a,u,_⟩,rfl,hu,ai.2 ⟨cC _ _,ae.2 ⟨fun q=>c1 hc q,fun q=>⟨⟨_,v,_⟩,rfl,hv,c2 hc q⟩⟩⟩⟩⟩,fun e5=>ae.2 ⟨fun e=>by
   have hc:gE op=true:=(by rw[show op=6 from eq_of_beq e];rfl)
   exact⟨⟨(a,u),rfl,trivial,(a,v),rfl,trivial,⟨a,u,_⟩,rfl,hu,ai.2 ⟨cC _ _,ae.2 ⟨fun q=>c1 hc q,fun q=>⟨⟨_,v,_⟩,rfl,hv,c2 hc q⟩⟩⟩⟩,
    ⟨(a,u),rfl,trivial,(a,v),rfl,trivial,⟨a,u,_⟩,rfl,hu,ai.2 ⟨cC _ _,ae.2 ⟨fun q=>c1 hc q,fun q=>⟨⟨_,v,_⟩,rfl,hv,c2 hc q⟩⟩⟩⟩,
    ⟨(a,u),rfl,trivial,(a,v),rfl,trivial,⟨a,u,_⟩,rfl,hu,ai.2 ⟨cC _ _,ae.2 ⟨fun q=>c1 hc q,fun q=>⟨⟨_,v,_⟩,rfl,hv,c2 hc q⟩⟩⟩⟩⟩,fun e6=>?_⟩⟩⟩⟩
 simp only[beq_eq_false_iff_ne] at e3 e4 e5 e6;have hc:gE op=false:=by
  unfold gE;rw[Bool.and_eq_false_iff,an4,an4];omega
 refine ae.2 ⟨fun e=>⟨(a,rel,l),rfl,hat a rfl,?_⟩,fun e1=>ae.2 ⟨fun e=>⟨(a,rel,l),rfl,hat a rfl,?_⟩,fun e2=>?_⟩⟩
 ·rw[nc hc (by rw[show op=1 by simpa using e];rfl)] at ho;exact ho
 ·rw[nc hc (by rw[show op=2 by simpa using e];rfl)] at ho;exact ho
 simp only[beq_eq_false_iff_ne] at e1 e2;have hL:bW ⟨a,op,rel,l,u,v⟩=bif !decide ((dA a rel l).1=0) then dA a rel l
   else bif decide (op=7) then(ie (aZ (dI a (dA a rel l).2) u 1).1,(aZ (dI a (dA a rel l).2) u 1).2)
   else lk (aZ (dI a (dA a rel l).2) u 1) (v.tm.want getM gB 1):=by
  unfold bW ll;rw[show(HB.lt ⟨a,op,rel,l,u,v⟩).op=op from rfl,hc,an6 e1,an6 e2];rfl
 rw[hL] at ho;refine⟨(a,rel,l),rfl,hat a rfl,ai.2 ⟨cC _ _,?_⟩⟩;rw[jE];refine ae.2 ⟨fun q=>?_,fun q=>?_⟩
 ·rw[q] at ho;exact ho
 ·rw[q,an7] at ho
  refine⟨⟨dI a (dA a rel l).2,u,1⟩,rfl,by show u.tm.mS<=100000;omega,ai.2 ⟨cC _ _,?_⟩⟩;rw[AW];refine ae.2 ⟨fun q1=>?_,fun q1=>ae.2 ⟨fun q7=>?_,fun q7=>⟨⟨dI (dI a (dA a rel l).2) (aZ (dI a (dA a rel l).2) u 1).2,v,1⟩,rfl,by show v.tm.mS<=100000;omega,?_⟩⟩⟩
  ·have q1:(aZ (dI a (dA a rel l).2) u 1).1=true:=q1
   unfold lk at ho;rw[q1] at ho;simp only[q1];cases h7:decide (op=7)<;>rw[h7] at ho<;>exact ho
  ·rw[show decide (op=7)=true by simpa using q7] at ho
   exact ho
  ·have q1:(aZ (dI a (dA a rel l).2) u 1).1=false:=q1
   rw[show decide (op=7)=false by simpa using q7,an7] at ho;unfold lk at ho;rw[q1] at ho;exact ho
noncomputable def YN κ:=(Xj κ).aw 181 (aO X7 NZ (TN κ))
theorem eYt κ:aE (YN κ):=(eYa _).aw (mYa _) (cLi _)
theorem mYt κ:aj (YN κ):=(mYa _).aw aH
theorem yCo κ v K:(a7 (YN κ) 12 153 [.lit v] [] K)=(
 letI a:=Value.iface 273 (Value.pointer (some (Kp.arity κ)))
 letI b:=Value.iface 273 (Value.pointer (some (Kp.type κ)))
 letI c:=Value.iface 273 (Value.pointer (some (Kp.fL κ)))
 aW (lp κ v&&mm κ c) (aq (gT v c) (K (AV.int 51) []) (aW (lp κ v&&mm κ a) (aq (gT v a) (K (AV.int 52) []) (aW (lp κ v&&mm κ b) (aq (gT v b) (K
 (AV.int 53) []) (K (AV.int 0) []))))))):=by kernel_rfl
noncomputable def RP(κ:Kp)(v:Value):Int:=bif gT v (bd κ 51) then 51 else bif gT v (bd κ 52) then 52 else bif gT v (bd κ 53) then 53 else 0
theorem OK κ{e}(h:j3 e):RP κ (bd κ e)=e:=by
 unfold RP;rw[iC _ h (.inr (.inl rfl)),iC _ h (.inr (.inr (.inl rfl))),iC _ h (.inr (.inr (.inr rfl)))];rcases h with rfl|rfl|rfl|rfl<;>rfl
noncomputable def gCo(κ:Kp):List AV->Option (Bool×AV)
 |[.lit v]=>some (lp κ v, .int (RP κ v))
 |_=>none
theorem pCo κ:cj (YN κ) 12 153 (gCo κ):=by
 intro args x hh;unfold gCo at hh;split at hh
 ·simp only[an5,ao1] at hh
  obtain⟨h1,rfl⟩:=hh;refine⟨_,rfl,rfl,?_⟩;obtain⟨e,he,rfl⟩:=(yv _ _).1 h1;refine Eq.mpr (yCo κ _ _) ?_;rw[OK κ he];have k1: ∀k,xP k->(lp κ (bd κ e)&&mm κ (bd κ k))=true:=fun k hk=>by grind [Cd,B3]
  have n51:Value.iface 273 (.pointer (some κ.fL))=bd κ 51:=rfl;have n52:Value.iface 273 (.pointer (some κ.arity))=bd κ 52:=rfl;have n53:Value.iface 273 (.pointer (some κ.type))=bd κ 53:=rfl;rw[n51,n52,n53,k1 _ (.inl rfl),k1 _ (.inr (.inl rfl)),k1 _ (.inr (.inr rfl)),iC κ he (.inr (.inl rfl)),iC κ he (.inr (.inr (.inl rfl))),iC κ he (.inr (.inr (.inr rfl)))];rcases he with rfl|rfl|rfl|rfl<;>rfl
 ·cases hh
noncomputable def QV κ:=(YN κ).aK 153 (gCo κ)
theorem eYc κ:aE (QV κ):=(eYt _).aK (mYt _) (pCo _)
theorem mYc κ:aj (QV κ):=(mYt _).aK
structure W1 where
 a:kq
 w:Int
 bl:List AV
 i:Int
noncomputable abbrev Qu κ(x:W1):=sp 52 [(0,Ex),(5, .lit (bd κ x.w)),(14, .ah 80 x.bl),(15, .int x.bl.length),(16, .int x.i)] (bR x.a)
theorem xPa(κ:Kp)(x:W1) I n K:(vc (QV κ) 12 152 none 2 (ad (Pr κ).toProgram 152 3) (Qu κ x) (bh (QV κ) 152 3 2 I n K))=(
 letI a:=AV.ptr 0 0 []
 letI b:=AV.int
 letI c:=AV.agg
 letI d:=AV.str
 letI e:=AV.lit
 letI f:=Exit.ret
 letI g:=AV.ah
 letI k:=Value.iface 273 (Value.pointer (some (Kp.arity κ)))
 letI l:=Value.iface 273 (Value.pointer (some (Kp.fL κ)))
 letI j:=nth x.bl x.i.toNat
 letI q:=IntKind.wrap IntKind.i64 (x.i+(1:Int))
 letI o:=x.bl.length
 letI r:=Value.iface 273 (Value.pointer (some (Kp.type κ)))
 letI s:=lp κ (bd κ x.w)&&mm κ l
 letI t:=lp κ (bd κ x.w)&&mm κ k
 aq (decide (x.i<(↑o:Int))) (aW (decide ((0:Int)<=x.i)&&decide (x.i<(↑o:Int))) (∃(e1:HB),letI h:=bd κ (Prod.fst (bW e1));letI i:=bR (dI e1.a (Prod.snd (bW e1)));letI p:=aW (lp κ h&&mm κ l) (aq (gT h l) (K f (sp 52 [(4,e h)] i)) (aW (lp κ h&&mm κ k) (aq (gT h k) (K f (sp 52 [(4,e h)] i)) (∃(e0:Nat),e0<n/\I e0 (sp 52 [(0,a 0),(5,e h),(14,g 80 x.bl),(15,b (↑o:Int)),(16,b q)] i)))));letI m:=aW s (aq (gT (bd κ x.w) l) (K f (sp 52 [(4,e (bd κ x.w))] i)) (aW t (aq (gT (bd κ x.w) k) (K f (sp 52 [(4,e (bd κ x.w))] i)) (∃(e0:Nat),e0<n/\I e0 (sp 52 [(0,a 0),(5,e (bd κ x.w)),(14,g 80 x.bl),(15,b (↑o:Int)),(16,b q)] i)))));([a 0,c [b (toInt (af j 0)),c [d (toStr (af (af j 1) 0)),g 38 (ag (af (af j 1) 1))],c [b (toInt (af (af j 2) 0)),d (toStr (af (af j 2) 1)),b (toInt (af (af j 2) 2)),g 38 (ag (af (af j 2) 3))],c [b (toInt (af (af j 3) 0)),d (toStr (af (af j 3) 1)),b (toInt (af (af j 3) 2)),g 38 (ag (af (af j 3) 3))]]],(bR x.a))=([a 0,c [b e1.op,c [d e1.rel,g 38 e1.l],c [b e1.u.op,d e1.u.s,b e1.u.n,g 38 e1.u.l],c [b e1.v.op,d e1.v.s,b e1.v.n,g 38 e1.v.l]]],(bR e1.a))/\(List.length e1.a.ds<=9223372036854775807/\jZ (HB.lt e1)<=100000)/\aW (aC (bd κ x.w)) (aq (bP (bd κ x.w)) p (aW (lp κ (bd κ x.w)&&mm κ r) (aq (gT (bd κ x.w) r) (aW (lp κ h&&mm κ l) (aq (gT h l) p (aW (lp κ h&&mm κ k) (aq (gT h k) p m)))) m))))) (K (Exit.exit 0) (sp 52 [(5,e (bd κ x.w))] (bR x.a)))):=by kernel_rfl
def jl(a:kq)(x:AV):HB:=⟨a,toInt (af x 0),toStr (af (af x 1) 0),ag (af (af x 1) 1),eE (af x 2),eE (af x 3)⟩
theorem Cv a x:(jl a x).lt=cX x:=by
 unfold HB.lt jl;simp[iI];rfl
theorem qG{σ get set} ds l(x:σ×Bool):j3 (ll get set ds l x).1:=by
 have hk: ∀e,(e=0\/e=51\/e=52)->j3 e:=fun e h=>by
  rcases h with rfl|rfl|rfl
  ·exact .inl rfl
  ·exact .inr (.inl rfl)
  ·exact .inr (.inr (.inl rfl))
 have h53:j3 53:= .inr (.inr (.inr rfl))
 grind [j3,lk,sW,fm,known,uj,ll]
theorem uu{σ get set} ds a(x:σ×Bool):j3 (fm get set ds a x).1:=by
 have h:=qG (get:=get) (set:=set) ds ⟨1,a, .mk 0 ByteArray.empty 0 [], .mk 0 ByteArray.empty 0 []⟩ x;exact h
theorem uC{w e}(hw:j3 w)(he:j3 e):j3 (iR w e):=by
 grind [iR]
theorem uK{σ get set} ds: ∀b (y:Int×σ×Bool),j3 y.1->j3 (kn get set ds b y).1
 |[],_,h=>h
 |l::b,y,h=>by
  rw[kn];have:=uC h (qG (get:=get) (set:=set) ds l y.2)
  cases xQ _ with
  |true=>grind
  |false=>exact uK _ b _ this
def lO(x:W1):=kn getM gB (cM x.a.ds) (dv (x.bl.drop x.i.toNat)) (x.w,(x.a.es,x.a.more))
def GD(x:W1):=x.a.ds.length<=aU/\j3 x.w/\x.bl.length<=100000/\(∀l,l∈x.bl->jZ (cX l)<=100000)/\0<=x.i/\x.i<=x.bl.length
noncomputable def PR(κ:Kp)(x:W1):Out (Exit×S):= .all (fun _=>True) fun b=> .aq b (.one (.ret,sp 52 [(4, .lit (bd κ (lO x).1))] (bR (dI x.a (lO x).2)))) (.one (.exit 0,sp 52 [(5, .lit (bd κ (lO x).1))] (bR (dI x.a (lO x).2))))
theorem lPa κ:aR (QV κ) 12 152 3 (aG 2 (Qu κ) GD (PR κ)):=by
 refine aD (fun x=>x.bl.length - x.i.toNat) ?_;rintro⟨a,w,bl,i⟩ K ⟨h1,h2,h3,h4,h5,h6⟩ ho;simp only at h1 h2 h3 h4 h5 h6;rw[show(QV κ).P=Pr κ from rfl];refine Eq.mpr (xPa κ ⟨a,w,bl,i⟩ _ _ K) ?_;have ho1:=ho true trivial;have ho2:=ho false trivial;simp only[Out.run,aq] at ho1 ho2;rw[ae,an2,an4];refine⟨fun hi=>?_,fun hi=>?_⟩
 ·simp only at hi
  have hk:i.toNat<bl.length:=by omega
  have hb:lO ⟨a,w,bl,i⟩=bif xQ (iR w (bW (jl a (nth bl i.toNat))).1) then(iR w (bW (jl a (nth bl i.toNat))).1,(bW (jl a (nth bl i.toNat))).2) else lO ⟨dI a (bW (jl a (nth bl i.toNat))).2,iR w (bW (jl a (nth bl i.toNat))).1,bl,i+1⟩:=by
   unfold lO bW;simp only[show(i+1).toNat=i.toNat+1 by omega];rw[o5 bl i.toNat hk,kn,Cv];rfl
  have he:j3 (bW (jl a (nth bl i.toNat))).1:=qG _ _ _;have hlc:jZ (cX (nth bl i.toNat))<=100000:=h4 _ (by rw[aX _ _ hk];exact List.getElem_mem hk);have R:xQ (iR w (bW (jl a (nth bl i.toNat))).1)=true->K .ret (sp 52 [(4, .lit (bd κ (iR w (bW (jl a (nth bl i.toNat))).1)))] (bR (dI a (bW (jl a (nth bl i.toNat))).2))):=fun e=>by
   rw[hb,e,an9] at ho1;exact ho1
  have N:xQ (iR w (bW (jl a (nth bl i.toNat))).1)=false->∃m,m<bl.length - i.toNat/\ei (Qu κ) GD (PR κ) (fun x=>x.bl.length - x.i.toNat) K m (sp 52 [(0,Ex),(5, .lit (bd κ (iR w (bW (jl a (nth bl i.toNat))).1))),(14, .ah 80 bl),(15, .int bl.length),(16, .int (IntKind.wrap .i64 (i+1)))] (bR (dI a (bW (jl a (nth bl i.toNat))).2))):=fun e=>by
   rw[hb,e,an7] at ho1 ho2;rw[az (n:=i+1) (by omega) (by omega)];refine⟨_,?_,⟨dI a (bW (jl a (nth bl i.toNat))).2,iR w (bW (jl a (nth bl i.toNat))).1,bl,i+1⟩,rfl,⟨h1,uC h2 he,h3,h4,by simp only;omega,by simp only;omega⟩,rfl,?_⟩
   ·simp only;omega
   ·intro b _
    cases b
    ·exact ho2
    ·exact ho1
  refine ai.2 ⟨by simp;omega,jl a (nth bl i.toNat),rfl,⟨h1,by rw[Cv];exact hlc⟩,?_⟩;have n51:Value.iface 273 (.pointer (some κ.fL))=bd κ 51:=rfl;have n52:Value.iface 273 (.pointer (some κ.arity))=bd κ 52:=rfl;have n53:Value.iface 273 (.pointer (some κ.type))=bd κ 53:=rfl;have ta:(jl a (nth bl i.toNat)).a=a:=rfl;simp only[n51,n52,n53,ta,cC,jE]
  revert R N he
  generalize bW (jl a (nth bl i.toNat))=y
  intro he R N;simp only[Cd κ he,Cd κ h2,B3 κ (show xP 51 from .inl rfl),B3 κ (show xP 52 from .inr (.inl rfl)),B3 κ (show xP 53 from .inr (.inr rfl)),iC κ he (show j3 51 from .inr (.inl rfl)),iC κ he (show j3 52 from .inr (.inr (.inl rfl))),iC κ h2 (show j3 51 from .inr (.inl rfl)),iC κ h2 (show j3 52 from .inr (.inr (.inl rfl))),iC κ h2 (show j3 53 from .inr (.inr (.inr rfl)))];obtain⟨e,y2⟩:=y;simp only at he R N⊢;rcases h2 with rfl|rfl|rfl|rfl<;>rcases he with rfl|rfl|rfl|rfl<;>first|exact R rfl|exact N rfl
 ·simp only at hi
  have hb:lO ⟨a,w,bl,i⟩=(w,(a.es,a.more)):=by
   unfold lO;simp only;rw[ao0 (by omega)];rfl
  rw[hb] at ho2;exact ho2
noncomputable def ZK κ:=(QV κ).an 152 3 (aG 2 (Qu κ) GD (PR κ))
theorem eYq κ:aE (ZK κ):=(eYc _).an (mYc _) (lPa _)
theorem mYq κ:aj (ZK κ):=(mYc _).an aI
theorem yPa κ a r K:(a7 (ZK κ) 12 152 [Ex,au r] (bR a) K)=(
 letI b:=AV.ptr 0 0 []
 letI c:=Pg.toProgram (Env.P (QV κ))
 ∃(e2:VE),([b 0,AV.agg [AV.str r.rel,AV.ah 38 r.hl]],(bR a))=([b 0,AV.agg [AV.str e2.2.1,AV.ah 38 e2.2.2]],(bR e2.1))/\(e2.1.ds.length<=9223372036854775807/\bj (aa e2.2.2)<=100000)/\ad c 152 3=ad c 152 3/\∃(e1:W1),letI d:=K (AV.lit (bd κ (Prod.fst (lO e1)))) (bR (dI e1.a (Prod.snd (lO e1))));sp 52 [(0,b 0),(5,AV.lit (bd κ (Prod.fst (dA e2.1 e2.2.1 e2.2.2)))),(14,AV.ah 80 r.bl),(15,AV.int (↑(r.bl.length):Int)),(16,AV.int 0)] (bR (dI e2.1 (Prod.snd (dA e2.1 e2.2.1 e2.2.2))))=sp 52 [(0,b 0),(5,AV.lit (bd κ e1.w)),(14,AV.ah 80 e1.bl),(15,AV.int (↑(e1.bl.length):Int)),(16,AV.int e1.i)] (bR e1.a)/\(List.length e1.a.ds<=9223372036854775807/\(e1.w=(0:Int)\/e1.w=(51:Int)\/e1.w=(52:Int)\/e1.w=(53:Int))/\e1.bl.length<=100000/\(∀(e0:AV),List.Mem e0 e1.bl->jZ (cX e0)<=100000)/\(0:Int)<=e1.i/\e1.i<=(↑(e1.bl.length):Int))/\∀(e0:Bool),True->aq e0 d d):=by kernel_rfl
abbrev Yi:=kq×dh
def mG(x:Yi):=kn getM gB (cM x.1.ds) (dv x.2.bl) (fm getM gB (cM x.1.ds) ⟨x.2.rel,aa x.2.hl⟩ (x.1.es,x.1.more))
def YP(x:Yi):=([Ex,au x.2],bR x.1)
def LP(x:Yi):=x.1.ds.length<=aU/\c9 x.2
noncomputable def Th(κ:Kp)(x:Yi):Out (AV×List Dn.Obj):= .one (.lit (bd κ (mG x).1),bR (dI x.1 (mG x).2))
theorem cPs κ:bg (ZK κ) 12 152 (aO YP LP (Th κ)):=by
 refine aQ ?_;rintro⟨a,r⟩ K ⟨h1,h2⟩ ho;simp only at h1 h2;refine Eq.mpr (yPa κ a r K) ?_;have hlit: ∀l,l∈r.bl->jZ (cX l)<=100000:=fun l hl=>by
  obtain⟨k,hk,e⟩:=List.getElem_of_mem hl;have:=kW h2 hk
  rwa [aX _ _ hk,e] at this
 have hs:mG (a,r)=lO ⟨dI a (dA a r.rel r.hl).2,(dA a r.rel r.hl).1,r.bl,0⟩:=by
  rfl
 have ho:K (.lit (bd κ (mG (a,r)).1)) (bR (dI a (mG (a,r)).2)):=ho;rw[hs] at ho;refine⟨(a,r.rel,r.hl),rfl,⟨h1,pM h2⟩,rfl,⟨dI a (dA a r.rel r.hl).2,(dA a r.rel r.hl).1,r.bl,0⟩,rfl,⟨h1,uu _ _ _,h2.2,hlit,by simp only;omega,by simp only;omega⟩,fun b _=>?_⟩;cases b<;>exact ho
noncomputable def QE κ:=(ZK κ).aw 152 (aO YP LP (Th κ))
theorem eYs κ:aE (QE κ):=(eYq _).aw (mYq _) (cPs _)
theorem mYs κ:aj (QE κ):=(mYq _).aw aH
end Go.Proofs.YtioeffnadipbaaaGreatDoor
namespace Go.Rl
open Go Go.Dn
section
variable {σ:Type} {get:σ->ByteArray->Int} {set:σ->ByteArray->Int->σ}
variable (hgs: ∀st s k t,get (set st s k) t=bif t==s then k else get st t)
include hgs
theorem tE ds{r}(hr:a9 r=true) V(hV: ∀s,s∈fB r->s∈V) st(h0:(fe get set ds r st).1=0)(hm:(fe get set ds r st).2.2=true):mM get V (fe get set ds r st).2.1<mM get V st:=by
 have hk:jn ds r=0:=by
  grind [jn,Ej]
 simp only[a9,an3,List.all_eq_true] at hr;have e1:=Md   ds  (vj hr.1.1.1) (fun l hl=>U0 (hr.2 l hl)) hk st h0;rw[e1] at hm⊢;exact zB (GC hgs ds r st) V ((G3 hgs ds r st hm).left (Ext.refl _ _) hV)
theorem oK ds{r}(hr:a9 r=true) V(hV: ∀s,s∈fB r->s∈V): ∀n m st,mM get V st<n->mM get V st<m->fR get set ds r n st=fR get set ds r m st
 |0,_,_,h,_=>by omega
 |_+1,0,_,_,h=>by omega
 | n+1,m+1,st,h1,h2=>by
  rw[fR,fR];cases h0:decide ((fe get set ds r st).1=0) with
  |false=>rfl
  | true=>
   cases hm:(fe get set ds r st).2.2 with
   |false=>rfl
   |true=>
    have:=tE hgs ds hr V hV st (by grind) hm
    exact oK ds hr V hV n m _ (by omega) (by omega)
end
end Go.Rl
namespace Go.Proofs.YtioeffnadipbaaaGreatDoor
open Go Go.Dn Go.Rl Go.Proofs
attribute [local irreducible] a7 vc
set_option maxRecDepth 20000
structure uZ where
 ds:List AV
 r:dh
 es:List (Value×AV)
 more:Bool
abbrev RM(x:uZ):=sp 60 [(3, .ptr 0 0 [] 0),(6, .ptr 1 0 [] 0)] [.box 48 (au x.r), .box 219 (.agg [.ah 43 x.ds, .mp 2, .bool x.more]), .map 9 3 x.es]
theorem xTy κ x I n K:(vc (QE κ) 12 106 none 0 (ad (Pr κ).toProgram 106 4) (RM x) (bh (QE κ) 106 4 0 I n K))=(
 letI b:=AV.ptr 0 0 []
 letI c:=AV.bool
 letI d:=Obj.box
 letI e:=Dn.Obj.map
 aq x.more (∃(a:Yi),letI f:=bd κ (Prod.fst (mG a));letI g:=dI a.1 (Prod.snd (mG a));([b 0,au x.r],[d 219 (AV.agg [AV.ah 43 x.ds,AV.mp 1,c false]),e 9 3 x.es])=([b 0,au a.2],[d 219 (AV.agg [AV.ah 43 a.1.ds,AV.mp 1,c a.1.more]),e 9 3 a.1.es])/\(a.1.ds.length<=9223372036854775807/\bj (aa (bn 38 a.2.hl a.2.bl))<=100000/\a.2.bl.length<=100000)/\aW (aC f) (aq (!bP f) (aW (lp κ f) (K Exit.ret (sp 60 [(4,AV.nil),(5,AV.int (RP κ f))] []))) (∃(m:Nat),m<n/\I m (sp 60 [(3,b 0),(6,AV.ptr 1 0 [] 0)] [d 48 (au x.r),d 219 (AV.agg [AV.ah 43 (kq.ds g),AV.mp 2,c (kq.more g)]),e 9 3 (kq.es g)])))) (K (Exit.exit 0) (sp 60 [(3,b 0),(6,AV.ptr 1 0 [] 0)] [d 48 (au x.r),d 219 (AV.agg [AV.ah 43 x.ds,AV.mp 2,c x.more]),e 9 3 x.es]))):=by kernel_rfl
abbrev dsR(x:uZ):List Dc:=cM x.ds
def zTy(x:uZ):=mM getM (de (aM x.r)) x.es
def al0 x:=fR getM gB (dsR x) (aM x.r) (zTy x+1) x.es
def gP x:=bif x.more then al0 x else(0,x.es)
def O9(x:uZ):=a9 (aM x.r)=true/\x.ds.length<=aU/\c9 x.r
def IU(x:uZ):Out (Exit×S):= .aq (decide ((gP x).1=0)) (.one (.exit 0,RM ⟨x.ds,x.r,(gP x).2,false⟩)) (.one (.ret,sp 60 [(4, .nil),(5, .int (gP x).1)] []))
theorem Cu ds r es:j3 (fe getM gB ds r es).1:=uK _ _ _ (uu _ _ _)
theorem lTy κ:aR (QE κ) 12 106 4 (aG 0 RM O9 IU):=by
 refine aD (fun x=>bif x.more then zTy x+1 else 0) ?_;rintro⟨ds,r,es,more⟩ K ⟨h1,h2,h3⟩ ho;simp only at h1 h2 h3;rw[show(QE κ).P=Pr κ from rfl];refine Eq.mpr (xTy κ ⟨ds,r,es,more⟩ _ _ K) ?_;simp only[IU,Out.run,ae] at ho;cases more with
 |false=>exact ho.1 rfl
 | true=>
  have hp:mG (⟨ds,es,false⟩,r)=fe getM gB (cM ds) (aM r) es:=rfl;have hV: ∀s,s∈fB (aM r)->s∈de (aM r):=fun s hs=>(zK h1).2 hs
  have hr:=Cu (cM ds) (aM r) es;have he:gP ⟨ds,r,es,true⟩=bif decide ((fe getM gB (cM ds) (aM r) es).1=0) then gP ⟨ds,r,(fe getM gB (cM ds) (aM r) es).2.1,(fe getM gB (cM ds) (aM r) es).2.2⟩ else((fe getM gB (cM ds) (aM r) es).1,(fe getM gB (cM ds) (aM r) es).2.1):=by
   have e0:gP ⟨ds,r,es,true⟩=fR getM gB (cM ds) (aM r) (zTy ⟨ds,r,es,true⟩+1) es:=rfl;rw[e0,fR];cases h0:decide ((fe getM gB (cM ds) (aM r) es).1=0) with
   |false=>rfl
   | true=>
    rw[an9,an9];unfold gP;cases hm:(fe getM gB (cM ds) (aM r) es).2.2 with
    |false=>rfl
    |true=>
     rw[an9];have:=tE pE (cM ds) h1 _ hV es (by simpa using h0) hm
     exact oK pE (cM ds) h1 _ hV _ _ _ this (Nat.lt_succ_self _)
  refine⟨(⟨ds,es,false⟩,r),rfl,⟨h2,h3⟩,?_⟩;rw[hp];refine ai.2 ⟨cC _ _,?_⟩;rw[jE];cases h0:decide ((fe getM gB (cM ds) (aM r) es).1=0) with
  |false=>
   rw[he,h0,an7] at ho;refine ai.2 ⟨Cd κ hr,?_⟩;rw[OK κ hr];exact ho.2 h0
  | true=>
   rw[he,h0,an9] at ho;refine⟨_,?_,⟨ds,r,(fe getM gB (cM ds) (aM r) es).2.1,(fe getM gB (cM ds) (aM r) es).2.2⟩,rfl,⟨h1,h2,h3⟩,rfl,?_⟩
   ·simp only
    cases hm:(fe getM gB (cM ds) (aM r) es).2.2 with
    |false=>exact Nat.succ_pos _
    |true=>
     have:=tE pE (cM ds) h1 _ hV es (by simpa using h0) hm
     exact Nat.succ_lt_succ this
   ·simp only[IU,Out.run,ae]
    exact ho
noncomputable def SD κ:=(QE κ).an 106 4 (aG 0 RM O9 IU)
theorem eYv κ:aE (SD κ):=(eYs _).an (mYs _) (lTy _)
theorem mYv κ:aj (SD κ):=(mYs _).an aI
def iA(l:List Int):List AV:=l.map fun k=> .lit (.int .i64 k)
theorem jm l:(iA l).length=l.length:=by simp[iA]
theorem wA l m:iA (l++m)=iA l++iA m:=by simp[iA]
structure WQ where
 ds:List AV
 es:List (Value×AV)
 o:List Int
 vs:List ByteArray
 i:Int
abbrev R4(x:WQ):=sp 60 [(6, .ptr 0 0 [] 0),(8, .ak 2 0 (iA x.o).length),(36, .ak 3 0 x.vs.length),(37, .int x.vs.length),(38, .int x.i)] [.box 219 (.agg [.ah 43 x.ds, .mp 1, .bool false]), .map 9 3 x.es, .row 3 (iA x.o), .row 9 (strs x.vs)]
theorem xTz κ ds es o vs i I n K:(vc (SD κ) 12 106 none 0 (ad (Pr κ).toProgram 106 11) (sp 60 [(6, .ptr 0 0 [] 0),(8, .ak 2 0 o.length),(36, .ak 3 0 vs.length),(37, .int vs.length),(38, .int i)] [.box 219 (.agg [.ah 43 ds, .mp 1, .bool false]), .map 9 3 es, .row 3 o, .row 9 vs]) (bh (SD κ) 106 11 0 I n K))=(
 letI a:=AV.int
 letI b:=cV es (Value.string (toStr (nth vs (0+i.toNat)))) (a 0)
 letI c:=i<(↑(vs.length):Int)
 aq (decide c) (aW (decide ((0:Int)<=i)&&decide c) (aq (toInt b==(0:Int)) (K Exit.ret (sp 60 [(4,AV.nil),(5,a 53)] [])) (aW (decide
 ((o.length+1+1)*9<=70368744177664)) (∃(e0:Nat),e0<n/\I e0 (sp 60 [(6,AV.ptr 0 0 [] 0),(8,AV.ak 2 0 (o.length+1)),(36,AV.ak 3 0 vs.length),
 (37,a (↑(vs.length):Int)),(38,a (IntKind.wrap IntKind.i64 (i+(1:Int))))] [Obj.box 219 (AV.agg [AV.ah 43 ds,AV.mp 1,AV.bool false]),
 Dn.Obj.map 9 3 es,Obj.row 3 (List.take o.length o++[a (toInt b)]),Obj.row 9 vs]))))) (K (Exit.exit 2) (sp 60 [(8,AV.ak 0 0 o.length)] [Obj.row 3 o]))):=by kernel_rfl
def mj(x:WQ):=x.vs.drop x.i.toNat
def ux x:=(mj x).all fun s=>!decide (getM x.es s=0)
def LY(x:WQ):=x.vs.length<=100000/\x.o.length<=x.i.toNat/\0<=x.i/\x.i<=x.vs.length
def It(x:WQ):Out (Exit×S):= .aq (ux x) (.one (.exit 2,sp 60 [(8, .ak 0 0 (iA (x.o++(mj x).map (getM x.es))).length)] [.row 3 (iA (x.o++(mj x).map (getM x.es)))])) (.one (.ret,sp 60 [(4, .nil),(5, .int 53)] []))
theorem lTz κ:aR (SD κ) 12 106 11 (aG 0 R4 LY It):=by
 refine aD (fun x=>x.vs.length - x.i.toNat) ?_;rintro⟨ds,es,o,vs,i⟩ K ⟨h1,h2,h3,h4⟩ ho;simp only at h1 h2 h3 h4;rw[show(SD κ).P=Pr κ from rfl];have e0:(⟨ds,es,o,vs,i⟩:WQ).vs.length=(strs vs).length:=(bc vs).symm;simp only[R4,e0];refine Eq.mpr (xTz κ ds es (iA o) (strs vs) i _ _ K) ?_;simp only[It,Out.run,ae] at ho;simp only[bc];rw[ae,an2,an4,ai,an3,an2,an2];refine⟨fun hi=>⟨⟨h3,hi⟩,?_⟩,fun hi=>?_⟩
 ·have hk:i.toNat<vs.length:=by omega
  have hr:mj ⟨ds,es,o,vs,i⟩=vs[i.toNat]::mj ⟨ds,es,o++[getM es vs[i.toNat]],vs,i+1⟩:=by
   unfold mj;simp only[show(i+1).toNat=i.toNat+1 by omega];exact ao3 hk
  have ha:ux ⟨ds,es,o,vs,i⟩=(!decide (getM es vs[i.toNat]=0)&&ux ⟨ds,es,o++[getM es vs[i.toNat]],vs,i+1⟩):=by
   unfold ux;rw[hr,List.all_cons]
  rw[Nat.zero_add,xC vs _ hk,W2];have hg:toInt (cV es (Value.string (toStr (.lit (.string vs[i.toNat])))) (AV.int 0))=getM es vs[i.toNat]:=rfl;rw[hg,ae];refine⟨fun e=>?_,fun e=>?_⟩
  ·rw[ha,e] at ho
   exact ho.2 rfl
  ·rw[ha,e,hr,Bool.not_false,ao8] at ho
   rw[ai,an2,jm];rw[az (n:=i+1) (by omega) (by omega)];refine⟨by omega,_,?_,⟨ds,es,o++[getM es vs[i.toNat]],vs,i+1⟩,?_,⟨h1,by simp only[ao7,List.length_singleton];omega,by simp only;omega,by simp only;omega⟩,rfl,?_⟩
   ·simp only;omega
   ·simp only[R4,wA,jm,ao7,List.length_singleton,List.take_of_length_le (show(iA o).length<=o.length by rw[jm];omega)]
    rfl
   ·simp only[It,Out.run,ae]
    grind
 ·have hr:mj ⟨ds,es,o,vs,i⟩=[]:=by
   unfold mj;exact ao0 (by simp only;omega)
  have ha:ux ⟨ds,es,o,vs,i⟩=true:=by
   unfold ux;rw[hr];rfl
  rw[ha,hr] at ho;have:=ho.1 rfl
  simp only[List.map_nil,List.append_nil] at this;exact this
noncomputable def EYz κ:=(SD κ).an 106 11 (aG 0 R4 LY It)
theorem eYz κ:aE (EYz κ):=(eYv _).an (mYv _) (lTz _)
theorem mYz κ:aj (EYz κ):=(mYv _).an aI
theorem yTz κ ds r K:(a7 (EYz κ) 12 106 [.ah 43 ds,au r] [] K)=(
 letI a:=AV.ptr 0 0 []
 letI b:=AV.int
 letI c:=AV.agg
 letI d:=AV.bool
 letI e:=AV.str
 letI f:=Obj.box
 letI g:=Obj.row
 letI h:=Dn.Obj.map
 letI i:=AV.ah
 letI k:=Pg.toProgram (Env.P (QE κ))
 letI l:=Pg.toProgram (Env.P (SD κ))
 aW (List.all [c [c [e r.rel,i 38 r.hl],i 80 r.bl,b r.line]] fj) (aq (!fF ds [c [c [e r.rel,i 38 r.hl],i 80 r.bl,b r.line]]) (K (AV.aJ [AV.nil,b 30]) []) (ad k 106 4=ad k 106 4/\∃(e2:uZ),letI j:=uZ.r {ds:=e2.ds,r:=e2.r,es:=Prod.snd (gP e2),more:=false};sp 60 [(3,a 0),(6,AV.ptr 1 0 [] 0)] [f 48 (c [c [e r.rel,i 38 r.hl],i 80 r.bl,b r.line]),f 219 (c [i 43 ds,AV.mp 2,d true]),h 9 3 []]=sp 60 [(3,a 0),(6,AV.ptr 1 0 [] 0)] [f 48 (c [c [e e2.r.rel,i 38 e2.r.hl],i 80 e2.r.bl,b e2.r.line]),f 219 (c [i 43 e2.ds,AV.mp 2,d e2.more]),h 9 3 e2.es]/\(a9 (aM e2.r)=true/\e2.ds.length<=9223372036854775807/\bj (aa (bn 38 e2.r.hl e2.r.bl))<=100000/\List.length e2.r.bl<=100000)/\aq (decide (Prod.fst (gP e2)=(0:Int))) (∃(e1:dh),letI m:=List.length (de (aM e1));([c [c [AV.lit (Value.string (dh.rel j)),i 38 (dh.hl j)],i 80 (dh.bl j),AV.lit (Value.int IntKind.i64 (dh.line j))]],aL)=([c [c [e e1.rel,i 38 e1.hl],i 80 e1.bl,b e1.line]],aL)/\(a9 (aM e1)=true/\bj (aa (bn 38 e1.hl e1.bl))<=100000/\e1.bl.length<=100000)/\ad l 106 11=ad l 106 11/\∃(e0:WQ),letI n:=iA (e0.o++List.map (getM e0.es) (mj e0));sp 60 [(6,a 0),(8,AV.ak 2 0 0),(36,AV.ak 3 0 m),(37,b (↑m:Int)),(38,b 0)] [f 219 (c [i 43 (uZ.ds {ds:=e2.ds,r:=e2.r,es:=Prod.snd (gP e2),more:=false}),AV.mp 1,d false]),h 9 3 (uZ.es {ds:=e2.ds,r:=e2.r,es:=Prod.snd (gP e2),more:=false}),g 3 [],g 9 (strs (de (aM e1)))]=sp 60 [(6,a 0),(8,AV.ak 2 0 (List.length (iA e0.o))),(36,AV.ak 3 0 e0.vs.length),(37,b (↑(e0.vs.length):Int)),(38,b e0.i)] [f 219 (c [i 43 e0.ds,AV.mp 1,d false]),h 9 3 e0.es,g 3 (iA e0.o),g 9 (strs e0.vs)]/\(e0.vs.length<=100000/\e0.o.length<=e0.i.toNat/\(0:Int)<=e0.i/\e0.i<=(↑(e0.vs.length):Int))/\aq (ux e0) (K (AV.aJ [AV.ak 0 0 (List.length n),b 0]) [g 3 n]) (K (AV.aJ [AV.nil,b 53]) [])) (K (AV.aJ [AV.nil,b (Prod.fst (gP e2))]) [])))):=by kernel_rfl
abbrev YS:=List AV×dh
def uR(x:YS):=NN (cM x.1) (aM x.2)
def YQ(x:YS):List AV×List Dn.Obj:=([.ah 43 x.1,au x.2],[])
def Pd(x:YS):=x.1.length<=aU/\c9 x.2
def Pt(x:YS):Out (AV×List Dn.Obj):= .aq (fF x.1 [au x.2]) (.aq (decide ((uR x).1=0)) (.one (.aJ [.ak 0 0 (iA (uR x).2).length, .int 0],[.row 3 (iA (uR x).2)])) (.one (.aJ [.nil, .int (uR x).1],[]))) (.one (.aJ [.nil, .int 30],[]))
theorem Lb{ds r}(h:fF ds [au r]=true):a9 (aM r)=true:=by
 unfold fF at h;rw[an3] at h;have:=h.2
 rw[List.all_cons,an3] at this;exact this.1
theorem cTs κ:bg (EYz κ) 12 106 (aO YQ Pd Pt):=by
 refine aQ ?_;rintro⟨ds,r⟩ K ⟨h1,h2⟩ ho;simp only at h1 h2;refine Eq.mpr (yTz κ ds r K) ?_;simp only[Pt,Out.run,ae] at ho;have hl1:=gI (aa r.hl);rw[er] at hl1;have hc:=pM h2;have hl:=h2.2;refine ai.2 ⟨?_,?_⟩
 ·show(fj (au r)&&true)=true
  have:fj (au r)=(decide (r.hl.length<=aU)&&decide (r.bl.length<=aU)):=rfl
  rw[this,an8 (by simp only[aU];omega),an8 (by simp only[aU];omega)];rfl
 refine ae.2 ⟨fun e=>ho.2 (by simpa using e),fun e=>?_⟩;have e':fF ds [au r]=true:=by simpa using e
 have hr:=Lb e';have ho1:=ho.1 e';have hf:gP ⟨ds,r,[],true⟩=fR getM gB (cM ds) (aM r) ((de (aM r)).length+1) []:=oK pE (cM ds) hr _ (fun s hs=>(zK hr).2 hs) _ _ _ (Nat.lt_succ_self _) (Nat.lt_succ_of_le (Oe _ _ _));have ht:uR (ds,r)=bif decide ((gP ⟨ds,r,[],true⟩).1=0) then(bif (de (aM r)).all (fun s=>!decide (getM (gP ⟨ds,r,[],true⟩).2 s=0)) then(0,(de (aM r)).map (getM (gP ⟨ds,r,[],true⟩).2)) else(53,[])) else((gP ⟨ds,r,[],true⟩).1,[]):=by
  rw[hf];rfl
 rw[ht] at ho1;refine⟨rfl,⟨ds,r,[],true⟩,rfl,⟨hr,h1,h2⟩,?_⟩;refine ae.2 ⟨fun e1=>⟨r,rfl,⟨hr,h2⟩,rfl,⟨ds,(gP ⟨ds,r,[],true⟩).2,[],de (aM r),0⟩,rfl,⟨Ka h2,Nat.zero_le _,by simp only;omega,by simp only;omega⟩,?_⟩,fun e1=>?_⟩
 ·rw[e1,an9] at ho1
  have ha:ux ⟨ds,(gP ⟨ds,r,[],true⟩).2,[],de (aM r),0⟩=(de (aM r)).all (fun s=>!decide (getM (gP ⟨ds,r,[],true⟩).2 s=0)):=rfl;rw[ha];refine ae.2 ⟨fun e2=>?_,fun e2=>?_⟩
  ·rw[e2] at ho1
   exact ho1.1 rfl
  ·rw[e2] at ho1
   exact ho1.2 rfl
 ·rw[e1,an7] at ho1
  exact ho1.2 e1
noncomputable def QQ κ:=(EYz κ).aw 106 (aO YQ Pd Pt)
theorem eTy κ:aE (QQ κ):=(eYz _).aw (mYz _) (cTs _)
theorem mTy κ:aj (QQ κ):=(mYz _).aw aH
abbrev fq(ds rs:List AV):AV:= .agg [.ah 43 ds, .ah 48 rs]
def ea(x:AV):dh:=⟨[],[],toStr (af (af x 0) 0),ag (af (af x 0) 1),ag (af x 1),toInt (af x 2),0⟩
structure Ls where
 ds:List AV
 rs:List AV
 i:Int
abbrev Uf(x:Ls):Dn.Obj:= .box 25 (fq x.ds x.rs)
def S8(ds:List AV):List AV->Int->Int×Int
 |[],_=>(0,0)
 |d::l,i=>bif decide (bH (toStr (af d 0)) ds=i) then S8 ds l (i+1) else(toInt (af d 5),50)
def km ds x:=bif fF ds [au (ea x)] then(uR (ds,ea x)).1 else 30
def H8(f:AV->Int):List AV->Int×Int
 |[]=>(0,0)
 |x::l=>bif decide (f x=0) then H8 f l else(toInt (af x 2),f x)
def BD ds rs:=bif fF ds rs then bif decide ((S8 ds ds 0).2=0) then H8 (km ds) rs else S8 ds ds 0 else(0,30)
def kU(x:AV):Int:=G2 (aM (ea x))
def mi ds rs:=bif decide ((BD ds rs).2=0) then H8 kU rs else BD ds rs
def nW(ds rs:List AV):=ds.length<=aU/\rs.length<=aU/\∀x,x∈rs->c9 (ea x)
theorem Ho{ds rs}(h:nW ds rs):rs.all fj=true:=by
 refine List.all_eq_true.2 fun x hx=>?_
 have h2:=h.2.2 x hx;have hl1:=gI (aa (ea x).hl);rw[er] at hl1;have hc:=pM h2;have hl:=h2.2
 grind [fj,ea,aU]
abbrev VW x:=sp 57 [(1, .ptr 0 0 [] 0),(16, .ah 43 x.ds),(17, .int x.ds.length),(18, .int x.i)] [Uf x]
theorem xC1 κ x I n K:(vc (QQ κ) 12 61 none 0 (ad (Pr κ).toProgram 61 4) (VW x) (bh (QQ κ) 61 4 0 I n K))=(
 letI a:=AV.agg [AV.ah 43 x.ds,AV.ah 48 x.rs]
 letI b:=x.i<(↑(x.ds.length):Int)
 aq (decide b) (aW (decide ((0:Int)<=x.i)&&decide b) (∃(e1:List AV×ByteArray),([AV.ah 43 x.ds,AV.str (toStr (af (nth x.ds x.i.toNat) 0))],aL)=
 ([AV.ah 43 e1.1,AV.str e1.2],aL)/\iD e1/\aq (bH e1.2 e1.1 != x.i) (K Exit.ret (sp 57 [(2,AV.int (toInt (af (nth x.ds x.i.toNat) 5))),(3,AV.int 50)] []))
 (∃(e0:Nat),e0<n/\I e0 (sp 57 [(1,AV.ptr 0 0 [] 0),(16,AV.ah 43 x.ds),(17,AV.int (↑(x.ds.length):Int)),(18,AV.int (IntKind.wrap IntKind.i64 (x.i
 +(1:Int))))] [Obj.box 25 a])))) (K (Exit.exit 0) (sp 57 [(1,AV.ptr 0 0 [] 0)] [Obj.box 25 a]))):=by kernel_rfl
def Lo(x:Ls):=S8 x.ds (x.ds.drop x.i.toNat) x.i
def OX(x:Ls):=x.ds.length<=aU/\0<=x.i/\x.i<=x.ds.length
def HV(x:Ls):Out (Exit×S):= .aq (decide ((Lo x).2=0)) (.one (.exit 0,sp 57 [(1, .ptr 0 0 [] 0)] [Uf x])) (.one (.ret,sp 57 [(2, .int (Lo x).1),(3, .int (Lo x).2)] []))
theorem lC1 κ:aR (QQ κ) 12 61 4 (aG 0 VW OX HV):=by
 refine aD (fun x=>x.ds.length - x.i.toNat) ?_;rintro⟨ds,rs,i⟩ K ⟨h1,h2,h3⟩ ho;simp only at h1 h2 h3;rw[show(QQ κ).P=Pr κ from rfl];refine Eq.mpr (xC1 κ ⟨ds,rs,i⟩ _ _ K) ?_;simp only[aU] at h1;simp only[HV,Out.run,ae] at ho;rw[ae,an2,an4,ai,an3,an2,an2];refine⟨fun hi=>⟨⟨h2,hi⟩,(ds,toStr (af (nth ds i.toNat) 0)),rfl,h1,?_⟩,fun hi=>?_⟩
 ·simp only at hi
  have hk:i.toNat<ds.length:=by omega
  have hr:Lo ⟨ds,rs,i⟩=bif decide (bH (toStr (af (nth ds i.toNat) 0)) ds=i) then Lo ⟨ds,rs,i+1⟩ else(toInt (af (nth ds i.toNat) 5),50):=by
   unfold Lo;simp only[show(i+1).toNat=i.toNat+1 by omega];rw[ao3 hk,←aX ds i.toNat hk,S8]
  rw[hr] at ho;simp only[Px];cases e:decide (bH (toStr (af (nth ds i.toNat) 0)) ds=i) with
  |false=>
   rw[e] at ho;exact ho.2 rfl
  | true=>
   rw[e] at ho;rw[az (n:=i+1) (by omega) (by omega)];refine⟨_,?_,⟨ds,rs,i+1⟩,rfl,⟨by simpa[aU] using h1,by simp only;omega,by simp only;omega⟩,rfl,?_⟩
   ·simp only;omega
   ·simp only[HV,Out.run,ae]
    exact ho
 ·simp only at hi
  have hr:Lo ⟨ds,rs,i⟩=(0,0):=by
   unfold Lo;simp only;rw[ao0 (by omega)];rfl
  rw[hr] at ho;exact ho.1 rfl
noncomputable def QH κ:=(QQ κ).an 61 4 (aG 0 VW OX HV)
theorem eC1 κ:aE (QH κ):=(eTy _).an (mTy _) (lC1 _)
theorem mC1 κ:aj (QH κ):=(mTy _).an aI
abbrev NF x:=sp 57 [(1, .ptr 0 0 [] 0),(38, .ah 48 x.rs),(39, .int x.rs.length),(40, .int x.i)] [Uf x]
theorem xC2 κ x I n K:(vc (QH κ) 12 61 none 0 (ad (Pr κ).toProgram 61 11) (NF x) (bh (QH κ) 61 11 0 I n K))=(
 letI a:=AV.int
 letI b:=AV.ah
 letI e:=∃(e0:Nat),e0<n/\I e0 (sp 57 [(1,AV.ptr 0 0 [] 0),(38,b 48 x.rs),(39,a (↑(x.rs.length):Int)),(40,a (IntKind.wrap
  IntKind.i64 (x.i+(1:Int))))] [Obj.box 25 (AV.agg [b 43 x.ds,b 48 x.rs])])
 letI c:=nth x.rs x.i.toNat
 letI f:=x.i<(↑(x.rs.length):Int)
 letI d:=toInt (af c 2)
 aq (decide f) (aW (decide ((0:Int)<=x.i)&&decide f) (∃(e1:YS),([b 43 x.ds,AV.agg [AV.agg [AV.str (toStr (af (af c 0) 0)),b 38 (ag (af (af
 c 0) 1))],b 80 (ag (af c 1)),a d]],aL)=([b 43 e1.1,au e1.2],aL)/\(e1.1.length<=9223372036854775807/\bj (aa (bn 38 e1.2.hl e1.2.bl))<=
 100000/\e1.2.bl.length<=100000)/\aq (fF e1.1 [au e1.2]) (aq (decide (Prod.fst (uR e1)=(0:Int))) e (aq (Prod.fst (uR e1) != (0:Int)) (K Exit.ret (sp 57
 [(2,a d),(3,a (Prod.fst (uR e1)))] [])) e)) (K Exit.ret (sp 57 [(2,a d),(3,a 30)] [])))) (K (Exit.exit 2) (sp 57 [] []))):=by kernel_rfl
def AZ f(x:Ls):=H8 f (x.rs.drop x.i.toNat)
def tK(x:Ls):=nW x.ds x.rs/\0<=x.i/\x.i<=x.rs.length
def D9(x:Ls):Out (Exit×S):= .aq (decide ((AZ (km x.ds) x).2=0)) (.one (.exit 2,sp 57 [] [])) (.one (.ret,sp 57 [(2, .int (AZ (km x.ds) x).1),(3, .int (AZ (km x.ds) x).2)] []))
theorem IL f ds rs i(h0:0<=i)(hk:i.toNat<rs.length):AZ f ⟨ds,rs,i⟩=bif decide (f (nth rs i.toNat)=0) then AZ f ⟨ds,rs,i+1⟩ else(toInt (af (nth rs i.toNat) 2),f (nth rs i.toNat)):=by
 grind [AZ,List.drop_eq_getElem_cons,aX,H8]
theorem Jh f ds rs i(h:rs.length<=i.toNat):AZ f ⟨ds,rs,i⟩=(0,0):=by
 unfold AZ;rw[ao0 h];rfl
theorem lC2 κ:aR (QH κ) 12 61 11 (aG 0 NF tK D9):=by
 refine aD (fun x=>x.rs.length - x.i.toNat) ?_;rintro⟨ds,rs,i⟩ K ⟨h1,h2,h3⟩ ho;simp only at h1 h2 h3;rw[show(QH κ).P=Pr κ from rfl];refine Eq.mpr (xC2 κ ⟨ds,rs,i⟩ _ _ K) ?_;have hml:=h1.2.1;simp only[aU] at hml;simp only[D9,Out.run,ae] at ho;rw[ae,an2,an4,ai,an3,an2,an2];refine⟨fun hi=>⟨⟨h2,hi⟩,(ds,ea (nth rs i.toNat)),rfl,⟨h1.1,?_⟩,?_⟩,fun hi=>?_⟩
 ·simp only at hi
  exact h1.2.2 _ (by rw[aX _ _ (show i.toNat<rs.length by omega)];exact List.getElem_mem _)
 ·simp only at hi
  have hk:i.toNat<rs.length:=by omega
  rw[IL _ _ _ _ h2 hk] at ho;have next:km ds (nth rs i.toNat)=0->∃m,m<rs.length - i.toNat/\ei NF tK D9 (fun x=>x.rs.length - x.i.toNat) K m (NF ⟨ds,rs,i+1⟩):=fun e=>by
   rw[e] at ho;refine⟨_,?_,⟨ds,rs,i+1⟩,rfl,⟨h1,by simp only;omega,by simp only;omega⟩,rfl,?_⟩
   ·simp only;omega
   ·simp only[D9,Out.run,ae]
    exact ho
  have stop: ∀e:Int,km ds (nth rs i.toNat)=e->e≠0->K .ret (sp 57 [(2, .int (toInt (af (nth rs i.toNat) 2))),(3, .int e)] []):=fun e he h0=>by
   rw[he,an6 h0] at ho;exact ho.2 (an6 h0)
  rw[az (n:=i+1) (by omega) (by omega)];have ht:km ds (nth rs i.toNat)=bif fF ds [au (ea (nth rs i.toNat))] then(uR (ds,ea (nth rs i.toNat))).1 else 30:=rfl
  refine ae.2 ⟨fun e1=>?_,fun e1=>?_⟩
  ·simp_all[ae,Px]
  ·rw[e1,an7] at ht
   exact stop 30 ht (by decide)
 ·simp only at hi
  rw[Jh _ _ _ _ (by omega)] at ho;exact ho.1 rfl
noncomputable def X5 κ:=(QH κ).an 61 11 (aG 0 NF tK D9)
theorem eC2 κ:aE (X5 κ):=(eC1 _).an (mC1 _) (lC2 _)
theorem mC2 κ:aj (X5 κ):=(mC1 _).an aI
theorem yCd κ ds rs K:(a7 (X5 κ) 12 61 [fq ds rs] [] K)=(
 letI a:=AV.ptr 0 0 []
 letI b:=AV.int
 letI c:=AV.ah
 letI e:=Pg.toProgram (Env.P (QQ κ))
 letI f:=Pg.toProgram (Env.P (QH κ))
 aW (List.all rs fj) (aq (!fF ds rs) (K (AV.aJ [b 0,b 30]) []) (ad e 61 4=ad e 61 4/\∃(e2:Ls),letI g:=[Obj.box 25 (AV.agg [c 43 e2.ds,c 48 e2.rs])];sp 57 [(1,a 0),(16,c 43 ds),(17,b (↑(ds.length):Int)),(18,b 0)] [Obj.box 25 (AV.agg [c 43 ds,c 48 rs])]=sp 57 [(1,a 0),(16,c 43 e2.ds),(17,b (↑(e2.ds.length):Int)),(18,b e2.i)] g/\(e2.ds.length<=9223372036854775807/\(0:Int)<=e2.i/\e2.i<=(↑(e2.ds.length):Int))/\aq (decide (Prod.snd (Lo e2)=(0:Int))) (ad f 61 11=ad f 61 11/\∃(e1:Ls),letI d:=AZ (km e1.ds) e1;sp 57 [(1,a 0),(38,c 48 e2.rs),(39,b (↑(e2.rs.length):Int)),(40,b 0)] g=sp 57 [(1,a 0),(38,c 48 e1.rs),(39,b (↑(e1.rs.length):Int)),(40,b e1.i)] [Obj.box 25 (AV.agg [c 43 e1.ds,c 48 e1.rs])]/\((e1.ds.length<=9223372036854775807/\e1.rs.length<=9223372036854775807/\∀(e0:AV),List.Mem e0 e1.rs->bj (aa (bn 38 (dh.hl (ea e0)) (dh.bl (ea e0))))<=100000/\List.length (dh.bl (ea e0))<=100000)/\(0:Int)<=e1.i/\e1.i<=(↑(e1.rs.length):Int))/\aq (decide (Prod.snd d=(0:Int))) (K (AV.aJ [b 0,b 0]) []) (K (AV.aJ [b (Prod.fst d),b (Prod.snd d)]) [])) (K (AV.aJ [b (Prod.fst (Lo e2)),b (Prod.snd (Lo e2))]) [])))):=by kernel_rfl
abbrev Ch:=List AV×List AV
def Qb(x:Ch):List AV×List Dn.Obj:=([fq x.1 x.2],[])
def Au(x:Ch):Prop:=nW x.1 x.2
def OU(x:Ch):Out (AV×List Dn.Obj):= .one (.aJ [.int (BD x.1 x.2).1, .int (BD x.1 x.2).2],[])
theorem FH f: ∀l,(H8 f l).2=0->H8 f l=(0,0)
 |[],_=>rfl
 | x::l,h=>by
  rw[H8] at h⊢;cases e:decide (f x=0) with
  |true=>rw[e] at h;exact FH f l h
  |false=>
   grind
theorem cCd κ:bg (X5 κ) 12 61 (aO Qb Au OU):=by
 refine aQ ?_;rintro⟨ds,rs⟩ K h1 ho;have h1:nW ds rs:=h1;refine Eq.mpr (yCd κ ds rs K) ?_;simp only[OU,Out.run,BD] at ho;refine ai.2 ⟨Ho h1,ae.2 ⟨fun e=>?_,fun e=>?_⟩⟩
 ·grind
 ·rw[show fF ds rs=true by simpa using e,an9] at ho
  have e1:Lo ⟨ds,rs,0⟩=S8 ds ds 0:=rfl;have e2:AZ (km ds) ⟨ds,rs,0⟩=H8 (km ds) rs:=rfl;refine⟨rfl,⟨ds,rs,0⟩,rfl,⟨h1.1,by simp only;omega,by simp only;omega⟩,?_⟩;rw[e1];refine ae.2 ⟨fun e3=>⟨rfl,⟨ds,rs,0⟩,rfl,⟨h1,by simp only;omega,by simp only;omega⟩,?_⟩,fun e3=>?_⟩
  ·rw[e3,an9] at ho
   rw[e2];refine ae.2 ⟨fun e4=>?_,fun e4=>ho⟩;rw[an2] at e4;rw[FH _ _ e4] at ho;exact ho
  grind
noncomputable def RV κ:=(X5 κ).aw 61 (aO Qb Au OU)
theorem eCd κ:aE (RV κ):=(eC2 _).aw (mC2 _) (cCd _)
theorem mCd κ:aj (RV κ):=(mC2 _).aw aH
abbrev N9(x:Ls):=sp 37 [(20, .ah 48 x.rs),(21, .int x.rs.length),(22, .int x.i)] []
theorem xC3 κ x I n K:(vc (RV κ) 12 31 none 0 (ad (Pr κ).toProgram 31 5) (N9 x) (bh (RV κ) 31 5 0 I n K))=(
 letI a:=AV.int
 letI b:=nth x.rs x.i.toNat
 letI d:=x.i<(↑(x.rs.length):Int)
 letI c:=toInt (af b 2)
 aq (decide d) (aW (decide ((0:Int)<=x.i)&&decide d) (∃(e1:dh),([AV.agg [AV.agg [AV.str (toStr (af (af b 0) 0)),AV.ah 38 (ag (af (af b 0) 1))],
 AV.ah 80 (ag (af b 1)),a c]],aL)=([au e1],aL)/\(bj (aa (bn 38 e1.hl e1.bl))<=100000/\e1.bl.length<=100000)/\aq (a9 (aM e1)) (aq (jW (aM e1)) (∃
 (e0:Nat),e0<n/\I e0 (sp 37 [(20,AV.ah 48 x.rs),(21,a (↑(x.rs.length):Int)),(22,a (IntKind.wrap IntKind.i64 (x.i+(1:Int))))] [])) (K
 Exit.ret (sp 37 [(2,a c),(3,a 60)] []))) (K Exit.ret (sp 37 [(2,a c),(3,a 30)] [])))) (K (Exit.exit 0) (sp 37 [] []))):=by kernel_rfl
def Db(x:Ls):Out (Exit×S):= .aq (decide ((AZ kU x).2=0)) (.one (.exit 0,sp 37 [] [])) (.one (.ret,sp 37 [(2, .int (AZ kU x).1),(3, .int (AZ kU x).2)] []))
theorem lC3 κ:aR (RV κ) 12 31 5 (aG 0 N9 tK Db):=by
 refine aD (fun x=>x.rs.length - x.i.toNat) ?_;rintro⟨ds,rs,i⟩ K ⟨h1,h2,h3⟩ ho;simp only at h1 h2 h3;rw[show(RV κ).P=Pr κ from rfl];refine Eq.mpr (xC3 κ ⟨ds,rs,i⟩ _ _ K) ?_;have hml:=h1.2.1;simp only[aU] at hml;simp only[Db,Out.run,ae] at ho;rw[ae,an2,an4,ai,an3,an2,an2];refine⟨fun hi=>⟨⟨h2,hi⟩,ea (nth rs i.toNat),rfl,?_,?_⟩,fun hi=>?_⟩
 ·simp only at hi
  exact h1.2.2 _ (by rw[aX _ _ (show i.toNat<rs.length by omega)];exact List.getElem_mem _)
 ·simp only at hi
  have hk:i.toNat<rs.length:=by omega
  rw[IL _ _ _ _ h2 hk] at ho;have next:kU (nth rs i.toNat)=0->∃m,m<rs.length - i.toNat/\ei N9 tK Db (fun x=>x.rs.length - x.i.toNat) K m (N9 ⟨ds,rs,i+1⟩):=fun e=>by
   rw[e] at ho;refine⟨_,?_,⟨ds,rs,i+1⟩,rfl,⟨h1,by simp only;omega,by simp only;omega⟩,rfl,?_⟩
   ·simp only;omega
   ·simp only[Db,Out.run,ae]
    exact ho
  have stop: ∀e:Int,kU (nth rs i.toNat)=e->e≠0->K .ret (sp 37 [(2, .int (toInt (af (nth rs i.toNat) 2))),(3, .int e)] []):=fun e he h0=>by
   rw[he,an6 h0] at ho;exact ho.2 (an6 h0)
  rw[az (n:=i+1) (by omega) (by omega)];have ht:kU (nth rs i.toNat)=bif a9 (aM (ea (nth rs i.toNat))) then bif jW (aM (ea (nth rs i.toNat))) then 0 else 60 else 30:=rfl
  refine ae.2 ⟨fun e1=>?_,fun e1=>?_⟩
  ·rw[e1,an9] at ht
   grind [ae]
  ·rw[e1,an7] at ht
   exact stop 30 ht (by decide)
 ·simp only at hi
  rw[Jh _ _ _ _ (by omega)] at ho;exact ho.1 rfl
noncomputable def YG κ:=(RV κ).an 31 5 (aG 0 N9 tK Db)
theorem eC3 κ:aE (YG κ):=(eCd _).an (mCd _) (lC3 _)
theorem mC3 κ:aj (YG κ):=(mCd _).an aI
theorem yCs κ ds rs K:(a7 (YG κ) 12 31 [fq ds rs] [] K)=(
 letI b:=AV.int
 letI c:=AV.ah
 ∃(a:Ch),([AV.agg [c 43 ds,c 48 rs]],aL)=([AV.agg [c 43 a.1,c 48 a.2]],aL)/\(a.1.length<=9223372036854775807/\a.2.length<=
 9223372036854775807/\∀(x:AV),List.Mem x a.2->bj (aa (bn 38 (dh.hl (ea x)) (dh.bl (ea x))))<=100000/\List.length (dh.bl (ea x))<=100000)
 /\aq (Prod.snd (BD a.1 a.2) != (0:Int)) (K (AV.aJ [b (Prod.fst (BD a.1 a.2)),b (Prod.snd (BD a.1 a.2))]) []) (ad (Pg.toProgram
 (Env.P (RV κ))) 31 5=ad (Pg.toProgram (Env.P (RV κ))) 31 5/\∃(a:Ls),sp 37 [(20,c 48 rs),(21,b (↑(rs.length):Int)),(22,b
 0)] []=sp 37 [(20,c 48 a.rs),(21,b (↑(a.rs.length):Int)),(22,b a.i)] []/\((a.ds.length<=9223372036854775807/\a.rs.length<=
 9223372036854775807/\∀(x:AV),List.Mem x a.rs->bj (aa (bn 38 (dh.hl (ea x)) (dh.bl (ea x))))<=100000/\List.length (dh.bl (ea x))<=
 100000)/\(0:Int)<=a.i/\a.i<=(↑(a.rs.length):Int))/\aq (decide (Prod.snd (AZ kU a)=(0:Int))) (K (AV.aJ [b 0,b 0]) []) (K (AV.aJ
 [b (Prod.fst (AZ kU a)),b (Prod.snd (AZ kU a))]) []))):=by kernel_rfl
def N6(x:Ch):Out (AV×List Dn.Obj):= .one (.aJ [.int (mi x.1 x.2).1, .int (mi x.1 x.2).2],[])
theorem cCs κ:bg (YG κ) 12 31 (aO Qb Au N6):=by
 refine aQ ?_;rintro⟨ds,rs⟩ K h1 ho;refine Eq.mpr (yCs κ ds rs K) ?_;simp only[N6,Out.run,mi] at ho;refine⟨(ds,rs),rfl,h1,?_⟩;simp only[Px];have e2:AZ kU ⟨ds,rs,0⟩=H8 kU rs:=rfl;refine ae.2 ⟨fun e=>?_,fun e=>?_⟩
 ·grind
 ·rw[show decide _=true by simpa using e] at ho
  refine⟨trivial,⟨ds,rs,0⟩,rfl,⟨h1,by simp only;omega,by simp only;omega⟩,?_⟩;rw[e2];refine ae.2 ⟨fun e4=>?_,fun e4=>ho⟩
  simp_all[FH]
noncomputable def Xo κ:=(YG κ).aw 31 (aO Qb Au N6)
theorem eCs κ:aE (Xo κ):=(eC3 _).aw (mC3 _) (cCs _)
theorem mCs κ:aj (Xo κ):=(mC3 _).aw aH
end Go.Proofs.YtioeffnadipbaaaGreatDoor
