import Derived.Test.YtioeffnadipbaaaGreatDoorDeP1
import Derived.Test.YtioeffnadipbaaaGreatDoorDeP4
namespace Go.Rl
open Go Go.Dn
structure Dc where
 rel:ByteArray
 types:List Int
def kL(s:ByteArray):List Dc->Option Nat
 |[]=>none
 |d::l=>bif oh d.rel s then some 0 else(kL s l).map (· +1)
def di(ds:List Dc)(s:ByteArray):List Int:=match kL s ds with|some i=>(ds.getD i ⟨ByteArray.empty,[]⟩).types|none=>[]
def known(ds:List Dc)(a:At):Int:=match kL a.rel ds with|none=>51|some _=>bif decide ((di ds a.rel).length=a.l.length) then 0 else 52
def dM(l:Lt):=decide (l.op<3)||decide (6<l.op)
def je(ds:List Dc):List Lt->Int
 |[]=>0
 |l::b=>bif dM l&& !decide (known ds l.a=0) then known ds l.a else je ds b
def jf ds(r:Rl):=bif decide (known ds r.head=0) then je ds r.body else known ds r.head
section
variable {σ:Type} (get:σ->ByteArray->Int) (set:σ->ByteArray->Int->σ)
def bF(t:Tm) st:=bif decide (t.op=1) then get st t.s else bif decide (t.op=3) then 2 else bif decide (t.op=4) then 0 else 1
mutual
def Tm.dj:Tm->Int->σ->Bool×σ
 | .mk op s _ l,w,st=>bif decide (op=1) then(bif decide (w=0)|| !decide (get st s=0) then(false,st) else(true,set st s w)) else eb l st
def eb:List Tm->σ->Bool×σ
 |[],st=>(false,st)
 |t::l,st=>((Tm.dj t 1 st).1||(eb l (Tm.dj t 1 st).2).1,(eb l (Tm.dj t 1 st).2).2)
end
mutual
def Tm.want:Tm->Int->σ×Bool->Bool×(σ×Bool)
 | .mk op s n l,k,x=>
  bif (jr l x).1 then jr l x
  else bif decide (k=0)||decide (op=4) then(false,(jr l x).2)
  else bif decide (bF get (.mk op s n l) (jr l x).2.1=0) then(false,(set (jr l x).2.1 s k,true))
  else(!decide (bF get (.mk op s n l) (jr l x).2.1=k),(jr l x).2)
def jr:List Tm->σ×Bool->Bool×(σ×Bool)
 |[],x=>(false,x)
 |t::l,x=>bif (Tm.want t 1 x).1 then Tm.want t 1 x else jr l (Tm.want t 1 x).2
end
def cv:List Int->List Tm->σ->Bool×σ
 |w::a,t::l,st=>((t.dj get set w st).1||(cv a l (t.dj get set w st).2).1,(cv a l (t.dj get set w st).2).2)
 |_,_,st=>(false,st)
def jX:List Int->List Tm->σ×Bool->Bool×(σ×Bool)
 |w::a,t::l,x=>bif (t.want get set w x).1 then t.want get set w x else jX a l (t.want get set w x).2
 |_,_,x=>(false,x)
def gG(a:Int):=decide (3<=a)&&decide (a<=6)
def lI(l:Lt) st:=bif decide (bF get l.y st>bF get l.x st) then bF get l.y st else bF get l.x st
def eB ds(l:Lt) st:=
 bif gG l.op then
  ((l.x.dj get set (lI get l st) st).1||(l.y.dj get set (lI get l st) (l.x.dj get set (lI get l st) st).2).1,(l.y.dj get set (lI get l st) (l.x.dj get set (lI get l st) st).2).2)
 else bif decide (l.op=1)||decide (l.op=2) then cv get set (di ds l.a.rel) l.a.l st
 else((cv get set (di ds l.a.rel) l.a.l st).1||(l.x.dj get set 1 (cv get set (di ds l.a.rel) l.a.l st).2).1||(l.y.dj get set 1 (l.x.dj get set 1 (cv get set (di ds l.a.rel) l.a.l st).2).2).1,
  (l.y.dj get set 1 (l.x.dj get set 1 (cv get set (di ds l.a.rel) l.a.l st).2).2).2)
def fp(ds:List Dc):List Lt->σ->Bool×σ
 |[],st=>(false,st)
 |l::b,st=>((eB get set ds l st).1||(fp ds b (eB get set ds l st).2).1,(fp ds b (eB get set ds l st).2).2)
def j6 ds(r:Rl) st:=
 ((cv get set (di ds r.head.rel) r.head.l st).1||(fp get set ds r.body (cv get set (di ds r.head.rel) r.head.l st).2).1,(fp get set ds r.body (cv get set (di ds r.head.rel) r.head.l st).2).2)
def fb ds a x:=
 bif decide (known ds a=0) then(bif (jX get set (di ds a.rel) a.l x).1 then 53 else 0,(jX get set (di ds a.rel) a.l x).2) else(known ds a,x)
def kI(y:Bool×σ×Bool)(f:σ×Bool->Bool×σ×Bool):Int×σ×Bool:=bif y.1 then(53,y.2) else(bif (f y.2).1 then 53 else 0,(f y.2).2)
def kU ds(l:Lt) x:=
 bif gG l.op then kI (l.x.want get set (lI get l x.1) x) (l.y.want get set (lI get l x.1))
 else bif decide (l.op=1)||decide (l.op=2) then fb get set ds l.a x
 else bif !decide ((fb get set ds l.a x).1=0) then fb get set ds l.a x
 else bif decide (l.op=7) then(bif (l.x.want get set 1 (fb get set ds l.a x).2).1 then 53 else 0,(l.x.want get set 1 (fb get set ds l.a x).2).2)
 else kI (l.x.want get set 1 (fb get set ds l.a x).2) (l.y.want get set 1)
def wI(e:Int):=decide (e=51)||decide (e=52)
def iM w e:=bif decide (w=0)||decide (w=53)&&wI e then e else w
def kf(ds:List Dc):List Lt->Int×(σ×Bool)->Int×(σ×Bool)
 |[],y=>y
 |l::b,y=>bif wI (iM y.1 (kU get set ds l y.2).1) then(iM y.1 (kU get set ds l y.2).1,(kU get set ds l y.2).2)
  else kf ds b (iM y.1 (kU get set ds l y.2).1,(kU get set ds l y.2).2)
def fk ds(r:Rl) st:=kf get set ds r.body (fb get set ds r.head (st,false))
def fR(ds:List Dc)(r:Rl):Nat->σ->Int×σ
 |0,st=>(0,st)
 |n+1,st=>bif decide ((fk get set ds r st).1=0) then(bif (fk get set ds r st).2.2 then fR ds r n (fk get set ds r st).2.1 else(0,(fk get set ds r st).2.1)) else((fk get set ds r st).1,(fk get set ds r st).2.1)
def Ext st st':=∀s,get st s≠0->get st' s=get st s
theorem Ext.refl st:Ext get st st:=fun _ _=>rfl
variable {get set}
theorem Ext.trans{a b c}(d:Ext get a b)(e:Ext get b c):Ext get a c:=fun s h=>by rw[e s (by rw[d s h];grind),d s h]
variable (hgs: ∀st s k t,get (set st s k) t=bif t==s then k else get st t)
include hgs
mutual
theorem Tm.eg: ∀(t:Tm) (w:Int) (st:σ),Ext get st (t.dj get set w st).2
 | .mk op s n l,w,st=>by
  rw[Tm.dj];cases decide (op=1) with
  |false=>exact qt l st
  | true=>
   rw[as1];cases h:(decide (w=0)|| !decide (get st s=0)) with
   |true=>exact Ext.refl _ _
   | false=>
    intro t ht;rw[ar9,hgs];cases e:t==s with
    |false=>rfl
    |true=>
     rw[Bool.or_eq_false_iff,as6,ar4] at h;rw[eq_of_beq e] at ht;exact absurd h.2 ht
theorem qt: ∀(l:List Tm) (st:σ),Ext get st (eb get set l st).2
 |[],st=>by have _:=hgs;exact Ext.refl _ _
 |t::l,st=>by rw[eb];exact(Tm.eg t 1 st).trans (qt l _)
end
theorem gH: ∀a l st,Ext get st (cv get set a l st).2
 |w::a,t::l,st=>by exact(Tm.eg hgs t w _).trans (gH _ l _)
 |[],_,st=>by grind [cv,Ext.refl]
 |_::_,[],st=>by grind [cv,Ext.refl]
theorem uf ds l st:Ext get st (eB get set ds l st).2:=by
 unfold eB;cases gG _ with
 |true=>exact(Tm.eg hgs _ _ st).trans (Tm.eg hgs _ _ _)
 |false=>
  cases(decide (l.op=1)||decide (l.op=2)) with
  |true=>grind [gH]
  |false=>exact((gH hgs _ _ st).trans (Tm.eg hgs l.x 1 _)).trans (Tm.eg hgs l.y 1 _)
theorem nf ds: ∀b st,Ext get st (fp get set ds b st).2
 |[],st=>Ext.refl _ _
 |l::b,st=>by exact(uf hgs _ l _).trans (nf _ b _)
theorem FG ds r st:Ext get st (j6 get set ds r st).2:=(gH hgs _ _ _).trans (nf hgs _ _ _)
end
def ah0 o(s:ByteArray):=bif o.contains s then o else o++[s]
def ag4(o m:List _):=m.foldl ah0 o
mutual
def Tm.rv:Tm->List ByteArray
 | .mk op s _ l=>bif decide (op=1) then[s] else rvL l []
def rvL:List Tm->List ByteArray->List ByteArray
 |[],o=>o
 |t::l,o=>rvL l (ag4 o t.rv)
end
mutual
def Tm.wf:Tm->Bool
 | .mk op _ _ l=>bif mx op then decide (l.length=2)&&Jk l else decide (l.length=0)
def Jk:List Tm->Bool
 |[]=>true
 |t::l=>t.wf&&Jk l
end
theorem ye: ∀h t,ar h t=true->t.wf=true
 |0,_,h=>by grind [ar]
 | h+1, .mk b s n l,e=>by
  rw[tn] at e;rw[Tm.wf];have c: ∀l,lN h l=true->Jk l=true:=by
   intro l;induction l with
   |nil=>intro _;rfl
   |cons t l a=>
    intro e;simp only[lN,List.all_cons,ar5] at e;rw[Jk,ye h t e.1.2,a e.2];rfl
  grind
theorem Jl{t}(h:Lz t=true):t.wf=true/\t.op=0:=by
 obtain⟨b,s,n,l⟩:=t;simp only[Lz,ar5,ar4] at h;have a:=h.1.1;subst a;exact⟨as0 h.2,rfl⟩
theorem PZ{h}: ∀{l},l.all (ar h)=true->Jk l=true
 |[],_=>rfl
 |t::l,e=>by
  simp only[List.all_cons,ar5] at e;rw[Jk,ye h t e.1,PZ e.2];rfl
theorem vn{a}(h:bn a=true):Jk a.l=true:=by
 grind [bn,PZ]
structure QV(l:Lt):Prop where
 x:l.x.wf=true
 y:l.y.wf=true
 a:Jk l.a.l=true
 cmp:gG l.op=true->l.x.op≠4/\l.y.op≠4
 one:l.op=7->l.y.op=0
theorem W9{l}(h:jl l=true):QV l:=by
 unfold jl at h;have j:V1 l.a=true->Jk l.a.l=true:=fun h=>by
  simp only[V1,ar5,ar4] at h;rw[List.eq_nil_of_length_eq_zero h.2];rfl
 have b: ∀{t:Tm},ar 20 t=true->t.wf=true:=fun h=>ye _ _ h
 have g:gG l.op=true->3<=l.op/\l.op<=6:=fun h=>by
  simpa[gG] using h
 cases d:decide (l.op=1)||decide (l.op=2) with
 |true=>
  rw[d,as1] at h;simp only[ar5] at h
  simp only[as7,ar4] at d;exact⟨(Jl h.2.1).1,(Jl h.2.2).1,vn h.1,fun e=>by have:=g e;omega,fun e=>by omega⟩
 | false=>
  rw[d,ar9] at h;cases c:decide (l.op=3)||decide (l.op=4)||decide (l.op=5)||decide (l.op=6) with
  |true=>
   rw[c,as1] at h;simp only[ar5,Bool.not_eq_true',ar6] at h
   simp only[as7,ar4] at c;exact⟨b h.1.2,b h.2,j h.1.1.1.1,fun _=>⟨h.1.1.1.2,h.1.1.2⟩,fun e=>by omega⟩
  | false=>
   rw[c,ar9] at h;simp only[Bool.or_eq_false_iff,ar6] at d c;cases f:decide (l.op=7) with
   |true=>
    rw[f,as1] at h;simp only[ar5] at h
    exact⟨b h.2,(Jl h.1.2.2).1,vn h.1.1,fun e=>by have:=g e;omega,fun _=>(Jl h.1.2.2).2⟩
   | false=>
    rw[f,ar9] at h;rw[ar6] at f;cases i:decide (l.op=8)||decide (l.op=9)||decide (l.op=10) with
    |true=>
     rw[i,as1] at h;simp only[ar5] at h
     exact⟨b h.1.2,b h.2,vn h.1.1.1,fun e=>by have:=g e;omega,fun e=>absurd e f⟩
    |false=>rw[i,ar9] at h;cases h
section
variable {σ:Type} {get:σ->ByteArray->Int} {set:σ->ByteArray->Int->σ}
theorem Wb{a}(h:a=1):mx a=false:=by subst h;rfl
mutual
theorem Tm.nB: ∀(t:Tm) (k:Int) (x:σ×Bool),t.wf=true->(t.want get set k x).1=false->(t.want get set k x).2=((t.dj get set k x.1).2,x.2||(t.dj get set k x.1).1)
 | .mk op s n l,k,x,hw,h=>by
  rw[Tm.wf] at hw;rw[Tm.want] at h⊢;rw[Tm.dj];cases he:(jr get set l x).1 with
  |true=>rw[he,as1,he] at h;cases h
  | false=>
   rw[he,ar9] at h;rw[ar9];cases h1:decide (op=1) with
   | true=>
    rw[ar4] at h1;rw[Wb h1,ar9,ar4] at hw;rw[List.eq_nil_of_length_eq_zero hw];rw[List.eq_nil_of_length_eq_zero hw] at h;rw[jr] at h⊢;subst h1;simp only[bF,Tm.op,Tm.s,as1,decide_true,show decide ((1:Int)=4)=false from rfl,Bool.or_false] at h⊢;cases hk:decide (k=0) with
    |true=>simp
    |false=>
     rw[hk] at h;simp only[ar9,Bool.false_or] at h⊢;cases hg:decide (get x.1 s=0) with
     |true=>simp
     |false=>simp
   | false=>
    rw[ar9];have ih:(jr get set l x).2=((eb get set l x.1).2,x.2||(eb get set l x.1).1):=by
     cases h2:mx op with
     |true=>
      rw[h2,as1,ar5] at hw;exact En l x hw.2 he
     |false=>
      rw[h2,ar9,ar4] at hw;rw[List.eq_nil_of_length_eq_zero hw];simp[jr,eb]
    cases hk:decide (k=0)||decide (op=4) with
    |true=>exact ih
    | false=>
     rw[hk,ar9] at h;rw[ar9];rw[Bool.or_eq_false_iff] at hk;have hn:decide (bF get (.mk op s n l) (jr get set l x).2.1=0)=false:=by
      unfold bF;rw[show(Tm.mk op s n l).op=op from rfl,h1,ar9,hk.2];cases decide (op=3)<;>rfl
     rw[hn,ar9];exact ih
theorem En: ∀(l:List Tm) (x:σ×Bool),Jk l=true->(jr get set l x).1=false->(jr get set l x).2=((eb get set l x.1).2,x.2||(eb get set l x.1).1)
 |[],x,_,_=>by simp[jr,eb]
 | t::l,x,hw,h=>by
  rw[Jk,ar5] at hw;rw[jr] at h⊢;rw[eb];cases he:(t.want get set 1 x).1 with
  |true=>rw[he,as1,he] at h;cases h
  |false=>
   rw[he,ar9] at h;rw[ar9];have e1:=Tm.nB t 1 x hw.1 he;have e2:=En l _ hw.2 h;rw[e2,e1];simp only[Bool.or_assoc]
end
theorem yd: ∀a l x,Jk l=true->(jX get set a l x).1=false->(jX get set a l x).2=((cv get set a l x.1).2,x.2||(cv get set a l x.1).1)
 |[],l,x,_,_=>by simp[jX,cv]
 |w::a,[],x,_,_=>by simp[jX,cv]
 | w::a,t::l,x,b,h=>by
  rw[Jk,ar5] at b;rw[jX] at h⊢;rw[cv];cases c:(t.want get set w x).1 with
  |true=>grind
  |false=>
   rw[c,ar9] at h;have e:=t.nB w x b.1 c;have d:=yd a l _ b.2 h
   grind
theorem Cq{y:Bool×σ×Bool}{f}(h:(kI y f).1=0):y.1=false/\(f y.2).1=false/\(kI y f).2=(f y.2).2:=by
 grind [kI]
theorem sC{y:Bool×σ×Bool}{f}:(kI y f).1=0\/(kI y f).1=53:=by
 grind [kI]
theorem FI{t:Tm}(b:t.wf=true)(h:t.op=0) k st:t.dj get set k st=(false,st):=by
 obtain⟨a,s,n,l⟩:=t;have h:a=0:=h
 grind [Tm.wf,mx,Tm.dj,eb]
theorem RB ds{l}(c:QV l)(t:dM l=true->known ds l.a=0) x(h:(kU get set ds l x).1=0):(kU get set ds l x).2=((eB get set ds l x.1).2,x.2||(eB get set ds l x.1).1):=by
 unfold kU at h⊢;unfold eB;cases j:gG l.op with
 |true=>
  rw[j,as1] at h;rw[as1,as1];obtain⟨n,o,k⟩:=Cq h;have d:=l.x.nB _ x c.x n;have i:=l.y.nB _ _ c.y o;rw[k,i,d];simp only[Bool.or_assoc]
 | false=>
  rw[j,ar9] at h;rw[ar9,ar9];have m:dM l=true:=by
   simp only[gG,Bool.and_eq_false_iff,ar6] at j;simp only[dM,as7,ar4];omega
  have s:fb get set ds l.a x=(bif (jX get set (di ds l.a.rel) l.a.l x).1 then 53 else 0,(jX get set (di ds l.a.rel) l.a.l x).2):=by
   unfold fb;rw[t m];rfl
  have p:(fb get set ds l.a x).1=0->(fb get set ds l.a x).2=((cv get set (di ds l.a.rel) l.a.l x.1).2,x.2||(cv get set (di ds l.a.rel) l.a.l x.1).1):=fun e=>by
   rw[s] at e⊢;cases b:(jX get set (di ds l.a.rel) l.a.l x).1 with
   |true=>rw[b] at e;cases e
   |false=>exact yd _ _ _ c.a b
  cases f:decide (l.op=1)||decide (l.op=2) with
  |true=>
   rw[f,as1] at h;rw[as1,as1];exact p h
  | false=>
   rw[f,ar9] at h;rw[ar9,ar9];cases b:decide ((fb get set ds l.a x).1=0) with
   |false=>rw[b,Bool.not_false,as1] at h;rw[h] at b;cases b
   | true=>
    rw[b,Bool.not_true,ar9] at h;rw[Bool.not_true,ar9];rw[ar4] at b;have q:=p b;cases g:decide (l.op=7) with
    | true=>
     rw[g,as1] at h;rw[as1];have r:(l.x.want get set 1 (fb get set ds l.a x).2).1=false:=by
      cases e:(l.x.want get set 1 (fb get set ds l.a x).2).1 with
      |true=>rw[e] at h;cases h
      |false=>rfl
     have d:=l.x.nB 1 _ c.x r;rw[ar4] at g;rw[d,q,FI c.y (c.one g)];simp only[Bool.or_false,Bool.or_assoc]
    |false=>
     rw[g,ar9] at h;rw[ar9];obtain⟨n,o,k⟩:=Cq h;have d:=l.x.nB _ _ c.x n;have i:=l.y.nB _ _ c.y o;rw[k,i,d,q];simp only[Bool.or_assoc]
theorem wS ds{l}(e:dM l=true->known ds l.a=0) x:(kU get set ds l x).1=0\/(kU get set ds l x).1=53:=by
 unfold kU;cases c:gG l.op with
 |true=>rw[as1];exact sC
 | false=>
  have d:dM l=true:=by
   simp only[gG,Bool.and_eq_false_iff,ar6] at c;simp only[dM,as7,ar4];omega
  have b:(fb get set ds l.a x).1=0\/(fb get set ds l.a x).1=53:=by
   unfold fb;grind
  rw[ar9];cases decide (l.op=1)||decide (l.op=2) with
  |true=>exact b
  | false=>
   rw[ar9];cases decide ((fb get set ds l.a x).1=0) with
   |false=>exact b
   | true=>
    cases decide (l.op=7) with
    |true=>
     grind
    |false=>rw[ar9];exact sC
theorem RA ds{l}(b:dM l=true)(c:known ds l.a≠0) x:(kU get set ds l x).1=known ds l.a:=by
 grind [gG,dM,fb,kU]
theorem vK ds: ∀b x,je ds b=0->(kf get set ds b (53,x)).1=53
 |[],_,_=>rfl
 | l::b,x,h=>by
  rw[je] at h;have d:dM l=true->known ds l.a=0:=fun e=>by
   grind
  have f:je ds b=0:=by
   grind
  rw[kf];have c:iM 53 (kU get set ds l x).1=53:=by
   rcases wS   ds d x with e|e<;>rw[e]<;>rfl
  simp only[c];exact vK ds b _ f
theorem Cp ds: ∀b x,je ds b=0->(∀l,l∈b->QV l)->(kf get set ds b (0,x)).1=0->(kf get set ds b (0,x)).2=((fp get set ds b x.1).2,x.2||(fp get set ds b x.1).1)
 |[],x,_,_,_=>by simp[kf,fp]
 | l::b,x,h,d,c=>by
  rw[je] at h;have f:dM l=true->known ds l.a=0:=fun e=>by
   grind
  have i:je ds b=0:=by
   grind
  rw[kf] at c⊢;rw[fp];have j: ∀e:Int,iM 0 e=e:=fun e=>rfl
  simp only[j] at c⊢;rcases wS (get:=get) (set:=set) ds f x with e|e
  ·rw[e] at c⊢
   have k:=RB ds (d l List.mem_cons_self) f x e;have n:=Cp ds b _ i (fun m g=>d m (List.mem_cons_of_mem _ g)) c;rw[show wI 0=false from rfl,ar9,n,k];simp only[Bool.or_assoc]
  simp_all[wI,ar9,vK]
theorem On ds{r}(f:Jk r.head.l=true)(e: ∀l,l∈r.body->QV l)(a:jf ds r=0) st(h:(fk get set ds r st).1=0):(fk get set ds r st).2=((j6 get set ds r st).2,(j6 get set ds r st).1):=by
 unfold jf at a;have c:known ds r.head=0:=by
  grind
 rw[c] at a;have d:je ds r.body=0:=a;unfold fk at h⊢;have g:fb get set ds r.head (st,false)=(bif (jX get set (di ds r.head.rel) r.head.l (st,false)).1 then 53 else 0,(jX get set (di ds r.head.rel) r.head.l (st,false)).2):=by
  unfold fb;rw[c];rfl
 rw[g] at h⊢;cases b:(jX get set (di ds r.head.rel) r.head.l (st,false)).1 with
 |true=>rw[b,as1,vK ds _ _ d] at h;cases h
 |false=>
  rw[b,ar9] at h;rw[ar9,Cp ds _ _ d e h,yd _ _ _ f b];rfl
end
section
variable {σ:Type} {get:σ->ByteArray->Int} {set:σ->ByteArray->Int->σ}
variable (hgs: ∀st s k t,get (set st s k) t=bif t==s then k else get st t)
include hgs
end
section
variable {σ:Type} {get:σ->ByteArray->Int} {set:σ->ByteArray->Int->σ}
def Val(get:σ->ByteArray->Int) st:=∀s,get st s=0\/get st s=1\/get st s=2
end
theorem AL{l s}(h:s∈l.x.vars):s∈er l:=by grind [er,ax]
theorem AM{l s}(h:s∈l.y.vars):s∈er l:=by grind [er,ax]
theorem FJ{l s}(h:s∈ax l.a.l):s∈er l:=by grind [er]
section
variable {σ:Type} {get:σ->ByteArray->Int} {set:σ->ByteArray->Int->σ}
def yE(get:σ->ByteArray->Int)(V:ByteArray->Prop) a b:=∃s,V s/\get a s=0/\get b s≠0
theorem yE.left{V W a b c}(h:yE get V a b)(e:Ext get b c)(f: ∀s,V s->W s):yE get W a c:=by
 obtain⟨s,g,i,d⟩:=h;exact⟨s,f s g,i,by rw[e s d];omega⟩
theorem yE.right{V W a b c}(f:Ext get a b)(h:yE get V b c)(g: ∀s,V s->W s):yE get W a c:=by
 obtain⟨s,i,j,d⟩:=h;refine⟨s,g s i,?_,d⟩;cases e:decide (get a s=0) with
 |true=>grind
 |false=>rw[ar6] at e;rw[f s e] at j;omega
variable (hgs: ∀st s k t,get (set st s k) t=bif t==s then k else get st t)
include hgs
mutual
theorem Tm.kz: ∀(t:Tm) (w:Int) (st:σ),(t.dj get set w st).1=true->yE get (fun s=>s∈t.vars) st (t.dj get set w st).2
 | .mk op s n l,w,st,h=>by
  rw[Tm.dj] at h⊢;cases h1:decide (op=1) with
  |false=>
   rw[h1,ar9] at h;rw[ar9];exact(wQ l st h).left (Ext.refl _ _) fun s hs=>by rw[Tm.vars];exact List.mem_append_right _ hs
  | true=>
   rw[h1,as1] at h;rw[as1];cases hc:(decide (w=0)|| !decide (get st s=0)) with
   |true=>rw[hc,as1] at h;cases h
   |false=>
    rw[ar9];simp only[Bool.or_eq_false_iff,ar6,as6,ar4] at hc;refine⟨s,by rw[Tm.vars,h1];simp,hc.2,?_⟩;rw[hgs];simpa using hc.1
theorem wQ: ∀(l:List Tm) (st:σ),(eb get set l st).1=true->yE get (fun s=>s∈ax l) st (eb get set l st).2
 |[],_,h=>by rw[eb] at h;cases h
 | t::l,st,h=>by
  rw[eb] at h⊢;cases h1:(t.dj get set 1 st).1 with
  |true=>exact(Tm.kz t 1 st h1).left (qt hgs l _) fun s hs=>by rw[ax];exact List.mem_append_left _ hs
  |false=>
   rw[h1,Bool.false_or] at h;exact yE.right (Tm.eg hgs t 1 st) (wQ l _ h) fun s hs=>by rw[ax];exact List.mem_append_right _ hs
end
theorem nd: ∀a l st,(cv get set a l st).1=true->yE get (fun s=>s∈ax l) st (cv get set a l st).2
 |[],l,st,h=>by simp[cv] at h
 |w::a,[],st,h=>by simp[cv] at h
 | w::a,t::l,st,h=>by
  rw[cv] at h⊢;cases b:(t.dj get set w st).1 with
  |true=>exact(Tm.kz hgs t w st b).left (gH hgs a l _) fun s c=>by rw[ax];grind
  |false=>
   rw[b] at h;exact yE.right (Tm.eg hgs t w st) (nd a l _ h) fun s c=>by rw[ax];grind
theorem CU ds l st(h:(eB get set ds l st).1=true):yE get (fun s=>s∈er l) st (eB get set ds l st).2:=by
 unfold eB at h⊢;cases d:gG l.op with
 | true=>
  rw[d,as1] at h;rw[as1];cases b:(l.x.dj get set (lI get l st) st).1 with
  |true=>exact(Tm.kz hgs _ _ _ b).left (Tm.eg hgs l.y _ _) fun s=>AL
  |false=>
   rw[b,Bool.false_or] at h;exact yE.right (Tm.eg hgs l.x _ st) (Tm.kz hgs _ _ _ h) fun s=>AM
 | false=>
  rw[d,ar9] at h;rw[ar9];cases c:decide (l.op=1)||decide (l.op=2) with
  |true=>rw[c,as1] at h;exact(nd hgs _ _ _ h).left (Ext.refl _ _) fun s=>FJ
  | false=>
   rw[c,ar9] at h;rw[ar9];cases e:(cv get set (di ds l.a.rel) l.a.l st).1 with
   |true=>exact(nd hgs _ _ _ e).left ((Tm.eg hgs l.x _ _).trans (Tm.eg hgs l.y _ _)) fun s=>FJ
   | false=>
    rw[e,Bool.false_or] at h;cases b:(l.x.dj get set 1 (cv get set (di ds l.a.rel) l.a.l st).2).1 with
    |true=>exact yE.right (gH hgs _ _ st) ((Tm.kz hgs _ _ _ b).left (W:=fun s=>s∈er l) (Tm.eg hgs l.y _ _) fun s=>AL) fun s f=>f
    |false=>
     rw[b,Bool.false_or] at h;exact yE.right ((gH hgs _ _ st).trans (Tm.eg hgs l.x _ _)) (Tm.kz hgs _ _ _ h) fun s=>AM
theorem wP ds: ∀b st,(fp get set ds b st).1=true->yE get (fun s=>s∈b.flatMap er) st (fp get set ds b st).2
 |[],_,h=>by cases h
 | l::b,st,h=>by
  rw[fp] at h⊢;cases a:(eB get set ds l st).1 with
  |true=>exact(CU hgs ds l st a).left (nf hgs ds b _) (by grind)
  |false=>
   rw[a] at h;exact yE.right (uf hgs ds l st) (wP ds b _ h) (by grind)
theorem FH ds r st(h:(j6 get set ds r st).1=true):yE get (fun s=>s∈fB r) st (j6 get set ds r st).2:=by
 unfold j6 at h⊢;cases a:(cv get set (di ds r.head.rel) r.head.l st).1 with
 |true=>exact(nd hgs _ _ _ a).left (nf hgs ds _ _) fun s b=>by rw[fB];grind
 |false=>
  grind [yE.right,gH,wP,fB,List.mem_append_right]
omit hgs
def mK(get:σ->ByteArray->Int)(V:List _) st:=(V.filter fun s=>decide (get st s=0)).length
theorem P3 get V(st:σ):mK get V st<=V.length:=List.length_filter_le _ _
theorem zT{a b}(h:Ext get a b): ∀V,mK get V b<=mK get V a
 |[]=>Nat.le_refl _
 | s::V=>by
  have c:=zT h V;unfold mK at c⊢;rw[List.filter_cons,List.filter_cons];cases e:decide (get a s=0) with
  |true=>
   grind
  |false=>
   rw[ar6] at e;rw[ar8 (by rw[h s e];exact e)]
   grind
theorem zU{a b}(h:Ext get a b): ∀V,yE get (fun s=>s∈V) a b->mK get V b<mK get V a
 |[],⟨_,c,_⟩=>nomatch c
 | s::V,⟨t,c,f,g⟩=>by
  rcases List.mem_cons.1 c with rfl|c
  ·have d:=zT h V
   unfold mK at d⊢
   grind
  ·have d:=zU h V ⟨t,c,f,g⟩
   unfold mK at d⊢;rw[List.filter_cons,List.filter_cons];cases e:decide (get a s=0) with
   |true=>
    grind
   |false=>
    rw[ar6] at e;rw[ar8 (by rw[h s e];exact e)];simpa using d
include hgs
end
section
variable {σ ρ:Type} {get:σ->ByteArray->Int} {set:σ->ByteArray->Int->σ} {get':ρ->ByteArray->Int} {set':ρ->ByteArray->Int->ρ} {V:ByteArray->Prop} {P:ρ->Prop}
def Alike(get:σ->ByteArray->Int)(c:ρ->ByteArray->Int)(V:ByteArray->Prop)(P:ρ->Prop) a b:=P b/\∀s,V s->get a s=c b s
variable (hg: ∀st s k t,get (set st s k) t=bif t==s then k else get st t) (hg': ∀st s k t,P st->V s->V t->get' (set' st s k) t=bif t==s then k else get' st t) (hp: ∀st s k,P st->V s->P (set' st s k))
theorem Alike.ty{a b}(h:Alike get get' V P a b){t}(d: ∀s,s∈t.vars->V s):bF get t a=bF get' t b:=by
 unfold bF;cases e:decide (t.op=1) with
 |false=>rfl
 |true=>
  refine h.2 _ (d _ ?_);obtain⟨c,s,n,l⟩:=t;rw[Tm.vars,show decide (c=1)=true from e];simp[Tm.s]
theorem Alike.kind{a b}(h:Alike get get' V P a b){l}(d: ∀s,s∈er l->V s):lI get l a=lI get' l b:=by
 unfold lI;rw[h.ty  fun s c=>d s (AL c),h.ty  fun s c=>d s (AM c)]
include hg hg' hp
mutual
theorem Alike.dj: ∀(t:Tm) (w:Int) {a:σ} {b:ρ},Alike get get' V P a b->(∀s,s∈t.vars->V s)->(t.dj get set w a).1=(t.dj get' set' w b).1/\Alike get get' V P (t.dj get set w a).2 (t.dj get' set' w b).2
 | .mk op s n l,w,a,b,h,hv=>by
  rw[Tm.dj,Tm.dj];cases h1:decide (op=1) with
  |false=>exact Alike.eb l h fun s hs=>hv s (by rw[Tm.vars];exact List.mem_append_right _ hs)
  | true=>
   have hs:V s:=hv s (by rw[Tm.vars,h1];simp);rw[as1,as1,h.2 s hs];cases(decide (w=0)|| !decide (get' b s=0)) with
   |true=>exact⟨rfl,h⟩
   |false=>
    refine⟨rfl,hp b s w h.1 hs,fun t ht=>?_⟩;rw[ar9,ar9,hg,hg' b s w t h.1 hs ht,h.2 t ht]
theorem Alike.eb: ∀(l:List Tm) {a:σ} {b:ρ},Alike get get' V P a b->(∀s,s∈ax l->V s)->(eb get set l a).1=(eb get' set' l b).1/\Alike get get' V P (eb get set l a).2 (eb get' set' l b).2
 |[],a,b,h,_=>by have _:=hg;have _:=hg';have _:=hp;exact⟨rfl,h⟩
 |t::l,a,b,h,hv=>by
  rw[Rl.eb,Rl.eb];obtain⟨e1,h1⟩:=Alike.dj t 1 h fun s hs=>hv s (by rw[ax];exact List.mem_append_left _ hs)
  obtain⟨e2,h2⟩:=Alike.eb l h1 fun s hs=>hv s (by rw[ax];exact List.mem_append_right _ hs)
  exact⟨by rw[e1,e2],h2⟩
end
theorem Alike.cv: ∀c l {a b},Alike get get' V P a b->(∀s,s∈ax l->V s)->(cv get set c l a).1=(cv get' set' c l b).1/\Alike get get' V P (cv get set c l a).2 (cv get' set' c l b).2
 |[],l,a,b,h,_=>by simpa[Rl.cv] using h
 |w::c,[],a,b,h,_=>by simpa[Rl.cv] using h
 |w::c,t::l,a,b,h,d=>by
  rw[Rl.cv,Rl.cv];obtain⟨g,e⟩:=Alike.dj hg hg' hp t w h fun s f=>d s (by rw[ax];grind)
  obtain⟨j,i⟩:=Alike.cv c l e fun s f=>d s (by rw[ax];grind)
  grind
theorem Alike.eB ds l{a b}(h:Alike get get' V P a b)(d: ∀s,s∈er l->V s):(eB get set ds l a).1=(eB get' set' ds l b).1/\Alike get get' V P (eB get set ds l a).2 (eB get' set' ds l b).2:=by
 unfold Rl.eB;have j: ∀s,s∈l.x.vars->V s:=fun s c=>d s (AL c)
 have g: ∀s,s∈l.y.vars->V s:=fun s c=>d s (AM c)
 have k: ∀s,s∈ax l.a.l->V s:=fun s c=>d s (FJ c)
 cases gG l.op with
 |true=>
  rw[as1,as1,h.kind d]
  grind [Alike.dj,lI]
 | false=>
  rw[ar9,ar9];obtain⟨e,f⟩:=Alike.cv hg hg' hp (di ds l.a.rel) l.a.l h k;cases decide (l.op=1)||decide (l.op=2) with
  |true=>exact⟨e,f⟩
  |false=>
   obtain⟨m,n⟩:=Alike.dj hg hg' hp l.x 1 f j;obtain⟨o,i⟩:=Alike.dj hg hg' hp l.y 1 n g;exact⟨by rw[ar9,ar9,e,m,o],i⟩
theorem Alike.fp ds: ∀l {a b},Alike get get' V P a b->(∀s,s∈l.flatMap er->V s)->(fp get set ds l a).1=(fp get' set' ds l b).1/\Alike get get' V P (fp get set ds l a).2 (fp get' set' ds l b).2
 |[],a,b,h,_=>⟨rfl,h⟩
 |l::m,a,b,h,d=>by
  rw[Rl.fp,Rl.fp];obtain⟨f,c⟩:=Alike.eB hg hg' hp ds l h (by grind);obtain⟨g,e⟩:=Alike.fp ds m c (by grind)
  grind
theorem Alike.j6 ds r{a b}(h:Alike get get' V P a b)(c: ∀s,s∈fB r->V s):(j6 get set ds r a).1=(j6 get' set' ds r b).1/\Alike get get' V P (j6 get set ds r a).2 (j6 get' set' ds r b).2:=by
 grind [Rl.j6,Alike.cv,fB,Alike.fp]
end
def getM a s:=toInt (c6 a (.string s) (.lit (.int .i64 0)))
def gx a s k:=eE a (.string s) (.lit (.int .i64 k))
theorem ou: ∀a s k t,getM (gx a s k) t=bif t==s then k else getM a t
 |[],s,k,t=>by
  simp only[getM,gx,eE,c6,ef];cases t==s<;>rfl
 | (d,e)::a,s,k,t=>by
  have b:=ou a s k t;simp only[getM,gx,eE,c6] at b⊢;cases h:ef (.string s) d with
  |true=>
   have c:=y2 h;subst c;simp only[as1,c6,ef];cases f:t==s<;>rfl
  |false=>
   simp only[ar9,c6]
   grind
def plc(V:List _) s:=V.findIdx (oh s)
def jU V(τ:List Int) s k:=τ.set (plc V s) k
def PU ds r:=
 bif decide ((fR getM gx ds r ((dg r).length+1) []).1=0) then
  bif (dg r).all fun s=>!decide (getM (fR getM gx ds r ((dg r).length+1) []).2 s=0) then(0,(dg r).map (getM (fR getM gx ds r ((dg r).length+1) []).2)) else(53,[])
 else((fR getM gx ds r ((dg r).length+1) []).1,[])
theorem sP ds a:known ds a=0\/known ds a=51\/known ds a=52:=by
 grind [known]
section
variable {σ:Type} {get:σ->ByteArray->Int} {set:σ->ByteArray->Int->σ}
theorem Co ds: ∀b y,y.1=0\/y.1=53->je ds b≠0->(kf get set ds b y).1=je ds b
 |[],_,_,h=>absurd rfl h
 | l::b,y,i,h=>by
  rw[je] at h⊢;rw[kf];cases c:dM l&& !decide (known ds l.a=0) with
  |true=>
   rw[as1]
   grind [RA,iM,known,sP,wI]
  | false=>
   rw[c,ar9] at h;rw[ar9];have j:dM l=true->known ds l.a=0:=fun e=>by
    rw[e,at2] at c;simpa using c
   have d:iM y.1 (kU get set ds l y.2).1=0\/iM y.1 (kU get set ds l y.2).1=53:=by
    rcases wS (get:=get) (set:=set) ds j y.2 with e|e<;>rcases i with f|f<;>rw[e,f]<;>decide
   have g:wI (iM y.1 (kU get set ds l y.2).1)=false:=by rcases d with e|e<;>rw[e]<;>rfl
   rw[g,ar9];exact Co ds b _ d h
theorem Dw ds r st(h:jf ds r≠0):(fk get set ds r st).1=jf ds r:=by
 unfold fk;unfold jf at h⊢;cases a:decide (known ds r.head=0) with
 |true=>
  rw[a,as1] at h;rw[as1];refine Co ds _ _ ?_ h;unfold fb
  grind
 | false=>
  rw[ar9];have b:fb get set ds r.head (st,false)=(known ds r.head,(st,false)):=by
   unfold fb;rw[a];rfl
  rw[b];rw[ar6] at a;cases r.body<;>grind [kf,iM,known,sP,wI]
end
end Go.Rl
namespace Go.Proofs.YtioeffnadipbaaaGreatDoor
open Go Go.Dn Go.Rl Go.Proofs Go.RowKit Go.Extern.Stop Go.Stop Go.Extern
def Ta(κ:Kp)(e:Int):=bif decide (e=51) then κ.fG else bif decide (e=52) then κ.arity else κ.type
def bd(κ:Kp)(e:Int):Value:=bif decide (e=0) then .nilIface else .iface 273 (.pointer (some (Ta κ e)))
def wH(e:Int):=e=51\/e=52\/e=53
def jQ(e:Int):Prop:=e=0\/wH e
theorem cD κ e:aD (bd κ e)=true:=by unfold bd;cases decide (e=0)<;>rfl
theorem jA κ e:bO (bd κ e)=decide (e=0):=by unfold bd;cases decide (e=0)<;>rfl
theorem Mh κ{e k}(b:wH e)(a:wH k)(h:e≠k):Ta κ e≠Ta κ k:=by
 rcases b with rfl|rfl|rfl<;>rcases a with rfl|rfl|rfl<;>first|grind|exact κ.d1|exact κ.d2|exact κ.d3|exact κ.d1.symm|exact κ.d2.symm|exact κ.d3.symm
theorem Re κ{e k}(a:jQ e)(b:jQ k):bd κ e=bd κ k↔e=k:=by
 rcases a with rfl|a
 ·grind [bd]
 ·have e0:decide (e=0)=false:=by rcases a with rfl|rfl|rfl<;>rfl
  rcases b with rfl|b
  ·grind [bd]
  grind [bd,Mh]
theorem HV κ{e}(f:wH e): ∃c t,y1 κ (Ta κ e).block=some (.cells c t (0,0)):=by
 have d: ∀b,(∀g,g∈[1,0,3,4,2]->b≠g)->b=κ.fG.block\/b=κ.arity.block\/b=κ.type.block->∃c t,y1 κ b=some (.cells c t (0,0)):=by
  intro b a h;unfold y1;rw[sB (a _ (by simp)),sB (a 0 (by simp)),sB (a 3 (by simp)),sB (a 4 (by simp)),sB (a 2 (by simp))];simp only[ar9];cases k:Nat.beq b κ.fG.block with
  |true=>exact⟨_,_,rfl⟩
  | false=>
   rw[ar9];cases i:Nat.beq b κ.arity.block with
   |true=>exact⟨_,_,rfl⟩
   |false=>
    rw[ar9];cases j:Nat.beq b κ.type.block<;>grind [Nat.beq_refl]
 rcases f with rfl|rfl|rfl
 ·exact d _ κ.n3 (.inl rfl)
 ·exact d _ κ.n4 (.inr (.inl rfl))
 ·exact d _ κ.n5 (.inr (.inr rfl))
theorem ZB v a w:(Instr.typeAssert (.iface 273 v) a 259 true).run Tryz.prog w= .ok (.tuple #[.nilIface, .bool false]) w:=run_typeAssert_lacksB Tryz.underlying259 (by kernel_rfl) (by kernel_rfl) v _ w
theorem Ko v a w:(Instr.typeAssert (.iface 273 v) a 261 true).run Tryz.prog w= .ok (.tuple #[.nilIface, .bool false]) w:=run_typeAssert_lacksB Tryz.underlying261 (by kernel_rfl) (by kernel_rfl) v _ w
theorem FW v a w:(Instr.typeAssert (.iface 273 v) a 263 true).run Tryz.prog w= .ok (.tuple #[.nilIface, .bool false]) w:=run_typeAssert_lacksB Tryz.underlying263 (by kernel_rfl) (by kernel_rfl) v _ w
set_option maxRecDepth 8000 in
theorem Na(a b:Addr)(w:World)(hab:a≠b){ca cb:Array Value}{ta tb:TypeId}(ha:w.heap[a.block]? =some (.cells ca ta (0,0)))(hb:w.heap[b.block]? =some (.cells cb tb (0,0))):
  Calls Tryz.prog 108 #[.iface 273 (.pointer (some a)), .iface 273 (.pointer (some b))] w fun e w'=>e= .returned (.bool false)/\w'=w:=by
 obtain⟨i,hi,hcmp⟩:=Option.map_eq_some_iff.1 Fz;obtain⟨j,hj,hjs⟩:=Option.map_eq_some_iff.1 FB;have h8:= @run_callFunc_extern Tryz.prog 157 _ Extern.ReflectliteType.typeOf Tryz.func157 (by kernel_rfl) (by kernel_rfl) (by kernel_rfl) (by kernel_rfl);have h32:= @run_callFunc_extern Tryz.prog 222 _ (Extern.ReflectliteType.method fun t=>do Go.Extern.Rtype.noPackHeld "Comparable" t;pure (.bool (←typeInfo t).comparable)) Tryz.func222 (by kernel_rfl) (by kernel_rfl) (by kernel_rfl) (by kernel_rfl);have tT:=wJ;have cT:=na;have mR:=iF;have hne:=run_eql_iface_ptr_other (P:=Tryz.prog) w Tryz.underlying171 Tryz.underlying273 hi hcmp hj (by omega) hab ha hb;have n1:=ZB;have n2:=Ko;have n3:=FW
 go_enter Tryz.func108,Tryz.ntmps108
 go_wp2
 refine wp_loop_rounds 1 ?_;rw[rounds_succ]
 go_wp2
 all_goals (go_ret;exact⟨rfl,rfl⟩)
open Classical in
noncomputable def kX(κ:Kp)(v:Value):Bool:=decide (∃e,jQ e/\v=bd κ e)
open Classical in
noncomputable def l7(κ:Kp)(v:Value):Bool:=decide (∃e,wH e/\v=bd κ e)
open Classical in
noncomputable def gK(v t:Value):Bool:=decide (v=t)
theorem xd κ v:kX κ v=true↔ ∃e,jQ e/\v=bd κ e:=by grind [kX]
theorem De κ v:l7 κ v=true↔ ∃e,wH e/\v=bd κ e:=by grind [l7]
theorem KQ v t:gK v t=true↔v=t:=by grind [gK]
theorem Bd κ{e}(h:jQ e):kX κ (bd κ e)=true:=(xd _ _).2 ⟨e,h,rfl⟩
theorem Be κ{e}(h:wH e):l7 κ (bd κ e)=true:=(De _ _).2 ⟨e,h,rfl⟩
theorem iw κ{e k}(b:jQ e)(a:jQ k):gK (bd κ e) (bd κ k)=decide (e=k):=by
 rw[Bool.eq_iff_iff,KQ]
 grind [Re]
noncomputable def VO(κ:Kp):List AV->Option (Bool×AV)
 |[.lit v, .lit t]=>some (kX κ v&&l7 κ t, .bool (gK v t))
 |_=>none
theorem an6 κ:gq (Pr κ) 108 (VO κ):=by
 intro i x v b;unfold VO at b;split at b
 ·simp only[ar7,as3,ar5] at b
  obtain⟨⟨m,l⟩,rfl⟩:=b;obtain⟨e,a,rfl⟩:=(xd _ _).1 m;obtain⟨k,d,rfl⟩:=(De _ _).1 l;have q:decide (k=0)=false:=by rcases d with rfl|rfl|rfl<;>rfl
  have c:bd κ k= .iface 273 (.pointer (some (Ta κ k))):=by unfold bd;rw[q];rfl
  refine⟨_,_,Tryz.func108,rfl,rfl,rfl,fun C u j g o=>?_⟩;rw[yb o,iw κ a (.inr d)];rcases a with rfl|a
  ·have e0:bd κ 0= .nilIface:=rfl
   rw[e0,c];refine(callsIn_wide.2 (M9 _ C.w)).mono ?_
   grind [hJ.refl,decide_eq_false]
  ·have e0:decide (e=0)=false:=by rcases a with rfl|rfl|rfl<;>rfl
   have f:bd κ e= .iface 273 (.pointer (some (Ta κ e))):=by unfold bd;rw[e0];rfl
   rw[f,c];by_cases h:e=k
   ·subst h
    refine(callsIn_wide.2 (HT _ C.w)).mono ?_;rintro e r ⟨rfl,rfl⟩;refine⟨?_,hJ.refl _⟩;rw[as0 rfl]
   ·obtain⟨A,B,p⟩:=HV κ a
    obtain⟨y,z,s⟩:=HV κ d;have t:=(g.kept _ _ (by rw[j];exact p)).2;have n:=(g.kept _ _ (by rw[j];exact s)).2;refine(callsIn_wide.2 (Na _ _ C.w (Mh κ a d h) t n)).mono ?_;rintro e r ⟨rfl,rfl⟩;refine⟨?_,hJ.refl _⟩;rw[ar8 h]
 ·cases b
noncomputable def QH κ:=(E15 κ).aK 108 (VO κ)
theorem eIe κ:aE (QH κ):=(e15 _).eK (an6 _)
theorem mIe κ:aj (QH κ):=(m15 _).aK
end Go.Proofs.YtioeffnadipbaaaGreatDoor
namespace Go.Proofs.YtioeffnadipbaaaGreatDoor
open Go Go.Dn Go.Rl Go.Proofs
attribute [local irreducible] a0 vc
set_option maxRecDepth 20000
structure Us where
 rel:ByteArray
 names:List AV
 types:List AV
 i:Bool
 o:Bool
 line:Int
abbrev Tf(d:Us):AV:= .agg [.lit (.string d.rel), .ah 9 d.names, .ah 3 d.types, .bool d.i, .bool d.o, .int d.line]
def SN t:=decide (toInt t=1)||decide (toInt t=2)
def FY:List AV->List AV->Bool
 |n::b,t::a=>isName (toStr n)&&SN t&&FY b a
 |_,_=>true
def Cw b a c:=isName b&& !decide (a.length=0)&&decide (a.length<=8)&&decide (c.length=a.length)&&FY a c
def JJ a:=Cw (toStr (ag a 0)) (af (ag a 1)) (af (ag a 2))
theorem Ku{b a i}(d:i<b.length)(c:i<a.length):FY (b.drop i) (a.drop i)=(isName (toStr (nth b i))&&SN (nth a i)&&FY (b.drop (i+1)) (a.drop (i+1))):=by
 grind [List.drop_eq_getElem_cons,FY,aM]
theorem xDc κ d i I n K:(vc (QH κ) 12 94 none 0 (ad (Pr κ).toProgram 94 4) (sp 58 [(1, .ptr 0 0 [] 0),(31, .ah 9 d.names),(32, .int d.names.length),(33, .int i)] [.box 43 (Tf d)]) (bj (QH κ) 94 4 0 I n K))=(
 letI a:=∃(e0:Nat),e0<n/\I e0 (sp 58 [(1,AV.ptr 0 0 [] 0),(31,AV.ah 9 d.names),(32,AV.int (↑(d.names.length):Int)),(33,AV.int (IntKind.wrap
  IntKind.i64 (i+(1:Int))))] [Obj.box 43 (AV.agg [AV.str d.rel,AV.ah 9 d.names,AV.ah 3 d.types,AV.bool d.i,AV.bool d.o,AV.int d.line])])
 letI b:=decide ((0:Int)<=i)&&decide (i<(↑(d.types.length):Int))
 letI c:=K Exit.ret (sp 58 [(2,AV.bool false)] [])
 letI e:=i<(↑(d.names.length):Int)
 aq (decide e) (aV (decide ((0:Int)<=i)&&decide e) (aq (!isName (toStr (nth d.names i.toNat))) c (aV b (aq (toInt (nth d.types i.toNat) != (1:Int))
 (aV b (aq (toInt (nth d.types i.toNat) != (2:Int)) c a)) a)))) (K (Exit.exit 0) (sp 58 [] []))):=by kernel_rfl
abbrev Sk(a:Us×Int):=sp 58 [(1, .ptr 0 0 [] 0),(31, .ah 9 a.1.names),(32, .int a.1.names.length),(33, .int a.2)] [.box 43 (Tf a.1)]
def Gy(a:Us×Int):=a.1.types.length=a.1.names.length/\a.1.names.length<=8/\0<=a.2/\a.2<=a.1.names.length
def Dk(a:Us×Int):Out (Exit×S):= .aq (FY (a.1.names.drop a.2.toNat) (a.1.types.drop a.2.toNat)) (.one (.exit 0,sp 58 [] [])) (.one (.ret,sp 58 [(2, .bool false)] []))
theorem lDc κ:aU (QH κ) 12 94 4 (aG 0 Sk Gy Dk):=by
 refine aC (fun a=>a.1.names.length - a.2.toNat) ?_;rintro⟨d,i⟩ K ⟨c,e,h,g⟩ b;simp only at c e h g;rw[show(QH κ).P=Pr κ from rfl];refine Eq.mpr (xDc κ d i _ _ K) ?_;simp only[Dk,Out.run,ae] at b;simp only[ae,ai,ar4,ar6,ar5,Bool.not_eq_true',as6,bne_iff_ne,bne_eq_false_iff_eq];refine⟨fun j=>?_,fun j=>?_⟩
 ·have k:i.toNat<d.names.length:=by omega
  rw[Ku k (by omega)] at b;rw[az (n:=i+1) (by omega) (by omega)];have o:SN (nth d.types i.toNat)=true->isName (toStr (nth d.names i.toNat))=true->∃m,m<d.names.length - i.toNat/\ep Sk Gy Dk (fun a=>a.1.names.length - a.2.toNat) K m (Sk (d,i+1)):=fun l f=>by
   rw[l,f,at2,at2] at b;refine⟨_,?_,(d,i+1),rfl,⟨c,e,by simp only;omega,by simp only;omega⟩,rfl,?_⟩
   ·simp only;omega
   ·simp only[Dk,Out.run,ae,show(i+1).toNat=i.toNat+1 by omega]
    exact b
  simp_all[SN,nth,ar8,as0,Bool.or_true,Bool.true_or]
 ·rw[as2 (by omega)] at b
  exact b.1 rfl
noncomputable def X1 κ:=(QH κ).an 94 4 (aG 0 Sk Gy Dk)
theorem eDl κ:aE (X1 κ):=(eIe _).an (mIe _) (lDc _)
theorem mDl κ:aj (X1 κ):=(mIe _).an aJ
theorem yDc κ d K:(a0 (X1 κ) 12 94 [Tf d] [] K)=(
 letI a:=AV.int
 letI b:=AV.bool
 letI c:=AV.ah
 letI e:=K (b false) []
 letI f:=d.names.length
 letI g:=Pg.toProgram (Env.P (QH κ))
 aq (!isName d.rel) e (aq ((↑f:Int)==(0:Int)) e (aq (decide ((↑f:Int)>(8:Int))) e (aq ((↑(d.types.length):Int) != (↑f:Int)) e (ad g 94 4
 =ad g 94 4/\∃(e0:Us×Int),sp 58 [(1,AV.ptr 0 0 [] 0),(31,c 9 d.names),(32,a (↑f:Int)),(33,a 0)] [Obj.box 43 (AV.agg [AV.str
 d.rel,c 9 d.names,c 3 d.types,b d.i,b d.o,a d.line])]=sp 58 [(1,AV.ptr 0 0 [] 0),(31,c 9 e0.1.names),(32,a
 (↑(e0.1.names.length):Int)),(33,a e0.2)] [Obj.box 43 (AV.agg [AV.str e0.1.rel,c 9 e0.1.names,c 3 e0.1.types,b e0.1.i,b e0.1.o,
 a e0.1.line])]/\(e0.1.types.length=e0.1.names.length/\e0.1.names.length<=8/\(0:Int)<=e0.2/\e0.2<=(↑(e0.1.names.length):Int))/\aq (FY
 (List.drop e0.2.toNat e0.1.names) (List.drop e0.2.toNat e0.1.types)) (K (b true) []) e))))):=by kernel_rfl
def gDc:List AV->Option (Bool×AV)
 |[.agg [.lit (.string a), .ah 9 b, .ah 3 c, .lit (.bool _), .lit (.bool _), .lit (.int .i64 _)]]=>some (true, .bool (Cw a b c))
 |_=>none
theorem pDc κ:cd (X1 κ) 12 94 gDc:=by
 intro h x d;unfold gDc at d;split at d
 ·rename_i c b f j i a
  simp only[ar7,as3,true_and] at d;subst d;refine⟨_,rfl,rfl,?_⟩;refine Eq.mpr (yDc κ ⟨c,b,f,j,i,a⟩ _) ?_;unfold Cw;simp only[ae,ar4,ar6,Bool.not_eq_true',as6,beq_iff_eq,beq_eq_false_iff_ne,bne_iff_ne,bne_eq_false_iff_eq];refine⟨fun e=>nY (by rw[e];rfl),fun e=>⟨fun k=>nY ?_,fun k=>⟨fun l=>nY ?_,fun l=>⟨fun m=>nY ?_,fun m=>⟨trivial,(⟨c,b,f,j,i,a⟩,0),rfl,⟨by simp only;omega,by simp only;omega,by simp only;omega,by simp only;omega⟩,?_⟩⟩⟩⟩⟩
  ·rw[as0 (show b.length=0 by omega)];simp
  ·rw[ar8 (show ¬ b.length<=8 by omega)];simp
  ·rw[ar8 (show ¬ f.length=b.length by omega)];simp
  ·rw[e,ar8 (show ¬ b.length=0 by omega),as0 (show b.length<=8 by omega),as0 (show f.length=b.length by omega)]
   simp only[Int.toNat_zero,as4,Bool.not_false,at2];exact⟨fun g=>nY g.symm,fun g=>nY g.symm⟩
 ·cases d
noncomputable def QD κ:=(X1 κ).aK 94 gDc
theorem eDc κ:aE (QD κ):=(eDl _).aK (mDl _) (pDc _)
theorem mDc κ:aj (QD κ):=(mDl _).aK
theorem ap7 κ ds rs i I n K:(vc (QD κ) 12 109 none 1 (ad (Pr κ).toProgram 109 2) (sp 19 [(0, .ah 43 ds),(1, .bm 93 []),(7, .int ds.length),(8, .int i)] [.box 25 (.agg [.ah 43 ds, .ah 48 rs])]) (bj (QD κ) 109 2 1 I n K))=(
 letI a:=AV.agg [AV.ah 43 ds,AV.ah 48 rs]
 letI b:=nth ds i.toNat
 letI c:=i<(↑(ds.length):Int)
 aq (decide c) (aV (decide ((0:Int)<=i)&&decide c) (aq (!Cw (toStr (ag b 0)) (af (ag b 1)) (af (ag b 2))) (K Exit.ret (sp 19 [(4,AV.int i)] [Obj.box
 25 a])) (∃(e0:Nat),e0<n/\I e0 (sp 19 [(0,AV.ah 43 ds),(1,AV.bm 93 []),(7,AV.int (↑(ds.length):Int)),(8,AV.int (IntKind.wrap IntKind.i64 (i+(1
 :Int))))] [Obj.box 25 a])))) (K (Exit.exit 0) (sp 19 [] [Obj.box 25 a]))):=by kernel_rfl
abbrev Nb:Nat:=109
abbrev Xv:Nat:=119
abbrev JA(ds a:List AV):Dn.Obj:= .box 25 (.agg [.ah 43 ds, .ah 48 a])
abbrev Qf:=List AV×List AV×Int
abbrev T8(a:Qf):=sp 19 [(0, .ah 43 a.1),(1, .bm 93 []),(7, .int a.1.length),(8, .int a.2.2)] [JA a.1 a.2.1]
def IT(a:Qf):=a.1.length<=aW/\0<=a.2.2/\a.2.2<=a.1.length
def Bq(a:Qf):Out (Exit×S):= .aq ((a.1.drop a.2.2.toNat).all JJ) (.one (.exit 0,sp 19 [] [JA a.1 a.2.1])) (.all (fun j=>0<=j) fun j=> .one (.ret,sp 19 [(4, .int j)] [JA a.1 a.2.1]))
theorem am8 κ:aU (QD κ) 12 Nb 2 (aG 1 T8 IT Bq):=by
 refine aC (fun a=>a.1.length - a.2.2.toNat) ?_;rintro⟨ds,f,i⟩ K ⟨d,c,j⟩ b;simp only at d c j;rw[show(QD κ).P=Pr κ from rfl];refine Eq.mpr (ap7 κ ds f i _ _ K) ?_;simp only[aW] at d;simp only[Bq,Out.run,ae] at b;simp only[ae,ai,ar4,ar6,ar5,Bool.not_eq_true',as6];refine⟨fun g=>⟨⟨c,g⟩,?_⟩,fun g=>?_⟩
 ·have h:i.toNat<ds.length:=by omega
  rw[as5 h,←aM ds i.toNat h,List.all_cons] at b;refine⟨fun e=>b.2 (by rw[show JJ (nth ds i.toNat)=false from e];rfl) i c,fun e=>?_⟩;rw[show JJ (nth ds i.toNat)=true from e,at2] at b;rw[az (n:=i+1) (by omega) (by omega)];refine⟨_,?_,(ds,f,i+1),rfl,⟨by simpa[aW] using d,by simp only;omega,by simp only;omega⟩,rfl,?_⟩
  ·simp only;omega
  grind [Bq,Out.run,ae]
 ·rw[as2 (by omega)] at b
  exact b.1 rfl
noncomputable def vr κ:=(QD κ).an Nb 2 (aG 1 T8 IT Bq)
theorem al0 κ:aE (vr κ):=(eDc _).an (mDc _) (am8 _)
theorem Zw κ:aj (vr κ):=(mDc _).an aJ
theorem ap8 κ ds rs i I n K:(vc (vr κ) 12 119 none 1 (ad (Pr κ).toProgram 119 2) (sp 19 [(0, .ah 48 rs),(1, .bm 95 []),(7, .int rs.length),(8, .int i)] [.box 25 (.agg [.ah 43 ds, .ah 48 rs])]) (bj (vr κ) 119 2 1 I n K))=(
 letI b:=AV.agg [AV.ah 43 ds,AV.ah 48 rs]
 letI a:=nth rs i.toNat
 letI c:=i<(↑(rs.length):Int)
 aq (decide c) (aV (decide ((0:Int)<=i)&&decide c) (aV (decide (List.length (af (ag (ag a 0) 1))<=9223372036854775807)&&decide (List.length (af (ag a 1))<=9223372036854775807)) (aq (!a8 {head:={rel:=toStr (ag (ag a 0) 0),l:=aa (af (ag (ag a 0) 1))},body:=dw (af (ag a 1))}) (K Exit.ret (sp 19 [(4,AV.int i)] [Obj.box 25 b])) (∃(e0:Nat),e0<n/\I e0 (sp 19 [(0,AV.ah 48 rs),(1,AV.bm 95 []),(7,AV.int (↑(rs.length):Int)),(8,AV.int (IntKind.wrap IntKind.i64 (i+(1:Int))))] [Obj.box 25 b]))))) (K (Exit.exit 0) (sp 19 [] [Obj.box 25 b]))):=by kernel_rfl
def fg a:=decide ((af (ag (ag a 0) 1)).length<=aW)&&decide ((af (ag a 1)).length<=aW)
def qB(a:AV):Bool:=a8 (xK a)
abbrev T9(a:Qf):=sp 19 [(0, .ah 48 a.2.1),(1, .bm 95 []),(7, .int a.2.1.length),(8, .int a.2.2)] [JA a.1 a.2.1]
def IU(a:Qf):=a.2.1.length<=aW/\0<=a.2.2/\a.2.2<=a.2.1.length/\a.2.1.all fg=true
def Br(a:Qf):Out (Exit×S):= .aq ((a.2.1.drop a.2.2.toNat).all qB) (.one (.exit 0,sp 19 [] [JA a.1 a.2.1])) (.all (fun j=>0<=j) fun j=> .one (.ret,sp 19 [(4, .int j)] [JA a.1 a.2.1]))
theorem Rj{a}(h:a.all fg=true){k}(b:k<a.length):(af (ag (ag (nth a k) 0) 1)).length<=aW/\(af (ag (nth a k) 1)).length<=aW:=by
 grind [aM,List.getElem_mem,fg]
theorem am9 κ:aU (vr κ) 12 Xv 2 (aG 1 T9 IU Br):=by
 refine aC (fun a=>a.2.1.length - a.2.2.toNat) ?_;rintro⟨ds,c,i⟩ K ⟨f,d,k,g⟩ b;simp only at f d k g;rw[show(vr κ).P=Pr κ from rfl];refine Eq.mpr (ap8 κ ds c i _ _ K) ?_;simp only[aW] at f;simp only[Br,Out.run,ae] at b;simp only[ae,ai,ar4,ar6,ar5,Bool.not_eq_true',as6];refine⟨fun j=>⟨⟨d,j⟩,Rj g (by omega),?_⟩,fun j=>?_⟩
 ·have h:i.toNat<c.length:=by omega
  rw[as5 h,←aM c i.toNat h,List.all_cons] at b;refine⟨fun e=>b.2 (by rw[show qB (nth c i.toNat)=false from e];rfl) i d,fun e=>?_⟩;rw[show qB (nth c i.toNat)=true from e,at2] at b;rw[az (n:=i+1) (by omega) (by omega)];refine⟨_,?_,(ds,c,i+1),rfl,⟨by simpa[aW] using f,by simp only;omega,by simp only;omega,g⟩,rfl,?_⟩
  ·simp only;omega
  grind [Br,Out.run,ae]
 ·rw[as2 (by omega)] at b
  exact b.1 rfl
noncomputable def L5 κ:=(vr κ).an Xv 2 (aG 1 T9 IU Br)
theorem al1 κ:aE (L5 κ):=(al0 _).an (Zw _) (am9 _)
theorem Zx κ:aj (L5 κ):=(Zw _).an aJ
theorem yRt κ ds rs K:(a0 (L5 κ) 12 48 [.agg [.ah 43 ds, .ah 48 rs]] [] K)=(
 letI a:=AV.int
 letI b:=AV.ah
 letI h:=∀(e0:Int),(0:Int)<=e0->K (AV.lit (Value.bool !decide (e0>=(0:Int)))) []
 letI d:=Pg.toProgram (Env.P (vr κ))
 letI c:=K (AV.bool false) []
 letI e:=Pg.toProgram (Env.P (QD κ))
 aq (decide ((↑(ds.length):Int)>(60:Int))) c (aq (decide ((↑(rs.length):Int)>(200:Int))) c (ad e Nb 2=ad e Nb 2/\∃(e3:Qf),letI f:=[Obj.box 25 (AV.agg [b 43 e3.1,b 48 e3.2.1])];letI g:=ad d Xv 2=ad d Xv 2/\∃(e1:Qf),sp 19 [(0,b 48 e3.2.1),(1,AV.bm 95 []),(7,a (↑(e3.2.1.length):Int)),(8,a 0)] f=sp 19 [(0,b 48 e1.2.1),(1,AV.bm 95 []),(7,a (↑(e1.2.1.length):Int)),(8,a e1.2.2)] [Obj.box 25 (AV.agg [b 43 e1.1,b 48 e1.2.1])]/\(e1.2.1.length<=9223372036854775807/\(0:Int)<=e1.2.2/\e1.2.2<=(↑(e1.2.1.length):Int)/\List.all e1.2.1 fg=true)/\aq (List.all (List.drop (Int.toNat e1.2.2) e1.2.1) qB) (K (AV.bool true) []) h;sp 19 [(0,b 43 ds),(1,AV.bm 93 []),(7,a (↑(ds.length):Int)),(8,a 0)] [Obj.box 25 (AV.agg [b 43 ds,b 48 rs])]=sp 19 [(0,b 43 e3.1),(1,AV.bm 93 []),(7,a (↑(e3.1.length):Int)),(8,a e3.2.2)] f/\(e3.1.length<=9223372036854775807/\(0:Int)<=e3.2.2/\e3.2.2<=(↑(e3.1.length):Int))/\aq (List.all (List.drop (Int.toNat e3.2.2) e3.1) JJ) g (∀(e2:Int),(0:Int)<=e2->aq (!decide (e2>=(0:Int))) g c)))):=by kernel_rfl
def fA(ds a:List _):=decide (ds.length<=60)&&decide (a.length<=200)&&ds.all JJ&&a.all qB
def gRt:List AV->Option (Bool×AV)
 |[.agg [.ah 43 ds, .ah 48 a]]=>some (a.all fg, .bool (fA ds a))
 |_=>none
theorem pRt κ:cd (L5 κ) 12 48 gRt:=by
 intro g x a;unfold gRt at a;split at a
 ·rename_i ds b
  simp only[ar7,as3] at a;obtain⟨h,rfl⟩:=a;refine⟨_,rfl,rfl,?_⟩;refine Eq.mpr (yRt κ ds b _) ?_;unfold fA;rw[ae,ar4,ar6];refine⟨fun e=>nY (by rw[ar8 (show ¬ ds.length<=60 by omega)];rfl),fun e=>?_⟩;rw[ae,ar4,ar6];refine⟨fun i=>nY (by rw[ar8 (show ¬ b.length<=200 by omega)];simp),fun i=>?_⟩;rw[as0 (show ds.length<=60 by omega),as0 (show b.length<=200 by omega)];refine⟨rfl,(ds,b,0),rfl,⟨by simp only[aW];omega,by simp only;omega,by simp only;omega⟩,?_⟩;simp only[Int.toNat_zero,as4,at2];rw[ae];refine⟨fun f=>⟨trivial,(ds,b,0),rfl,⟨by simp only[aW];omega,by simp only;omega,by simp only;omega,h⟩,?_⟩,fun f y d=>?_⟩
  ·simp only[Int.toNat_zero,as4]
   rw[ae,f];refine⟨fun c=>nY (by rw[c];rfl),fun c y d=>nY ?_⟩;rw[c,as0 (show y>=0 from d)];rfl
  ·rw[as0 (show y>=0 from d)]
   exact nY (by rw[f];rfl)
 ·cases a
noncomputable def QM κ:=(L5 κ).aK 48 gRt
theorem eRt κ:aE (QM κ):=(al1 _).aK (Zx _) (pRt _)
theorem mRt κ:aj (QM κ):=(Zx _).aK
theorem xFi κ ds s i I n K:(vc (QM κ) 12 Nb none 1 (ad (Pr κ).toProgram Nb 2) (sp 19 [(0, .ah 43 ds),(1, .bm 110 [.ptr 0 0 [] 0]),(7, .int ds.length),(8, .int i)] [.box 9 (.lit (.string s))]) (bj (QM κ) Nb 2 1 I n K))=(
 letI a:=i<(↑(ds.length):Int)
 aq (decide a) (aV (decide ((0:Int)<=i)&&decide a) (aq (ByteArray.toList (toStr (ag (nth ds i.toNat) 0))==ByteArray.toList s) (K Exit.ret (sp 19 [(4,
 AV.int i)] [Obj.box 9 (AV.str s)])) (∃(e0:Nat),e0<n/\I e0 (sp 19 [(0,AV.ah 43 ds),(1,AV.bm 110 [AV.ptr 0 0 [] 0]),(7,AV.int (↑(ds.length):Int)),
 (8,AV.int (IntKind.wrap IntKind.i64 (i+(1:Int))))] [Obj.box 9 (AV.str s)])))) (K (Exit.exit 0) (sp 19 [] [Obj.box 9 (AV.str s)]))):=by kernel_rfl
def mo(s:ByteArray):List AV->Int->Int
 |[],_=> -1
 |d::l,i=>bif oh (toStr (ag d 0)) s then i else mo s l (i+1)
abbrev ad2(a:List _×ByteArray×Int):=sp 19 [(0, .ah 43 a.1),(1, .bm 110 [.ptr 0 0 [] 0]),(7, .int a.1.length),(8, .int a.2.2)] [.box 9 (.lit (.string a.2.1))]
def ON(a:List AV×ByteArray×Int):=a.1.length<=aW/\0<=a.2.2/\a.2.2<=a.1.length
def Ii(a:List AV×ByteArray×Int):Out (Exit×S):= .aq (decide (0<=mo a.2.1 (a.1.drop a.2.2.toNat) a.2.2)) (.one (.ret,sp 19 [(4, .int (mo a.2.1 (a.1.drop a.2.2.toNat) a.2.2))] [.box 9 (.lit (.string a.2.1))])) (.one (.exit 0,sp 19 [] [.box 9 (.lit (.string a.2.1))]))
theorem lFi κ:aU (QM κ) 12 Nb 2 (aG 1 ad2 ON Ii):=by
 refine aC (fun a=>a.1.length - a.2.2.toNat) ?_;rintro⟨ds,s,i⟩ K ⟨d,c,h⟩ b;simp only at d c h;rw[show(QM κ).P=Pr κ from rfl];refine Eq.mpr (xFi κ ds s i _ _ K) ?_;simp only[aW] at d;simp only[Ii,Out.run,ae] at b;simp only[ae,ai,ar4,ar6,ar5];refine⟨fun g=>⟨⟨c,g⟩,?_⟩,fun g=>?_⟩
 ·have f:i.toNat<ds.length:=by omega
  rw[as5 f,←aM ds i.toNat f,mo] at b;refine⟨fun e=>?_,fun e=>?_⟩
  ·rw[show oh (toStr (ag (nth ds i.toNat) 0)) s=true from e,as1] at b
   exact b.1 (as0 c)
  ·rw[show oh (toStr (ag (nth ds i.toNat) 0)) s=false from e,ar9] at b
   rw[az (n:=i+1) (by omega) (by omega)];refine⟨_,?_,(ds,s,i+1),rfl,⟨by simpa[aW] using d,by simp only;omega,by simp only;omega⟩,rfl,?_⟩
   ·simp only;omega
   ·simp only[Ii,Out.run,ae,show(i+1).toNat=i.toNat+1 by omega]
    exact b
 ·rw[as2 (by omega)] at b
  exact b.2 rfl
noncomputable def X3 κ:=(QM κ).an Nb 2 (aG 1 ad2 ON Ii)
theorem eFl κ:aE (X3 κ):=(eRt _).an (mRt _) (lFi _)
theorem mFl κ:aj (X3 κ):=(mRt _).an aJ
theorem yFi κ ds s K:(a0 (X3 κ) 12 63 [.ah 43 ds, .lit (.string s)] [] K)=(
 letI b:=AV.int
 ad (Pg.toProgram (Env.P (QM κ))) Nb 2=ad (Pg.toProgram (Env.P (QM κ))) Nb 2/\∃(a:List AV×ByteArray×Int),letI c:=List.drop (Int.toNat a.2.2) a.1;sp 19 [(0,AV.ah 43 ds),(1,AV.bm 110 [AV.ptr 0 0 [] 0]),(7,b (↑(ds.length):Int)),(8,b 0)] [Obj.box 9 (AV.str s)]=sp 19 [(0,AV.ah 43 a.1),(1,AV.bm 110 [AV.ptr 0 0 [] 0]),(7,b (↑(a.1.length):Int)),(8,b a.2.2)] [Obj.box 9 (AV.str a.2.1)]/\(a.1.length<=9223372036854775807/\(0:Int)<=a.2.2/\a.2.2<=(↑(a.1.length):Int))/\aq (decide ((0:Int)<=mo a.2.1 c a.2.2)) (K (AV.aH [b (if(0:Int)>mo a.2.1 c a.2.2 then(0:Int) else mo a.2.1 c a.2.2),AV.bool (decide (mo a.2.1 c a.2.2>=(0:Int)))]) []) (K (AV.aH [b 0,AV.bool false]) [])):=by kernel_rfl
def bx s ds:=bif decide (0<=mo s ds 0) then mo s ds 0 else 0
def CE s ds:=decide (0<=mo s ds 0)
def I6(a:List AV×ByteArray):List AV×List Dn.Obj:=([.ah 43 a.1, .lit (.string a.2)],[])
def ix(a:List AV×ByteArray):=a.1.length<=aW
def F5(a:List AV×ByteArray):Out (AV×List Dn.Obj):= .one (.aH [.int (bx a.2 a.1), .bool (CE a.2 a.1)],[])
theorem cFi κ:bc (X3 κ) 12 63 (aO I6 ix F5):=by
 refine aR ?_;rintro⟨ds,s⟩ K b a;refine Eq.mpr (yFi κ ds s K) ?_;simp only[F5,Out.run,bx,CE] at a;refine⟨rfl,(ds,s,0),rfl,⟨b,by simp,by simp⟩,?_⟩;rw[ae]
 grind
noncomputable def X2 κ:=(X3 κ).aw 63 (aO I6 ix F5)
theorem eFi κ:aE (X2 κ):=(eFl _).aw (mFl _) (cFi _)
theorem mFi κ:aj (X2 κ):=(mFl _).aw aI
structure kk where
 ds:List AV
 es:List (Value×AV)
 more:Bool
abbrev bR(a:kk):List Dn.Obj:=[.box 219 (.agg [.ah 43 a.ds, .mp 1, .bool a.more]), .map 9 3 a.es]
abbrev Ez:AV:= .ptr 0 0 [] 0
theorem yOf κ a t K:(a0 (X2 κ) 12 197 [Ez,dn t] (bR a) K)=(
 letI b:=AV.int
 aq (t.op==(1:Int)) (K (b (toInt (c6 a.es (Value.string t.s) (b 0)))) (bR a)) (aq (t.op==(3:Int)) (K (b 2) (bR a)) (aq (t.op==(4:Int))
 (K (b 0) (bR a)) (K (b 1) (bR a))))):=by kernel_rfl
def ae9(x:kk×AT):=([Ez,dn x.2],bR x.1)
def O3(_:kk×AT):Prop:=True
def Oh(x:kk×AT):Out (AV×List Dn.Obj):= .one (.int (bF getM x.2.tm x.1.es),bR x.1)
theorem cOf κ:bc (X2 κ) 12 197 (aO ae9 O3 Oh):=by
 refine aR ?_;rintro⟨a,t⟩ K _ b;refine Eq.mpr (yOf κ a t K) ?_;simp[Oh] at b;have e:bF _ t.tm _=bif decide (t.op=1) then getM a.es _ else bif decide (t.op=3) then 2 else bif decide (t.op=4) then 0 else 1:=rfl
 rw[e] at b;simp[Xq];cases d:decide (t.op=1) with
 |true=>rw[d] at b;exact b
 | false=>
  rw[d] at b;cases f:decide (t.op=3) with
  |true=>rw[f] at b;exact b
  |false=>
   rw[f] at b;cases c:decide (t.op=4) with
   |true=>rw[c] at b;exact b
   |false=>rw[c] at b;exact b
noncomputable def EYo κ:=(X2 κ).aw 197 (aO ae9 O3 Oh)
theorem eYo κ:aE (EYo κ):=(eFi _).aw (mFi _) (cOf _)
theorem mYo κ:aj (EYo κ):=(mFi _).aw aI
structure pN where
 a:kk
 t:AT
 k:Int
def aZ(a:kk)(t:AT) k:=t.tm.want getM gx k (a.es,a.more)
def dK(a:kk)(r:List (Value×AV)×Bool):kk:=⟨a.ds,r.1,r.2⟩
def gW(b:Bool):Int:=bif b then 53 else 0
def W1(x:pN):=([Ez,dn x.t, .int x.k],bR x.a)
def Wr n(x:pN):=x.t.tm.mL=n/\n<=100000
noncomputable def Is(κ:Kp)(x:pN):Out (AV×List Dn.Obj):= .one (.lit (bd κ (gW (aZ x.a x.t x.k).1)),bR (dK x.a (aZ x.a x.t x.k).2))
noncomputable def R8 κ n:=aO W1 (Wr n) (Is κ)
noncomputable def Vj κ r:=(EYo κ).aw 196 fun a st K=>∃m,m<r/\R8 κ m a st K
theorem xWt κ r a t k i I n K:(vc (Vj κ r) 12 196 none 2 (ad (Pr κ).toProgram 196 2) (sp 56 [(0,Ez),(2, .int k),(4, .ptr 2 0 [] 0),(12, .ah 38 t.l),(13, .int t.l.length),(14, .int i)] (bR a++[.box 38 (dn t)])) (bj (Vj κ r) 196 2 2 I n K))=(
 letI b:=AV.ptr 0 0 []
 letI c:=AV.int
 letI d:=Obj.box
 letI e:=nth t.l i.toNat
 letI h:=i<(↑(t.l.length):Int)
 aq (decide h) (aV (decide ((0:Int)<=i)&&decide h) (∃(e2:Nat),e2<r/\∃(e1:pN),letI f:=dK e1.a (Prod.snd (aZ e1.a e1.t e1.k));letI g:=bd κ (gW (Prod.fst (aZ e1.a e1.t e1.k)));([b 0,AV.agg [c (toInt (ag e 0)),AV.str (toStr (ag e 1)),c (toInt (ag e 2)),AV.ah 38 (af (ag e 3))],c 1],(bR a))=([b 0,dn e1.t,c e1.k],(bR e1.a))/\(Tm.mL (AT.tm e1.t)=e2/\e2<=100000)/\aV (aD g) (aq (!bO g) (K Exit.ret (sp 56 [(6,AV.lit g)] (bR f))) (∃(e0:Nat),e0<n/\I e0 (sp 56 [(0,b 0),(2,c k),(4,AV.ptr 2 0 [] 0),(12,AV.ah 38 t.l),(13,c (↑(t.l.length):Int)),(14,c (IntKind.wrap IntKind.i64 (i+(1:Int))))] [d 219 (AV.agg [AV.ah 43 (kk.ds f),AV.mp 1,AV.bool (kk.more f)]),Dn.Obj.map 9 3 (kk.es f),d 38 (dn t)]))))) (K (Exit.exit 0) (sp 56 [(0,b 0),(2,c k),(4,AV.ptr 2 0 [] 0)] [d 219 (AV.agg [AV.ah 43 a.ds,AV.mp 1,AV.bool a.more]),Dn.Obj.map 9 3 a.es,d 38 (dn t)]))):=by kernel_rfl
abbrev XM:=pN×Int
abbrev af9(x:XM):=sp 56 [(0,Ez),(2, .int x.1.k),(4, .ptr 2 0 [] 0),(12, .ah 38 x.1.t.l),(13, .int x.1.t.l.length),(14, .int x.2)] (bR x.1.a++[.box 38 (dn x.1.t)])
def Pf r(x:XM):=x.1.t.l.length<=aW/\0<=x.2/\x.2<=x.1.t.l.length/\bk (aa (x.1.t.l.drop x.2.toNat))<r/\bk (aa (x.1.t.l.drop x.2.toNat))<=100000
def gj(x:XM):=jr getM gx (aa (x.1.t.l.drop x.2.toNat)) (x.1.a.es,x.1.a.more)
noncomputable def Ir(κ:Kp)(x:XM):Out (Exit×S):= .aq (gj x).1 (.one (.ret,sp 56 [(6, .lit (bd κ 53))] (bR (dK x.1.a (gj x).2))))
 (.one (.exit 0,sp 56 [(0,Ez),(2, .int x.1.k),(4, .ptr 2 0 [] 0)] (bR (dK x.1.a (gj x).2)++[.box 38 (dn x.1.t)])))
theorem An b:decide (gW b=0)= !b:=by cases b<;>rfl
theorem lWt κ r:aU (Vj κ r) 12 196 2 (aG 2 af9 (Pf r) (Ir κ)):=by
 refine aC (fun x=>x.1.t.l.length - x.2.toNat) ?_;rintro⟨⟨a,t,k⟩,i⟩ K ⟨f,g,p,m,h⟩ b;simp only at f g p m h;rw[show(Vj κ r).P=Pr κ from rfl];refine Eq.mpr (xWt κ r a t k i _ _ K) ?_;simp only[aW] at f;simp only[Ir,Out.run,ae] at b;rw[ae,ar4,ar6];refine⟨fun j=>?_,fun j=>?_⟩
 ·have o:i.toNat<t.l.length:=by omega
  have e:=eT t.l i.toNat o;have d:gj (⟨a,t,k⟩,i)=bif (aZ a (eG (nth t.l i.toNat)) 1).1 then aZ a (eG (nth t.l i.toNat)) 1 else gj (⟨dK a (aZ a (eG (nth t.l i.toNat)) 1).2,t,k⟩,i+1):=by
   unfold gj aZ;simp only[show(i+1).toNat=i.toNat+1 by omega];rw[e,jr,iB];rfl
  rw[e,bk] at m h;rw[d] at b;rw[ai,ar5,ar4,ar4];refine⟨⟨g,j⟩,(cI (nth t.l i.toNat)).mL,by omega,⟨a,eG (nth t.l i.toNat),1⟩,rfl,⟨by rw[iB],by omega⟩,?_⟩;rw[ai];refine⟨cD _ _,?_⟩;rw[jA,An,Bool.not_not,ae];refine⟨fun c=>?_,fun c=>?_⟩
  ·simp only[c,as1] at b⊢
   exact b.1 trivial
  ·simp only[c,ar9] at b
   rw[az (n:=i+1) (by omega) (by omega)];refine⟨_,?_,(⟨dK a (aZ a (eG (nth t.l i.toNat)) 1).2,t,k⟩,i+1),rfl,⟨by simpa[aW] using f,by simp only;omega,by simp only;omega,?_,?_⟩,rfl,?_⟩
   ·simp only;omega
   ·simp only[show(i+1).toNat=i.toNat+1 by omega];omega
   ·simp only[show(i+1).toNat=i.toNat+1 by omega];omega
   ·simp only[Ir,Out.run,ae]
    exact b
 ·have d:gj (⟨a,t,k⟩,i)=(false,(a.es,a.more)):=by
   unfold gj;simp only;rw[as2 (by omega)];rfl
  rw[d] at b;exact b.2 rfl
noncomputable def Yl κ r:=(Vj κ r).an 196 2 (aG 2 af9 (Pf r) (Ir κ))
theorem yWt κ r a t k K:(a0 (Yl κ r) 12 196 [Ez,dn t, .int k] (bR a) K)=(
 letI b:=AV.ptr 0 0 []
 letI c:=AV.int
 letI d:=Obj.box
 letI e:=Dn.Obj.map
 letI h:=AV.lit Value.nilIface
 letI i:=Pg.toProgram (Env.P (Vj κ r))
 ad i 196 2=ad i 196 2/\∃(e1:XM),letI f:=Value.string e1.1.t.s;letI j:=aa (List.drop e1.2.toNat e1.1.t.l);letI l:=bR (dK e1.1.a (Prod.snd (gj e1)));sp 56 [(0,b 0),(2,c k),(4,AV.ptr 2 0 [] 0),(12,AV.ah 38 t.l),(13,c (↑(t.l.length):Int)),(14,c 0)] [d 219 (AV.agg [AV.ah 43 a.ds,AV.mp 1,AV.bool a.more]),e 9 3 a.es,d 38 (dn t)]=sp 56 [(0,b 0),(2,c e1.1.k),(4,AV.ptr 2 0 [] 0),(12,AV.ah 38 e1.1.t.l),(13,c (↑(List.length e1.1.t.l):Int)),(14,c e1.2)] [d 219 (AV.agg [AV.ah 43 e1.1.a.ds,AV.mp 1,AV.bool e1.1.a.more]),e 9 3 e1.1.a.es,d 38 (dn e1.1.t)]/\(List.length e1.1.t.l<=9223372036854775807/\(0:Int)<=e1.2/\e1.2<=(↑(List.length e1.1.t.l):Int)/\bk j<r/\bk j<=100000)/\aq (Prod.fst (gj e1)) (K (AV.lit (Value.iface 273 (Value.pointer (some (Ta κ (53:Int)))))) l) (∃(e0:kk×AT),letI g:=K h (bR e0.1);([b 0,dn e1.1.t],l)=([b 0,dn e0.2],(bR e0.1))/\True/\aq (e1.1.k==(0:Int)) g (aq (e1.1.t.op==(4:Int)) g (aq (bF getM (AT.tm e0.2) e0.1.es==(0:Int)) (K h [d 219 (AV.agg [AV.ah 43 e0.1.ds,AV.mp 1,AV.bool true]),e 9 3 (eE (eE e0.1.es f (c (toInt (c6 e0.1.es f (c 0))))) f (c e1.1.k))]) (aq (bF getM (AT.tm e0.2) e0.1.es != e1.1.k) (K (AV.lit (Value.iface 273 (Value.pointer (some (Kp.type κ))))) (bR e0.1)) g))))):=by kernel_rfl
theorem Jg s v w: ∀a,eE (eE a (.string s) v) (.string s) w=eE a (.string s) w
 |[]=>by simp[eE,ef]
 |(c,b)::a=>by
  rw[eE,eE];cases h:ef _ _ with
  |true=>simp[eE,ef]
  |false=>simp[eE,h,Jg s v w _]
theorem K1 κ n:(R8 κ n).fU:=aI
theorem eYr κ r(d: ∀a st K,(∃m,m<r/\R8 κ m a st K)->b7 (Pr κ) 196 a st K):aE (Yl κ r)/\aj (Yl κ r)/\(Yl κ r).P=Pr κ:=
 have h:=(eYo _).fK d;have b:=(mYo _).aw fun _ _ _ _ e ⟨m,f,c⟩=>⟨m,f,K1 _ m _ _ _ _ e c⟩
 ⟨h.an b (lWt _ r),b.an aJ,rfl⟩
theorem cWt κ r:bc (Yl κ r) 12 196 (R8 κ r):=by
 refine aR ?_;rintro⟨a,t,k⟩ K ⟨g,n⟩ b;refine Eq.mpr (yWt κ r a t k K) ?_;simp only[Is,Out.run] at b;have m:t.tm.mL=1+bk (aa t.l):=rfl;have i:=gI (aa t.l);rw[eD] at i;simp only at g;refine⟨rfl,(⟨a,t,k⟩,0),rfl,⟨by simp only[aW];omega,by simp only;omega,by simp only;omega,by simp only[Int.toNat_zero,as4];omega,by simp only[Int.toNat_zero,as4];omega⟩,?_⟩;have h:aZ a t k=bif (gj (⟨a,t,k⟩,0)).1 then gj (⟨a,t,k⟩,0) else bif decide (k=0)||decide (t.op=4) then(false,(gj (⟨a,t,k⟩,0)).2)
   else bif decide (bF getM t.tm (gj (⟨a,t,k⟩,0)).2.1=0) then(false,(gx (gj (⟨a,t,k⟩,0)).2.1 t.s k,true)) else(!decide (bF getM t.tm (gj (⟨a,t,k⟩,0)).2.1=k),(gj (⟨a,t,k⟩,0)).2):=by
  unfold aZ gj;rw[AT.tm,Tm.want];rfl
 rw[h] at b;simp only[Xq,Mp];cases hd:(gj (⟨a,t,k⟩,0)).1 with
 |true=>
  rw[hd,as1,hd] at b;exact b
 | false=>
  rw[hd,ar9] at b;refine⟨(dK a (gj (⟨a,t,k⟩,0)).2,t),rfl,trivial,?_⟩;cases c:decide (k=0) with
  |true=>rw[c] at b;exact b
  | false=>
   rw[c] at b;cases e:decide (t.op=4) with
   |true=>rw[e] at b;exact b
   | false=>
    rw[e] at b;rw[show(false||false)=false from rfl,ar9] at b;have j:bF getM t.tm (dK a (gj (⟨a,t,k⟩,0)).2).es=bF getM t.tm (gj (⟨a,t,k⟩,0)).2.1:=rfl;simp only[j];cases f:decide (bF getM t.tm (gj (⟨a,t,k⟩,0)).2.1=0) with
    |true=>
     rw[f,as1] at b;simp only[aq,Jg];exact b
    |false=>
     rw[f,ar9] at b;cases d:decide (bF getM t.tm (gj (⟨a,t,k⟩,0)).2.1=k) with
     |true=>rw[d] at b;exact b
     |false=>rw[d] at b;exact b
def dk(x:pN):=x.t.tm.mL<=100000
theorem qWt κ: ∀b st K,aO W1 dk (Is κ) b st K->b7 (Pr κ) 196 b st K:=by
 rintro b st K ⟨a,d,e,c⟩;exact aE.pj _ _ (eYr _) (cWt _) _ _ _ K ⟨a,d,⟨rfl,e⟩,c⟩
noncomputable def QR κ:=(EYo κ).aw 196 (aO W1 dk (Is κ))
theorem eYw κ:aE (QR κ):=(eYo _).fK (qWt _)
theorem mYw κ:aj (QR κ):=(mYo _).aw aI
def YP(x:AV):Dc:=⟨toStr (ag x 0),(af (ag x 2)).map toInt⟩
def cO(l:List AV):List Dc:=l.map YP
theorem wa s: ∀ds i,mo s ds i=match kL s (cO ds) with|some k=>i+k|none=> -1
 |[],i=>rfl
 |d::ds,i=>by
  have a:=wa s ds (i+1)
  grind [mo,cO,YP,kL]
theorem Cz s: ∀ds k,kL s ds=some k->k<ds.length
 |[],_,h=>by cases h
 | d::ds,k,h=>by
  rw[kL] at h;cases e:oh d.rel s with
  |true=>grind
  | false=>
   rw[e] at h;cases a:kL s ds with
   |none=>grind
   |some j=>
    rw[a] at h;have:=Cz s ds j a
    grind
theorem wh{s ds}(h:kL s (cO ds)=none):CE s ds=false/\bx s ds=0:=by
 grind [wa,CE,bx]
theorem om{s ds k}(h:kL s (cO ds)=some k):CE s ds=true/\bx s ds=k/\k<ds.length:=by
 have e:=wa s ds 0;have a:=Cz s _ k h
 grind [CE,bx,cO]
def mb ds(i:Int):=(af (ag (nth ds i.toNat) 2)).map toInt
theorem yc{s ds k}(h:kL s (cO ds)=some k):di (cO ds) s=mb ds k:=by
 obtain⟨_,_,a⟩:=om h;unfold di mb;rw[h,aM _ _ _];simp only[cO];rw[List.getD_eq_getElem?_getD,List.getElem?_map,as8 a];rfl
theorem Kb ds a l:known (cO ds) ⟨a,aa l⟩=bif CE a ds then bif decide ((mb ds (bx a ds)).length=l.length) then 0 else 52 else 51:=by
 unfold known;cases h:kL _ _<;>simp_all[wh,om,yc,eD]
theorem SS{ds i k}(h:k<(mb ds i).length):(mb ds i).drop k=toInt (nth (af (ag (nth ds i.toNat) 2)) k)::(mb ds i).drop (k+1):=by
 grind [List.drop_eq_getElem_cons,mb,aM]
structure XD where
 a:kk
 fi:Int
 l:List AV
 k:Int
abbrev WC(x:XD):=sp 65 [(0,Ez),(5, .int x.fi),(40, .ah 38 x.l),(41, .int x.l.length),(42, .int x.k)] (bR x.a)
theorem xAt κ x I n K:(vc (QR κ) 12 180 none 2 (ad (Pr κ).toProgram 180 7) (WC x) (bj (QR κ) 180 7 2 I n K))=(
 letI a:=AV.ptr 0 0 []
 letI b:=AV.int
 letI c:=nth x.l x.k.toNat
 letI e:=af (ag (nth x.a.ds x.fi.toNat) 2)
 letI f:=x.k<(↑(x.l.length):Int)
 aq (decide f) (aV (decide ((0:Int)<=x.k)&&decide f) (aV (decide ((0:Int)<=x.fi)&&decide (x.fi<(↑(List.length x.a.ds):Int))) (aV (decide ((0:Int)<=x.k)&&decide (x.k<(↑(List.length e):Int))) (∃(e1:pN),letI d:=bd κ (gW (Prod.fst (aZ e1.a e1.t e1.k)));letI g:=bR (dK e1.a (Prod.snd (aZ e1.a e1.t e1.k)));([a 0,AV.agg [b (toInt (ag c 0)),AV.str (toStr (ag c 1)),b (toInt (ag c 2)),AV.ah 38 (af (ag c 3))],b (toInt (nth e x.k.toNat))],(bR x.a))=([a 0,dn e1.t,b e1.k],(bR e1.a))/\dk e1/\aV (aD d) (aq (!bO d) (K Exit.ret (sp 65 [(4,AV.lit d)] g)) (∃(e0:Nat),e0<n/\I e0 (sp 65 [(0,a 0),(5,b x.fi),(40,AV.ah 38 x.l),(41,b (↑(x.l.length):Int)),(42,b (IntKind.wrap IntKind.i64 (x.k+(1:Int))))] g))))))) (K (Exit.exit 1) (sp 65 [] (bR x.a)))):=by kernel_rfl
def jG(x:XD):=jX getM gx ((mb x.a.ds x.fi).drop x.k.toNat) (aa (x.l.drop x.k.toNat)) (x.a.es,x.a.more)
def OK(x:XD):=0<=x.fi/\x.fi<x.a.ds.length/\(mb x.a.ds x.fi).length=x.l.length/\x.l.length<=aW/\0<=x.k/\x.k<=x.l.length/\bk (aa (x.l.drop x.k.toNat))<=100000
noncomputable def Ig(κ:Kp)(x:XD):Out (Exit×S):= .aq (jG x).1 (.one (.ret,sp 65 [(4, .lit (bd κ 53))] (bR (dK x.a (jG x).2)))) (.one (.exit 1,sp 65 [] (bR (dK x.a (jG x).2))))
theorem lAt κ:aU (QR κ) 12 180 7 (aG 2 WC OK (Ig κ)):=by
 refine aC (fun x=>x.l.length - x.k.toNat) ?_;rintro⟨a,b,l,k⟩ K ⟨j,f,r,p,g,u,q⟩ c;simp only at j f r p g u q;rw[show(QR κ).P=Pr κ from rfl];refine Eq.mpr (xAt κ ⟨a,b,l,k⟩ _ _ K) ?_;simp only[aW] at p;simp only[Ig,Out.run,ae] at c;have h:(af (ag (nth a.ds b.toNat) 2)).length=(mb a.ds b).length:=by simp[mb]
 rw[ae,ar4,ar6];refine⟨fun d=>?_,fun d=>?_⟩
 ·simp only at d
  have s:k.toNat<l.length:=by omega
  have e:=eT l k.toNat s;have t:=SS (ds:=a.ds) (i:=b) (k:=k.toNat) (by omega);have o:jG ⟨a,b,l,k⟩=bif (aZ a (eG (nth l k.toNat)) (toInt (nth (af (ag (nth a.ds b.toNat) 2)) k.toNat))).1 then aZ a (eG (nth l k.toNat)) (toInt (nth (af (ag (nth a.ds b.toNat) 2)) k.toNat)) else jG ⟨dK a (aZ a (eG (nth l k.toNat)) (toInt (nth (af (ag (nth a.ds b.toNat) 2)) k.toNat))).2,b,l,k+1⟩:=by
   unfold jG aZ;simp only[show(k+1).toNat=k.toNat+1 by omega];rw[e,t,jX,iB];rfl
  rw[e,bk] at q;rw[o] at c;simp only[ai,ar5,ar4,h];refine⟨⟨g,d⟩,⟨j,f⟩,⟨g,by omega⟩,⟨a,eG (nth l k.toNat),toInt (nth (af (ag (nth a.ds b.toNat) 2)) k.toNat)⟩,rfl,by show(eG (nth l k.toNat)).tm.mL<=100000;rw[iB];omega,cD _ _,?_⟩;rw[jA,An,Bool.not_not,ae];refine⟨fun m=>?_,fun m=>?_⟩
  ·simp only[m,as1] at c⊢
   exact c.1 trivial
  ·simp only[m,ar9] at c
   rw[az (n:=k+1) (by omega) (by omega)];refine⟨_,?_,⟨dK a (aZ a (eG (nth l k.toNat)) (toInt (nth (af (ag (nth a.ds b.toNat) 2)) k.toNat))).2,b,l,k+1⟩,rfl,⟨j,f,r,by simpa[aW] using p,by simp only;omega,by simp only;omega,?_⟩,rfl,?_⟩
   ·simp only;omega
   ·simp only[show(k+1).toNat=k.toNat+1 by omega];omega
   ·simp only[Ig,Out.run,ae]
    exact c
 ·simp only at d
  have o:jG ⟨a,b,l,k⟩=(false,(a.es,a.more)):=by
   unfold jG;simp only;rw[as2 (show l.length<=k.toNat by omega),as2 (show(mb a.ds b).length<=k.toNat by omega)];rfl
  rw[o] at c;exact c.2 rfl
noncomputable def Yj κ:=(QR κ).an 180 7 (aG 2 WC OK (Ig κ))
theorem eYl κ:aE (Yj κ):=(eYw _).an (mYw _) (lAt _)
theorem mYl κ:aj (Yj κ):=(mYw _).an aJ
theorem yAt κ a rel l K:(a0 (Yj κ) 12 180 [Ez, .agg [.lit (.string rel), .ah 38 l]] (bR a) K)=(
 letI b:=AV.int
 letI c:=Pg.toProgram (Env.P (QR κ))
 ∃(e1:List AV×ByteArray),([AV.ah 43 a.ds,AV.str rel],aL)=([AV.ah 43 e1.1,AV.str e1.2],aL)/\ix e1/\aq (!CE e1.2 e1.1) (K (AV.lit (Value.iface 273 (Value.pointer (some (Kp.fG κ))))) (bR a)) (aV (decide ((0:Int)<=bx e1.2 e1.1)&&decide (bx e1.2 e1.1<(↑(a.ds.length):Int))) (aq ((↑(List.length (af (ag (nth a.ds (Int.toNat (bx e1.2 e1.1))) 2))):Int) != (↑(l.length):Int)) (K (AV.lit (Value.iface 273 (Value.pointer (some (Kp.arity κ))))) (bR a)) (ad c 180 7=ad c 180 7/\∃(e0:XD),letI d:=bR (dK e0.a (Prod.snd (jG e0)));sp 65 [(0,AV.ptr 0 0 [] 0),(5,b (bx e1.2 e1.1)),(40,AV.ah 38 l),(41,b (↑(l.length):Int)),(42,b 0)] (bR a)=sp 65 [(0,AV.ptr 0 0 [] 0),(5,b e0.fi),(40,AV.ah 38 e0.l),(41,b (↑(e0.l.length):Int)),(42,b e0.k)] (bR e0.a)/\((0:Int)<=e0.fi/\e0.fi<(↑(List.length e0.a.ds):Int)/\List.length (mb e0.a.ds e0.fi)=e0.l.length/\e0.l.length<=9223372036854775807/\(0:Int)<=e0.k/\e0.k<=(↑(e0.l.length):Int)/\bk (aa (List.drop e0.k.toNat e0.l))<=100000)/\aq (Prod.fst (jG e0)) (K (AV.lit (Value.iface 273 (Value.pointer (some (Ta κ (53:Int)))))) d) (K (AV.lit Value.nilIface) d))))):=by kernel_rfl
def dz(a:kk) b l:=fb getM gx (cO a.ds) ⟨b,aa l⟩ (a.es,a.more)
abbrev Ur:=kk×ByteArray×List AV
def ac9(x:Ur):=([Ez, .agg [.lit (.string x.2.1), .ah 38 x.2.2]],bR x.1)
def OJ(x:Ur):=x.1.ds.length<=aW/\bk (aa x.2.2)<=100000
noncomputable def NZ(κ:Kp)(x:Ur):Out (AV×List Dn.Obj):= .one (.lit (bd κ (dz x.1 x.2.1 x.2.2).1),bR (dK x.1 (dz x.1 x.2.1 x.2.2).2))
theorem cAc κ:bc (Yj κ) 12 180 (aO ac9 OJ (NZ κ)):=by
 refine aR ?_;rintro⟨a,c,l⟩ K ⟨h,n⟩ b;simp only at h n;refine Eq.mpr (yAt κ a c l K) ?_;simp only[NZ,Out.run,dz,fb,Kb] at b;have m:=gI (aa l);rw[eD] at m;refine⟨(a.ds,c),rfl,h,?_⟩;cases f:kL c (cO a.ds) with
 |none=>
  rw[(wh f).1] at b;simp only[(wh f).1];exact b
 | some k=>
  obtain⟨i,j,o⟩:=om f;rw[i,j,yc f] at b;have g:(af (ag (nth a.ds (Int.toNat (k:Int))) 2)).length=(mb a.ds k).length:=by simp[mb]
  simp only[i,j,g,Mp];refine ai.2 ⟨by simp;omega,?_⟩;cases d:decide ((mb a.ds k).length=l.length) with
  |false=>
   rw[d] at b;rw[ar6] at d;rw[ar8 (show ¬ (((mb a.ds k).length:Int)=(l.length:Int)) by omega)];exact b
  | true=>
   rw[d] at b;rw[ar4] at d;rw[as0 (show(((mb a.ds k).length:Int)=(l.length:Int)) by omega)];refine⟨trivial,⟨a,k,l,0⟩,rfl,by grind,?_⟩;have hd:jG ⟨a,k,l,0⟩=jX getM gx (mb a.ds k) (aa l) (a.es,a.more):=by
    unfold jG;simp only[Int.toNat_zero,as4]
   rw[hd];simp only[as1,decide_true] at b;rw[ae];refine⟨fun e=>by rw[e] at b;exact b,fun e=>by rw[e] at b;exact b⟩
noncomputable def Yi κ:=(Yj κ).aw 180 (aO ac9 OJ (NZ κ))
theorem eYa κ:aE (Yi κ):=(eYl _).aw (mYl _) (cAc _)
theorem mYa κ:aj (Yi κ):=(mYl _).aw aI
theorem yLi(κ:Kp)(a:kk)(op:Int) rel l(u v:AT) K:(a0 (Yi κ) 12 181 [Ez, .agg [.int op, .agg [.lit (.string rel), .ah 38 l],dn u,dn v]] (bR a) K)=(
 letI b:=AV.ptr 0 0 []
 letI c:=AV.int
 letI d:=AV.lit
 letI j:=∃(e3:kk×AT),letI n:=AT.tm e3.2;([b 0,dn u],(bR a))=([b 0,dn e3.2],(bR e3.1))/\True/\∃(e2:kk×AT),letI f:=if bF getM (AT.tm e2.2) e2.1.es>bF getM n e3.1.es then bF getM (AT.tm e2.2) e2.1.es else bF getM n e3.1.es;([b 0,dn v],(bR e3.1))=([b 0,dn e2.2],(bR e2.1))/\True/\∃(e1:pN),letI e:=bd κ (gW (Prod.fst (aZ e1.a e1.t e1.k)));letI g:=bR (dK e1.a (Prod.snd (aZ e1.a e1.t e1.k)));([b 0,dn u,c f],(bR e2.1))=([b 0,dn e1.t,c e1.k],(bR e1.a))/\dk e1/\aV (aD e) (aq (!bO e) (K (d e) g) (∃(e0:pN),([b 0,dn v,c f],g)=([b 0,dn e0.t,c e0.k],(bR e0.a))/\dk e0/\K (d (bd κ (gW (Prod.fst (aZ e0.a e0.t e0.k))))) (bR (dK e0.a (Prod.snd (aZ e0.a e0.t e0.k))))))
 letI o:=∃(e0:Ur),([b 0,AV.agg [AV.str rel,AV.ah 38 l]],(bR a))=([b 0,AV.agg [AV.str e0.2.1,AV.ah 38 e0.2.2]],(bR e0.1))/\
  (e0.1.ds.length<=9223372036854775807/\bk (aa e0.2.2)<=100000)/\K (d (bd κ (Prod.fst (dz e0.1 e0.2.1 e0.2.2)))) (bR (dK e0.1 (Prod.snd (dz e0.1 e0.2.1
  e0.2.2))))
 letI h:=j/\j/\j
 aq (op==(3:Int)) h (aq (op==(4:Int)) h (aq (op==(5:Int)) h (aq (op==(6:Int)) h (aq (op==(1:Int)) o (aq (op==(2:Int)) o (∃(e2:Ur),letI p:=dz e2.1 e2.2.1 e2.2.2;letI k:=bd κ (Prod.fst p);letI q:=bR (dK e2.1 (Prod.snd p));([b 0,AV.agg [AV.str rel,AV.ah 38 l]],(bR a))=([b 0,AV.agg [AV.str e2.2.1,AV.ah 38 e2.2.2]],(bR e2.1))/\(e2.1.ds.length<=9223372036854775807/\bk (aa e2.2.2)<=100000)/\aV (aD k) (aq (!bO k) (K (d k) q) (∃(e1:pN),letI i:=bd κ (gW (Prod.fst (aZ e1.a e1.t e1.k)));letI m:=bR (dK e1.a (Prod.snd (aZ e1.a e1.t e1.k)));([b 0,dn u,c 1],q)=([b 0,dn e1.t,c e1.k],(bR e1.a))/\dk e1/\aV (aD i) (aq (!bO i) (K (d i) m) (aq (op==(7:Int)) (K (d i) m) (∃(e0:pN),([b 0,dn v,c 1],m)=([b 0,dn e0.t,c e0.k],(bR e0.a))/\dk e0/\K (d (bd κ (gW (Prod.fst (aZ e0.a e0.t e0.k))))) (bR (dK e0.a (Prod.snd (aZ e0.a e0.t e0.k)))))))))))))))):=by kernel_rfl
structure Hb where
 a:kk
 op:Int
 rel:ByteArray
 l:List AV
 u:AT
 v:AT
def Hb.lt(x:Hb):Lt:=⟨x.op,⟨x.rel,aa x.l⟩,x.u.tm,x.v.tm⟩
def bX(x:Hb):=kU getM gx (cO x.a.ds) x.lt (x.a.es,x.a.more)
def ad9(x:Hb):=([Ez, .agg [.int x.op, .agg [.lit (.string x.rel), .ah 38 x.l],dn x.u,dn x.v]],bR x.a)
def OV(x:Hb):=x.a.ds.length<=aW/\jS x.lt<=100000
noncomputable def TD(κ:Kp)(x:Hb):Out (AV×List Dn.Obj):= .one (.lit (bd κ (bX x).1),bR (dK x.a (bX x).2))
def kd(a:kk)(u v:AT):=if bF getM v.tm a.es>bF getM u.tm a.es then bF getM v.tm a.es else bF getM u.tm a.es
theorem Y1(x:Hb):lI getM x.lt x.a.es=kd x.a x.u x.v:=by
 unfold lI kd;show(bif decide (bF _ x.v.tm _>bF _ x.u.tm _) then _ else _)=_
 by_cases h:bF getM x.v.tm x.a.es>bF getM x.u.tm x.a.es
 ·rw[as0 h,if_pos h];rfl
 ·rw[ar8 h,if_neg h];rfl
theorem A7 κ b:(!bO (bd κ (gW b)))=b:=by rw[jA,An,Bool.not_not]
theorem cLi κ:bc (Yi κ) 12 181 (aO ad9 OV (TD κ)):=by
 refine aR ?_;rintro⟨a,op,c,l,u,v⟩ K ⟨s,o⟩ f;simp only at s;refine Eq.mpr (yLi κ a op c l u v K) ?_;have f:K (.lit (bd κ (bX ⟨a,op,c,l,u,v⟩).1)) (bR (dK a (bX ⟨a,op,c,l,u,v⟩).2)):=f;have o:bk [u.tm,v.tm]+bk (aa l)<=100000:=o;simp only[bk] at o;have i:dk ⟨a,u,kd a u v⟩:=by show u.tm.mL<=100000;omega
 have g:dk ⟨dK a (aZ a u (kd a u v)).2,v,kd a u v⟩:=by show v.tm.mL<=100000;omega
 have k:gG op=true->bX ⟨a,op,c,l,u,v⟩=kI (aZ a u (kd a u v)) (v.tm.want getM gx (kd a u v)):=fun d=>by
  unfold bX kU;rw[Y1 ⟨a,op,c,l,u,v⟩,show(Hb.lt ⟨a,op,c,l,u,v⟩).op=op from rfl,d];rfl
 have h:gG op=true->(!bO (bd κ (gW (aZ a u (kd a u v)).1)))=true->K (.lit (bd κ (gW (aZ a u (kd a u v)).1))) (bR (dK a (aZ a u (kd a u v)).2)):=fun d q=>by
  rw[A7] at q;rw[k d] at f;unfold kI at f;rw[q] at f⊢;exact f
 have j:gG op=true->(!bO (bd κ (gW (aZ a u (kd a u v)).1)))=false->K (.lit (bd κ (gW (aZ (dK a (aZ a u (kd a u v)).2) v (kd a u v)).1))) (bR (dK (dK a (aZ a u (kd a u v)).2) (aZ (dK a (aZ a u (kd a u v)).2) v (kd a u v)).2)):=fun d q=>by
  rw[A7] at q;rw[k d] at f;unfold kI at f;rw[q] at f;exact f
 have n: ∀b:kk,b=a->(b.ds.length<=9223372036854775807/\bk (aa l)<=100000):=fun b D=>by subst D;exact⟨s,by omega⟩
 have x:gG op=false->(decide (op=1)||decide (op=2))=true->bX ⟨a,op,c,l,u,v⟩=dz a c l:=fun d p=>by
  unfold bX kU;rw[show(Hb.lt ⟨a,op,c,l,u,v⟩).op=op from rfl,d,p];rfl
 refine ae.2 ⟨fun e=>by
   have d:gG op=true:=(by rw[show op=3 from eq_of_beq e];rfl)
   exact⟨⟨(a,u),rfl,trivial,(a,v),rfl,trivial,⟨a,u,_⟩,rfl,i,ai.2 ⟨cD _ _,ae.2 ⟨fun q=>h d q,fun q=>⟨⟨_,v,_⟩,rfl,g,j d q⟩⟩⟩⟩,
    ⟨(a,u),rfl,trivial,(a,v),rfl,trivial,⟨a,u,_⟩,rfl,i,ai.2 ⟨cD _ _,ae.2 ⟨fun q=>h d q,fun q=>⟨⟨_,v,_⟩,rfl,g,j d q⟩⟩⟩⟩,
    ⟨(a,u),rfl,trivial,(a,v),rfl,trivial,⟨a,u,_⟩,rfl,i,ai.2 ⟨cD _ _,ae.2 ⟨fun q=>h d q,fun q=>⟨⟨_,v,_⟩,rfl,g,j d q⟩⟩⟩⟩⟩,fun A=>ae.2 ⟨fun e=>by
   have d:gG op=true:=(by rw[show op=4 from eq_of_beq e];rfl)
   exact⟨⟨(a,u),rfl,trivial,(a,v),rfl,trivial,⟨a,u,_⟩,rfl,i,ai.2 ⟨cD _ _,ae.2 ⟨fun q=>h d q,fun q=>⟨⟨_,v,_⟩,rfl,g,j d q⟩⟩⟩⟩,
    ⟨(a,u),rfl,trivial,(a,v),rfl,trivial,⟨a,u,_⟩,rfl,i,ai.2 ⟨cD _ _,ae.2 ⟨fun q=>h d q,fun q=>⟨⟨_,v,_⟩,rfl,g,j d q⟩⟩⟩⟩,
    ⟨(a,u),rfl,trivial,(a,v),rfl,trivial,⟨a,u,_⟩,rfl,i,ai.2 ⟨cD _ _,ae.2 ⟨fun q=>h d q,fun q=>⟨⟨_,v,_⟩,rfl,g,j d q⟩⟩⟩⟩⟩,fun B=>ae.2 ⟨fun e=>by
   have d:gG op=true:=(by rw[show op=5 from eq_of_beq e];rfl)
   exact⟨⟨(a,u),rfl,trivial,(a,v),rfl,trivial,⟨a,u,_⟩,rfl,i,ai.2 ⟨cD _ _,ae.2 ⟨fun q=>h d q,fun q=>⟨⟨_,v,_⟩,rfl,g,j d q⟩⟩⟩⟩,
    ⟨(a,u),rfl,trivial,(a,v),rfl,trivial,⟨a,u,_⟩,rfl,i,ai.2 ⟨cD _ _,ae.2 ⟨fun q=>h d q,fun q=>⟨⟨_,v,_⟩,rfl,g,j d q⟩⟩⟩⟩,
    ⟨(a,u),rfl,trivial,(a,v),rfl,trivial,⟨a,u,_⟩,rfl,i,ai.2 ⟨cD _ _,ae.2 ⟨fun q=>h d q,fun q=>⟨⟨_,v,_⟩,rfl,g,j d q⟩⟩⟩⟩⟩,fun E=>ae.2 ⟨fun e=>by
   have d:gG op=true:=(by rw[show op=6 from eq_of_beq e];rfl)
   exact⟨⟨(a,u),rfl,trivial,(a,v),rfl,trivial,⟨a,u,_⟩,rfl,i,ai.2 ⟨cD _ _,ae.2 ⟨fun q=>h d q,fun q=>⟨⟨_,v,_⟩,rfl,g,j d q⟩⟩⟩⟩,
    ⟨(a,u),rfl,trivial,(a,v),rfl,trivial,⟨a,u,_⟩,rfl,i,ai.2 ⟨cD _ _,ae.2 ⟨fun q=>h d q,fun q=>⟨⟨_,v,_⟩,rfl,g,j d q⟩⟩⟩⟩,
    ⟨(a,u),rfl,trivial,(a,v),rfl,trivial,⟨a,u,_⟩,rfl,i,ai.2 ⟨cD _ _,ae.2 ⟨fun q=>h d q,fun q=>⟨⟨_,v,_⟩,rfl,g,j d q⟩⟩⟩⟩⟩,fun z=>?_⟩⟩⟩⟩
 simp only[beq_eq_false_iff_ne] at A B E z;have d:gG op=false:=by
  unfold gG;rw[Bool.and_eq_false_iff,ar6,ar6];omega
 refine ae.2 ⟨fun e=>⟨(a,c,l),rfl,n a rfl,?_⟩,fun w=>ae.2 ⟨fun e=>⟨(a,c,l),rfl,n a rfl,?_⟩,fun t=>?_⟩⟩
 ·rw[x d (by rw[show op=1 by simpa using e];rfl)] at f;exact f
 ·rw[x d (by rw[show op=2 by simpa using e];rfl)] at f;exact f
 simp only[beq_eq_false_iff_ne] at w t;have C:bX ⟨a,op,c,l,u,v⟩=bif !decide ((dz a c l).1=0) then dz a c l
   else bif decide (op=7) then(gW (aZ (dK a (dz a c l).2) u 1).1,(aZ (dK a (dz a c l).2) u 1).2)
   else kI (aZ (dK a (dz a c l).2) u 1) (v.tm.want getM gx 1):=by
  unfold bX kU;rw[show(Hb.lt ⟨a,op,c,l,u,v⟩).op=op from rfl,d,ar8 w,ar8 t];rfl
 rw[C] at f;refine⟨(a,c,l),rfl,n a rfl,ai.2 ⟨cD _ _,?_⟩⟩;rw[jA];refine ae.2 ⟨fun q=>?_,fun q=>?_⟩
 ·rw[q] at f;exact f
 ·rw[q,ar9] at f
  refine⟨⟨dK a (dz a c l).2,u,1⟩,rfl,by show u.tm.mL<=100000;omega,ai.2 ⟨cD _ _,?_⟩⟩;rw[A7];refine ae.2 ⟨fun m=>?_,fun m=>ae.2 ⟨fun r=>?_,fun r=>⟨⟨dK (dK a (dz a c l).2) (aZ (dK a (dz a c l).2) u 1).2,v,1⟩,rfl,by show v.tm.mL<=100000;omega,?_⟩⟩⟩
  ·have m:(aZ (dK a (dz a c l).2) u 1).1=true:=m
   unfold kI at f;rw[m] at f;simp only[m];cases y:decide (op=7)<;>rw[y] at f<;>exact f
  ·rw[show decide (op=7)=true by simpa using r] at f
   exact f
  ·have m:(aZ (dK a (dz a c l).2) u 1).1=false:=m
   rw[show decide (op=7)=false by simpa using r,ar9] at f;unfold kI at f;rw[m] at f;exact f
noncomputable def Ym κ:=(Yi κ).aw 181 (aO ad9 OV (TD κ))
theorem eYt κ:aE (Ym κ):=(eYa _).aw (mYa _) (cLi _)
theorem mYt κ:aj (Ym κ):=(mYa _).aw aI
theorem yCo κ v K:(a0 (Ym κ) 12 153 [.lit v] [] K)=(
 letI a:=Value.iface 273 (Value.pointer (some (Kp.arity κ)))
 letI b:=Value.iface 273 (Value.pointer (some (Kp.type κ)))
 letI c:=Value.iface 273 (Value.pointer (some (Kp.fG κ)))
 aV (kX κ v&&l7 κ c) (aq (gK v c) (K (AV.int 51) []) (aV (kX κ v&&l7 κ a) (aq (gK v a) (K (AV.int 52) []) (aV (kX κ v&&l7 κ b) (aq (gK v b) (K
 (AV.int 53) []) (K (AV.int 0) []))))))):=by kernel_rfl
noncomputable def RM(κ:Kp)(v:Value):Int:=bif gK v (bd κ 51) then 51 else bif gK v (bd κ 52) then 52 else bif gK v (bd κ 53) then 53 else 0
theorem NJ κ{e}(h:jQ e):RM κ (bd κ e)=e:=by
 unfold RM;rw[iw _ h (.inr (.inl rfl)),iw _ h (.inr (.inr (.inl rfl))),iw _ h (.inr (.inr (.inr rfl)))];rcases h with rfl|rfl|rfl|rfl<;>rfl
noncomputable def gCo(κ:Kp):List AV->Option (Bool×AV)
 |[.lit v]=>some (kX κ v, .int (RM κ v))
 |_=>none
theorem pCo κ:cd (Ym κ) 12 153 (gCo κ):=by
 intro h x b;unfold gCo at b;split at b
 ·simp only[ar7,as3] at b
  obtain⟨i,rfl⟩:=b;refine⟨_,rfl,rfl,?_⟩;obtain⟨e,a,rfl⟩:=(xd _ _).1 i;refine Eq.mpr (yCo κ _ _) ?_;rw[NJ κ a];have d: ∀k,wH k->(kX κ (bd κ e)&&l7 κ (bd κ k))=true:=fun k j=>by grind [Bd,Be]
  have c:Value.iface 273 (.pointer (some κ.fG))=bd κ 51:=rfl;have f:Value.iface 273 (.pointer (some κ.arity))=bd κ 52:=rfl;have g:Value.iface 273 (.pointer (some κ.type))=bd κ 53:=rfl;rw[c,f,g,d _ (.inl rfl),d _ (.inr (.inl rfl)),d _ (.inr (.inr rfl)),iw κ a (.inr (.inl rfl)),iw κ a (.inr (.inr (.inl rfl))),iw κ a (.inr (.inr (.inr rfl)))];rcases a with rfl|rfl|rfl|rfl<;>rfl
 ·cases b
noncomputable def QO κ:=(Ym κ).aK 153 (gCo κ)
theorem eYc κ:aE (QO κ):=(eYt _).aK (mYt _) (pCo _)
theorem mYc κ:aj (QO κ):=(mYt _).aK
structure Xe where
 a:kk
 w:Int
 bl:List AV
 i:Int
noncomputable abbrev SB κ(x:Xe):=sp 52 [(0,Ez),(5, .lit (bd κ x.w)),(14, .ah 80 x.bl),(15, .int x.bl.length),(16, .int x.i)] (bR x.a)
theorem xPa(κ:Kp)(x:Xe) I n K:(vc (QO κ) 12 152 none 2 (ad (Pr κ).toProgram 152 3) (SB κ x) (bj (QO κ) 152 3 2 I n K))=(
 letI a:=AV.ptr 0 0 []
 letI b:=AV.int
 letI c:=AV.agg
 letI d:=AV.str
 letI e:=AV.lit
 letI f:=Exit.ret
 letI g:=AV.ah
 letI k:=Value.iface 273 (Value.pointer (some (Kp.arity κ)))
 letI l:=Value.iface 273 (Value.pointer (some (Kp.fG κ)))
 letI j:=nth x.bl x.i.toNat
 letI q:=IntKind.wrap IntKind.i64 (x.i+(1:Int))
 letI o:=x.bl.length
 letI r:=Value.iface 273 (Value.pointer (some (Kp.type κ)))
 letI s:=kX κ (bd κ x.w)&&l7 κ l
 letI t:=kX κ (bd κ x.w)&&l7 κ k
 aq (decide (x.i<(↑o:Int))) (aV (decide ((0:Int)<=x.i)&&decide (x.i<(↑o:Int))) (∃(e1:Hb),letI h:=bd κ (Prod.fst (bX e1));letI i:=bR (dK e1.a (Prod.snd (bX e1)));letI p:=aV (kX κ h&&l7 κ l) (aq (gK h l) (K f (sp 52 [(4,e h)] i)) (aV (kX κ h&&l7 κ k) (aq (gK h k) (K f (sp 52 [(4,e h)] i)) (∃(e0:Nat),e0<n/\I e0 (sp 52 [(0,a 0),(5,e h),(14,g 80 x.bl),(15,b (↑o:Int)),(16,b q)] i)))));letI m:=aV s (aq (gK (bd κ x.w) l) (K f (sp 52 [(4,e (bd κ x.w))] i)) (aV t (aq (gK (bd κ x.w) k) (K f (sp 52 [(4,e (bd κ x.w))] i)) (∃(e0:Nat),e0<n/\I e0 (sp 52 [(0,a 0),(5,e (bd κ x.w)),(14,g 80 x.bl),(15,b (↑o:Int)),(16,b q)] i)))));([a 0,c [b (toInt (ag j 0)),c [d (toStr (ag (ag j 1) 0)),g 38 (af (ag (ag j 1) 1))],c [b (toInt (ag (ag j 2) 0)),d (toStr (ag (ag j 2) 1)),b (toInt (ag (ag j 2) 2)),g 38 (af (ag (ag j 2) 3))],c [b (toInt (ag (ag j 3) 0)),d (toStr (ag (ag j 3) 1)),b (toInt (ag (ag j 3) 2)),g 38 (af (ag (ag j 3) 3))]]],(bR x.a))=([a 0,c [b e1.op,c [d e1.rel,g 38 e1.l],c [b e1.u.op,d e1.u.s,b e1.u.n,g 38 e1.u.l],c [b e1.v.op,d e1.v.s,b e1.v.n,g 38 e1.v.l]]],(bR e1.a))/\(List.length e1.a.ds<=9223372036854775807/\jS (Hb.lt e1)<=100000)/\aV (aD (bd κ x.w)) (aq (bO (bd κ x.w)) p (aV (kX κ (bd κ x.w)&&l7 κ r) (aq (gK (bd κ x.w) r) (aV (kX κ h&&l7 κ l) (aq (gK h l) p (aV (kX κ h&&l7 κ k) (aq (gK h k) p m)))) m))))) (K (Exit.exit 0) (sp 52 [(5,e (bd κ x.w))] (bR x.a)))):=by kernel_rfl
def iW(a:kk)(x:AV):Hb:=⟨a,toInt (ag x 0),toStr (ag (ag x 1) 0),af (ag (ag x 1) 1),eG (ag x 2),eG (ag x 3)⟩
theorem Cl a x:(iW a x).lt=c9 x:=by
 unfold Hb.lt iW;simp[iB];rfl
theorem qv{σ get set} ds l(x:σ×Bool):jQ (kU get set ds l x).1:=by
 have b: ∀e,(e=0\/e=51\/e=52)->jQ e:=fun e h=>by
  rcases h with rfl|rfl|rfl
  ·exact .inl rfl
  ·exact .inr (.inl rfl)
  ·exact .inr (.inr (.inl rfl))
 have a:jQ 53:= .inr (.inr (.inr rfl))
 grind [jQ,kI,sC,fb,known,sP,kU]
theorem tQ{σ get set} ds a(x:σ×Bool):jQ (fb get set ds a x).1:=by
 have h:=qv (get:=get) (set:=set) ds ⟨1,a, .mk 0 ByteArray.empty 0 [], .mk 0 ByteArray.empty 0 []⟩ x;exact h
theorem ug{w e}(b:jQ w)(a:jQ e):jQ (iM w e):=by
 grind [iM]
theorem tR{σ get set} ds: ∀b (y:Int×σ×Bool),jQ y.1->jQ (kf get set ds b y).1
 |[],_,h=>h
 |l::b,y,h=>by
  rw[kf];have:=ug h (qv (get:=get) (set:=set) ds l y.2)
  cases wI _ with
  |true=>grind
  |false=>exact tR _ b _ this
def ly(x:Xe):=kf getM gx (cO x.a.ds) (dw (x.bl.drop x.i.toNat)) (x.w,(x.a.es,x.a.more))
def GN(x:Xe):=x.a.ds.length<=aW/\jQ x.w/\x.bl.length<=100000/\(∀l,l∈x.bl->jS (c9 l)<=100000)/\0<=x.i/\x.i<=x.bl.length
noncomputable def Oi(κ:Kp)(x:Xe):Out (Exit×S):= .all (fun _=>True) fun b=> .aq b (.one (.ret,sp 52 [(4, .lit (bd κ (ly x).1))] (bR (dK x.a (ly x).2)))) (.one (.exit 0,sp 52 [(5, .lit (bd κ (ly x).1))] (bR (dK x.a (ly x).2))))
theorem lPa κ:aU (QO κ) 12 152 3 (aG 2 (SB κ) GN (Oi κ)):=by
 refine aC (fun x=>x.bl.length - x.i.toNat) ?_;rintro⟨a,w,c,i⟩ K ⟨o,h,v,t,B,z⟩ u;simp only at o h v t B z;rw[show(QO κ).P=Pr κ from rfl];refine Eq.mpr (xPa κ ⟨a,w,c,i⟩ _ _ K) ?_;have f:=u true trivial;have d:=u false trivial;simp only[Out.run,aq] at f d;rw[ae,ar4,ar6];refine⟨fun k=>?_,fun k=>?_⟩
 ·simp only at k
  have l:i.toNat<c.length:=by omega
  have j:ly ⟨a,w,c,i⟩=bif wI (iM w (bX (iW a (nth c i.toNat))).1) then(iM w (bX (iW a (nth c i.toNat))).1,(bX (iW a (nth c i.toNat))).2) else ly ⟨dK a (bX (iW a (nth c i.toNat))).2,iM w (bX (iW a (nth c i.toNat))).1,c,i+1⟩:=by
   unfold ly bX;simp only[show(i+1).toNat=i.toNat+1 by omega];rw[oE c i.toNat l,kf,Cl];rfl
  have g:jQ (bX (iW a (nth c i.toNat))).1:=qv _ _ _;have q:jS (c9 (nth c i.toNat))<=100000:=t _ (by rw[aM _ _ l];exact List.getElem_mem l);have R:wI (iM w (bX (iW a (nth c i.toNat))).1)=true->K .ret (sp 52 [(4, .lit (bd κ (iM w (bX (iW a (nth c i.toNat))).1)))] (bR (dK a (bX (iW a (nth c i.toNat))).2))):=fun e=>by
   rw[j,e,as1] at f;exact f
  have N:wI (iM w (bX (iW a (nth c i.toNat))).1)=false->∃m,m<c.length - i.toNat/\ep (SB κ) GN (Oi κ) (fun x=>x.bl.length - x.i.toNat) K m (sp 52 [(0,Ez),(5, .lit (bd κ (iM w (bX (iW a (nth c i.toNat))).1))),(14, .ah 80 c),(15, .int c.length),(16, .int (IntKind.wrap .i64 (i+1)))] (bR (dK a (bX (iW a (nth c i.toNat))).2))):=fun e=>by
   rw[j,e,ar9] at f d;rw[az (n:=i+1) (by omega) (by omega)];refine⟨_,?_,⟨dK a (bX (iW a (nth c i.toNat))).2,iM w (bX (iW a (nth c i.toNat))).1,c,i+1⟩,rfl,⟨o,ug h g,v,t,by simp only;omega,by simp only;omega⟩,rfl,?_⟩
   ·simp only;omega
   ·intro b _
    cases b
    ·exact d
    ·exact f
  refine ai.2 ⟨by simp;omega,iW a (nth c i.toNat),rfl,⟨o,by rw[Cl];exact q⟩,?_⟩;have p:Value.iface 273 (.pointer (some κ.fG))=bd κ 51:=rfl;have s:Value.iface 273 (.pointer (some κ.arity))=bd κ 52:=rfl;have r:Value.iface 273 (.pointer (some κ.type))=bd κ 53:=rfl;have A:(iW a (nth c i.toNat)).a=a:=rfl;simp only[p,s,r,A,cD,jA]
  revert R N g
  generalize bX (iW a (nth c i.toNat))=y
  intro g R N;simp only[Bd κ g,Bd κ h,Be κ (show wH 51 from .inl rfl),Be κ (show wH 52 from .inr (.inl rfl)),Be κ (show wH 53 from .inr (.inr rfl)),iw κ g (show jQ 51 from .inr (.inl rfl)),iw κ g (show jQ 52 from .inr (.inr (.inl rfl))),iw κ h (show jQ 51 from .inr (.inl rfl)),iw κ h (show jQ 52 from .inr (.inr (.inl rfl))),iw κ h (show jQ 53 from .inr (.inr (.inr rfl)))];obtain⟨e,C⟩:=y;simp only at g R N⊢;rcases h with rfl|rfl|rfl|rfl<;>rcases g with rfl|rfl|rfl|rfl<;>first|exact R rfl|exact N rfl
 ·simp only at k
  have j:ly ⟨a,w,c,i⟩=(w,(a.es,a.more)):=by
   unfold ly;simp only;rw[as2 (by omega)];rfl
  rw[j] at d;exact d
noncomputable def Yk κ:=(QO κ).an 152 3 (aG 2 (SB κ) GN (Oi κ))
theorem eYq κ:aE (Yk κ):=(eYc _).an (mYc _) (lPa _)
theorem mYq κ:aj (Yk κ):=(mYc _).an aJ
theorem yPa κ a r K:(a0 (Yk κ) 12 152 [Ez,au r] (bR a) K)=(
 letI b:=AV.ptr 0 0 []
 letI c:=Pg.toProgram (Env.P (QO κ))
 ∃(e2:Ur),([b 0,AV.agg [AV.str r.rel,AV.ah 38 r.hl]],(bR a))=([b 0,AV.agg [AV.str e2.2.1,AV.ah 38 e2.2.2]],(bR e2.1))/\(e2.1.ds.length<=9223372036854775807/\bk (aa e2.2.2)<=100000)/\ad c 152 3=ad c 152 3/\∃(e1:Xe),letI d:=K (AV.lit (bd κ (Prod.fst (ly e1)))) (bR (dK e1.a (Prod.snd (ly e1))));sp 52 [(0,b 0),(5,AV.lit (bd κ (Prod.fst (dz e2.1 e2.2.1 e2.2.2)))),(14,AV.ah 80 r.bl),(15,AV.int (↑(r.bl.length):Int)),(16,AV.int 0)] (bR (dK e2.1 (Prod.snd (dz e2.1 e2.2.1 e2.2.2))))=sp 52 [(0,b 0),(5,AV.lit (bd κ e1.w)),(14,AV.ah 80 e1.bl),(15,AV.int (↑(e1.bl.length):Int)),(16,AV.int e1.i)] (bR e1.a)/\(List.length e1.a.ds<=9223372036854775807/\(e1.w=(0:Int)\/e1.w=(51:Int)\/e1.w=(52:Int)\/e1.w=(53:Int))/\e1.bl.length<=100000/\(∀(e0:AV),List.Mem e0 e1.bl->jS (c9 e0)<=100000)/\(0:Int)<=e1.i/\e1.i<=(↑(e1.bl.length):Int))/\∀(e0:Bool),True->aq e0 d d):=by kernel_rfl
abbrev XK:=kk×dh
def mB(x:XK):=kf getM gx (cO x.1.ds) (dw x.2.bl) (fb getM gx (cO x.1.ds) ⟨x.2.rel,aa x.2.hl⟩ (x.1.es,x.1.more))
def af2(x:XK):=([Ez,au x.2],bR x.1)
def O7(x:XK):=x.1.ds.length<=aW/\dd x.2
noncomputable def TM(κ:Kp)(x:XK):Out (AV×List Dn.Obj):= .one (.lit (bd κ (mB x).1),bR (dK x.1 (mB x).2))
theorem cPs κ:bc (Yk κ) 12 152 (aO af2 O7 (TM κ)):=by
 refine aR ?_;rintro⟨a,r⟩ K ⟨g,d⟩ f;simp only at g d;refine Eq.mpr (yPa κ a r K) ?_;have c: ∀l,l∈r.bl->jS (c9 l)<=100000:=fun l i=>by
  obtain⟨k,h,e⟩:=List.getElem_of_mem i;have:=lg d h
  rwa [aM _ _ h,e] at this
 have j:mB (a,r)=ly ⟨dK a (dz a r.rel r.hl).2,(dz a r.rel r.hl).1,r.bl,0⟩:=by
  rfl
 have f:K (.lit (bd κ (mB (a,r)).1)) (bR (dK a (mB (a,r)).2)):=f;rw[j] at f;refine⟨(a,r.rel,r.hl),rfl,⟨g,pJ d⟩,rfl,⟨dK a (dz a r.rel r.hl).2,(dz a r.rel r.hl).1,r.bl,0⟩,rfl,⟨g,tQ _ _ _,d.2,c,by simp only;omega,by simp only;omega⟩,fun b _=>?_⟩;cases b<;>exact f
noncomputable def QP κ:=(Yk κ).aw 152 (aO af2 O7 (TM κ))
theorem eYs κ:aE (QP κ):=(eYq _).aw (mYq _) (cPs _)
theorem mYs κ:aj (QP κ):=(mYq _).aw aI
end Go.Proofs.YtioeffnadipbaaaGreatDoor
namespace Go.Rl
open Go Go.Dn
section
variable {σ:Type} {get:σ->ByteArray->Int} {set:σ->ByteArray->Int->σ}
variable (hgs: ∀st s k t,get (set st s k) t=bif t==s then k else get st t)
include hgs
theorem te ds{r}(a:a8 r=true) V(g: ∀s,s∈fB r->s∈V) st(c:(fk get set ds r st).1=0)(b:(fk get set ds r st).2.2=true):mK get V (fk get set ds r st).2.1<mK get V st:=by
 have d:jf ds r=0:=by
  grind [jf,Dw]
 simp only[a8,ar5,List.all_eq_true] at a;have e:=On   ds  (vn a.1.1.1) (fun l f=>W9 (a.2 l f)) d st c;rw[e] at b⊢;exact zU (FG hgs ds r st) V ((FH hgs ds r st b).left (Ext.refl _ _) g)
theorem oU ds{r}(b:a8 r=true) V(a: ∀s,s∈fB r->s∈V): ∀n m st,mK get V st<n->mK get V st<m->fR get set ds r n st=fR get set ds r m st
 |0,_,_,h,_=>by omega
 |_+1,0,_,_,h=>by omega
 | n+1,m+1,st,d,f=>by
  rw[fR,fR];cases e:decide ((fk get set ds r st).1=0) with
  |false=>rfl
  | true=>
   cases c:(fk get set ds r st).2.2 with
   |false=>rfl
   |true=>
    have:=te hgs ds b V a st (by grind) c
    exact oU ds b V a n m _ (by omega) (by omega)
end
end Go.Rl
namespace Go.Proofs.YtioeffnadipbaaaGreatDoor
open Go Go.Dn Go.Rl Go.Proofs
attribute [local irreducible] a0 vc
set_option maxRecDepth 20000
structure uv where
 ds:List AV
 r:dh
 es:List (Value×AV)
 more:Bool
abbrev SI(x:uv):=sp 60 [(3, .ptr 0 0 [] 0),(6, .ptr 1 0 [] 0)] [.box 48 (au x.r), .box 219 (.agg [.ah 43 x.ds, .mp 2, .bool x.more]), .map 9 3 x.es]
theorem xTy κ x I n K:(vc (QP κ) 12 106 none 0 (ad (Pr κ).toProgram 106 4) (SI x) (bj (QP κ) 106 4 0 I n K))=(
 letI b:=AV.ptr 0 0 []
 letI c:=AV.bool
 letI d:=Obj.box
 letI e:=Dn.Obj.map
 aq x.more (∃(a:XK),letI f:=bd κ (Prod.fst (mB a));letI g:=dK a.1 (Prod.snd (mB a));([b 0,au x.r],[d 219 (AV.agg [AV.ah 43 x.ds,AV.mp 1,c false]),e 9 3 x.es])=([b 0,au a.2],[d 219 (AV.agg [AV.ah 43 a.1.ds,AV.mp 1,c a.1.more]),e 9 3 a.1.es])/\(a.1.ds.length<=9223372036854775807/\bk (aa (bo 38 a.2.hl a.2.bl))<=100000/\a.2.bl.length<=100000)/\aV (aD f) (aq (!bO f) (aV (kX κ f) (K Exit.ret (sp 60 [(4,AV.nil),(5,AV.int (RM κ f))] []))) (∃(m:Nat),m<n/\I m (sp 60 [(3,b 0),(6,AV.ptr 1 0 [] 0)] [d 48 (au x.r),d 219 (AV.agg [AV.ah 43 (kk.ds g),AV.mp 2,c (kk.more g)]),e 9 3 (kk.es g)])))) (K (Exit.exit 0) (sp 60 [(3,b 0),(6,AV.ptr 1 0 [] 0)] [d 48 (au x.r),d 219 (AV.agg [AV.ah 43 x.ds,AV.mp 2,c x.more]),e 9 3 x.es]))):=by kernel_rfl
abbrev dsR(x:uv):List Dc:=cO x.ds
def zTy(x:uv):=mK getM (dg (aQ x.r)) x.es
def ao0 x:=fR getM gx (dsR x) (aQ x.r) (zTy x+1) x.es
def gC x:=bif x.more then ao0 x else(0,x.es)
def Pd(x:uv):=a8 (aQ x.r)=true/\x.ds.length<=aW/\dd x.r
def Ip(x:uv):Out (Exit×S):= .aq (decide ((gC x).1=0)) (.one (.exit 0,SI ⟨x.ds,x.r,(gC x).2,false⟩)) (.one (.ret,sp 60 [(4, .nil),(5, .int (gC x).1)] []))
theorem Dx ds r a:jQ (fk getM gx ds r a).1:=tR _ _ _ (tQ _ _ _)
theorem lTy κ:aU (QP κ) 12 106 4 (aG 0 SI Pd Ip):=by
 refine aC (fun x=>bif x.more then zTy x+1 else 0) ?_;rintro⟨ds,r,a,b⟩ K ⟨c,g,f⟩ e;simp only at c g f;rw[show(QP κ).P=Pr κ from rfl];refine Eq.mpr (xTy κ ⟨ds,r,a,b⟩ _ _ K) ?_;simp only[Ip,Out.run,ae] at e;cases b with
 |false=>exact e.1 rfl
 | true=>
  have m:mB (⟨ds,a,false⟩,r)=fk getM gx (cO ds) (aQ r) a:=rfl;have h: ∀s,s∈fB (aQ r)->s∈dg (aQ r):=fun s l=>(zg c).2 l
  have j:=Dx (cO ds) (aQ r) a;have k:gC ⟨ds,r,a,true⟩=bif decide ((fk getM gx (cO ds) (aQ r) a).1=0) then gC ⟨ds,r,(fk getM gx (cO ds) (aQ r) a).2.1,(fk getM gx (cO ds) (aQ r) a).2.2⟩ else((fk getM gx (cO ds) (aQ r) a).1,(fk getM gx (cO ds) (aQ r) a).2.1):=by
   have e0:gC ⟨ds,r,a,true⟩=fR getM gx (cO ds) (aQ r) (zTy ⟨ds,r,a,true⟩+1) a:=rfl;rw[e0,fR];cases d:decide ((fk getM gx (cO ds) (aQ r) a).1=0) with
   |false=>rfl
   | true=>
    rw[as1,as1];unfold gC;cases i:(fk getM gx (cO ds) (aQ r) a).2.2 with
    |false=>rfl
    |true=>
     rw[as1];have:=te ou (cO ds) c _ h a (by simpa using d) i
     exact oU ou (cO ds) c _ h _ _ _ this (Nat.lt_succ_self _)
  refine⟨(⟨ds,a,false⟩,r),rfl,⟨g,f⟩,?_⟩;rw[m];refine ai.2 ⟨cD _ _,?_⟩;rw[jA];cases d:decide ((fk getM gx (cO ds) (aQ r) a).1=0) with
  |false=>
   rw[k,d,ar9] at e;refine ai.2 ⟨Bd κ j,?_⟩;rw[NJ κ j];exact e.2 d
  | true=>
   rw[k,d,as1] at e;refine⟨_,?_,⟨ds,r,(fk getM gx (cO ds) (aQ r) a).2.1,(fk getM gx (cO ds) (aQ r) a).2.2⟩,rfl,⟨c,g,f⟩,rfl,?_⟩
   ·simp only
    cases i:(fk getM gx (cO ds) (aQ r) a).2.2 with
    |false=>exact Nat.succ_pos _
    |true=>
     have:=te ou (cO ds) c _ h a (by simpa using d) i
     exact Nat.succ_lt_succ this
   ·simp only[Ip,Out.run,ae]
    exact e
noncomputable def QQ κ:=(QP κ).an 106 4 (aG 0 SI Pd Ip)
theorem eYv κ:aE (QQ κ):=(eYs _).an (mYs _) (lTy _)
theorem mYv κ:aj (QQ κ):=(mYs _).an aJ
def iA(l:List Int):List AV:=l.map fun k=> .lit (.int .i64 k)
theorem jd l:(iA l).length=l.length:=by simp[iA]
theorem wD l m:iA (l++m)=iA l++iA m:=by simp[iA]
structure Xg where
 ds:List AV
 es:List (Value×AV)
 o:List Int
 vs:List ByteArray
 i:Int
abbrev SJ(x:Xg):=sp 60 [(6, .ptr 0 0 [] 0),(8, .ak 2 0 (iA x.o).length),(36, .ak 3 0 x.vs.length),(37, .int x.vs.length),(38, .int x.i)] [.box 219 (.agg [.ah 43 x.ds, .mp 1, .bool false]), .map 9 3 x.es, .row 3 (iA x.o), .row 9 (strs x.vs)]
theorem xTz κ ds es o vs i I n K:(vc (QQ κ) 12 106 none 0 (ad (Pr κ).toProgram 106 11) (sp 60 [(6, .ptr 0 0 [] 0),(8, .ak 2 0 o.length),(36, .ak 3 0 vs.length),(37, .int vs.length),(38, .int i)] [.box 219 (.agg [.ah 43 ds, .mp 1, .bool false]), .map 9 3 es, .row 3 o, .row 9 vs]) (bj (QQ κ) 106 11 0 I n K))=(
 letI a:=AV.int
 letI b:=c6 es (Value.string (toStr (nth vs (0+i.toNat)))) (a 0)
 letI c:=i<(↑(vs.length):Int)
 aq (decide c) (aV (decide ((0:Int)<=i)&&decide c) (aq (toInt b==(0:Int)) (K Exit.ret (sp 60 [(4,AV.nil),(5,a 53)] [])) (aV (decide
 ((o.length+1+1)*9<=70368744177664)) (∃(e0:Nat),e0<n/\I e0 (sp 60 [(6,AV.ptr 0 0 [] 0),(8,AV.ak 2 0 (o.length+1)),(36,AV.ak 3 0 vs.length),
 (37,a (↑(vs.length):Int)),(38,a (IntKind.wrap IntKind.i64 (i+(1:Int))))] [Obj.box 219 (AV.agg [AV.ah 43 ds,AV.mp 1,AV.bool false]),
 Dn.Obj.map 9 3 es,Obj.row 3 (List.take o.length o++[a (toInt b)]),Obj.row 9 vs]))))) (K (Exit.exit 2) (sp 60 [(8,AV.ak 0 0 o.length)] [Obj.row 3 o]))):=by kernel_rfl
def l9(x:Xg):=x.vs.drop x.i.toNat
def tP x:=(l9 x).all fun s=>!decide (getM x.es s=0)
def Pe(x:Xg):=x.vs.length<=100000/\x.o.length<=x.i.toNat/\0<=x.i/\x.i<=x.vs.length
def Iq(x:Xg):Out (Exit×S):= .aq (tP x) (.one (.exit 2,sp 60 [(8, .ak 0 0 (iA (x.o++(l9 x).map (getM x.es))).length)] [.row 3 (iA (x.o++(l9 x).map (getM x.es)))])) (.one (.ret,sp 60 [(4, .nil),(5, .int 53)] []))
theorem lTz κ:aU (QQ κ) 12 106 11 (aG 0 SJ Pe Iq):=by
 refine aC (fun x=>x.vs.length - x.i.toNat) ?_;rintro⟨ds,a,o,vs,i⟩ K ⟨h,m,f,k⟩ b;simp only at h m f k;rw[show(QQ κ).P=Pr κ from rfl];have e0:(⟨ds,a,o,vs,i⟩:Xg).vs.length=(strs vs).length:=(ba vs).symm;simp only[SJ,e0];refine Eq.mpr (xTz κ ds a (iA o) (strs vs) i _ _ K) ?_;simp only[Iq,Out.run,ae] at b;simp only[ba];rw[ae,ar4,ar6,ai,ar5,ar4,ar4];refine⟨fun g=>⟨⟨f,g⟩,?_⟩,fun g=>?_⟩
 ·have j:i.toNat<vs.length:=by omega
  have c:l9 ⟨ds,a,o,vs,i⟩=vs[i.toNat]::l9 ⟨ds,a,o++[getM a vs[i.toNat]],vs,i+1⟩:=by
   unfold l9;simp only[show(i+1).toNat=i.toNat+1 by omega];exact as5 j
  have d:tP ⟨ds,a,o,vs,i⟩=(!decide (getM a vs[i.toNat]=0)&&tP ⟨ds,a,o++[getM a vs[i.toNat]],vs,i+1⟩):=by
   unfold tP;rw[c,List.all_cons]
  rw[Nat.zero_add,x4 vs _ j,Xq];have l:toInt (c6 a (Value.string (toStr (.lit (.string vs[i.toNat])))) (AV.int 0))=getM a vs[i.toNat]:=rfl;rw[l,ae];refine⟨fun e=>?_,fun e=>?_⟩
  ·rw[d,e] at b
   exact b.2 rfl
  ·rw[d,e,c,Bool.not_false,at2] at b
   rw[ai,ar4,jd];rw[az (n:=i+1) (by omega) (by omega)];refine⟨by omega,_,?_,⟨ds,a,o++[getM a vs[i.toNat]],vs,i+1⟩,?_,⟨h,by simp only[as9,List.length_singleton];omega,by simp only;omega,by simp only;omega⟩,rfl,?_⟩
   ·simp only;omega
   ·simp only[SJ,wD,jd,as9,List.length_singleton,List.take_of_length_le (show(iA o).length<=o.length by rw[jd];omega)]
    rfl
   ·simp only[Iq,Out.run,ae]
    grind
 ·have c:l9 ⟨ds,a,o,vs,i⟩=[]:=by
   unfold l9;exact as2 (by simp only;omega)
  have d:tP ⟨ds,a,o,vs,i⟩=true:=by
   unfold tP;rw[c];rfl
  rw[d,c] at b;have:=b.1 rfl
  simp only[List.map_nil,List.append_nil] at this;exact this
noncomputable def Yn κ:=(QQ κ).an 106 11 (aG 0 SJ Pe Iq)
theorem eYz κ:aE (Yn κ):=(eYv _).an (mYv _) (lTz _)
theorem mYz κ:aj (Yn κ):=(mYv _).an aJ
theorem yTz κ ds r K:(a0 (Yn κ) 12 106 [.ah 43 ds,au r] [] K)=(
 letI a:=AV.ptr 0 0 []
 letI b:=AV.int
 letI c:=AV.agg
 letI d:=AV.bool
 letI e:=AV.str
 letI f:=Obj.box
 letI g:=Obj.row
 letI h:=Dn.Obj.map
 letI i:=AV.ah
 letI k:=Pg.toProgram (Env.P (QP κ))
 letI l:=Pg.toProgram (Env.P (QQ κ))
 aV (List.all [c [c [e r.rel,i 38 r.hl],i 80 r.bl,b r.line]] fg) (aq (!fA ds [c [c [e r.rel,i 38 r.hl],i 80 r.bl,b r.line]]) (K (AV.aH [AV.nil,b 30]) []) (ad k 106 4=ad k 106 4/\∃(e2:uv),letI j:=uv.r {ds:=e2.ds,r:=e2.r,es:=Prod.snd (gC e2),more:=false};sp 60 [(3,a 0),(6,AV.ptr 1 0 [] 0)] [f 48 (c [c [e r.rel,i 38 r.hl],i 80 r.bl,b r.line]),f 219 (c [i 43 ds,AV.mp 2,d true]),h 9 3 []]=sp 60 [(3,a 0),(6,AV.ptr 1 0 [] 0)] [f 48 (c [c [e e2.r.rel,i 38 e2.r.hl],i 80 e2.r.bl,b e2.r.line]),f 219 (c [i 43 e2.ds,AV.mp 2,d e2.more]),h 9 3 e2.es]/\(a8 (aQ e2.r)=true/\e2.ds.length<=9223372036854775807/\bk (aa (bo 38 e2.r.hl e2.r.bl))<=100000/\List.length e2.r.bl<=100000)/\aq (decide (Prod.fst (gC e2)=(0:Int))) (∃(e1:dh),letI m:=List.length (dg (aQ e1));([c [c [AV.lit (Value.string (dh.rel j)),i 38 (dh.hl j)],i 80 (dh.bl j),AV.lit (Value.int IntKind.i64 (dh.line j))]],aL)=([c [c [e e1.rel,i 38 e1.hl],i 80 e1.bl,b e1.line]],aL)/\(a8 (aQ e1)=true/\bk (aa (bo 38 e1.hl e1.bl))<=100000/\e1.bl.length<=100000)/\ad l 106 11=ad l 106 11/\∃(e0:Xg),letI n:=iA (e0.o++List.map (getM e0.es) (l9 e0));sp 60 [(6,a 0),(8,AV.ak 2 0 0),(36,AV.ak 3 0 m),(37,b (↑m:Int)),(38,b 0)] [f 219 (c [i 43 (uv.ds {ds:=e2.ds,r:=e2.r,es:=Prod.snd (gC e2),more:=false}),AV.mp 1,d false]),h 9 3 (uv.es {ds:=e2.ds,r:=e2.r,es:=Prod.snd (gC e2),more:=false}),g 3 [],g 9 (strs (dg (aQ e1)))]=sp 60 [(6,a 0),(8,AV.ak 2 0 (List.length (iA e0.o))),(36,AV.ak 3 0 e0.vs.length),(37,b (↑(e0.vs.length):Int)),(38,b e0.i)] [f 219 (c [i 43 e0.ds,AV.mp 1,d false]),h 9 3 e0.es,g 3 (iA e0.o),g 9 (strs e0.vs)]/\(e0.vs.length<=100000/\e0.o.length<=e0.i.toNat/\(0:Int)<=e0.i/\e0.i<=(↑(e0.vs.length):Int))/\aq (tP e0) (K (AV.aH [AV.ak 0 0 (List.length n),b 0]) [g 3 n]) (K (AV.aH [AV.nil,b 53]) [])) (K (AV.aH [AV.nil,b (Prod.fst (gC e2))]) [])))):=by kernel_rfl
abbrev XL:=List AV×dh
def uO(x:XL):=PU (cO x.1) (aQ x.2)
def af7(x:XL):List AV×List Dn.Obj:=([.ah 43 x.1,au x.2],[])
def Pc(x:XL):=x.1.length<=aW/\dd x.2
def Ol(x:XL):Out (AV×List Dn.Obj):= .aq (fA x.1 [au x.2]) (.aq (decide ((uO x).1=0)) (.one (.aH [.ak 0 0 (iA (uO x).2).length, .int 0],[.row 3 (iA (uO x).2)])) (.one (.aH [.nil, .int (uO x).1],[]))) (.one (.aH [.nil, .int 30],[]))
theorem KO{ds r}(h:fA ds [au r]=true):a8 (aQ r)=true:=by
 unfold fA at h;rw[ar5] at h;have:=h.2
 rw[List.all_cons,ar5] at this;exact this.1
theorem cTs κ:bc (Yn κ) 12 106 (aO af7 Pc Ol):=by
 refine aR ?_;rintro⟨ds,r⟩ K ⟨i,b⟩ h;simp only at i b;refine Eq.mpr (yTz κ ds r K) ?_;simp only[Ol,Out.run,ae] at h;have g:=gI (aa r.hl);rw[eD] at g;have p:=pJ b;have o:=b.2;refine ai.2 ⟨?_,?_⟩
 ·show(fg (au r)&&true)=true
  have:fg (au r)=(decide (r.hl.length<=aW)&&decide (r.bl.length<=aW)):=rfl
  rw[this,as0 (by simp only[aW];omega),as0 (by simp only[aW];omega)];rfl
 refine ae.2 ⟨fun e=>h.2 (by simpa using e),fun e=>?_⟩;have j:fA ds [au r]=true:=by simpa using e
 have c:=KO j;have a:=h.1 j;have n:gC ⟨ds,r,[],true⟩=fR getM gx (cO ds) (aQ r) ((dg (aQ r)).length+1) []:=oU ou (cO ds) c _ (fun s k=>(zg c).2 k) _ _ _ (Nat.lt_succ_self _) (Nat.lt_succ_of_le (P3 _ _ _));have l:uO (ds,r)=bif decide ((gC ⟨ds,r,[],true⟩).1=0) then(bif (dg (aQ r)).all (fun s=>!decide (getM (gC ⟨ds,r,[],true⟩).2 s=0)) then(0,(dg (aQ r)).map (getM (gC ⟨ds,r,[],true⟩).2)) else(53,[])) else((gC ⟨ds,r,[],true⟩).1,[]):=by
  rw[n];rfl
 rw[l] at a;refine⟨rfl,⟨ds,r,[],true⟩,rfl,⟨c,i,b⟩,?_⟩;refine ae.2 ⟨fun d=>⟨r,rfl,⟨c,b⟩,rfl,⟨ds,(gC ⟨ds,r,[],true⟩).2,[],dg (aQ r),0⟩,rfl,⟨Lg b,Nat.zero_le _,by simp only;omega,by simp only;omega⟩,?_⟩,fun d=>?_⟩
 ·rw[d,as1] at a
  have m:tP ⟨ds,(gC ⟨ds,r,[],true⟩).2,[],dg (aQ r),0⟩=(dg (aQ r)).all (fun s=>!decide (getM (gC ⟨ds,r,[],true⟩).2 s=0)):=rfl;rw[m];refine ae.2 ⟨fun f=>?_,fun f=>?_⟩
  ·rw[f] at a
   exact a.1 rfl
  ·rw[f] at a
   exact a.2 rfl
 ·rw[d,ar9] at a
  exact a.2 d
noncomputable def QN κ:=(Yn κ).aw 106 (aO af7 Pc Ol)
theorem eTy κ:aE (QN κ):=(eYz _).aw (mYz _) (cTs _)
theorem mTy κ:aj (QN κ):=(mYz _).aw aI
abbrev eH(ds a:List AV):AV:= .agg [.ah 43 ds, .ah 48 a]
def dr(x:AV):dh:=⟨[],[],toStr (ag (ag x 0) 0),af (ag (ag x 0) 1),af (ag x 1),toInt (ag x 2),0⟩
structure Ll where
 ds:List AV
 rs:List AV
 i:Int
abbrev Vu(x:Ll):Dn.Obj:= .box 25 (eH x.ds x.rs)
def Ul(ds:List AV):List AV->Int->Int×Int
 |[],_=>(0,0)
 |d::l,i=>bif decide (bx (toStr (ag d 0)) ds=i) then Ul ds l (i+1) else(toInt (ag d 5),50)
def kj ds x:=bif fA ds [au (dr x)] then(uO (ds,dr x)).1 else 30
def Iw(f:AV->Int):List AV->Int×Int
 |[]=>(0,0)
 |x::l=>bif decide (f x=0) then Iw f l else(toInt (ag x 2),f x)
def Al ds a:=bif fA ds a then bif decide ((Ul ds ds 0).2=0) then Iw (kj ds) a else Ul ds ds 0 else(0,30)
def kZ(x:AV):Int:=F0 (aQ (dr x))
def lZ ds a:=bif decide ((Al ds a).2=0) then Iw kZ a else Al ds a
def nJ(ds a:List AV):=ds.length<=aW/\a.length<=aW/\∀x,x∈a->dd (dr x)
theorem HC{ds c}(h:nJ ds c):c.all fg=true:=by
 refine List.all_eq_true.2 fun x d=>?_
 have b:=h.2.2 x d;have a:=gI (aa (dr x).hl);rw[eD] at a;have e:=pJ b;have hl:=b.2
 grind [fg,dr,aW]
abbrev WE x:=sp 57 [(1, .ptr 0 0 [] 0),(16, .ah 43 x.ds),(17, .int x.ds.length),(18, .int x.i)] [Vu x]
theorem xC1 κ x I n K:(vc (QN κ) 12 61 none 0 (ad (Pr κ).toProgram 61 4) (WE x) (bj (QN κ) 61 4 0 I n K))=(
 letI a:=AV.agg [AV.ah 43 x.ds,AV.ah 48 x.rs]
 letI b:=x.i<(↑(x.ds.length):Int)
 aq (decide b) (aV (decide ((0:Int)<=x.i)&&decide b) (∃(e1:List AV×ByteArray),([AV.ah 43 x.ds,AV.str (toStr (ag (nth x.ds x.i.toNat) 0))],aL)=
 ([AV.ah 43 e1.1,AV.str e1.2],aL)/\ix e1/\aq (bx e1.2 e1.1 != x.i) (K Exit.ret (sp 57 [(2,AV.int (toInt (ag (nth x.ds x.i.toNat) 5))),(3,AV.int 50)] []))
 (∃(e0:Nat),e0<n/\I e0 (sp 57 [(1,AV.ptr 0 0 [] 0),(16,AV.ah 43 x.ds),(17,AV.int (↑(x.ds.length):Int)),(18,AV.int (IntKind.wrap IntKind.i64 (x.i
 +(1:Int))))] [Obj.box 25 a])))) (K (Exit.exit 0) (sp 57 [(1,AV.ptr 0 0 [] 0)] [Obj.box 25 a]))):=by kernel_rfl
def LB(x:Ll):=Ul x.ds (x.ds.drop x.i.toNat) x.i
def OL(x:Ll):=x.ds.length<=aW/\0<=x.i/\x.i<=x.ds.length
def Ih(x:Ll):Out (Exit×S):= .aq (decide ((LB x).2=0)) (.one (.exit 0,sp 57 [(1, .ptr 0 0 [] 0)] [Vu x])) (.one (.ret,sp 57 [(2, .int (LB x).1),(3, .int (LB x).2)] []))
theorem lC1 κ:aU (QN κ) 12 61 4 (aG 0 WE OL Ih):=by
 refine aC (fun x=>x.ds.length - x.i.toNat) ?_;rintro⟨ds,b,i⟩ K ⟨c,g,j⟩ a;simp only at c g j;rw[show(QN κ).P=Pr κ from rfl];refine Eq.mpr (xC1 κ ⟨ds,b,i⟩ _ _ K) ?_;simp only[aW] at c;simp only[Ih,Out.run,ae] at a;rw[ae,ar4,ar6,ai,ar5,ar4,ar4];refine⟨fun d=>⟨⟨g,d⟩,(ds,toStr (ag (nth ds i.toNat) 0)),rfl,c,?_⟩,fun d=>?_⟩
 ·simp only at d
  have h:i.toNat<ds.length:=by omega
  have f:LB ⟨ds,b,i⟩=bif decide (bx (toStr (ag (nth ds i.toNat) 0)) ds=i) then LB ⟨ds,b,i+1⟩ else(toInt (ag (nth ds i.toNat) 5),50):=by
   unfold LB;simp only[show(i+1).toNat=i.toNat+1 by omega];rw[as5 h,←aM ds i.toNat h,Ul]
  rw[f] at a;simp only[Mp];cases e:decide (bx (toStr (ag (nth ds i.toNat) 0)) ds=i) with
  |false=>
   rw[e] at a;exact a.2 rfl
  | true=>
   rw[e] at a;rw[az (n:=i+1) (by omega) (by omega)];refine⟨_,?_,⟨ds,b,i+1⟩,rfl,⟨by simpa[aW] using c,by simp only;omega,by simp only;omega⟩,rfl,?_⟩
   ·simp only;omega
   ·simp only[Ih,Out.run,ae]
    exact a
 ·simp only at d
  have f:LB ⟨ds,b,i⟩=(0,0):=by
   unfold LB;simp only;rw[as2 (by omega)];rfl
  rw[f] at a;exact a.1 rfl
noncomputable def QA κ:=(QN κ).an 61 4 (aG 0 WE OL Ih)
theorem eC1 κ:aE (QA κ):=(eTy _).an (mTy _) (lC1 _)
theorem mC1 κ:aj (QA κ):=(mTy _).an aJ
abbrev PB x:=sp 57 [(1, .ptr 0 0 [] 0),(38, .ah 48 x.rs),(39, .int x.rs.length),(40, .int x.i)] [Vu x]
theorem xC2 κ x I n K:(vc (QA κ) 12 61 none 0 (ad (Pr κ).toProgram 61 11) (PB x) (bj (QA κ) 61 11 0 I n K))=(
 letI a:=AV.int
 letI b:=AV.ah
 letI e:=∃(e0:Nat),e0<n/\I e0 (sp 57 [(1,AV.ptr 0 0 [] 0),(38,b 48 x.rs),(39,a (↑(x.rs.length):Int)),(40,a (IntKind.wrap
  IntKind.i64 (x.i+(1:Int))))] [Obj.box 25 (AV.agg [b 43 x.ds,b 48 x.rs])])
 letI c:=nth x.rs x.i.toNat
 letI f:=x.i<(↑(x.rs.length):Int)
 letI d:=toInt (ag c 2)
 aq (decide f) (aV (decide ((0:Int)<=x.i)&&decide f) (∃(e1:XL),([b 43 x.ds,AV.agg [AV.agg [AV.str (toStr (ag (ag c 0) 0)),b 38 (af (ag (ag
 c 0) 1))],b 80 (af (ag c 1)),a d]],aL)=([b 43 e1.1,au e1.2],aL)/\(e1.1.length<=9223372036854775807/\bk (aa (bo 38 e1.2.hl e1.2.bl))<=
 100000/\e1.2.bl.length<=100000)/\aq (fA e1.1 [au e1.2]) (aq (decide (Prod.fst (uO e1)=(0:Int))) e (aq (Prod.fst (uO e1) != (0:Int)) (K Exit.ret (sp 57
 [(2,a d),(3,a (Prod.fst (uO e1)))] [])) e)) (K Exit.ret (sp 57 [(2,a d),(3,a 30)] [])))) (K (Exit.exit 2) (sp 57 [] []))):=by kernel_rfl
def Bx f(x:Ll):=Iw f (x.rs.drop x.i.toNat)
def tx(x:Ll):=nJ x.ds x.rs/\0<=x.i/\x.i<=x.rs.length
def Di(x:Ll):Out (Exit×S):= .aq (decide ((Bx (kj x.ds) x).2=0)) (.one (.exit 2,sp 57 [] [])) (.one (.ret,sp 57 [(2, .int (Bx (kj x.ds) x).1),(3, .int (Bx (kj x.ds) x).2)] []))
theorem Iy f ds a i(c:0<=i)(b:i.toNat<a.length):Bx f ⟨ds,a,i⟩=bif decide (f (nth a i.toNat)=0) then Bx f ⟨ds,a,i+1⟩ else(toInt (ag (nth a i.toNat) 2),f (nth a i.toNat)):=by
 grind [Bx,List.drop_eq_getElem_cons,aM,Iw]
theorem Ix f ds a i(h:a.length<=i.toNat):Bx f ⟨ds,a,i⟩=(0,0):=by
 unfold Bx;rw[as2 h];rfl
theorem lC2 κ:aU (QA κ) 12 61 11 (aG 0 PB tx Di):=by
 refine aC (fun x=>x.rs.length - x.i.toNat) ?_;rintro⟨ds,a,i⟩ K ⟨c,h,p⟩ b;simp only at c h p;rw[show(QA κ).P=Pr κ from rfl];refine Eq.mpr (xC2 κ ⟨ds,a,i⟩ _ _ K) ?_;have g:=c.2.1;simp only[aW] at g;simp only[Di,Out.run,ae] at b;rw[ae,ar4,ar6,ai,ar5,ar4,ar4];refine⟨fun d=>⟨⟨h,d⟩,(ds,dr (nth a i.toNat)),rfl,⟨c.1,?_⟩,?_⟩,fun d=>?_⟩
 ·simp only at d
  exact c.2.2 _ (by rw[aM _ _ (show i.toNat<a.length by omega)];exact List.getElem_mem _)
 ·simp only at d
  have r:i.toNat<a.length:=by omega
  rw[Iy _ _ _ _ h r] at b;have l:kj ds (nth a i.toNat)=0->∃m,m<a.length - i.toNat/\ep PB tx Di (fun x=>x.rs.length - x.i.toNat) K m (PB ⟨ds,a,i+1⟩):=fun e=>by
   rw[e] at b;refine⟨_,?_,⟨ds,a,i+1⟩,rfl,⟨c,by simp only;omega,by simp only;omega⟩,rfl,?_⟩
   ·simp only;omega
   ·simp only[Di,Out.run,ae]
    exact b
  have f: ∀e:Int,kj ds (nth a i.toNat)=e->e≠0->K .ret (sp 57 [(2, .int (toInt (ag (nth a i.toNat) 2))),(3, .int e)] []):=fun e q k=>by
   rw[q,ar8 k] at b;exact b.2 (ar8 k)
  rw[az (n:=i+1) (by omega) (by omega)];have o:kj ds (nth a i.toNat)=bif fA ds [au (dr (nth a i.toNat))] then(uO (ds,dr (nth a i.toNat))).1 else 30:=rfl
  refine ae.2 ⟨fun j=>?_,fun j=>?_⟩
  ·simp_all[as1,ae,ar6,Mp,as6,ar4]
  ·rw[j,ar9] at o
   exact f 30 o (by decide)
 ·simp only at d
  rw[Ix _ _ _ _ (by omega)] at b;exact b.1 rfl
noncomputable def XX κ:=(QA κ).an 61 11 (aG 0 PB tx Di)
theorem eC2 κ:aE (XX κ):=(eC1 _).an (mC1 _) (lC2 _)
theorem mC2 κ:aj (XX κ):=(mC1 _).an aJ
theorem yCd κ ds rs K:(a0 (XX κ) 12 61 [eH ds rs] [] K)=(
 letI a:=AV.ptr 0 0 []
 letI b:=AV.int
 letI c:=AV.ah
 letI e:=Pg.toProgram (Env.P (QN κ))
 letI f:=Pg.toProgram (Env.P (QA κ))
 aV (List.all rs fg) (aq (!fA ds rs) (K (AV.aH [b 0,b 30]) []) (ad e 61 4=ad e 61 4/\∃(e2:Ll),letI g:=[Obj.box 25 (AV.agg [c 43 e2.ds,c 48 e2.rs])];sp 57 [(1,a 0),(16,c 43 ds),(17,b (↑(ds.length):Int)),(18,b 0)] [Obj.box 25 (AV.agg [c 43 ds,c 48 rs])]=sp 57 [(1,a 0),(16,c 43 e2.ds),(17,b (↑(e2.ds.length):Int)),(18,b e2.i)] g/\(e2.ds.length<=9223372036854775807/\(0:Int)<=e2.i/\e2.i<=(↑(e2.ds.length):Int))/\aq (decide (Prod.snd (LB e2)=(0:Int))) (ad f 61 11=ad f 61 11/\∃(e1:Ll),letI d:=Bx (kj e1.ds) e1;sp 57 [(1,a 0),(38,c 48 e2.rs),(39,b (↑(e2.rs.length):Int)),(40,b 0)] g=sp 57 [(1,a 0),(38,c 48 e1.rs),(39,b (↑(e1.rs.length):Int)),(40,b e1.i)] [Obj.box 25 (AV.agg [c 43 e1.ds,c 48 e1.rs])]/\((e1.ds.length<=9223372036854775807/\e1.rs.length<=9223372036854775807/\∀(e0:AV),List.Mem e0 e1.rs->bk (aa (bo 38 (dh.hl (dr e0)) (dh.bl (dr e0))))<=100000/\List.length (dh.bl (dr e0))<=100000)/\(0:Int)<=e1.i/\e1.i<=(↑(e1.rs.length):Int))/\aq (decide (Prod.snd d=(0:Int))) (K (AV.aH [b 0,b 0]) []) (K (AV.aH [b (Prod.fst d),b (Prod.snd d)]) [])) (K (AV.aH [b (Prod.fst (LB e2)),b (Prod.snd (LB e2))]) [])))):=by kernel_rfl
abbrev Ca:=List AV×List AV
def Si(x:Ca):List AV×List Dn.Obj:=([eH x.1 x.2],[])
def BH(x:Ca):Prop:=nJ x.1 x.2
def N1(x:Ca):Out (AV×List Dn.Obj):= .one (.aH [.int (Al x.1 x.2).1, .int (Al x.1 x.2).2],[])
theorem Gq f: ∀l,(Iw f l).2=0->Iw f l=(0,0)
 |[],_=>rfl
 | x::l,h=>by
  rw[Iw] at h⊢;cases e:decide (f x=0) with
  |true=>rw[e] at h;exact Gq f l h
  |false=>
   grind
theorem cCd κ:bc (XX κ) 12 61 (aO Si BH N1):=by
 refine aR ?_;rintro⟨ds,a⟩ K c b;have c:nJ ds a:=c;refine Eq.mpr (yCd κ ds a K) ?_;simp only[N1,Out.run,Al] at b;refine ai.2 ⟨HC c,ae.2 ⟨fun e=>?_,fun e=>?_⟩⟩
 ·grind
 ·rw[show fA ds a=true by simpa using e,as1] at b
  have g:LB ⟨ds,a,0⟩=Ul ds ds 0:=rfl;have h:Bx (kj ds) ⟨ds,a,0⟩=Iw (kj ds) a:=rfl;refine⟨rfl,⟨ds,a,0⟩,rfl,⟨c.1,by simp only;omega,by simp only;omega⟩,?_⟩;rw[g];refine ae.2 ⟨fun f=>⟨rfl,⟨ds,a,0⟩,rfl,⟨c,by simp only;omega,by simp only;omega⟩,?_⟩,fun f=>?_⟩
  ·rw[f,as1] at b
   rw[h];refine ae.2 ⟨fun d=>?_,fun d=>b⟩;rw[ar4] at d;rw[Gq _ _ d] at b;exact b
  grind
noncomputable def QB κ:=(XX κ).aw 61 (aO Si BH N1)
theorem eCd κ:aE (QB κ):=(eC2 _).aw (mC2 _) (cCd _)
theorem mCd κ:aj (QB κ):=(mC2 _).aw aI
abbrev PC(x:Ll):=sp 37 [(20, .ah 48 x.rs),(21, .int x.rs.length),(22, .int x.i)] []
theorem xC3 κ x I n K:(vc (QB κ) 12 31 none 0 (ad (Pr κ).toProgram 31 5) (PC x) (bj (QB κ) 31 5 0 I n K))=(
 letI a:=AV.int
 letI b:=nth x.rs x.i.toNat
 letI d:=x.i<(↑(x.rs.length):Int)
 letI c:=toInt (ag b 2)
 aq (decide d) (aV (decide ((0:Int)<=x.i)&&decide d) (∃(e1:dh),([AV.agg [AV.agg [AV.str (toStr (ag (ag b 0) 0)),AV.ah 38 (af (ag (ag b 0) 1))],
 AV.ah 80 (af (ag b 1)),a c]],aL)=([au e1],aL)/\(bk (aa (bo 38 e1.hl e1.bl))<=100000/\e1.bl.length<=100000)/\aq (a8 (aQ e1)) (aq (jT (aQ e1)) (∃
 (e0:Nat),e0<n/\I e0 (sp 37 [(20,AV.ah 48 x.rs),(21,a (↑(x.rs.length):Int)),(22,a (IntKind.wrap IntKind.i64 (x.i+(1:Int))))] [])) (K
 Exit.ret (sp 37 [(2,a c),(3,a 60)] []))) (K Exit.ret (sp 37 [(2,a c),(3,a 30)] [])))) (K (Exit.exit 0) (sp 37 [] []))):=by kernel_rfl
def Dj(x:Ll):Out (Exit×S):= .aq (decide ((Bx kZ x).2=0)) (.one (.exit 0,sp 37 [] [])) (.one (.ret,sp 37 [(2, .int (Bx kZ x).1),(3, .int (Bx kZ x).2)] []))
theorem lC3 κ:aU (QB κ) 12 31 5 (aG 0 PC tx Dj):=by
 refine aC (fun x=>x.rs.length - x.i.toNat) ?_;rintro⟨ds,a,i⟩ K ⟨f,h,p⟩ b;simp only at f h p;rw[show(QB κ).P=Pr κ from rfl];refine Eq.mpr (xC3 κ ⟨ds,a,i⟩ _ _ K) ?_;have j:=f.2.1;simp only[aW] at j;simp only[Dj,Out.run,ae] at b;rw[ae,ar4,ar6,ai,ar5,ar4,ar4];refine⟨fun d=>⟨⟨h,d⟩,dr (nth a i.toNat),rfl,?_,?_⟩,fun d=>?_⟩
 ·simp only at d
  exact f.2.2 _ (by rw[aM _ _ (show i.toNat<a.length by omega)];exact List.getElem_mem _)
 ·simp only at d
  have r:i.toNat<a.length:=by omega
  rw[Iy _ _ _ _ h r] at b;have l:kZ (nth a i.toNat)=0->∃m,m<a.length - i.toNat/\ep PC tx Dj (fun x=>x.rs.length - x.i.toNat) K m (PC ⟨ds,a,i+1⟩):=fun e=>by
   rw[e] at b;refine⟨_,?_,⟨ds,a,i+1⟩,rfl,⟨f,by simp only;omega,by simp only;omega⟩,rfl,?_⟩
   ·simp only;omega
   ·simp only[Dj,Out.run,ae]
    exact b
  have c: ∀e:Int,kZ (nth a i.toNat)=e->e≠0->K .ret (sp 37 [(2, .int (toInt (ag (nth a i.toNat) 2))),(3, .int e)] []):=fun e q o=>by
   rw[q,ar8 o] at b;exact b.2 (ar8 o)
  rw[az (n:=i+1) (by omega) (by omega)];have k:kZ (nth a i.toNat)=bif a8 (aQ (dr (nth a i.toNat))) then bif jT (aQ (dr (nth a i.toNat))) then 0 else 60 else 30:=rfl
  refine ae.2 ⟨fun g=>?_,fun g=>?_⟩
  ·rw[g,as1] at k
   grind [ae]
  ·rw[g,ar9] at k
   exact c 30 k (by decide)
 ·simp only at d
  rw[Ix _ _ _ _ (by omega)] at b;exact b.1 rfl
noncomputable def XY κ:=(QB κ).an 31 5 (aG 0 PC tx Dj)
theorem eC3 κ:aE (XY κ):=(eCd _).an (mCd _) (lC3 _)
theorem mC3 κ:aj (XY κ):=(mCd _).an aJ
theorem yCs κ ds rs K:(a0 (XY κ) 12 31 [eH ds rs] [] K)=(
 letI b:=AV.int
 letI c:=AV.ah
 ∃(a:Ca),([AV.agg [c 43 ds,c 48 rs]],aL)=([AV.agg [c 43 a.1,c 48 a.2]],aL)/\(a.1.length<=9223372036854775807/\a.2.length<=
 9223372036854775807/\∀(x:AV),List.Mem x a.2->bk (aa (bo 38 (dh.hl (dr x)) (dh.bl (dr x))))<=100000/\List.length (dh.bl (dr x))<=100000)
 /\aq (Prod.snd (Al a.1 a.2) != (0:Int)) (K (AV.aH [b (Prod.fst (Al a.1 a.2)),b (Prod.snd (Al a.1 a.2))]) []) (ad (Pg.toProgram
 (Env.P (QB κ))) 31 5=ad (Pg.toProgram (Env.P (QB κ))) 31 5/\∃(a:Ll),sp 37 [(20,c 48 rs),(21,b (↑(rs.length):Int)),(22,b
 0)] []=sp 37 [(20,c 48 a.rs),(21,b (↑(a.rs.length):Int)),(22,b a.i)] []/\((a.ds.length<=9223372036854775807/\a.rs.length<=
 9223372036854775807/\∀(x:AV),List.Mem x a.rs->bk (aa (bo 38 (dh.hl (dr x)) (dh.bl (dr x))))<=100000/\List.length (dh.bl (dr x))<=
 100000)/\(0:Int)<=a.i/\a.i<=(↑(a.rs.length):Int))/\aq (decide (Prod.snd (Bx kZ a)=(0:Int))) (K (AV.aH [b 0,b 0]) []) (K (AV.aH
 [b (Prod.fst (Bx kZ a)),b (Prod.snd (Bx kZ a))]) []))):=by kernel_rfl
def N5(x:Ca):Out (AV×List Dn.Obj):= .one (.aH [.int (lZ x.1 x.2).1, .int (lZ x.1 x.2).2],[])
theorem cCs κ:bc (XY κ) 12 31 (aO Si BH N5):=by
 refine aR ?_;rintro⟨ds,a⟩ K c b;refine Eq.mpr (yCs κ ds a K) ?_;simp only[N5,Out.run,lZ] at b;refine⟨(ds,a),rfl,c,?_⟩;simp only[Mp];have f:Bx kZ ⟨ds,a,0⟩=Iw kZ a:=rfl;refine ae.2 ⟨fun e=>?_,fun e=>?_⟩
 ·grind
 ·rw[show decide _=true by simpa using e] at b
  refine⟨trivial,⟨ds,a,0⟩,rfl,⟨c,by simp only;omega,by simp only;omega⟩,?_⟩;rw[f];refine ae.2 ⟨fun d=>?_,fun d=>b⟩
  simp_all[ar4,as1,Gq]
noncomputable def XZ κ:=(XY κ).aw 31 (aO Si BH N5)
theorem eCs κ:aE (XZ κ):=(eC3 _).aw (mC3 _) (cCs _)
theorem mCs κ:aj (XZ κ):=(mC3 _).aw aI
end Go.Proofs.YtioeffnadipbaaaGreatDoor
