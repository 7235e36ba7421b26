import Derived.Test.YtioeffnadipbaaaGreatDoorDeP1
import Derived.Test.YtioeffnadipbaaaGreatDoorDeP4
namespace Go.Rl
open Go Go.Dn
structure Dc where
 rel:ByteArray
 types:List Int
def kV(s:ByteArray):List Dc->Option Nat
 |[]=>none
 |d::l=>bif oQ d.rel s then some 0 else(kV s l).map (· +1)
def dh(ds:List Dc)(s:ByteArray):List Int:=match kV s ds with|some i=>(ds.getD i ⟨ByteArray.empty,[]⟩).types|none=>[]
def known(ds:List Dc)(a:At):Int:=match kV a.rel ds with|none=>51|some _=>bif decide ((dh ds a.rel).length=a.l.length) then 0 else 52
def dL(l:Lt):=decide (l.op<3)||decide (6<l.op)
def jm(ds:List Dc):List Lt->Int
 |[]=>0
 |l::b=>bif dL l&& !decide (known ds l.a=0) then known ds l.a else jm ds b
def iY ds(r:Rl):=bif decide (known ds r.head=0) then jm ds r.body else known ds r.head
section
variable {σ:Type} (get:σ->ByteArray->Int) (set:σ->ByteArray->Int->σ)
def bF(t:Tm) st:=bif decide (t.op=1) then get st t.s else bif decide (t.op=3) then 2 else bif decide (t.op=4) then 0 else 1
mutual
def Tm.di:Tm->Int->σ->Bool×σ
 | .mk op s _ l,w,st=>bif decide (op=1) then(bif decide (w=0)|| !decide (get st s=0) then(false,st) else(true,set st s w)) else dZ l st
def dZ:List Tm->σ->Bool×σ
 |[],st=>(false,st)
 |t::l,st=>((Tm.di t 1 st).1||(dZ l (Tm.di t 1 st).2).1,(dZ l (Tm.di t 1 st).2).2)
end
mutual
def Tm.want:Tm->Int->σ×Bool->Bool×(σ×Bool)
 | .mk op s n l,k,x=>
  bif (jd l x).1 then jd l x
  else bif decide (k=0)||decide (op=4) then(false,(jd l x).2)
  else bif decide (bF get (.mk op s n l) (jd l x).2.1=0) then(false,(set (jd l x).2.1 s k,true))
  else(!decide (bF get (.mk op s n l) (jd l x).2.1=k),(jd l x).2)
def jd:List Tm->σ×Bool->Bool×(σ×Bool)
 |[],x=>(false,x)
 |t::l,x=>bif (Tm.want t 1 x).1 then Tm.want t 1 x else jd l (Tm.want t 1 x).2
end
def cv:List Int->List Tm->σ->Bool×σ
 |w::a,t::l,st=>((t.di get set w st).1||(cv a l (t.di get set w st).2).1,(cv a l (t.di get set w st).2).2)
 |_,_,st=>(false,st)
def jS:List Int->List Tm->σ×Bool->Bool×(σ×Bool)
 |w::a,t::l,x=>bif (t.want get set w x).1 then t.want get set w x else jS a l (t.want get set w x).2
 |_,_,x=>(false,x)
def gA(a:Int):=decide (3<=a)&&decide (a<=6)
def lF(l:Lt) st:=bif decide (bF get l.y st>bF get l.x st) then bF get l.y st else bF get l.x st
def eu ds(l:Lt) st:=
 bif gA l.op then
  ((l.x.di get set (lF get l st) st).1||(l.y.di get set (lF get l st) (l.x.di get set (lF get l st) st).2).1,(l.y.di get set (lF get l st) (l.x.di get set (lF get l st) st).2).2)
 else bif decide (l.op=1)||decide (l.op=2) then cv get set (dh ds l.a.rel) l.a.l st
 else((cv get set (dh ds l.a.rel) l.a.l st).1||(l.x.di get set 1 (cv get set (dh ds l.a.rel) l.a.l st).2).1||(l.y.di get set 1 (l.x.di get set 1 (cv get set (dh ds l.a.rel) l.a.l st).2).2).1,
  (l.y.di get set 1 (l.x.di get set 1 (cv get set (dh ds l.a.rel) l.a.l st).2).2).2)
def fp(ds:List Dc):List Lt->σ->Bool×σ
 |[],st=>(false,st)
 |l::b,st=>((eu get set ds l st).1||(fp ds b (eu get set ds l st).2).1,(fp ds b (eu get set ds l st).2).2)
def j6 ds(r:Rl) st:=
 ((cv get set (dh ds r.head.rel) r.head.l st).1||(fp get set ds r.body (cv get set (dh ds r.head.rel) r.head.l st).2).1,(fp get set ds r.body (cv get set (dh ds r.head.rel) r.head.l st).2).2)
def fe ds a x:=
 bif decide (known ds a=0) then(bif (jS get set (dh ds a.rel) a.l x).1 then 53 else 0,(jS get set (dh ds a.rel) a.l x).2) else(known ds a,x)
def kX(y:Bool×σ×Bool)(f:σ×Bool->Bool×σ×Bool):Int×σ×Bool:=bif y.1 then(53,y.2) else(bif (f y.2).1 then 53 else 0,(f y.2).2)
def kW ds(l:Lt) x:=
 bif gA l.op then kX (l.x.want get set (lF get l x.1) x) (l.y.want get set (lF get l x.1))
 else bif decide (l.op=1)||decide (l.op=2) then fe get set ds l.a x
 else bif !decide ((fe get set ds l.a x).1=0) then fe get set ds l.a x
 else bif decide (l.op=7) then(bif (l.x.want get set 1 (fe get set ds l.a x).2).1 then 53 else 0,(l.x.want get set 1 (fe get set ds l.a x).2).2)
 else kX (l.x.want get set 1 (fe get set ds l.a x).2) (l.y.want get set 1)
def xF(e:Int):=decide (e=51)||decide (e=52)
def iP w e:=bif decide (w=0)||decide (w=53)&&xF e then e else w
def kg(ds:List Dc):List Lt->Int×(σ×Bool)->Int×(σ×Bool)
 |[],y=>y
 |l::b,y=>bif xF (iP y.1 (kW get set ds l y.2).1) then(iP y.1 (kW get set ds l y.2).1,(kW get set ds l y.2).2)
  else kg ds b (iP y.1 (kW get set ds l y.2).1,(kW get set ds l y.2).2)
def ff ds(r:Rl) st:=kg get set ds r.body (fe get set ds r.head (st,false))
def fJ(ds:List Dc)(r:Rl):Nat->σ->Int×σ
 |0,st=>(0,st)
 |n+1,st=>bif decide ((ff get set ds r st).1=0) then(bif (ff get set ds r st).2.2 then fJ ds r n (ff get set ds r st).2.1 else(0,(ff get set ds r st).2.1)) else((ff get set ds r st).1,(ff get set ds r st).2.1)
def Ext st st':=∀s,get st s≠0->get st' s=get st s
theorem Ext.refl st:Ext get st st:=fun _ _=>rfl
variable {get set}
theorem Ext.trans{a b c}(d:Ext get a b)(e:Ext get b c):Ext get a c:=fun s h=>by rw[e s (by rw[d s h];grind),d s h]
variable (hgs: ∀st s k t,get (set st s k) t=bif t==s then k else get st t)
include hgs
mutual
theorem Tm.ee: ∀(t:Tm) (w:Int) (st:σ),Ext get st (t.di get set w st).2
 | .mk op s n l,w,st=>by
  rw[Tm.di];cases decide (op=1) with
  |false=>exact qt l st
  | true=>
   rw[aq3];cases h:(decide (w=0)|| !decide (get st s=0)) with
   |true=>exact Ext.refl _ _
   | false=>
    intro t ht;rw[aq1,hgs];cases e:t==s with
    |false=>rfl
    |true=>
     rw[Bool.or_eq_false_iff,aq8,ap6] at h;rw[eq_of_beq e] at ht;exact absurd h.2 ht
theorem qt: ∀(l:List Tm) (st:σ),Ext get st (dZ get set l st).2
 |[],st=>by have _:=hgs;exact Ext.refl _ _
 |t::l,st=>by rw[dZ];exact(Tm.ee t 1 st).trans (qt l _)
end
theorem gJ: ∀a l st,Ext get st (cv get set a l st).2
 |w::a,t::l,st=>by exact(Tm.ee hgs t w _).trans (gJ _ l _)
 |[],_,st=>by grind [cv,Ext.refl]
 |_::_,[],st=>by grind [cv,Ext.refl]
theorem tO ds l st:Ext get st (eu get set ds l st).2:=by
 unfold eu;cases gA _ with
 |true=>exact(Tm.ee hgs _ _ st).trans (Tm.ee hgs _ _ _)
 |false=>
  cases(decide (l.op=1)||decide (l.op=2)) with
  |true=>grind [gJ]
  |false=>exact((gJ hgs _ _ st).trans (Tm.ee hgs l.x 1 _)).trans (Tm.ee hgs l.y 1 _)
theorem nu ds: ∀b st,Ext get st (fp get set ds b st).2
 |[],st=>Ext.refl _ _
 |l::b,st=>by exact(tO hgs _ l _).trans (nu _ b _)
theorem F4 ds r st:Ext get st (j6 get set ds r st).2:=(gJ hgs _ _ _).trans (nu hgs _ _ _)
end
def aj4 o(s:ByteArray):=bif o.contains s then o else o++[s]
def Zd(o m:List _):=m.foldl aj4 o
mutual
def Tm.rv:Tm->List ByteArray
 | .mk op s _ l=>bif decide (op=1) then[s] else rvL l []
def rvL:List Tm->List ByteArray->List ByteArray
 |[],o=>o
 |t::l,o=>rvL l (Zd o t.rv)
end
mutual
def Tm.wf:Tm->Bool
 | .mk op _ _ l=>bif mn op then decide (l.length=2)&&Hg l else decide (l.length=0)
def Hg:List Tm->Bool
 |[]=>true
 |t::l=>t.wf&&Hg l
end
theorem wK: ∀h t,ar h t=true->t.wf=true
 |0,_,h=>by grind [ar]
 | h+1, .mk b s n l,e=>by
  rw[su] at e;rw[Tm.wf];have c: ∀l,lH h l=true->Hg l=true:=by
   intro l;induction l with
   |nil=>intro _;rfl
   |cons t l a=>
    intro e;simp only[lH,List.all_cons,ap7] at e;rw[Hg,wK h t e.1.2,a e.2];rfl
  grind
theorem HX{t}(h:Ld t=true):t.wf=true/\t.op=0:=by
 obtain⟨b,s,n,l⟩:=t;simp only[Ld,ap7,ap6] at h;have a:=h.1.1;subst a;exact⟨aq2 h.2,rfl⟩
theorem Nd{h}: ∀{l},l.all (ar h)=true->Hg l=true
 |[],_=>rfl
 |t::l,e=>by
  simp only[List.all_cons,ap7] at e;rw[Hg,wK h t e.1,Nd e.2];rfl
theorem uS{a}(h:bn a=true):Hg a.l=true:=by
 grind [bn,Nd]
structure QI(l:Lt):Prop where
 x:l.x.wf=true
 y:l.y.wf=true
 a:Hg l.a.l=true
 cmp:gA l.op=true->l.x.op≠4/\l.y.op≠4
 one:l.op=7->l.y.op=0
theorem Wd{l}(h:jl l=true):QI l:=by
 unfold jl at h;have j:Vg l.a=true->Hg l.a.l=true:=fun h=>by
  simp only[Vg,ap7,ap6] at h;rw[List.eq_nil_of_length_eq_zero h.2];rfl
 have b: ∀{t:Tm},ar 20 t=true->t.wf=true:=fun h=>wK _ _ h
 have g:gA l.op=true->3<=l.op/\l.op<=6:=fun h=>by
  simpa[gA] using h
 cases d:decide (l.op=1)||decide (l.op=2) with
 |true=>
  rw[d,aq3] at h;simp only[ap7] at h
  simp only[aq9,ap6] at d;exact⟨(HX h.2.1).1,(HX h.2.2).1,uS h.1,fun e=>by have:=g e;omega,fun e=>by omega⟩
 | false=>
  rw[d,aq1] at h;cases c:decide (l.op=3)||decide (l.op=4)||decide (l.op=5)||decide (l.op=6) with
  |true=>
   rw[c,aq3] at h;simp only[ap7,Bool.not_eq_true',ap8] at h
   simp only[aq9,ap6] at c;exact⟨b h.1.2,b h.2,j h.1.1.1.1,fun _=>⟨h.1.1.1.2,h.1.1.2⟩,fun e=>by omega⟩
  | false=>
   rw[c,aq1] at h;simp only[Bool.or_eq_false_iff,ap8] at d c;cases f:decide (l.op=7) with
   |true=>
    rw[f,aq3] at h;simp only[ap7] at h
    exact⟨b h.2,(HX h.1.2.2).1,uS h.1.1,fun e=>by have:=g e;omega,fun _=>(HX h.1.2.2).2⟩
   | false=>
    rw[f,aq1] at h;rw[ap8] at f;cases i:decide (l.op=8)||decide (l.op=9)||decide (l.op=10) with
    |true=>
     rw[i,aq3] at h;simp only[ap7] at h
     exact⟨b h.1.2,b h.2,uS h.1.1.1,fun e=>by have:=g e;omega,fun e=>absurd e f⟩
    |false=>rw[i,aq1] at h;cases h
section
variable {σ:Type} {get:σ->ByteArray->Int} {set:σ->ByteArray->Int->σ}
theorem WK{a}(h:a=1):mn a=false:=by subst h;rfl
mutual
theorem Tm.mW: ∀(t:Tm) (k:Int) (x:σ×Bool),t.wf=true->(t.want get set k x).1=false->(t.want get set k x).2=((t.di get set k x.1).2,x.2||(t.di get set k x.1).1)
 | .mk op s n l,k,x,hw,h=>by
  rw[Tm.wf] at hw;rw[Tm.want] at h⊢;rw[Tm.di];cases he:(jd get set l x).1 with
  |true=>rw[he,aq3,he] at h;cases h
  | false=>
   rw[he,aq1] at h;rw[aq1];cases h1:decide (op=1) with
   | true=>
    rw[ap6] at h1;rw[WK h1,aq1,ap6] at hw;rw[List.eq_nil_of_length_eq_zero hw];rw[List.eq_nil_of_length_eq_zero hw] at h;rw[jd] at h⊢;subst h1;simp only[bF,Tm.op,Tm.s,aq3,decide_true,show decide ((1:Int)=4)=false from rfl,Bool.or_false] at h⊢;cases hk:decide (k=0) with
    |true=>simp
    |false=>
     rw[hk] at h;simp only[aq1,Bool.false_or] at h⊢;cases hg:decide (get x.1 s=0) with
     |true=>simp
     |false=>simp
   | false=>
    rw[aq1];have ih:(jd get set l x).2=((dZ get set l x.1).2,x.2||(dZ get set l x.1).1):=by
     cases h2:mn op with
     |true=>
      rw[h2,aq3,ap7] at hw;exact Eh l x hw.2 he
     |false=>
      rw[h2,aq1,ap6] at hw;rw[List.eq_nil_of_length_eq_zero hw];simp[jd,dZ]
    cases hk:decide (k=0)||decide (op=4) with
    |true=>exact ih
    | false=>
     rw[hk,aq1] at h;rw[aq1];rw[Bool.or_eq_false_iff] at hk;have hn:decide (bF get (.mk op s n l) (jd get set l x).2.1=0)=false:=by
      unfold bF;rw[show(Tm.mk op s n l).op=op from rfl,h1,aq1,hk.2];cases decide (op=3)<;>rfl
     rw[hn,aq1];exact ih
theorem Eh: ∀(l:List Tm) (x:σ×Bool),Hg l=true->(jd get set l x).1=false->(jd get set l x).2=((dZ get set l x.1).2,x.2||(dZ get set l x.1).1)
 |[],x,_,_=>by simp[jd,dZ]
 | t::l,x,hw,h=>by
  rw[Hg,ap7] at hw;rw[jd] at h⊢;rw[dZ];cases he:(t.want get set 1 x).1 with
  |true=>rw[he,aq3,he] at h;cases h
  |false=>
   rw[he,aq1] at h;rw[aq1];have e1:=Tm.mW t 1 x hw.1 he;have e2:=Eh l _ hw.2 h;rw[e2,e1];simp only[Bool.or_assoc]
end
theorem xH: ∀a l x,Hg l=true->(jS get set a l x).1=false->(jS get set a l x).2=((cv get set a l x.1).2,x.2||(cv get set a l x.1).1)
 |[],l,x,_,_=>by simp[jS,cv]
 |w::a,[],x,_,_=>by simp[jS,cv]
 | w::a,t::l,x,b,h=>by
  rw[Hg,ap7] at b;rw[jS] at h⊢;rw[cv];cases c:(t.want get set w x).1 with
  |true=>grind
  |false=>
   rw[c,aq1] at h;have e:=t.mW w x b.1 c;have d:=xH a l _ b.2 h
   grind
theorem CL{y:Bool×σ×Bool}{f}(h:(kX y f).1=0):y.1=false/\(f y.2).1=false/\(kX y f).2=(f y.2).2:=by
 grind [kX]
theorem tL{y:Bool×σ×Bool}{f}:(kX y f).1=0\/(kX y f).1=53:=by
 grind [kX]
theorem Gk{t:Tm}(b:t.wf=true)(h:t.op=0) k st:t.di get set k st=(false,st):=by
 obtain⟨a,s,n,l⟩:=t;have h:a=0:=h
 grind [Tm.wf,mn,Tm.di,dZ]
theorem QR ds{l}(c:QI l)(t:dL l=true->known ds l.a=0) x(h:(kW get set ds l x).1=0):(kW get set ds l x).2=((eu get set ds l x.1).2,x.2||(eu get set ds l x.1).1):=by
 unfold kW at h⊢;unfold eu;cases j:gA l.op with
 |true=>
  rw[j,aq3] at h;rw[aq3,aq3];obtain⟨n,o,k⟩:=CL h;have d:=l.x.mW _ x c.x n;have i:=l.y.mW _ _ c.y o;rw[k,i,d];simp only[Bool.or_assoc]
 | false=>
  rw[j,aq1] at h;rw[aq1,aq1];have m:dL l=true:=by
   simp only[gA,Bool.and_eq_false_iff,ap8] at j;simp only[dL,aq9,ap6];omega
  have s:fe get set ds l.a x=(bif (jS get set (dh ds l.a.rel) l.a.l x).1 then 53 else 0,(jS get set (dh ds l.a.rel) l.a.l x).2):=by
   unfold fe;rw[t m];rfl
  have p:(fe get set ds l.a x).1=0->(fe get set ds l.a x).2=((cv get set (dh ds l.a.rel) l.a.l x.1).2,x.2||(cv get set (dh ds l.a.rel) l.a.l x.1).1):=fun e=>by
   rw[s] at e⊢;cases b:(jS get set (dh ds l.a.rel) l.a.l x).1 with
   |true=>rw[b] at e;cases e
   |false=>exact xH _ _ _ c.a b
  cases f:decide (l.op=1)||decide (l.op=2) with
  |true=>
   rw[f,aq3] at h;rw[aq3,aq3];exact p h
  | false=>
   rw[f,aq1] at h;rw[aq1,aq1];cases b:decide ((fe get set ds l.a x).1=0) with
   |false=>rw[b,Bool.not_false,aq3] at h;rw[h] at b;cases b
   | true=>
    rw[b,Bool.not_true,aq1] at h;rw[Bool.not_true,aq1];rw[ap6] at b;have q:=p b;cases g:decide (l.op=7) with
    | true=>
     rw[g,aq3] at h;rw[aq3];have r:(l.x.want get set 1 (fe get set ds l.a x).2).1=false:=by
      cases e:(l.x.want get set 1 (fe get set ds l.a x).2).1 with
      |true=>rw[e] at h;cases h
      |false=>rfl
     have d:=l.x.mW 1 _ c.x r;rw[ap6] at g;rw[d,q,Gk c.y (c.one g)];simp only[Bool.or_false,Bool.or_assoc]
    |false=>
     rw[g,aq1] at h;rw[aq1];obtain⟨n,o,k⟩:=CL h;have d:=l.x.mW _ _ c.x n;have i:=l.y.mW _ _ c.y o;rw[k,i,d,q];simp only[Bool.or_assoc]
theorem wZ ds{l}(e:dL l=true->known ds l.a=0) x:(kW get set ds l x).1=0\/(kW get set ds l x).1=53:=by
 unfold kW;cases c:gA l.op with
 |true=>rw[aq3];exact tL
 | false=>
  have d:dL l=true:=by
   simp only[gA,Bool.and_eq_false_iff,ap8] at c;simp only[dL,aq9,ap6];omega
  have b:(fe get set ds l.a x).1=0\/(fe get set ds l.a x).1=53:=by
   unfold fe;grind
  rw[aq1];cases decide (l.op=1)||decide (l.op=2) with
  |true=>exact b
  | false=>
   rw[aq1];cases decide ((fe get set ds l.a x).1=0) with
   |false=>exact b
   | true=>
    cases decide (l.op=7) with
    |true=>
     grind
    |false=>rw[aq1];exact tL
theorem Qh ds{l}(b:dL l=true)(c:known ds l.a≠0) x:(kW get set ds l x).1=known ds l.a:=by
 grind [gA,dL,fe,kW]
theorem ya ds: ∀b x,jm ds b=0->(kg get set ds b (53,x)).1=53
 |[],_,_=>rfl
 | l::b,x,h=>by
  rw[jm] at h;have d:dL l=true->known ds l.a=0:=fun e=>by
   grind
  have f:jm ds b=0:=by
   grind
  rw[kg];have c:iP 53 (kW get set ds l x).1=53:=by
   rcases wZ   ds d x with e|e<;>rw[e]<;>rfl
  simp only[c];exact ya ds b _ f
theorem Dd ds: ∀b x,jm ds b=0->(∀l,l∈b->QI l)->(kg get set ds b (0,x)).1=0->(kg get set ds b (0,x)).2=((fp get set ds b x.1).2,x.2||(fp get set ds b x.1).1)
 |[],x,_,_,_=>by simp[kg,fp]
 | l::b,x,h,d,c=>by
  rw[jm] at h;have f:dL l=true->known ds l.a=0:=fun e=>by
   grind
  have i:jm ds b=0:=by
   grind
  rw[kg] at c⊢;rw[fp];have j: ∀e:Int,iP 0 e=e:=fun e=>rfl
  simp only[j] at c⊢;rcases wZ (get:=get) (set:=set) ds f x with e|e
  ·rw[e] at c⊢
   have k:=QR ds (d l List.mem_cons_self) f x e;have n:=Dd ds b _ i (fun m g=>d m (List.mem_cons_of_mem _ g)) c;rw[show xF 0=false from rfl,aq1,n,k];simp only[Bool.or_assoc]
  simp_all[xF,aq1,ya]
theorem PX ds{r}(f:Hg r.head.l=true)(e: ∀l,l∈r.body->QI l)(a:iY ds r=0) st(h:(ff get set ds r st).1=0):(ff get set ds r st).2=((j6 get set ds r st).2,(j6 get set ds r st).1):=by
 unfold iY at a;have c:known ds r.head=0:=by
  grind
 rw[c] at a;have d:jm ds r.body=0:=a;unfold ff at h⊢;have g:fe get set ds r.head (st,false)=(bif (jS get set (dh ds r.head.rel) r.head.l (st,false)).1 then 53 else 0,(jS get set (dh ds r.head.rel) r.head.l (st,false)).2):=by
  unfold fe;rw[c];rfl
 rw[g] at h⊢;cases b:(jS get set (dh ds r.head.rel) r.head.l (st,false)).1 with
 |true=>rw[b,aq3,ya ds _ _ d] at h;cases h
 |false=>
  rw[b,aq1] at h;rw[aq1,Dd ds _ _ d e h,xH _ _ _ f b];rfl
end
section
variable {σ:Type} {get:σ->ByteArray->Int} {set:σ->ByteArray->Int->σ}
variable (hgs: ∀st s k t,get (set st s k) t=bif t==s then k else get st t)
include hgs
end
section
variable {σ:Type} {get:σ->ByteArray->Int} {set:σ->ByteArray->Int->σ}
def Val(get:σ->ByteArray->Int) st:=∀s,get st s=0\/get st s=1\/get st s=2
end
theorem AF{l s}(h:s∈l.x.vars):s∈ep l:=by grind [ep,ax]
theorem AG{l s}(h:s∈l.y.vars):s∈ep l:=by grind [ep,ax]
theorem FO{l s}(h:s∈ax l.a.l):s∈ep l:=by grind [ep]
section
variable {σ:Type} {get:σ->ByteArray->Int} {set:σ->ByteArray->Int->σ}
def yB(get:σ->ByteArray->Int)(V:ByteArray->Prop) a b:=∃s,V s/\get a s=0/\get b s≠0
theorem yB.left{V W a b c}(h:yB get V a b)(e:Ext get b c)(f: ∀s,V s->W s):yB get W a c:=by
 obtain⟨s,g,i,d⟩:=h;exact⟨s,f s g,i,by rw[e s d];omega⟩
theorem yB.right{V W a b c}(f:Ext get a b)(h:yB get V b c)(g: ∀s,V s->W s):yB get W a c:=by
 obtain⟨s,i,j,d⟩:=h;refine⟨s,g s i,?_,d⟩;cases e:decide (get a s=0) with
 |true=>grind
 |false=>rw[ap8] at e;rw[f s e] at j;omega
variable (hgs: ∀st s k t,get (set st s k) t=bif t==s then k else get st t)
include hgs
mutual
theorem Tm.ku: ∀(t:Tm) (w:Int) (st:σ),(t.di get set w st).1=true->yB get (fun s=>s∈t.vars) st (t.di get set w st).2
 | .mk op s n l,w,st,h=>by
  rw[Tm.di] at h⊢;cases h1:decide (op=1) with
  |false=>
   rw[h1,aq1] at h;rw[aq1];exact(wM l st h).left (Ext.refl _ _) fun s hs=>by rw[Tm.vars];exact List.mem_append_right _ hs
  | true=>
   rw[h1,aq3] at h;rw[aq3];cases hc:(decide (w=0)|| !decide (get st s=0)) with
   |true=>rw[hc,aq3] at h;cases h
   |false=>
    rw[aq1];simp only[Bool.or_eq_false_iff,ap8,aq8,ap6] at hc;refine⟨s,by rw[Tm.vars,h1];simp,hc.2,?_⟩;rw[hgs];simpa using hc.1
theorem wM: ∀(l:List Tm) (st:σ),(dZ get set l st).1=true->yB get (fun s=>s∈ax l) st (dZ get set l st).2
 |[],_,h=>by rw[dZ] at h;cases h
 | t::l,st,h=>by
  rw[dZ] at h⊢;cases h1:(t.di get set 1 st).1 with
  |true=>exact(Tm.ku t 1 st h1).left (qt hgs l _) fun s hs=>by rw[ax];exact List.mem_append_left _ hs
  |false=>
   rw[h1,Bool.false_or] at h;exact yB.right (Tm.ee hgs t 1 st) (wM l _ h) fun s hs=>by rw[ax];exact List.mem_append_right _ hs
end
theorem nz: ∀a l st,(cv get set a l st).1=true->yB get (fun s=>s∈ax l) st (cv get set a l st).2
 |[],l,st,h=>by simp[cv] at h
 |w::a,[],st,h=>by simp[cv] at h
 | w::a,t::l,st,h=>by
  rw[cv] at h⊢;cases b:(t.di get set w st).1 with
  |true=>exact(Tm.ku hgs t w st b).left (gJ hgs a l _) fun s c=>by rw[ax];grind
  |false=>
   rw[b] at h;exact yB.right (Tm.ee hgs t w st) (nz a l _ h) fun s c=>by rw[ax];grind
theorem DS ds l st(h:(eu get set ds l st).1=true):yB get (fun s=>s∈ep l) st (eu get set ds l st).2:=by
 unfold eu at h⊢;cases d:gA l.op with
 | true=>
  rw[d,aq3] at h;rw[aq3];cases b:(l.x.di get set (lF get l st) st).1 with
  |true=>exact(Tm.ku hgs _ _ _ b).left (Tm.ee hgs l.y _ _) fun s=>AF
  |false=>
   rw[b,Bool.false_or] at h;exact yB.right (Tm.ee hgs l.x _ st) (Tm.ku hgs _ _ _ h) fun s=>AG
 | false=>
  rw[d,aq1] at h;rw[aq1];cases c:decide (l.op=1)||decide (l.op=2) with
  |true=>rw[c,aq3] at h;exact(nz hgs _ _ _ h).left (Ext.refl _ _) fun s=>FO
  | false=>
   rw[c,aq1] at h;rw[aq1];cases e:(cv get set (dh ds l.a.rel) l.a.l st).1 with
   |true=>exact(nz hgs _ _ _ e).left ((Tm.ee hgs l.x _ _).trans (Tm.ee hgs l.y _ _)) fun s=>FO
   | false=>
    rw[e,Bool.false_or] at h;cases b:(l.x.di get set 1 (cv get set (dh ds l.a.rel) l.a.l st).2).1 with
    |true=>exact yB.right (gJ hgs _ _ st) ((Tm.ku hgs _ _ _ b).left (W:=fun s=>s∈ep l) (Tm.ee hgs l.y _ _) fun s=>AF) fun s f=>f
    |false=>
     rw[b,Bool.false_or] at h;exact yB.right ((gJ hgs _ _ st).trans (Tm.ee hgs l.x _ _)) (Tm.ku hgs _ _ _ h) fun s=>AG
theorem wi ds: ∀b st,(fp get set ds b st).1=true->yB get (fun s=>s∈b.flatMap ep) st (fp get set ds b st).2
 |[],_,h=>by cases h
 | l::b,st,h=>by
  rw[fp] at h⊢;cases a:(eu get set ds l st).1 with
  |true=>exact(DS hgs ds l st a).left (nu hgs ds b _) (by grind)
  |false=>
   rw[a] at h;exact yB.right (tO hgs ds l st) (wi ds b _ h) (by grind)
theorem Fy ds r st(h:(j6 get set ds r st).1=true):yB get (fun s=>s∈fx r) st (j6 get set ds r st).2:=by
 unfold j6 at h⊢;cases a:(cv get set (dh ds r.head.rel) r.head.l st).1 with
 |true=>exact(nz hgs _ _ _ a).left (nu hgs ds _ _) fun s b=>by rw[fx];grind
 |false=>
  grind [yB.right,gJ,wi,fx,List.mem_append_right]
omit hgs
def mz(get:σ->ByteArray->Int)(V:List _) st:=(V.filter fun s=>decide (get st s=0)).length
theorem Pw get V(st:σ):mz get V st<=V.length:=List.length_filter_le _ _
theorem yN{a b}(h:Ext get a b): ∀V,mz get V b<=mz get V a
 |[]=>Nat.le_refl _
 | s::V=>by
  have c:=yN h V;unfold mz at c⊢;rw[List.filter_cons,List.filter_cons];cases e:decide (get a s=0) with
  |true=>
   grind
  |false=>
   rw[ap8] at e;rw[aq0 (by rw[h s e];exact e)]
   grind
theorem zD{a b}(h:Ext get a b): ∀V,yB get (fun s=>s∈V) a b->mz get V b<mz get V a
 |[],⟨_,c,_⟩=>nomatch c
 | s::V,⟨t,c,f,g⟩=>by
  rcases List.mem_cons.1 c with rfl|c
  ·have d:=yN h V
   unfold mz at d⊢
   grind
  ·have d:=zD h V ⟨t,c,f,g⟩
   unfold mz at d⊢;rw[List.filter_cons,List.filter_cons];cases e:decide (get a s=0) with
   |true=>
    grind
   |false=>
    rw[ap8] at e;rw[aq0 (by rw[h s e];exact e)];simpa using d
include hgs
end
section
variable {σ ρ:Type} {get:σ->ByteArray->Int} {set:σ->ByteArray->Int->σ} {get':ρ->ByteArray->Int} {set':ρ->ByteArray->Int->ρ} {V:ByteArray->Prop} {P:ρ->Prop}
def Alike(get:σ->ByteArray->Int)(c:ρ->ByteArray->Int)(V:ByteArray->Prop)(P:ρ->Prop) a b:=P b/\∀s,V s->get a s=c b s
variable (hg: ∀st s k t,get (set st s k) t=bif t==s then k else get st t) (hg': ∀st s k t,P st->V s->V t->get' (set' st s k) t=bif t==s then k else get' st t) (hp: ∀st s k,P st->V s->P (set' st s k))
theorem Alike.ty{a b}(h:Alike get get' V P a b){t}(d: ∀s,s∈t.vars->V s):bF get t a=bF get' t b:=by
 unfold bF;cases e:decide (t.op=1) with
 |false=>rfl
 |true=>
  refine h.2 _ (d _ ?_);obtain⟨c,s,n,l⟩:=t;rw[Tm.vars,show decide (c=1)=true from e];simp[Tm.s]
theorem Alike.kind{a b}(h:Alike get get' V P a b){l}(d: ∀s,s∈ep l->V s):lF get l a=lF get' l b:=by
 unfold lF;rw[h.ty  fun s c=>d s (AF c),h.ty  fun s c=>d s (AG c)]
include hg hg' hp
mutual
theorem Alike.di: ∀(t:Tm) (w:Int) {a:σ} {b:ρ},Alike get get' V P a b->(∀s,s∈t.vars->V s)->(t.di get set w a).1=(t.di get' set' w b).1/\Alike get get' V P (t.di get set w a).2 (t.di get' set' w b).2
 | .mk op s n l,w,a,b,h,hv=>by
  rw[Tm.di,Tm.di];cases h1:decide (op=1) with
  |false=>exact Alike.dZ l h fun s hs=>hv s (by rw[Tm.vars];exact List.mem_append_right _ hs)
  | true=>
   have hs:V s:=hv s (by rw[Tm.vars,h1];simp);rw[aq3,aq3,h.2 s hs];cases(decide (w=0)|| !decide (get' b s=0)) with
   |true=>exact⟨rfl,h⟩
   |false=>
    refine⟨rfl,hp b s w h.1 hs,fun t ht=>?_⟩;rw[aq1,aq1,hg,hg' b s w t h.1 hs ht,h.2 t ht]
theorem Alike.dZ: ∀(l:List Tm) {a:σ} {b:ρ},Alike get get' V P a b->(∀s,s∈ax l->V s)->(dZ get set l a).1=(dZ get' set' l b).1/\Alike get get' V P (dZ get set l a).2 (dZ get' set' l b).2
 |[],a,b,h,_=>by have _:=hg;have _:=hg';have _:=hp;exact⟨rfl,h⟩
 |t::l,a,b,h,hv=>by
  rw[Rl.dZ,Rl.dZ];obtain⟨e1,h1⟩:=Alike.di t 1 h fun s hs=>hv s (by rw[ax];exact List.mem_append_left _ hs)
  obtain⟨e2,h2⟩:=Alike.dZ l h1 fun s hs=>hv s (by rw[ax];exact List.mem_append_right _ hs)
  exact⟨by rw[e1,e2],h2⟩
end
theorem Alike.cv: ∀c l {a b},Alike get get' V P a b->(∀s,s∈ax l->V s)->(cv get set c l a).1=(cv get' set' c l b).1/\Alike get get' V P (cv get set c l a).2 (cv get' set' c l b).2
 |[],l,a,b,h,_=>by simpa[Rl.cv] using h
 |w::c,[],a,b,h,_=>by simpa[Rl.cv] using h
 |w::c,t::l,a,b,h,d=>by
  rw[Rl.cv,Rl.cv];obtain⟨g,e⟩:=Alike.di hg hg' hp t w h fun s f=>d s (by rw[ax];grind)
  obtain⟨j,i⟩:=Alike.cv c l e fun s f=>d s (by rw[ax];grind)
  grind
theorem Alike.eu ds l{a b}(h:Alike get get' V P a b)(d: ∀s,s∈ep l->V s):(eu get set ds l a).1=(eu get' set' ds l b).1/\Alike get get' V P (eu get set ds l a).2 (eu get' set' ds l b).2:=by
 unfold Rl.eu;have j: ∀s,s∈l.x.vars->V s:=fun s c=>d s (AF c)
 have g: ∀s,s∈l.y.vars->V s:=fun s c=>d s (AG c)
 have k: ∀s,s∈ax l.a.l->V s:=fun s c=>d s (FO c)
 cases gA l.op with
 |true=>
  rw[aq3,aq3,h.kind d]
  grind [Alike.di,lF]
 | false=>
  rw[aq1,aq1];obtain⟨e,f⟩:=Alike.cv hg hg' hp (dh ds l.a.rel) l.a.l h k;cases decide (l.op=1)||decide (l.op=2) with
  |true=>exact⟨e,f⟩
  |false=>
   obtain⟨m,n⟩:=Alike.di hg hg' hp l.x 1 f j;obtain⟨o,i⟩:=Alike.di hg hg' hp l.y 1 n g;exact⟨by rw[aq1,aq1,e,m,o],i⟩
theorem Alike.fp ds: ∀l {a b},Alike get get' V P a b->(∀s,s∈l.flatMap ep->V s)->(fp get set ds l a).1=(fp get' set' ds l b).1/\Alike get get' V P (fp get set ds l a).2 (fp get' set' ds l b).2
 |[],a,b,h,_=>⟨rfl,h⟩
 |l::m,a,b,h,d=>by
  rw[Rl.fp,Rl.fp];obtain⟨f,c⟩:=Alike.eu hg hg' hp ds l h (by grind);obtain⟨g,e⟩:=Alike.fp ds m c (by grind)
  grind
theorem Alike.j6 ds r{a b}(h:Alike get get' V P a b)(c: ∀s,s∈fx r->V s):(j6 get set ds r a).1=(j6 get' set' ds r b).1/\Alike get get' V P (j6 get set ds r a).2 (j6 get' set' ds r b).2:=by
 grind [Rl.j6,Alike.cv,fx,Alike.fp]
end
def getM a s:=toInt (c6 a (.string s) (.lit (.int .i64 0)))
def gx a s k:=eC a (.string s) (.lit (.int .i64 k))
theorem nV: ∀a s k t,getM (gx a s k) t=bif t==s then k else getM a t
 |[],s,k,t=>by
  simp only[getM,gx,eC,c6,eg];cases t==s<;>rfl
 | (d,e)::a,s,k,t=>by
  have b:=nV a s k t;simp only[getM,gx,eC,c6] at b⊢;cases h:eg (.string s) d with
  |true=>
   have c:=zy h;subst c;simp only[aq3,c6,eg];cases f:t==s<;>rfl
  |false=>
   simp only[aq1,c6]
   grind
def plc(V:List _) s:=V.findIdx (oQ s)
def jQ V(τ:List Int) s k:=τ.set (plc V s) k
def L2 ds r:=
 bif decide ((fJ getM gx ds r ((dg r).length+1) []).1=0) then
  bif (dg r).all fun s=>!decide (getM (fJ getM gx ds r ((dg r).length+1) []).2 s=0) then(0,(dg r).map (getM (fJ getM gx ds r ((dg r).length+1) []).2)) else(53,[])
 else((fJ getM gx ds r ((dg r).length+1) []).1,[])
theorem s5 ds a:known ds a=0\/known ds a=51\/known ds a=52:=by
 grind [known]
section
variable {σ:Type} {get:σ->ByteArray->Int} {set:σ->ByteArray->Int->σ}
theorem Cr ds: ∀b y,y.1=0\/y.1=53->jm ds b≠0->(kg get set ds b y).1=jm ds b
 |[],_,_,h=>absurd rfl h
 | l::b,y,i,h=>by
  rw[jm] at h⊢;rw[kg];cases c:dL l&& !decide (known ds l.a=0) with
  |true=>
   rw[aq3]
   grind [Qh,iP,known,s5,xF]
  | false=>
   rw[c,aq1] at h;rw[aq1];have j:dL l=true->known ds l.a=0:=fun e=>by
    rw[e,ar2] at c;simpa using c
   have d:iP y.1 (kW get set ds l y.2).1=0\/iP y.1 (kW get set ds l y.2).1=53:=by
    rcases wZ (get:=get) (set:=set) ds j y.2 with e|e<;>rcases i with f|f<;>rw[e,f]<;>decide
   have g:xF (iP y.1 (kW get set ds l y.2).1)=false:=by rcases d with e|e<;>rw[e]<;>rfl
   rw[g,aq1];exact Cr ds b _ d h
theorem Dy ds r st(h:iY ds r≠0):(ff get set ds r st).1=iY ds r:=by
 unfold ff;unfold iY at h⊢;cases a:decide (known ds r.head=0) with
 |true=>
  rw[a,aq3] at h;rw[aq3];refine Cr ds _ _ ?_ h;unfold fe
  grind
 | false=>
  rw[aq1];have b:fe get set ds r.head (st,false)=(known ds r.head,(st,false)):=by
   unfold fe;rw[a];rfl
  rw[b];rw[ap8] at a;cases r.body<;>grind [kg,iP,known,s5,xF]
end
end Go.Rl
namespace Go.Proofs.YtioeffnadipbaaaGreatDoor
open Go Go.Dn Go.Rl Go.Proofs Go.RowKit Go.Extern.Stop Go.Stop Go.Extern
def TN(κ:Kp)(e:Int):=bif decide (e=51) then κ.fI else bif decide (e=52) then κ.arity else κ.type
def bf(κ:Kp)(e:Int):Value:=bif decide (e=0) then .nilIface else .iface 273 (.pointer (some (TN κ e)))
def yb(e:Int):=e=51\/e=52\/e=53
def jO(e:Int):Prop:=e=0\/yb e
theorem cD κ e:aD (bf κ e)=true:=by unfold bf;cases decide (e=0)<;>rfl
theorem jE κ e:bO (bf κ e)=decide (e=0):=by unfold bf;cases decide (e=0)<;>rfl
theorem LJ κ{e k}(b:yb e)(a:yb k)(h:e≠k):TN κ e≠TN κ k:=by
 rcases b with rfl|rfl|rfl<;>rcases a with rfl|rfl|rfl<;>first|grind|exact κ.d1|exact κ.d2|exact κ.d3|exact κ.d1.symm|exact κ.d2.symm|exact κ.d3.symm
theorem Rn κ{e k}(a:jO e)(b:jO k):bf κ e=bf κ k↔e=k:=by
 rcases a with rfl|a
 ·grind [bf]
 ·have e0:decide (e=0)=false:=by rcases a with rfl|rfl|rfl<;>rfl
  rcases b with rfl|b
  ·grind [bf]
  grind [bf,LJ]
theorem I8 κ{e}(f:yb e): ∃c t,zK κ (TN κ e).block=some (.cells c t (0,0)):=by
 have d: ∀b,(∀g,g∈[1,0,3,4,2]->b≠g)->b=κ.fI.block\/b=κ.arity.block\/b=κ.type.block->∃c t,zK κ b=some (.cells c t (0,0)):=by
  intro b a h;unfold zK;rw[tc (a _ (by simp)),tc (a 0 (by simp)),tc (a 3 (by simp)),tc (a 4 (by simp)),tc (a 2 (by simp))];simp only[aq1];cases k:Nat.beq b κ.fI.block with
  |true=>exact⟨_,_,rfl⟩
  | false=>
   rw[aq1];cases i:Nat.beq b κ.arity.block with
   |true=>exact⟨_,_,rfl⟩
   |false=>
    rw[aq1];cases j:Nat.beq b κ.type.block<;>grind [Nat.beq_refl]
 rcases f with rfl|rfl|rfl
 ·exact d _ κ.n3 (.inl rfl)
 ·exact d _ κ.n4 (.inr (.inl rfl))
 ·exact d _ κ.n5 (.inr (.inr rfl))
theorem aa7 v a w:(Instr.typeAssert (.iface 273 v) a 259 true).run Tryz.prog w= .ok (.tuple #[.nilIface, .bool false]) w:=run_typeAssert_lacksB Tryz.underlying259 (by kernel_rfl) (by kernel_rfl) v _ w
theorem J2 v a w:(Instr.typeAssert (.iface 273 v) a 261 true).run Tryz.prog w= .ok (.tuple #[.nilIface, .bool false]) w:=run_typeAssert_lacksB Tryz.underlying261 (by kernel_rfl) (by kernel_rfl) v _ w
theorem EL v a w:(Instr.typeAssert (.iface 273 v) a 263 true).run Tryz.prog w= .ok (.tuple #[.nilIface, .bool false]) w:=run_typeAssert_lacksB Tryz.underlying263 (by kernel_rfl) (by kernel_rfl) v _ w
set_option maxRecDepth 8000 in
theorem N0(a b:Addr)(w:World)(hab:a≠b){ca cb:Array Value}{ta tb:TypeId}(ha:w.heap[a.block]? =some (.cells ca ta (0,0)))(hb:w.heap[b.block]? =some (.cells cb tb (0,0))):
  Calls Tryz.prog 108 #[.iface 273 (.pointer (some a)), .iface 273 (.pointer (some b))] w fun e w'=>e= .returned (.bool false)/\w'=w:=by
 obtain⟨i,hi,hcmp⟩:=Option.map_eq_some_iff.1 EE;obtain⟨j,hj,hjs⟩:=Option.map_eq_some_iff.1 Gf;have h8:= @run_callFunc_extern Tryz.prog 157 _ Extern.ReflectliteType.typeOf Tryz.func157 (by kernel_rfl) (by kernel_rfl) (by kernel_rfl) (by kernel_rfl);have h32:= @run_callFunc_extern Tryz.prog 222 _ (Extern.ReflectliteType.method fun t=>do Go.Extern.Rtype.noPackHeld "Comparable" t;pure (.bool (←typeInfo t).comparable)) Tryz.func222 (by kernel_rfl) (by kernel_rfl) (by kernel_rfl) (by kernel_rfl);have tT:=xk;have cT:=nc;have mR:=iC;have hne:=run_eql_iface_ptr_other (P:=Tryz.prog) w Tryz.underlying171 Tryz.underlying273 hi hcmp hj (by omega) hab ha hb;have n1:=aa7;have n2:=J2;have n3:=EL
 go_enter Tryz.func108,Tryz.ntmps108
 go_wp2
 refine wp_loop_rounds 1 ?_;rw[rounds_succ]
 go_wp2
 all_goals (go_ret;exact⟨rfl,rfl⟩)
open Classical in
noncomputable def kH(κ:Kp)(v:Value):Bool:=decide (∃e,jO e/\v=bf κ e)
open Classical in
noncomputable def l7(κ:Kp)(v:Value):Bool:=decide (∃e,yb e/\v=bf κ e)
open Classical in
noncomputable def gB(v t:Value):Bool:=decide (v=t)
theorem xl κ v:kH κ v=true↔ ∃e,jO e/\v=bf κ e:=by grind [kH]
theorem D8 κ v:l7 κ v=true↔ ∃e,yb e/\v=bf κ e:=by grind [l7]
theorem KI v t:gB v t=true↔v=t:=by grind [gB]
theorem A9 κ{e}(h:jO e):kH κ (bf κ e)=true:=(xl _ _).2 ⟨e,h,rfl⟩
theorem BV κ{e}(h:yb e):l7 κ (bf κ e)=true:=(D8 _ _).2 ⟨e,h,rfl⟩
theorem iv κ{e k}(b:jO e)(a:jO k):gB (bf κ e) (bf κ k)=decide (e=k):=by
 rw[Bool.eq_iff_iff,KI]
 grind [Rn]
noncomputable def WN(κ:Kp):List AV->Option (Bool×AV)
 |[.lit v, .lit t]=>some (kH κ v&&l7 κ t, .bool (gB v t))
 |_=>none
theorem af7 κ:gu (Pr κ) 108 (WN κ):=by
 intro i x v b;unfold WN at b;split at b
 ·simp only[ap9,aq5,ap7] at b
  obtain⟨⟨m,l⟩,rfl⟩:=b;obtain⟨e,a,rfl⟩:=(xl _ _).1 m;obtain⟨k,d,rfl⟩:=(D8 _ _).1 l;have q:decide (k=0)=false:=by rcases d with rfl|rfl|rfl<;>rfl
  have c:bf κ k= .iface 273 (.pointer (some (TN κ k))):=by unfold bf;rw[q];rfl
  refine⟨_,_,Tryz.func108,rfl,rfl,rfl,fun C u j g o=>?_⟩;rw[vQ o,iv κ a (.inr d)];rcases a with rfl|a
  ·have e0:bf κ 0= .nilIface:=rfl
   rw[e0,c];refine(callsIn_wide.2 (My _ C.w)).mono ?_
   grind [ib.refl,decide_eq_false]
  ·have e0:decide (e=0)=false:=by rcases a with rfl|rfl|rfl<;>rfl
   have f:bf κ e= .iface 273 (.pointer (some (TN κ e))):=by unfold bf;rw[e0];rfl
   rw[f,c];by_cases h:e=k
   ·subst h
    refine(callsIn_wide.2 (Ie _ C.w)).mono ?_;rintro e r ⟨rfl,rfl⟩;refine⟨?_,ib.refl _⟩;rw[aq2 rfl]
   ·obtain⟨A,B,p⟩:=I8 κ a
    obtain⟨y,z,s⟩:=I8 κ d;have t:=(g.kept _ _ (by rw[j];exact p)).2;have n:=(g.kept _ _ (by rw[j];exact s)).2;refine(callsIn_wide.2 (N0 _ _ C.w (LJ κ a d h) t n)).mono ?_;rintro e r ⟨rfl,rfl⟩;refine⟨?_,ib.refl _⟩;rw[aq0 h]
 ·cases b
noncomputable def R3 κ:=(E15 κ).aK 108 (WN κ)
theorem eIe κ:aE (R3 κ):=(e15 _).eI (af7 _)
theorem mIe κ:aj (R3 κ):=(m15 _).aK
end Go.Proofs.YtioeffnadipbaaaGreatDoor
namespace Go.Proofs.YtioeffnadipbaaaGreatDoor
open Go Go.Dn Go.Rl Go.Proofs
attribute [local irreducible] a0 vc
set_option maxRecDepth 20000
structure WX where
 rel:ByteArray
 names:List AV
 types:List AV
 i:Bool
 o:Bool
 line:Int
abbrev Tq(d:WX):AV:= .agg [.lit (.string d.rel), .ah 9 d.names, .ah 3 d.types, .bool d.i, .bool d.o, .int d.line]
def RQ t:=decide (toInt t=1)||decide (toInt t=2)
def EZ:List AV->List AV->Bool
 |n::b,t::a=>isName (toStr n)&&RQ t&&EZ b a
 |_,_=>true
def DP b a c:=isName b&& !decide (a.length=0)&&decide (a.length<=8)&&decide (c.length=a.length)&&EZ a c
def JH a:=DP (toStr (ag a 0)) (af (ag a 1)) (af (ag a 2))
theorem JR{b a i}(d:i<b.length)(c:i<a.length):EZ (b.drop i) (a.drop i)=(isName (toStr (nth b i))&&RQ (nth a i)&&EZ (b.drop (i+1)) (a.drop (i+1))):=by
 grind [List.drop_eq_getElem_cons,EZ,aM]
theorem xDc κ d i I n K:(vc (R3 κ) 12 94 none 0 (ad (Pr κ).toProgram 94 4) (sp 58 [(1, .ptr 0 0 [] 0),(31, .ah 9 d.names),(32, .int d.names.length),(33, .int i)] [.box 43 (Tq d)]) (bj (R3 κ) 94 4 0 I n K))=(
 letI a:=∃(e0:Nat),e0<n/\I e0 (sp 58 [(1,AV.ptr 0 0 [] 0),(31,AV.ah 9 d.names),(32,AV.int (↑(d.names.length):Int)),(33,AV.int (IntKind.wrap
  IntKind.i64 (i+(1:Int))))] [Obj.box 43 (AV.agg [AV.str d.rel,AV.ah 9 d.names,AV.ah 3 d.types,AV.bool d.i,AV.bool d.o,AV.int d.line])])
 letI b:=decide ((0:Int)<=i)&&decide (i<(↑(d.types.length):Int))
 letI c:=K Exit.ret (sp 58 [(2,AV.bool false)] [])
 letI e:=i<(↑(d.names.length):Int)
 aq (decide e) (aV (decide ((0:Int)<=i)&&decide e) (aq (!isName (toStr (nth d.names i.toNat))) c (aV b (aq (toInt (nth d.types i.toNat) != (1:Int))
 (aV b (aq (toInt (nth d.types i.toNat) != (2:Int)) c a)) a)))) (K (Exit.exit 0) (sp 58 [] []))):=by kernel_rfl
abbrev Sk(a:WX×Int):=sp 58 [(1, .ptr 0 0 [] 0),(31, .ah 9 a.1.names),(32, .int a.1.names.length),(33, .int a.2)] [.box 43 (Tq a.1)]
def EN(a:WX×Int):=a.1.types.length=a.1.names.length/\a.1.names.length<=8/\0<=a.2/\a.2<=a.1.names.length
def CZ(a:WX×Int):Out (Exit×S):= .aq (EZ (a.1.names.drop a.2.toNat) (a.1.types.drop a.2.toNat)) (.one (.exit 0,sp 58 [] [])) (.one (.ret,sp 58 [(2, .bool false)] []))
theorem lDc κ:aU (R3 κ) 12 94 4 (aG 0 Sk EN CZ):=by
 refine aC (fun a=>a.1.names.length - a.2.toNat) ?_;rintro⟨d,i⟩ K ⟨c,e,h,g⟩ b;simp only at c e h g;rw[show(R3 κ).P=Pr κ from rfl];refine Eq.mpr (xDc κ d i _ _ K) ?_;simp only[CZ,Out.run,ae] at b;simp only[ae,ai,ap6,ap8,ap7,Bool.not_eq_true',aq8,bne_iff_ne,bne_eq_false_iff_eq];refine⟨fun j=>?_,fun j=>?_⟩
 ·have k:i.toNat<d.names.length:=by omega
  rw[JR k (by omega)] at b;rw[az (n:=i+1) (by omega) (by omega)];have o:RQ (nth d.types i.toNat)=true->isName (toStr (nth d.names i.toNat))=true->∃m,m<d.names.length - i.toNat/\et Sk EN CZ (fun a=>a.1.names.length - a.2.toNat) K m (Sk (d,i+1)):=fun l f=>by
   rw[l,f,ar2,ar2] at b;refine⟨_,?_,(d,i+1),rfl,⟨c,e,by simp only;omega,by simp only;omega⟩,rfl,?_⟩
   ·simp only;omega
   ·simp only[CZ,Out.run,ae,show(i+1).toNat=i.toNat+1 by omega]
    exact b
  simp_all[RQ,nth,aq0,aq2,Bool.or_true,Bool.true_or]
 ·rw[aq4 (by omega)] at b
  exact b.1 rfl
noncomputable def Zx κ:=(R3 κ).an 94 4 (aG 0 Sk EN CZ)
theorem eDl κ:aE (Zx κ):=(eIe _).an (mIe _) (lDc _)
theorem mDl κ:aj (Zx κ):=(mIe _).an aI
theorem yDc κ d K:(a0 (Zx κ) 12 94 [Tq d] [] K)=(
 letI a:=AV.int
 letI b:=AV.bool
 letI c:=AV.ah
 letI e:=K (b false) []
 letI f:=d.names.length
 letI g:=Pg.toProgram (Env.P (R3 κ))
 aq (!isName d.rel) e (aq ((↑f:Int)==(0:Int)) e (aq (decide ((↑f:Int)>(8:Int))) e (aq ((↑(d.types.length):Int) != (↑f:Int)) e (ad g 94 4
 =ad g 94 4/\∃(e0:WX×Int),sp 58 [(1,AV.ptr 0 0 [] 0),(31,c 9 d.names),(32,a (↑f:Int)),(33,a 0)] [Obj.box 43 (AV.agg [AV.str
 d.rel,c 9 d.names,c 3 d.types,b d.i,b d.o,a d.line])]=sp 58 [(1,AV.ptr 0 0 [] 0),(31,c 9 e0.1.names),(32,a
 (↑(e0.1.names.length):Int)),(33,a e0.2)] [Obj.box 43 (AV.agg [AV.str e0.1.rel,c 9 e0.1.names,c 3 e0.1.types,b e0.1.i,b e0.1.o,
 a e0.1.line])]/\(e0.1.types.length=e0.1.names.length/\e0.1.names.length<=8/\(0:Int)<=e0.2/\e0.2<=(↑(e0.1.names.length):Int))/\aq (EZ
 (List.drop e0.2.toNat e0.1.names) (List.drop e0.2.toNat e0.1.types)) (K (b true) []) e))))):=by kernel_rfl
def gDc:List AV->Option (Bool×AV)
 |[.agg [.lit (.string a), .ah 9 b, .ah 3 c, .lit (.bool _), .lit (.bool _), .lit (.int .i64 _)]]=>some (true, .bool (DP a b c))
 |_=>none
theorem pDc κ:cd (Zx κ) 12 94 gDc:=by
 intro h x d;unfold gDc at d;split at d
 ·rename_i c b f j i a
  simp only[ap9,aq5,true_and] at d;subst d;refine⟨_,rfl,rfl,?_⟩;refine Eq.mpr (yDc κ ⟨c,b,f,j,i,a⟩ _) ?_;unfold DP;simp only[ae,ap6,ap8,Bool.not_eq_true',aq8,beq_iff_eq,beq_eq_false_iff_ne,bne_iff_ne,bne_eq_false_iff_eq];refine⟨fun e=>o5 (by rw[e];rfl),fun e=>⟨fun k=>o5 ?_,fun k=>⟨fun l=>o5 ?_,fun l=>⟨fun m=>o5 ?_,fun m=>⟨trivial,(⟨c,b,f,j,i,a⟩,0),rfl,⟨by simp only;omega,by simp only;omega,by simp only;omega,by simp only;omega⟩,?_⟩⟩⟩⟩⟩
  ·rw[aq2 (show b.length=0 by omega)];simp
  ·rw[aq0 (show ¬ b.length<=8 by omega)];simp
  ·rw[aq0 (show ¬ f.length=b.length by omega)];simp
  ·rw[e,aq0 (show ¬ b.length=0 by omega),aq2 (show b.length<=8 by omega),aq2 (show f.length=b.length by omega)]
   simp only[Int.toNat_zero,aq6,Bool.not_false,ar2];exact⟨fun g=>o5 g.symm,fun g=>o5 g.symm⟩
 ·cases d
noncomputable def Q6 κ:=(Zx κ).aK 94 gDc
theorem eDc κ:aE (Q6 κ):=(eDl _).aK (mDl _) (pDc _)
theorem mDc κ:aj (Q6 κ):=(mDl _).aK
theorem ao7 κ ds rs i I n K:(vc (Q6 κ) 12 109 none 1 (ad (Pr κ).toProgram 109 2) (sp 19 [(0, .ah 43 ds),(1, .bm 93 []),(7, .int ds.length),(8, .int i)] [.box 25 (.agg [.ah 43 ds, .ah 48 rs])]) (bj (Q6 κ) 109 2 1 I n K))=(
 letI a:=AV.agg [AV.ah 43 ds,AV.ah 48 rs]
 letI b:=nth ds i.toNat
 letI c:=i<(↑(ds.length):Int)
 aq (decide c) (aV (decide ((0:Int)<=i)&&decide c) (aq (!DP (toStr (ag b 0)) (af (ag b 1)) (af (ag b 2))) (K Exit.ret (sp 19 [(4,AV.int i)] [Obj.box
 25 a])) (∃(e0:Nat),e0<n/\I e0 (sp 19 [(0,AV.ah 43 ds),(1,AV.bm 93 []),(7,AV.int (↑(ds.length):Int)),(8,AV.int (IntKind.wrap IntKind.i64 (i+(1
 :Int))))] [Obj.box 25 a])))) (K (Exit.exit 0) (sp 19 [] [Obj.box 25 a]))):=by kernel_rfl
abbrev MM:Nat:=109
abbrev Xb:Nat:=119
abbrev J0(ds a:List AV):Dn.Obj:= .box 25 (.agg [.ah 43 ds, .ah 48 a])
abbrev P7:=List AV×List AV×Int
abbrev SW(a:P7):=sp 19 [(0, .ah 43 a.1),(1, .bm 93 []),(7, .int a.1.length),(8, .int a.2.2)] [J0 a.1 a.2.1]
def HD(a:P7):=a.1.length<=aW/\0<=a.2.2/\a.2.2<=a.1.length
def BR(a:P7):Out (Exit×S):= .aq ((a.1.drop a.2.2.toNat).all JH) (.one (.exit 0,sp 19 [] [J0 a.1 a.2.1])) (.all (fun j=>0<=j) fun j=> .one (.ret,sp 19 [(4, .int j)] [J0 a.1 a.2.1]))
theorem al4 κ:aU (Q6 κ) 12 MM 2 (aG 1 SW HD BR):=by
 refine aC (fun a=>a.1.length - a.2.2.toNat) ?_;rintro⟨ds,f,i⟩ K ⟨d,c,j⟩ b;simp only at d c j;rw[show(Q6 κ).P=Pr κ from rfl];refine Eq.mpr (ao7 κ ds f i _ _ K) ?_;simp only[aW] at d;simp only[BR,Out.run,ae] at b;simp only[ae,ai,ap6,ap8,ap7,Bool.not_eq_true',aq8];refine⟨fun g=>⟨⟨c,g⟩,?_⟩,fun g=>?_⟩
 ·have h:i.toNat<ds.length:=by omega
  rw[aq7 h,←aM ds i.toNat h,List.all_cons] at b;refine⟨fun e=>b.2 (by rw[show JH (nth ds i.toNat)=false from e];rfl) i c,fun e=>?_⟩;rw[show JH (nth ds i.toNat)=true from e,ar2] at b;rw[az (n:=i+1) (by omega) (by omega)];refine⟨_,?_,(ds,f,i+1),rfl,⟨by simpa[aW] using d,by simp only;omega,by simp only;omega⟩,rfl,?_⟩
  ·simp only;omega
  grind [BR,Out.run,ae]
 ·rw[aq4 (by omega)] at b
  exact b.1 rfl
noncomputable def wU κ:=(Q6 κ).an MM 2 (aG 1 SW HD BR)
theorem ap2 κ:aE (wU κ):=(eDc _).an (mDc _) (al4 _)
theorem ab8 κ:aj (wU κ):=(mDc _).an aI
theorem am4 κ ds rs i I n K:(vc (wU κ) 12 119 none 1 (ad (Pr κ).toProgram 119 2) (sp 19 [(0, .ah 48 rs),(1, .bm 95 []),(7, .int rs.length),(8, .int i)] [.box 25 (.agg [.ah 43 ds, .ah 48 rs])]) (bj (wU κ) 119 2 1 I n K))=(
 letI b:=AV.agg [AV.ah 43 ds,AV.ah 48 rs]
 letI a:=nth rs i.toNat
 letI c:=i<(↑(rs.length):Int)
 aq (decide c) (aV (decide ((0:Int)<=i)&&decide c) (aV (decide (List.length (af (ag (ag a 0) 1))<=9223372036854775807)&&decide (List.length (af (ag a 1))<=9223372036854775807)) (aq (!a8 {head:={rel:=toStr (ag (ag a 0) 0),l:=aa (af (ag (ag a 0) 1))},body:=dx (af (ag a 1))}) (K Exit.ret (sp 19 [(4,AV.int i)] [Obj.box 25 b])) (∃(e0:Nat),e0<n/\I e0 (sp 19 [(0,AV.ah 48 rs),(1,AV.bm 95 []),(7,AV.int (↑(rs.length):Int)),(8,AV.int (IntKind.wrap IntKind.i64 (i+(1:Int))))] [Obj.box 25 b]))))) (K (Exit.exit 0) (sp 19 [] [Obj.box 25 b]))):=by kernel_rfl
def fc a:=decide ((af (ag (ag a 0) 1)).length<=aW)&&decide ((af (ag a 1)).length<=aW)
def qv(a:AV):Bool:=a8 (wh a)
abbrev SN(a:P7):=sp 19 [(0, .ah 48 a.2.1),(1, .bm 95 []),(7, .int a.2.1.length),(8, .int a.2.2)] [J0 a.1 a.2.1]
def I0(a:P7):=a.2.1.length<=aW/\0<=a.2.2/\a.2.2<=a.2.1.length/\a.2.1.all fc=true
def B1(a:P7):Out (Exit×S):= .aq ((a.2.1.drop a.2.2.toNat).all qv) (.one (.exit 0,sp 19 [] [J0 a.1 a.2.1])) (.all (fun j=>0<=j) fun j=> .one (.ret,sp 19 [(4, .int j)] [J0 a.1 a.2.1]))
theorem R0{a}(h:a.all fc=true){k}(b:k<a.length):(af (ag (ag (nth a k) 0) 1)).length<=aW/\(af (ag (nth a k) 1)).length<=aW:=by
 grind [aM,List.getElem_mem,fc]
theorem ag0 κ:aU (wU κ) 12 Xb 2 (aG 1 SN I0 B1):=by
 refine aC (fun a=>a.2.1.length - a.2.2.toNat) ?_;rintro⟨ds,c,i⟩ K ⟨f,d,k,g⟩ b;simp only at f d k g;rw[show(wU κ).P=Pr κ from rfl];refine Eq.mpr (am4 κ ds c i _ _ K) ?_;simp only[aW] at f;simp only[B1,Out.run,ae] at b;simp only[ae,ai,ap6,ap8,ap7,Bool.not_eq_true',aq8];refine⟨fun j=>⟨⟨d,j⟩,R0 g (by omega),?_⟩,fun j=>?_⟩
 ·have h:i.toNat<c.length:=by omega
  rw[aq7 h,←aM c i.toNat h,List.all_cons] at b;refine⟨fun e=>b.2 (by rw[show qv (nth c i.toNat)=false from e];rfl) i d,fun e=>?_⟩;rw[show qv (nth c i.toNat)=true from e,ar2] at b;rw[az (n:=i+1) (by omega) (by omega)];refine⟨_,?_,(ds,c,i+1),rfl,⟨by simpa[aW] using f,by simp only;omega,by simp only;omega,g⟩,rfl,?_⟩
  ·simp only;omega
  grind [B1,Out.run,ae]
 ·rw[aq4 (by omega)] at b
  exact b.1 rfl
noncomputable def OH κ:=(wU κ).an Xb 2 (aG 1 SN I0 B1)
theorem am5 κ:aE (OH κ):=(ap2 _).an (ab8 _) (ag0 _)
theorem Xz κ:aj (OH κ):=(ab8 _).an aI
theorem yRt κ ds rs K:(a0 (OH κ) 12 48 [.agg [.ah 43 ds, .ah 48 rs]] [] K)=(
 letI a:=AV.int
 letI b:=AV.ah
 letI h:=∀(e0:Int),(0:Int)<=e0->K (AV.lit (Value.bool !decide (e0>=(0:Int)))) []
 letI d:=Pg.toProgram (Env.P (wU κ))
 letI c:=K (AV.bool false) []
 letI e:=Pg.toProgram (Env.P (Q6 κ))
 aq (decide ((↑(ds.length):Int)>(60:Int))) c (aq (decide ((↑(rs.length):Int)>(200:Int))) c (ad e MM 2=ad e MM 2/\∃(e3:P7),letI f:=[Obj.box 25 (AV.agg [b 43 e3.1,b 48 e3.2.1])];letI g:=ad d Xb 2=ad d Xb 2/\∃(e1:P7),sp 19 [(0,b 48 e3.2.1),(1,AV.bm 95 []),(7,a (↑(e3.2.1.length):Int)),(8,a 0)] f=sp 19 [(0,b 48 e1.2.1),(1,AV.bm 95 []),(7,a (↑(e1.2.1.length):Int)),(8,a e1.2.2)] [Obj.box 25 (AV.agg [b 43 e1.1,b 48 e1.2.1])]/\(e1.2.1.length<=9223372036854775807/\(0:Int)<=e1.2.2/\e1.2.2<=(↑(e1.2.1.length):Int)/\List.all e1.2.1 fc=true)/\aq (List.all (List.drop (Int.toNat e1.2.2) e1.2.1) qv) (K (AV.bool true) []) h;sp 19 [(0,b 43 ds),(1,AV.bm 93 []),(7,a (↑(ds.length):Int)),(8,a 0)] [Obj.box 25 (AV.agg [b 43 ds,b 48 rs])]=sp 19 [(0,b 43 e3.1),(1,AV.bm 93 []),(7,a (↑(e3.1.length):Int)),(8,a e3.2.2)] f/\(e3.1.length<=9223372036854775807/\(0:Int)<=e3.2.2/\e3.2.2<=(↑(e3.1.length):Int))/\aq (List.all (List.drop (Int.toNat e3.2.2) e3.1) JH) g (∀(e2:Int),(0:Int)<=e2->aq (!decide (e2>=(0:Int))) g c)))):=by kernel_rfl
def fB(ds a:List _):=decide (ds.length<=60)&&decide (a.length<=200)&&ds.all JH&&a.all qv
def gRt:List AV->Option (Bool×AV)
 |[.agg [.ah 43 ds, .ah 48 a]]=>some (a.all fc, .bool (fB ds a))
 |_=>none
theorem pRt κ:cd (OH κ) 12 48 gRt:=by
 intro g x a;unfold gRt at a;split at a
 ·rename_i ds b
  simp only[ap9,aq5] at a;obtain⟨h,rfl⟩:=a;refine⟨_,rfl,rfl,?_⟩;refine Eq.mpr (yRt κ ds b _) ?_;unfold fB;rw[ae,ap6,ap8];refine⟨fun e=>o5 (by rw[aq0 (show ¬ ds.length<=60 by omega)];rfl),fun e=>?_⟩;rw[ae,ap6,ap8];refine⟨fun i=>o5 (by rw[aq0 (show ¬ b.length<=200 by omega)];simp),fun i=>?_⟩;rw[aq2 (show ds.length<=60 by omega),aq2 (show b.length<=200 by omega)];refine⟨rfl,(ds,b,0),rfl,⟨by simp only[aW];omega,by simp only;omega,by simp only;omega⟩,?_⟩;simp only[Int.toNat_zero,aq6,ar2];rw[ae];refine⟨fun f=>⟨trivial,(ds,b,0),rfl,⟨by simp only[aW];omega,by simp only;omega,by simp only;omega,h⟩,?_⟩,fun f y d=>?_⟩
  ·simp only[Int.toNat_zero,aq6]
   rw[ae,f];refine⟨fun c=>o5 (by rw[c];rfl),fun c y d=>o5 ?_⟩;rw[c,aq2 (show y>=0 from d)];rfl
  ·rw[aq2 (show y>=0 from d)]
   exact o5 (by rw[f];rfl)
 ·cases a
noncomputable def Rv κ:=(OH κ).aK 48 gRt
theorem eRt κ:aE (Rv κ):=(am5 _).aK (Xz _) (pRt _)
theorem mRt κ:aj (Rv κ):=(Xz _).aK
theorem xFi κ ds s i I n K:(vc (Rv κ) 12 MM none 1 (ad (Pr κ).toProgram MM 2) (sp 19 [(0, .ah 43 ds),(1, .bm 110 [.ptr 0 0 [] 0]),(7, .int ds.length),(8, .int i)] [.box 9 (.lit (.string s))]) (bj (Rv κ) MM 2 1 I n K))=(
 letI a:=i<(↑(ds.length):Int)
 aq (decide a) (aV (decide ((0:Int)<=i)&&decide a) (aq (ByteArray.toList (toStr (ag (nth ds i.toNat) 0))==ByteArray.toList s) (K Exit.ret (sp 19 [(4,
 AV.int i)] [Obj.box 9 (AV.str s)])) (∃(e0:Nat),e0<n/\I e0 (sp 19 [(0,AV.ah 43 ds),(1,AV.bm 110 [AV.ptr 0 0 [] 0]),(7,AV.int (↑(ds.length):Int)),
 (8,AV.int (IntKind.wrap IntKind.i64 (i+(1:Int))))] [Obj.box 9 (AV.str s)])))) (K (Exit.exit 0) (sp 19 [] [Obj.box 9 (AV.str s)]))):=by kernel_rfl
def mu(s:ByteArray):List AV->Int->Int
 |[],_=> -1
 |d::l,i=>bif oQ (toStr (ag d 0)) s then i else mu s l (i+1)
abbrev YJ(a:List _×ByteArray×Int):=sp 19 [(0, .ah 43 a.1),(1, .bm 110 [.ptr 0 0 [] 0]),(7, .int a.1.length),(8, .int a.2.2)] [.box 9 (.lit (.string a.2.1))]
def OO(a:List AV×ByteArray×Int):=a.1.length<=aW/\0<=a.2.2/\a.2.2<=a.1.length
def Ib(a:List AV×ByteArray×Int):Out (Exit×S):= .aq (decide (0<=mu a.2.1 (a.1.drop a.2.2.toNat) a.2.2)) (.one (.ret,sp 19 [(4, .int (mu a.2.1 (a.1.drop a.2.2.toNat) a.2.2))] [.box 9 (.lit (.string a.2.1))])) (.one (.exit 0,sp 19 [] [.box 9 (.lit (.string a.2.1))]))
theorem lFi κ:aU (Rv κ) 12 MM 2 (aG 1 YJ OO Ib):=by
 refine aC (fun a=>a.1.length - a.2.2.toNat) ?_;rintro⟨ds,s,i⟩ K ⟨d,c,h⟩ b;simp only at d c h;rw[show(Rv κ).P=Pr κ from rfl];refine Eq.mpr (xFi κ ds s i _ _ K) ?_;simp only[aW] at d;simp only[Ib,Out.run,ae] at b;simp only[ae,ai,ap6,ap8,ap7];refine⟨fun g=>⟨⟨c,g⟩,?_⟩,fun g=>?_⟩
 ·have f:i.toNat<ds.length:=by omega
  rw[aq7 f,←aM ds i.toNat f,mu] at b;refine⟨fun e=>?_,fun e=>?_⟩
  ·rw[show oQ (toStr (ag (nth ds i.toNat) 0)) s=true from e,aq3] at b
   exact b.1 (aq2 c)
  ·rw[show oQ (toStr (ag (nth ds i.toNat) 0)) s=false from e,aq1] at b
   rw[az (n:=i+1) (by omega) (by omega)];refine⟨_,?_,(ds,s,i+1),rfl,⟨by simpa[aW] using d,by simp only;omega,by simp only;omega⟩,rfl,?_⟩
   ·simp only;omega
   ·simp only[Ib,Out.run,ae,show(i+1).toNat=i.toNat+1 by omega]
    exact b
 ·rw[aq4 (by omega)] at b
  exact b.2 rfl
noncomputable def Zv κ:=(Rv κ).an MM 2 (aG 1 YJ OO Ib)
theorem eFl κ:aE (Zv κ):=(eRt _).an (mRt _) (lFi _)
theorem mFl κ:aj (Zv κ):=(mRt _).an aI
theorem yFi κ ds s K:(a0 (Zv κ) 12 63 [.ah 43 ds, .lit (.string s)] [] K)=(
 letI b:=AV.int
 ad (Pg.toProgram (Env.P (Rv κ))) MM 2=ad (Pg.toProgram (Env.P (Rv κ))) MM 2/\∃(a:List AV×ByteArray×Int),letI c:=List.drop (Int.toNat a.2.2) a.1;sp 19 [(0,AV.ah 43 ds),(1,AV.bm 110 [AV.ptr 0 0 [] 0]),(7,b (↑(ds.length):Int)),(8,b 0)] [Obj.box 9 (AV.str s)]=sp 19 [(0,AV.ah 43 a.1),(1,AV.bm 110 [AV.ptr 0 0 [] 0]),(7,b (↑(a.1.length):Int)),(8,b a.2.2)] [Obj.box 9 (AV.str a.2.1)]/\(a.1.length<=9223372036854775807/\(0:Int)<=a.2.2/\a.2.2<=(↑(a.1.length):Int))/\aq (decide ((0:Int)<=mu a.2.1 c a.2.2)) (K (AV.aH [b (if(0:Int)>mu a.2.1 c a.2.2 then(0:Int) else mu a.2.1 c a.2.2),AV.bool (decide (mu a.2.1 c a.2.2>=(0:Int)))]) []) (K (AV.aH [b 0,AV.bool false]) [])):=by kernel_rfl
def bx s ds:=bif decide (0<=mu s ds 0) then mu s ds 0 else 0
def DT s ds:=decide (0<=mu s ds 0)
def Ha(a:List AV×ByteArray):List AV×List Dn.Obj:=([.ah 43 a.1, .lit (.string a.2)],[])
def iy(a:List AV×ByteArray):=a.1.length<=aW
def GY(a:List AV×ByteArray):Out (AV×List Dn.Obj):= .one (.aH [.int (bx a.2 a.1), .bool (DT a.2 a.1)],[])
theorem cFi κ:bd (Zv κ) 12 63 (aO Ha iy GY):=by
 refine aR ?_;rintro⟨ds,s⟩ K b a;refine Eq.mpr (yFi κ ds s K) ?_;simp only[GY,Out.run,bx,DT] at a;refine⟨rfl,(ds,s,0),rfl,⟨b,by simp,by simp⟩,?_⟩;rw[ae]
 grind
noncomputable def YI κ:=(Zv κ).aw 63 (aO Ha iy GY)
theorem eFi κ:aE (YI κ):=(eFl _).aw (mFl _) (cFi _)
theorem mFi κ:aj (YI κ):=(mFl _).aw aJ
structure km where
 ds:List AV
 es:List (Value×AV)
 more:Bool
abbrev bR(a:km):List Dn.Obj:=[.box 219 (.agg [.ah 43 a.ds, .mp 1, .bool a.more]), .map 9 3 a.es]
abbrev Er:AV:= .ptr 0 0 [] 0
theorem yOf κ a t K:(a0 (YI κ) 12 197 [Er,dn t] (bR a) K)=(
 letI b:=AV.int
 aq (t.op==(1:Int)) (K (b (toInt (c6 a.es (Value.string t.s) (b 0)))) (bR a)) (aq (t.op==(3:Int)) (K (b 2) (bR a)) (aq (t.op==(4:Int))
 (K (b 0) (bR a)) (K (b 1) (bR a))))):=by kernel_rfl
def ZK(x:km×AT):=([Er,dn x.2],bR x.1)
def Mn(_:km×AT):Prop:=True
def LF(x:km×AT):Out (AV×List Dn.Obj):= .one (.int (bF getM x.2.tm x.1.es),bR x.1)
theorem cOf κ:bd (YI κ) 12 197 (aO ZK Mn LF):=by
 refine aR ?_;rintro⟨a,t⟩ K _ b;refine Eq.mpr (yOf κ a t K) ?_;simp[LF] at b;have e:bF _ t.tm _=bif decide (t.op=1) then getM a.es _ else bif decide (t.op=3) then 2 else bif decide (t.op=4) then 0 else 1:=rfl
 rw[e] at b;simp[Xg];cases d:decide (t.op=1) with
 |true=>rw[d] at b;exact b
 | false=>
  rw[d] at b;cases f:decide (t.op=3) with
  |true=>rw[f] at b;exact b
  |false=>
   rw[f] at b;cases c:decide (t.op=4) with
   |true=>rw[c] at b;exact b
   |false=>rw[c] at b;exact b
noncomputable def EYo κ:=(YI κ).aw 197 (aO ZK Mn LF)
theorem eYo κ:aE (EYo κ):=(eFi _).aw (mFi _) (cOf _)
theorem mYo κ:aj (EYo κ):=(mFi _).aw aJ
structure pP where
 a:km
 t:AT
 k:Int
def aZ(a:km)(t:AT) k:=t.tm.want getM gx k (a.es,a.more)
def dK(a:km)(r:List (Value×AV)×Bool):km:=⟨a.ds,r.1,r.2⟩
def hG(b:Bool):Int:=bif b then 53 else 0
def VS(x:pP):=([Er,dn x.t, .int x.k],bR x.a)
def U5 n(x:pP):=x.t.tm.mL=n/\n<=100000
noncomputable def I4(κ:Kp)(x:pP):Out (AV×List Dn.Obj):= .one (.lit (bf κ (hG (aZ x.a x.t x.k).1)),bR (dK x.a (aZ x.a x.t x.k).2))
noncomputable def Rq κ n:=aO VS (U5 n) (I4 κ)
noncomputable def WA κ r:=(EYo κ).aw 196 fun a st K=>∃m,m<r/\Rq κ m a st K
theorem xWt κ r a t k i I n K:(vc (WA κ r) 12 196 none 2 (ad (Pr κ).toProgram 196 2) (sp 56 [(0,Er),(2, .int k),(4, .ptr 2 0 [] 0),(12, .ah 38 t.l),(13, .int t.l.length),(14, .int i)] (bR a++[.box 38 (dn t)])) (bj (WA κ r) 196 2 2 I n K))=(
 letI b:=AV.ptr 0 0 []
 letI c:=AV.int
 letI d:=Obj.box
 letI e:=nth t.l i.toNat
 letI h:=i<(↑(t.l.length):Int)
 aq (decide h) (aV (decide ((0:Int)<=i)&&decide h) (∃(e2:Nat),e2<r/\∃(e1:pP),letI f:=dK e1.a (Prod.snd (aZ e1.a e1.t e1.k));letI g:=bf κ (hG (Prod.fst (aZ e1.a e1.t e1.k)));([b 0,AV.agg [c (toInt (ag e 0)),AV.str (toStr (ag e 1)),c (toInt (ag e 2)),AV.ah 38 (af (ag e 3))],c 1],(bR a))=([b 0,dn e1.t,c e1.k],(bR e1.a))/\(Tm.mL (AT.tm e1.t)=e2/\e2<=100000)/\aV (aD g) (aq (!bO g) (K Exit.ret (sp 56 [(6,AV.lit g)] (bR f))) (∃(e0:Nat),e0<n/\I e0 (sp 56 [(0,b 0),(2,c k),(4,AV.ptr 2 0 [] 0),(12,AV.ah 38 t.l),(13,c (↑(t.l.length):Int)),(14,c (IntKind.wrap IntKind.i64 (i+(1:Int))))] [d 219 (AV.agg [AV.ah 43 (km.ds f),AV.mp 1,AV.bool (km.more f)]),Dn.Obj.map 9 3 (km.es f),d 38 (dn t)]))))) (K (Exit.exit 0) (sp 56 [(0,b 0),(2,c k),(4,AV.ptr 2 0 [] 0)] [d 219 (AV.agg [AV.ah 43 a.ds,AV.mp 1,AV.bool a.more]),Dn.Obj.map 9 3 a.es,d 38 (dn t)]))):=by kernel_rfl
abbrev AWl:=pP×Int
abbrev Yc(x:AWl):=sp 56 [(0,Er),(2, .int x.1.k),(4, .ptr 2 0 [] 0),(12, .ah 38 x.1.t.l),(13, .int x.1.t.l.length),(14, .int x.2)] (bR x.1.a++[.box 38 (dn x.1.t)])
def Nw r(x:AWl):=x.1.t.l.length<=aW/\0<=x.2/\x.2<=x.1.t.l.length/\bk (aa (x.1.t.l.drop x.2.toNat))<r/\bk (aa (x.1.t.l.drop x.2.toNat))<=100000
def fW(x:AWl):=jd getM gx (aa (x.1.t.l.drop x.2.toNat)) (x.1.a.es,x.1.a.more)
noncomputable def Hi(κ:Kp)(x:AWl):Out (Exit×S):= .aq (fW x).1 (.one (.ret,sp 56 [(6, .lit (bf κ 53))] (bR (dK x.1.a (fW x).2))))
 (.one (.exit 0,sp 56 [(0,Er),(2, .int x.1.k),(4, .ptr 2 0 [] 0)] (bR (dK x.1.a (fW x).2)++[.box 38 (dn x.1.t)])))
theorem Bc b:decide (hG b=0)= !b:=by cases b<;>rfl
theorem lWt κ r:aU (WA κ r) 12 196 2 (aG 2 Yc (Nw r) (Hi κ)):=by
 refine aC (fun x=>x.1.t.l.length - x.2.toNat) ?_;rintro⟨⟨a,t,k⟩,i⟩ K ⟨f,g,p,m,h⟩ b;simp only at f g p m h;rw[show(WA κ r).P=Pr κ from rfl];refine Eq.mpr (xWt κ r a t k i _ _ K) ?_;simp only[aW] at f;simp only[Hi,Out.run,ae] at b;rw[ae,ap6,ap8];refine⟨fun j=>?_,fun j=>?_⟩
 ·have o:i.toNat<t.l.length:=by omega
  have e:=eK t.l i.toNat o;have d:fW (⟨a,t,k⟩,i)=bif (aZ a (eH (nth t.l i.toNat)) 1).1 then aZ a (eH (nth t.l i.toNat)) 1 else fW (⟨dK a (aZ a (eH (nth t.l i.toNat)) 1).2,t,k⟩,i+1):=by
   unfold fW aZ;simp only[show(i+1).toNat=i.toNat+1 by omega];rw[e,jd,iE];rfl
  rw[e,bk] at m h;rw[d] at b;rw[ai,ap7,ap6,ap6];refine⟨⟨g,j⟩,(cI (nth t.l i.toNat)).mL,by omega,⟨a,eH (nth t.l i.toNat),1⟩,rfl,⟨by rw[iE],by omega⟩,?_⟩;rw[ai];refine⟨cD _ _,?_⟩;rw[jE,Bc,Bool.not_not,ae];refine⟨fun c=>?_,fun c=>?_⟩
  ·simp only[c,aq3] at b⊢
   exact b.1 trivial
  ·simp only[c,aq1] at b
   rw[az (n:=i+1) (by omega) (by omega)];refine⟨_,?_,(⟨dK a (aZ a (eH (nth t.l i.toNat)) 1).2,t,k⟩,i+1),rfl,⟨by simpa[aW] using f,by simp only;omega,by simp only;omega,?_,?_⟩,rfl,?_⟩
   ·simp only;omega
   ·simp only[show(i+1).toNat=i.toNat+1 by omega];omega
   ·simp only[show(i+1).toNat=i.toNat+1 by omega];omega
   ·simp only[Hi,Out.run,ae]
    exact b
 ·have d:fW (⟨a,t,k⟩,i)=(false,(a.es,a.more)):=by
   unfold fW;simp only;rw[aq4 (by omega)];rfl
  rw[d] at b;exact b.2 rfl
noncomputable def EYr κ r:=(WA κ r).an 196 2 (aG 2 Yc (Nw r) (Hi κ))
theorem yWt κ r a t k K:(a0 (EYr κ r) 12 196 [Er,dn t, .int k] (bR a) K)=(
 letI b:=AV.ptr 0 0 []
 letI c:=AV.int
 letI d:=Obj.box
 letI e:=Dn.Obj.map
 letI h:=AV.lit Value.nilIface
 letI i:=Pg.toProgram (Env.P (WA κ r))
 ad i 196 2=ad i 196 2/\∃(e1:AWl),letI f:=Value.string e1.1.t.s;letI j:=aa (List.drop e1.2.toNat e1.1.t.l);letI l:=bR (dK e1.1.a (Prod.snd (fW e1)));sp 56 [(0,b 0),(2,c k),(4,AV.ptr 2 0 [] 0),(12,AV.ah 38 t.l),(13,c (↑(t.l.length):Int)),(14,c 0)] [d 219 (AV.agg [AV.ah 43 a.ds,AV.mp 1,AV.bool a.more]),e 9 3 a.es,d 38 (dn t)]=sp 56 [(0,b 0),(2,c e1.1.k),(4,AV.ptr 2 0 [] 0),(12,AV.ah 38 e1.1.t.l),(13,c (↑(List.length e1.1.t.l):Int)),(14,c e1.2)] [d 219 (AV.agg [AV.ah 43 e1.1.a.ds,AV.mp 1,AV.bool e1.1.a.more]),e 9 3 e1.1.a.es,d 38 (dn e1.1.t)]/\(List.length e1.1.t.l<=9223372036854775807/\(0:Int)<=e1.2/\e1.2<=(↑(List.length e1.1.t.l):Int)/\bk j<r/\bk j<=100000)/\aq (Prod.fst (fW e1)) (K (AV.lit (Value.iface 273 (Value.pointer (some (TN κ (53:Int)))))) l) (∃(e0:km×AT),letI g:=K h (bR e0.1);([b 0,dn e1.1.t],l)=([b 0,dn e0.2],(bR e0.1))/\True/\aq (e1.1.k==(0:Int)) g (aq (e1.1.t.op==(4:Int)) g (aq (bF getM (AT.tm e0.2) e0.1.es==(0:Int)) (K h [d 219 (AV.agg [AV.ah 43 e0.1.ds,AV.mp 1,AV.bool true]),e 9 3 (eC (eC e0.1.es f (c (toInt (c6 e0.1.es f (c 0))))) f (c e1.1.k))]) (aq (bF getM (AT.tm e0.2) e0.1.es != e1.1.k) (K (AV.lit (Value.iface 273 (Value.pointer (some (Kp.type κ))))) (bR e0.1)) g))))):=by kernel_rfl
theorem Jf s v w: ∀a,eC (eC a (.string s) v) (.string s) w=eC a (.string s) w
 |[]=>by simp[eC,eg]
 |(c,b)::a=>by
  rw[eC,eC];cases h:eg _ _ with
  |true=>simp[eC,eg]
  |false=>simp[eC,h,Jf s v w _]
theorem Kh κ n:(Rq κ n).fY:=aJ
theorem eYr κ r(d: ∀a st K,(∃m,m<r/\Rq κ m a st K)->b7 (Pr κ) 196 a st K):aE (EYr κ r)/\aj (EYr κ r)/\(EYr κ r).P=Pr κ:=
 have h:=(eYo _).fT d;have b:=(mYo _).aw fun _ _ _ _ e ⟨m,f,c⟩=>⟨m,f,Kh _ m _ _ _ _ e c⟩
 ⟨h.an b (lWt _ r),b.an aI,rfl⟩
theorem cWt κ r:bd (EYr κ r) 12 196 (Rq κ r):=by
 refine aR ?_;rintro⟨a,t,k⟩ K ⟨g,n⟩ b;refine Eq.mpr (yWt κ r a t k K) ?_;simp only[I4,Out.run] at b;have m:t.tm.mL=1+bk (aa t.l):=rfl;have i:=gH (aa t.l);rw[eD] at i;simp only at g;refine⟨rfl,(⟨a,t,k⟩,0),rfl,⟨by simp only[aW];omega,by simp only;omega,by simp only;omega,by simp only[Int.toNat_zero,aq6];omega,by simp only[Int.toNat_zero,aq6];omega⟩,?_⟩;have h:aZ a t k=bif (fW (⟨a,t,k⟩,0)).1 then fW (⟨a,t,k⟩,0) else bif decide (k=0)||decide (t.op=4) then(false,(fW (⟨a,t,k⟩,0)).2)
   else bif decide (bF getM t.tm (fW (⟨a,t,k⟩,0)).2.1=0) then(false,(gx (fW (⟨a,t,k⟩,0)).2.1 t.s k,true)) else(!decide (bF getM t.tm (fW (⟨a,t,k⟩,0)).2.1=k),(fW (⟨a,t,k⟩,0)).2):=by
  unfold aZ fW;rw[AT.tm,Tm.want];rfl
 rw[h] at b;simp only[Xg,Pj];cases hd:(fW (⟨a,t,k⟩,0)).1 with
 |true=>
  rw[hd,aq3,hd] at b;exact b
 | false=>
  rw[hd,aq1] at b;refine⟨(dK a (fW (⟨a,t,k⟩,0)).2,t),rfl,trivial,?_⟩;cases c:decide (k=0) with
  |true=>rw[c] at b;exact b
  | false=>
   rw[c] at b;cases e:decide (t.op=4) with
   |true=>rw[e] at b;exact b
   | false=>
    rw[e] at b;rw[show(false||false)=false from rfl,aq1] at b;have j:bF getM t.tm (dK a (fW (⟨a,t,k⟩,0)).2).es=bF getM t.tm (fW (⟨a,t,k⟩,0)).2.1:=rfl;simp only[j];cases f:decide (bF getM t.tm (fW (⟨a,t,k⟩,0)).2.1=0) with
    |true=>
     rw[f,aq3] at b;simp only[aq,Jf];exact b
    |false=>
     rw[f,aq1] at b;cases d:decide (bF getM t.tm (fW (⟨a,t,k⟩,0)).2.1=k) with
     |true=>rw[d] at b;exact b
     |false=>rw[d] at b;exact b
def dm(x:pP):=x.t.tm.mL<=100000
theorem qWt κ: ∀b st K,aO VS dm (I4 κ) b st K->b7 (Pr κ) 196 b st K:=by
 rintro b st K ⟨a,d,e,c⟩;exact aE.ph _ _ (eYr _) (cWt _) _ _ _ K ⟨a,d,⟨rfl,e⟩,c⟩
noncomputable def SG κ:=(EYo κ).aw 196 (aO VS dm (I4 κ))
theorem eYw κ:aE (SG κ):=(eYo _).fT (qWt _)
theorem mYw κ:aj (SG κ):=(mYo _).aw aJ
def Zs(x:AV):Dc:=⟨toStr (ag x 0),(af (ag x 2)).map toInt⟩
def cP(l:List AV):List Dc:=l.map Zs
theorem wR s: ∀ds i,mu s ds i=match kV s (cP ds) with|some k=>i+k|none=> -1
 |[],i=>rfl
 |d::ds,i=>by
  have a:=wR s ds (i+1)
  grind [mu,cP,Zs,kV]
theorem El s: ∀ds k,kV s ds=some k->k<ds.length
 |[],_,h=>by cases h
 | d::ds,k,h=>by
  rw[kV] at h;cases e:oQ d.rel s with
  |true=>grind
  | false=>
   rw[e] at h;cases a:kV s ds with
   |none=>grind
   |some j=>
    rw[a] at h;have:=El s ds j a
    grind
theorem xI{s ds}(h:kV s (cP ds)=none):DT s ds=false/\bx s ds=0:=by
 grind [wR,DT,bx]
theorem n8{s ds k}(h:kV s (cP ds)=some k):DT s ds=true/\bx s ds=k/\k<ds.length:=by
 have e:=wR s ds 0;have a:=El s _ k h
 grind [DT,bx,cP]
def lW ds(i:Int):=(af (ag (nth ds i.toNat) 2)).map toInt
theorem x4{s ds k}(h:kV s (cP ds)=some k):dh (cP ds) s=lW ds k:=by
 obtain⟨_,_,a⟩:=n8 h;unfold dh lW;rw[h,aM _ _ _];simp only[cP];rw[List.getD_eq_getElem?_getD,List.getElem?_map,ar0 a];rfl
theorem KC ds a l:known (cP ds) ⟨a,aa l⟩=bif DT a ds then bif decide ((lW ds (bx a ds)).length=l.length) then 0 else 52 else 51:=by
 unfold known;cases h:kV _ _<;>simp_all[xI,n8,x4,eD]
theorem RO{ds i k}(h:k<(lW ds i).length):(lW ds i).drop k=toInt (nth (af (ag (nth ds i.toNat) 2)) k)::(lW ds i).drop (k+1):=by
 grind [List.drop_eq_getElem_cons,lW,aM]
structure Yw where
 a:km
 fi:Int
 l:List AV
 k:Int
abbrev Wc(x:Yw):=sp 65 [(0,Er),(5, .int x.fi),(40, .ah 38 x.l),(41, .int x.l.length),(42, .int x.k)] (bR x.a)
theorem xAt κ x I n K:(vc (SG κ) 12 180 none 2 (ad (Pr κ).toProgram 180 7) (Wc x) (bj (SG κ) 180 7 2 I n K))=(
 letI a:=AV.ptr 0 0 []
 letI b:=AV.int
 letI c:=nth x.l x.k.toNat
 letI e:=af (ag (nth x.a.ds x.fi.toNat) 2)
 letI f:=x.k<(↑(x.l.length):Int)
 aq (decide f) (aV (decide ((0:Int)<=x.k)&&decide f) (aV (decide ((0:Int)<=x.fi)&&decide (x.fi<(↑(List.length x.a.ds):Int))) (aV (decide ((0:Int)<=x.k)&&decide (x.k<(↑(List.length e):Int))) (∃(e1:pP),letI d:=bf κ (hG (Prod.fst (aZ e1.a e1.t e1.k)));letI g:=bR (dK e1.a (Prod.snd (aZ e1.a e1.t e1.k)));([a 0,AV.agg [b (toInt (ag c 0)),AV.str (toStr (ag c 1)),b (toInt (ag c 2)),AV.ah 38 (af (ag c 3))],b (toInt (nth e x.k.toNat))],(bR x.a))=([a 0,dn e1.t,b e1.k],(bR e1.a))/\dm e1/\aV (aD d) (aq (!bO d) (K Exit.ret (sp 65 [(4,AV.lit d)] g)) (∃(e0:Nat),e0<n/\I e0 (sp 65 [(0,a 0),(5,b x.fi),(40,AV.ah 38 x.l),(41,b (↑(x.l.length):Int)),(42,b (IntKind.wrap IntKind.i64 (x.k+(1:Int))))] g))))))) (K (Exit.exit 1) (sp 65 [] (bR x.a)))):=by kernel_rfl
def jI(x:Yw):=jS getM gx ((lW x.a.ds x.fi).drop x.k.toNat) (aa (x.l.drop x.k.toNat)) (x.a.es,x.a.more)
def NH(x:Yw):=0<=x.fi/\x.fi<x.a.ds.length/\(lW x.a.ds x.fi).length=x.l.length/\x.l.length<=aW/\0<=x.k/\x.k<=x.l.length/\bk (aa (x.l.drop x.k.toNat))<=100000
noncomputable def Ik(κ:Kp)(x:Yw):Out (Exit×S):= .aq (jI x).1 (.one (.ret,sp 65 [(4, .lit (bf κ 53))] (bR (dK x.a (jI x).2)))) (.one (.exit 1,sp 65 [] (bR (dK x.a (jI x).2))))
theorem lAt κ:aU (SG κ) 12 180 7 (aG 2 Wc NH (Ik κ)):=by
 refine aC (fun x=>x.l.length - x.k.toNat) ?_;rintro⟨a,b,l,k⟩ K ⟨j,f,r,p,g,u,q⟩ c;simp only at j f r p g u q;rw[show(SG κ).P=Pr κ from rfl];refine Eq.mpr (xAt κ ⟨a,b,l,k⟩ _ _ K) ?_;simp only[aW] at p;simp only[Ik,Out.run,ae] at c;have h:(af (ag (nth a.ds b.toNat) 2)).length=(lW a.ds b).length:=by simp[lW]
 rw[ae,ap6,ap8];refine⟨fun d=>?_,fun d=>?_⟩
 ·simp only at d
  have s:k.toNat<l.length:=by omega
  have e:=eK l k.toNat s;have t:=RO (ds:=a.ds) (i:=b) (k:=k.toNat) (by omega);have o:jI ⟨a,b,l,k⟩=bif (aZ a (eH (nth l k.toNat)) (toInt (nth (af (ag (nth a.ds b.toNat) 2)) k.toNat))).1 then aZ a (eH (nth l k.toNat)) (toInt (nth (af (ag (nth a.ds b.toNat) 2)) k.toNat)) else jI ⟨dK a (aZ a (eH (nth l k.toNat)) (toInt (nth (af (ag (nth a.ds b.toNat) 2)) k.toNat))).2,b,l,k+1⟩:=by
   unfold jI aZ;simp only[show(k+1).toNat=k.toNat+1 by omega];rw[e,t,jS,iE];rfl
  rw[e,bk] at q;rw[o] at c;simp only[ai,ap7,ap6,h];refine⟨⟨g,d⟩,⟨j,f⟩,⟨g,by omega⟩,⟨a,eH (nth l k.toNat),toInt (nth (af (ag (nth a.ds b.toNat) 2)) k.toNat)⟩,rfl,by show(eH (nth l k.toNat)).tm.mL<=100000;rw[iE];omega,cD _ _,?_⟩;rw[jE,Bc,Bool.not_not,ae];refine⟨fun m=>?_,fun m=>?_⟩
  ·simp only[m,aq3] at c⊢
   exact c.1 trivial
  ·simp only[m,aq1] at c
   rw[az (n:=k+1) (by omega) (by omega)];refine⟨_,?_,⟨dK a (aZ a (eH (nth l k.toNat)) (toInt (nth (af (ag (nth a.ds b.toNat) 2)) k.toNat))).2,b,l,k+1⟩,rfl,⟨j,f,r,by simpa[aW] using p,by simp only;omega,by simp only;omega,?_⟩,rfl,?_⟩
   ·simp only;omega
   ·simp only[show(k+1).toNat=k.toNat+1 by omega];omega
   ·simp only[Ik,Out.run,ae]
    exact c
 ·simp only at d
  have o:jI ⟨a,b,l,k⟩=(false,(a.es,a.more)):=by
   unfold jI;simp only;rw[aq4 (show l.length<=k.toNat by omega),aq4 (show(lW a.ds b).length<=k.toNat by omega)];rfl
  rw[o] at c;exact c.2 rfl
noncomputable def XJ κ:=(SG κ).an 180 7 (aG 2 Wc NH (Ik κ))
theorem eYl κ:aE (XJ κ):=(eYw _).an (mYw _) (lAt _)
theorem mYl κ:aj (XJ κ):=(mYw _).an aI
theorem yAt κ a rel l K:(a0 (XJ κ) 12 180 [Er, .agg [.lit (.string rel), .ah 38 l]] (bR a) K)=(
 letI b:=AV.int
 letI c:=Pg.toProgram (Env.P (SG κ))
 ∃(e1:List AV×ByteArray),([AV.ah 43 a.ds,AV.str rel],aL)=([AV.ah 43 e1.1,AV.str e1.2],aL)/\iy e1/\aq (!DT e1.2 e1.1) (K (AV.lit (Value.iface 273 (Value.pointer (some (Kp.fI κ))))) (bR a)) (aV (decide ((0:Int)<=bx e1.2 e1.1)&&decide (bx e1.2 e1.1<(↑(a.ds.length):Int))) (aq ((↑(List.length (af (ag (nth a.ds (Int.toNat (bx e1.2 e1.1))) 2))):Int) != (↑(l.length):Int)) (K (AV.lit (Value.iface 273 (Value.pointer (some (Kp.arity κ))))) (bR a)) (ad c 180 7=ad c 180 7/\∃(e0:Yw),letI d:=bR (dK e0.a (Prod.snd (jI e0)));sp 65 [(0,AV.ptr 0 0 [] 0),(5,b (bx e1.2 e1.1)),(40,AV.ah 38 l),(41,b (↑(l.length):Int)),(42,b 0)] (bR a)=sp 65 [(0,AV.ptr 0 0 [] 0),(5,b e0.fi),(40,AV.ah 38 e0.l),(41,b (↑(e0.l.length):Int)),(42,b e0.k)] (bR e0.a)/\((0:Int)<=e0.fi/\e0.fi<(↑(List.length e0.a.ds):Int)/\List.length (lW e0.a.ds e0.fi)=e0.l.length/\e0.l.length<=9223372036854775807/\(0:Int)<=e0.k/\e0.k<=(↑(e0.l.length):Int)/\bk (aa (List.drop e0.k.toNat e0.l))<=100000)/\aq (Prod.fst (jI e0)) (K (AV.lit (Value.iface 273 (Value.pointer (some (TN κ (53:Int)))))) d) (K (AV.lit Value.nilIface) d))))):=by kernel_rfl
def dA(a:km) b l:=fe getM gx (cP a.ds) ⟨b,aa l⟩ (a.es,a.more)
abbrev VW:=km×ByteArray×List AV
def YV(x:VW):=([Er, .agg [.lit (.string x.2.1), .ah 38 x.2.2]],bR x.1)
def LZ(x:VW):=x.1.ds.length<=aW/\bk (aa x.2.2)<=100000
noncomputable def Nz(κ:Kp)(x:VW):Out (AV×List Dn.Obj):= .one (.lit (bf κ (dA x.1 x.2.1 x.2.2).1),bR (dK x.1 (dA x.1 x.2.1 x.2.2).2))
theorem cAc κ:bd (XJ κ) 12 180 (aO YV LZ (Nz κ)):=by
 refine aR ?_;rintro⟨a,c,l⟩ K ⟨h,n⟩ b;simp only at h n;refine Eq.mpr (yAt κ a c l K) ?_;simp only[Nz,Out.run,dA,fe,KC] at b;have m:=gH (aa l);rw[eD] at m;refine⟨(a.ds,c),rfl,h,?_⟩;cases f:kV c (cP a.ds) with
 |none=>
  rw[(xI f).1] at b;simp only[(xI f).1];exact b
 | some k=>
  obtain⟨i,j,o⟩:=n8 f;rw[i,j,x4 f] at b;have g:(af (ag (nth a.ds (Int.toNat (k:Int))) 2)).length=(lW a.ds k).length:=by simp[lW]
  simp only[i,j,g,Pj];refine ai.2 ⟨by simp;omega,?_⟩;cases d:decide ((lW a.ds k).length=l.length) with
  |false=>
   rw[d] at b;rw[ap8] at d;rw[aq0 (show ¬ (((lW a.ds k).length:Int)=(l.length:Int)) by omega)];exact b
  | true=>
   rw[d] at b;rw[ap6] at d;rw[aq2 (show(((lW a.ds k).length:Int)=(l.length:Int)) by omega)];refine⟨trivial,⟨a,k,l,0⟩,rfl,by grind,?_⟩;have hd:jI ⟨a,k,l,0⟩=jS getM gx (lW a.ds k) (aa l) (a.es,a.more):=by
    unfold jI;simp only[Int.toNat_zero,aq6]
   rw[hd];simp only[aq3,decide_true] at b;rw[ae];refine⟨fun e=>by rw[e] at b;exact b,fun e=>by rw[e] at b;exact b⟩
noncomputable def Y4 κ:=(XJ κ).aw 180 (aO YV LZ (Nz κ))
theorem eYa κ:aE (Y4 κ):=(eYl _).aw (mYl _) (cAc _)
theorem mYa κ:aj (Y4 κ):=(mYl _).aw aJ
theorem yLi(κ:Kp)(a:km)(op:Int) rel l(u v:AT) K:(a0 (Y4 κ) 12 181 [Er, .agg [.int op, .agg [.lit (.string rel), .ah 38 l],dn u,dn v]] (bR a) K)=(
 letI b:=AV.ptr 0 0 []
 letI c:=AV.int
 letI d:=AV.lit
 letI j:=∃(e3:km×AT),letI n:=AT.tm e3.2;([b 0,dn u],(bR a))=([b 0,dn e3.2],(bR e3.1))/\True/\∃(e2:km×AT),letI f:=if bF getM (AT.tm e2.2) e2.1.es>bF getM n e3.1.es then bF getM (AT.tm e2.2) e2.1.es else bF getM n e3.1.es;([b 0,dn v],(bR e3.1))=([b 0,dn e2.2],(bR e2.1))/\True/\∃(e1:pP),letI e:=bf κ (hG (Prod.fst (aZ e1.a e1.t e1.k)));letI g:=bR (dK e1.a (Prod.snd (aZ e1.a e1.t e1.k)));([b 0,dn u,c f],(bR e2.1))=([b 0,dn e1.t,c e1.k],(bR e1.a))/\dm e1/\aV (aD e) (aq (!bO e) (K (d e) g) (∃(e0:pP),([b 0,dn v,c f],g)=([b 0,dn e0.t,c e0.k],(bR e0.a))/\dm e0/\K (d (bf κ (hG (Prod.fst (aZ e0.a e0.t e0.k))))) (bR (dK e0.a (Prod.snd (aZ e0.a e0.t e0.k))))))
 letI o:=∃(e0:VW),([b 0,AV.agg [AV.str rel,AV.ah 38 l]],(bR a))=([b 0,AV.agg [AV.str e0.2.1,AV.ah 38 e0.2.2]],(bR e0.1))/\
  (e0.1.ds.length<=9223372036854775807/\bk (aa e0.2.2)<=100000)/\K (d (bf κ (Prod.fst (dA e0.1 e0.2.1 e0.2.2)))) (bR (dK e0.1 (Prod.snd (dA e0.1 e0.2.1
  e0.2.2))))
 letI h:=j/\j/\j
 aq (op==(3:Int)) h (aq (op==(4:Int)) h (aq (op==(5:Int)) h (aq (op==(6:Int)) h (aq (op==(1:Int)) o (aq (op==(2:Int)) o (∃(e2:VW),letI p:=dA e2.1 e2.2.1 e2.2.2;letI k:=bf κ (Prod.fst p);letI q:=bR (dK e2.1 (Prod.snd p));([b 0,AV.agg [AV.str rel,AV.ah 38 l]],(bR a))=([b 0,AV.agg [AV.str e2.2.1,AV.ah 38 e2.2.2]],(bR e2.1))/\(e2.1.ds.length<=9223372036854775807/\bk (aa e2.2.2)<=100000)/\aV (aD k) (aq (!bO k) (K (d k) q) (∃(e1:pP),letI i:=bf κ (hG (Prod.fst (aZ e1.a e1.t e1.k)));letI m:=bR (dK e1.a (Prod.snd (aZ e1.a e1.t e1.k)));([b 0,dn u,c 1],q)=([b 0,dn e1.t,c e1.k],(bR e1.a))/\dm e1/\aV (aD i) (aq (!bO i) (K (d i) m) (aq (op==(7:Int)) (K (d i) m) (∃(e0:pP),([b 0,dn v,c 1],m)=([b 0,dn e0.t,c e0.k],(bR e0.a))/\dm e0/\K (d (bf κ (hG (Prod.fst (aZ e0.a e0.t e0.k))))) (bR (dK e0.a (Prod.snd (aZ e0.a e0.t e0.k)))))))))))))))):=by kernel_rfl
structure IQ where
 a:km
 op:Int
 rel:ByteArray
 l:List AV
 u:AT
 v:AT
def IQ.lt(x:IQ):Lt:=⟨x.op,⟨x.rel,aa x.l⟩,x.u.tm,x.v.tm⟩
def bX(x:IQ):=kW getM gx (cP x.a.ds) x.lt (x.a.es,x.a.more)
def XT(x:IQ):=([Er, .agg [.int x.op, .agg [.lit (.string x.rel), .ah 38 x.l],dn x.u,dn x.v]],bR x.a)
def NO(x:IQ):=x.a.ds.length<=aW/\jR x.lt<=100000
noncomputable def S8(κ:Kp)(x:IQ):Out (AV×List Dn.Obj):= .one (.lit (bf κ (bX x).1),bR (dK x.a (bX x).2))
def kd(a:km)(u v:AT):=if bF getM v.tm a.es>bF getM u.tm a.es then bF getM v.tm a.es else bF getM u.tm a.es
theorem Yv(x:IQ):lF getM x.lt x.a.es=kd x.a x.u x.v:=by
 unfold lF kd;show(bif decide (bF _ x.v.tm _>bF _ x.u.tm _) then _ else _)=_
 by_cases h:bF getM x.v.tm x.a.es>bF getM x.u.tm x.a.es
 ·rw[aq2 h,if_pos h];rfl
 ·rw[aq0 h,if_neg h];rfl
theorem Aa κ b:(!bO (bf κ (hG b)))=b:=by rw[jE,Bc,Bool.not_not]
theorem cLi κ:bd (Y4 κ) 12 181 (aO XT NO (S8 κ)):=by
 refine aR ?_;rintro⟨a,op,c,l,u,v⟩ K ⟨s,o⟩ f;simp only at s;refine Eq.mpr (yLi κ a op c l u v K) ?_;have f:K (.lit (bf κ (bX ⟨a,op,c,l,u,v⟩).1)) (bR (dK a (bX ⟨a,op,c,l,u,v⟩).2)):=f;have o:bk [u.tm,v.tm]+bk (aa l)<=100000:=o;simp only[bk] at o;have i:dm ⟨a,u,kd a u v⟩:=by show u.tm.mL<=100000;omega
 have g:dm ⟨dK a (aZ a u (kd a u v)).2,v,kd a u v⟩:=by show v.tm.mL<=100000;omega
 have k:gA op=true->bX ⟨a,op,c,l,u,v⟩=kX (aZ a u (kd a u v)) (v.tm.want getM gx (kd a u v)):=fun d=>by
  unfold bX kW;rw[Yv ⟨a,op,c,l,u,v⟩,show(IQ.lt ⟨a,op,c,l,u,v⟩).op=op from rfl,d];rfl
 have h:gA op=true->(!bO (bf κ (hG (aZ a u (kd a u v)).1)))=true->K (.lit (bf κ (hG (aZ a u (kd a u v)).1))) (bR (dK a (aZ a u (kd a u v)).2)):=fun d q=>by
  rw[Aa] at q;rw[k d] at f;unfold kX at f;rw[q] at f⊢;exact f
 have j:gA op=true->(!bO (bf κ (hG (aZ a u (kd a u v)).1)))=false->K (.lit (bf κ (hG (aZ (dK a (aZ a u (kd a u v)).2) v (kd a u v)).1))) (bR (dK (dK a (aZ a u (kd a u v)).2) (aZ (dK a (aZ a u (kd a u v)).2) v (kd a u v)).2)):=fun d q=>by
  rw[Aa] at q;rw[k d] at f;unfold kX at f;rw[q] at f;exact f
 have n: ∀b:km,b=a->(b.ds.length<=9223372036854775807/\bk (aa l)<=100000):=fun b D=>by subst D;exact⟨s,by omega⟩
 have x:gA op=false->(decide (op=1)||decide (op=2))=true->bX ⟨a,op,c,l,u,v⟩=dA a c l:=fun d p=>by
  unfold bX kW;rw[show(IQ.lt ⟨a,op,c,l,u,v⟩).op=op from rfl,d,p];rfl
 refine ae.2 ⟨fun e=>by
   have d:gA op=true:=(by rw[show op=3 from eq_of_beq e];rfl)
   exact⟨⟨(a,u),rfl,trivial,(a,v),rfl,trivial,⟨a,u,_⟩,rfl,i,ai.2 ⟨cD _ _,ae.2 ⟨fun q=>h d q,fun q=>⟨⟨_,v,_⟩,rfl,g,j d q⟩⟩⟩⟩,
    ⟨(a,u),rfl,trivial,(a,v),rfl,trivial,⟨a,u,_⟩,rfl,i,ai.2 ⟨cD _ _,ae.2 ⟨fun q=>h d q,fun q=>⟨⟨_,v,_⟩,rfl,g,j d q⟩⟩⟩⟩,
    ⟨(a,u),rfl,trivial,(a,v),rfl,trivial,⟨a,u,_⟩,rfl,i,ai.2 ⟨cD _ _,ae.2 ⟨fun q=>h d q,fun q=>⟨⟨_,v,_⟩,rfl,g,j d q⟩⟩⟩⟩⟩,fun A=>ae.2 ⟨fun e=>by
   have d:gA op=true:=(by rw[show op=4 from eq_of_beq e];rfl)
   exact⟨⟨(a,u),rfl,trivial,(a,v),rfl,trivial,⟨a,u,_⟩,rfl,i,ai.2 ⟨cD _ _,ae.2 ⟨fun q=>h d q,fun q=>⟨⟨_,v,_⟩,rfl,g,j d q⟩⟩⟩⟩,
    ⟨(a,u),rfl,trivial,(a,v),rfl,trivial,⟨a,u,_⟩,rfl,i,ai.2 ⟨cD _ _,ae.2 ⟨fun q=>h d q,fun q=>⟨⟨_,v,_⟩,rfl,g,j d q⟩⟩⟩⟩,
    ⟨(a,u),rfl,trivial,(a,v),rfl,trivial,⟨a,u,_⟩,rfl,i,ai.2 ⟨cD _ _,ae.2 ⟨fun q=>h d q,fun q=>⟨⟨_,v,_⟩,rfl,g,j d q⟩⟩⟩⟩⟩,fun B=>ae.2 ⟨fun e=>by
   have d:gA op=true:=(by rw[show op=5 from eq_of_beq e];rfl)
   exact⟨⟨(a,u),rfl,trivial,(a,v),rfl,trivial,⟨a,u,_⟩,rfl,i,ai.2 ⟨cD _ _,ae.2 ⟨fun q=>h d q,fun q=>⟨⟨_,v,_⟩,rfl,g,j d q⟩⟩⟩⟩,
    ⟨(a,u),rfl,trivial,(a,v),rfl,trivial,⟨a,u,_⟩,rfl,i,ai.2 ⟨cD _ _,ae.2 ⟨fun q=>h d q,fun q=>⟨⟨_,v,_⟩,rfl,g,j d q⟩⟩⟩⟩,
    ⟨(a,u),rfl,trivial,(a,v),rfl,trivial,⟨a,u,_⟩,rfl,i,ai.2 ⟨cD _ _,ae.2 ⟨fun q=>h d q,fun q=>⟨⟨_,v,_⟩,rfl,g,j d q⟩⟩⟩⟩⟩,fun E=>ae.2 ⟨fun e=>by
   have d:gA op=true:=(by rw[show op=6 from eq_of_beq e];rfl)
   exact⟨⟨(a,u),rfl,trivial,(a,v),rfl,trivial,⟨a,u,_⟩,rfl,i,ai.2 ⟨cD _ _,ae.2 ⟨fun q=>h d q,fun q=>⟨⟨_,v,_⟩,rfl,g,j d q⟩⟩⟩⟩,
    ⟨(a,u),rfl,trivial,(a,v),rfl,trivial,⟨a,u,_⟩,rfl,i,ai.2 ⟨cD _ _,ae.2 ⟨fun q=>h d q,fun q=>⟨⟨_,v,_⟩,rfl,g,j d q⟩⟩⟩⟩,
    ⟨(a,u),rfl,trivial,(a,v),rfl,trivial,⟨a,u,_⟩,rfl,i,ai.2 ⟨cD _ _,ae.2 ⟨fun q=>h d q,fun q=>⟨⟨_,v,_⟩,rfl,g,j d q⟩⟩⟩⟩⟩,fun z=>?_⟩⟩⟩⟩
 simp only[beq_eq_false_iff_ne] at A B E z;have d:gA op=false:=by
  unfold gA;rw[Bool.and_eq_false_iff,ap8,ap8];omega
 refine ae.2 ⟨fun e=>⟨(a,c,l),rfl,n a rfl,?_⟩,fun w=>ae.2 ⟨fun e=>⟨(a,c,l),rfl,n a rfl,?_⟩,fun t=>?_⟩⟩
 ·rw[x d (by rw[show op=1 by simpa using e];rfl)] at f;exact f
 ·rw[x d (by rw[show op=2 by simpa using e];rfl)] at f;exact f
 simp only[beq_eq_false_iff_ne] at w t;have C:bX ⟨a,op,c,l,u,v⟩=bif !decide ((dA a c l).1=0) then dA a c l
   else bif decide (op=7) then(hG (aZ (dK a (dA a c l).2) u 1).1,(aZ (dK a (dA a c l).2) u 1).2)
   else kX (aZ (dK a (dA a c l).2) u 1) (v.tm.want getM gx 1):=by
  unfold bX kW;rw[show(IQ.lt ⟨a,op,c,l,u,v⟩).op=op from rfl,d,aq0 w,aq0 t];rfl
 rw[C] at f;refine⟨(a,c,l),rfl,n a rfl,ai.2 ⟨cD _ _,?_⟩⟩;rw[jE];refine ae.2 ⟨fun q=>?_,fun q=>?_⟩
 ·rw[q] at f;exact f
 ·rw[q,aq1] at f
  refine⟨⟨dK a (dA a c l).2,u,1⟩,rfl,by show u.tm.mL<=100000;omega,ai.2 ⟨cD _ _,?_⟩⟩;rw[Aa];refine ae.2 ⟨fun m=>?_,fun m=>ae.2 ⟨fun r=>?_,fun r=>⟨⟨dK (dK a (dA a c l).2) (aZ (dK a (dA a c l).2) u 1).2,v,1⟩,rfl,by show v.tm.mL<=100000;omega,?_⟩⟩⟩
  ·have m:(aZ (dK a (dA a c l).2) u 1).1=true:=m
   unfold kX at f;rw[m] at f;simp only[m];cases y:decide (op=7)<;>rw[y] at f<;>exact f
  ·rw[show decide (op=7)=true by simpa using r] at f
   exact f
  ·have m:(aZ (dK a (dA a c l).2) u 1).1=false:=m
   rw[show decide (op=7)=false by simpa using r,aq1] at f;unfold kX at f;rw[m] at f;exact f
noncomputable def ZA κ:=(Y4 κ).aw 181 (aO XT NO (S8 κ))
theorem eYt κ:aE (ZA κ):=(eYa _).aw (mYa _) (cLi _)
theorem mYt κ:aj (ZA κ):=(mYa _).aw aJ
theorem yCo κ v K:(a0 (ZA κ) 12 153 [.lit v] [] K)=(
 letI a:=Value.iface 273 (Value.pointer (some (Kp.arity κ)))
 letI b:=Value.iface 273 (Value.pointer (some (Kp.type κ)))
 letI c:=Value.iface 273 (Value.pointer (some (Kp.fI κ)))
 aV (kH κ v&&l7 κ c) (aq (gB v c) (K (AV.int 51) []) (aV (kH κ v&&l7 κ a) (aq (gB v a) (K (AV.int 52) []) (aV (kH κ v&&l7 κ b) (aq (gB v b) (K
 (AV.int 53) []) (K (AV.int 0) []))))))):=by kernel_rfl
noncomputable def R2(κ:Kp)(v:Value):Int:=bif gB v (bf κ 51) then 51 else bif gB v (bf κ 52) then 52 else bif gB v (bf κ 53) then 53 else 0
theorem MF κ{e}(h:jO e):R2 κ (bf κ e)=e:=by
 unfold R2;rw[iv _ h (.inr (.inl rfl)),iv _ h (.inr (.inr (.inl rfl))),iv _ h (.inr (.inr (.inr rfl)))];rcases h with rfl|rfl|rfl|rfl<;>rfl
noncomputable def gCo(κ:Kp):List AV->Option (Bool×AV)
 |[.lit v]=>some (kH κ v, .int (R2 κ v))
 |_=>none
theorem pCo κ:cd (ZA κ) 12 153 (gCo κ):=by
 intro h x b;unfold gCo at b;split at b
 ·simp only[ap9,aq5] at b
  obtain⟨i,rfl⟩:=b;refine⟨_,rfl,rfl,?_⟩;obtain⟨e,a,rfl⟩:=(xl _ _).1 i;refine Eq.mpr (yCo κ _ _) ?_;rw[MF κ a];have d: ∀k,yb k->(kH κ (bf κ e)&&l7 κ (bf κ k))=true:=fun k j=>by grind [A9,BV]
  have c:Value.iface 273 (.pointer (some κ.fI))=bf κ 51:=rfl;have f:Value.iface 273 (.pointer (some κ.arity))=bf κ 52:=rfl;have g:Value.iface 273 (.pointer (some κ.type))=bf κ 53:=rfl;rw[c,f,g,d _ (.inl rfl),d _ (.inr (.inl rfl)),d _ (.inr (.inr rfl)),iv κ a (.inr (.inl rfl)),iv κ a (.inr (.inr (.inl rfl))),iv κ a (.inr (.inr (.inr rfl)))];rcases a with rfl|rfl|rfl|rfl<;>rfl
 ·cases b
noncomputable def QV κ:=(ZA κ).aK 153 (gCo κ)
theorem eYc κ:aE (QV κ):=(eYt _).aK (mYt _) (pCo _)
theorem mYc κ:aj (QV κ):=(mYt _).aK
structure W4 where
 a:km
 w:Int
 bl:List AV
 i:Int
noncomputable abbrev Rm κ(x:W4):=sp 52 [(0,Er),(5, .lit (bf κ x.w)),(14, .ah 80 x.bl),(15, .int x.bl.length),(16, .int x.i)] (bR x.a)
theorem xPa(κ:Kp)(x:W4) I n K:(vc (QV κ) 12 152 none 2 (ad (Pr κ).toProgram 152 3) (Rm κ x) (bj (QV κ) 152 3 2 I n K))=(
 letI a:=AV.ptr 0 0 []
 letI b:=AV.int
 letI c:=AV.agg
 letI d:=AV.str
 letI e:=AV.lit
 letI f:=Exit.ret
 letI g:=AV.ah
 letI k:=Value.iface 273 (Value.pointer (some (Kp.arity κ)))
 letI l:=Value.iface 273 (Value.pointer (some (Kp.fI κ)))
 letI j:=nth x.bl x.i.toNat
 letI q:=IntKind.wrap IntKind.i64 (x.i+(1:Int))
 letI o:=x.bl.length
 letI r:=Value.iface 273 (Value.pointer (some (Kp.type κ)))
 letI s:=kH κ (bf κ x.w)&&l7 κ l
 letI t:=kH κ (bf κ x.w)&&l7 κ k
 aq (decide (x.i<(↑o:Int))) (aV (decide ((0:Int)<=x.i)&&decide (x.i<(↑o:Int))) (∃(e1:IQ),letI h:=bf κ (Prod.fst (bX e1));letI i:=bR (dK e1.a (Prod.snd (bX e1)));letI p:=aV (kH κ h&&l7 κ l) (aq (gB h l) (K f (sp 52 [(4,e h)] i)) (aV (kH κ h&&l7 κ k) (aq (gB h k) (K f (sp 52 [(4,e h)] i)) (∃(e0:Nat),e0<n/\I e0 (sp 52 [(0,a 0),(5,e h),(14,g 80 x.bl),(15,b (↑o:Int)),(16,b q)] i)))));letI m:=aV s (aq (gB (bf κ x.w) l) (K f (sp 52 [(4,e (bf κ x.w))] i)) (aV t (aq (gB (bf κ x.w) k) (K f (sp 52 [(4,e (bf κ x.w))] i)) (∃(e0:Nat),e0<n/\I e0 (sp 52 [(0,a 0),(5,e (bf κ x.w)),(14,g 80 x.bl),(15,b (↑o:Int)),(16,b q)] i)))));([a 0,c [b (toInt (ag j 0)),c [d (toStr (ag (ag j 1) 0)),g 38 (af (ag (ag j 1) 1))],c [b (toInt (ag (ag j 2) 0)),d (toStr (ag (ag j 2) 1)),b (toInt (ag (ag j 2) 2)),g 38 (af (ag (ag j 2) 3))],c [b (toInt (ag (ag j 3) 0)),d (toStr (ag (ag j 3) 1)),b (toInt (ag (ag j 3) 2)),g 38 (af (ag (ag j 3) 3))]]],(bR x.a))=([a 0,c [b e1.op,c [d e1.rel,g 38 e1.l],c [b e1.u.op,d e1.u.s,b e1.u.n,g 38 e1.u.l],c [b e1.v.op,d e1.v.s,b e1.v.n,g 38 e1.v.l]]],(bR e1.a))/\(List.length e1.a.ds<=9223372036854775807/\jR (IQ.lt e1)<=100000)/\aV (aD (bf κ x.w)) (aq (bO (bf κ x.w)) p (aV (kH κ (bf κ x.w)&&l7 κ r) (aq (gB (bf κ x.w) r) (aV (kH κ h&&l7 κ l) (aq (gB h l) p (aV (kH κ h&&l7 κ k) (aq (gB h k) p m)))) m))))) (K (Exit.exit 0) (sp 52 [(5,e (bf κ x.w))] (bR x.a)))):=by kernel_rfl
def iZ(a:km)(x:AV):IQ:=⟨a,toInt (ag x 0),toStr (ag (ag x 1) 0),af (ag (ag x 1) 1),eH (ag x 2),eH (ag x 3)⟩
theorem C7 a x:(iZ a x).lt=da x:=by
 unfold IQ.lt iZ;simp[iE];rfl
theorem qo{σ get set} ds l(x:σ×Bool):jO (kW get set ds l x).1:=by
 have b: ∀e,(e=0\/e=51\/e=52)->jO e:=fun e h=>by
  rcases h with rfl|rfl|rfl
  ·exact .inl rfl
  ·exact .inr (.inl rfl)
  ·exact .inr (.inr (.inl rfl))
 have a:jO 53:= .inr (.inr (.inr rfl))
 grind [jO,kX,tL,fe,known,s5,kW]
theorem tR{σ get set} ds a(x:σ×Bool):jO (fe get set ds a x).1:=by
 have h:=qo (get:=get) (set:=set) ds ⟨1,a, .mk 0 ByteArray.empty 0 [], .mk 0 ByteArray.empty 0 []⟩ x;exact h
theorem tW{w e}(b:jO w)(a:jO e):jO (iP w e):=by
 grind [iP]
theorem uc{σ get set} ds: ∀b (y:Int×σ×Bool),jO y.1->jO (kg get set ds b y).1
 |[],_,h=>h
 |l::b,y,h=>by
  rw[kg];have:=tW h (qo (get:=get) (set:=set) ds l y.2)
  cases xF _ with
  |true=>grind
  |false=>exact uc _ b _ this
def lB(x:W4):=kg getM gx (cP x.a.ds) (dx (x.bl.drop x.i.toNat)) (x.w,(x.a.es,x.a.more))
def FI(x:W4):=x.a.ds.length<=aW/\jO x.w/\x.bl.length<=100000/\(∀l,l∈x.bl->jR (da l)<=100000)/\0<=x.i/\x.i<=x.bl.length
noncomputable def Od(κ:Kp)(x:W4):Out (Exit×S):= .all (fun _=>True) fun b=> .aq b (.one (.ret,sp 52 [(4, .lit (bf κ (lB x).1))] (bR (dK x.a (lB x).2)))) (.one (.exit 0,sp 52 [(5, .lit (bf κ (lB x).1))] (bR (dK x.a (lB x).2))))
theorem lPa κ:aU (QV κ) 12 152 3 (aG 2 (Rm κ) FI (Od κ)):=by
 refine aC (fun x=>x.bl.length - x.i.toNat) ?_;rintro⟨a,w,c,i⟩ K ⟨o,h,v,t,B,z⟩ u;simp only at o h v t B z;rw[show(QV κ).P=Pr κ from rfl];refine Eq.mpr (xPa κ ⟨a,w,c,i⟩ _ _ K) ?_;have f:=u true trivial;have d:=u false trivial;simp only[Out.run,aq] at f d;rw[ae,ap6,ap8];refine⟨fun k=>?_,fun k=>?_⟩
 ·simp only at k
  have l:i.toNat<c.length:=by omega
  have j:lB ⟨a,w,c,i⟩=bif xF (iP w (bX (iZ a (nth c i.toNat))).1) then(iP w (bX (iZ a (nth c i.toNat))).1,(bX (iZ a (nth c i.toNat))).2) else lB ⟨dK a (bX (iZ a (nth c i.toNat))).2,iP w (bX (iZ a (nth c i.toNat))).1,c,i+1⟩:=by
   unfold lB bX;simp only[show(i+1).toNat=i.toNat+1 by omega];rw[oq c i.toNat l,kg,C7];rfl
  have g:jO (bX (iZ a (nth c i.toNat))).1:=qo _ _ _;have q:jR (da (nth c i.toNat))<=100000:=t _ (by rw[aM _ _ l];exact List.getElem_mem l);have R:xF (iP w (bX (iZ a (nth c i.toNat))).1)=true->K .ret (sp 52 [(4, .lit (bf κ (iP w (bX (iZ a (nth c i.toNat))).1)))] (bR (dK a (bX (iZ a (nth c i.toNat))).2))):=fun e=>by
   rw[j,e,aq3] at f;exact f
  have N:xF (iP w (bX (iZ a (nth c i.toNat))).1)=false->∃m,m<c.length - i.toNat/\et (Rm κ) FI (Od κ) (fun x=>x.bl.length - x.i.toNat) K m (sp 52 [(0,Er),(5, .lit (bf κ (iP w (bX (iZ a (nth c i.toNat))).1))),(14, .ah 80 c),(15, .int c.length),(16, .int (IntKind.wrap .i64 (i+1)))] (bR (dK a (bX (iZ a (nth c i.toNat))).2))):=fun e=>by
   rw[j,e,aq1] at f d;rw[az (n:=i+1) (by omega) (by omega)];refine⟨_,?_,⟨dK a (bX (iZ a (nth c i.toNat))).2,iP w (bX (iZ a (nth c i.toNat))).1,c,i+1⟩,rfl,⟨o,tW h g,v,t,by simp only;omega,by simp only;omega⟩,rfl,?_⟩
   ·simp only;omega
   ·intro b _
    cases b
    ·exact d
    ·exact f
  refine ai.2 ⟨by simp;omega,iZ a (nth c i.toNat),rfl,⟨o,by rw[C7];exact q⟩,?_⟩;have p:Value.iface 273 (.pointer (some κ.fI))=bf κ 51:=rfl;have s:Value.iface 273 (.pointer (some κ.arity))=bf κ 52:=rfl;have r:Value.iface 273 (.pointer (some κ.type))=bf κ 53:=rfl;have A:(iZ a (nth c i.toNat)).a=a:=rfl;simp only[p,s,r,A,cD,jE]
  revert R N g
  generalize bX (iZ a (nth c i.toNat))=y
  intro g R N;simp only[A9 κ g,A9 κ h,BV κ (show yb 51 from .inl rfl),BV κ (show yb 52 from .inr (.inl rfl)),BV κ (show yb 53 from .inr (.inr rfl)),iv κ g (show jO 51 from .inr (.inl rfl)),iv κ g (show jO 52 from .inr (.inr (.inl rfl))),iv κ h (show jO 51 from .inr (.inl rfl)),iv κ h (show jO 52 from .inr (.inr (.inl rfl))),iv κ h (show jO 53 from .inr (.inr (.inr rfl)))];obtain⟨e,C⟩:=y;simp only at g R N⊢;rcases h with rfl|rfl|rfl|rfl<;>rcases g with rfl|rfl|rfl|rfl<;>first|exact R rfl|exact N rfl
 ·simp only at k
  have j:lB ⟨a,w,c,i⟩=(w,(a.es,a.more)):=by
   unfold lB;simp only;rw[aq4 (by omega)];rfl
  rw[j] at d;exact d
noncomputable def EYq κ:=(QV κ).an 152 3 (aG 2 (Rm κ) FI (Od κ))
theorem eYq κ:aE (EYq κ):=(eYc _).an (mYc _) (lPa _)
theorem mYq κ:aj (EYq κ):=(mYc _).an aI
theorem yPa κ a r K:(a0 (EYq κ) 12 152 [Er,au r] (bR a) K)=(
 letI b:=AV.ptr 0 0 []
 letI c:=Pg.toProgram (Env.P (QV κ))
 ∃(e2:VW),([b 0,AV.agg [AV.str r.rel,AV.ah 38 r.hl]],(bR a))=([b 0,AV.agg [AV.str e2.2.1,AV.ah 38 e2.2.2]],(bR e2.1))/\(e2.1.ds.length<=9223372036854775807/\bk (aa e2.2.2)<=100000)/\ad c 152 3=ad c 152 3/\∃(e1:W4),letI d:=K (AV.lit (bf κ (Prod.fst (lB e1)))) (bR (dK e1.a (Prod.snd (lB e1))));sp 52 [(0,b 0),(5,AV.lit (bf κ (Prod.fst (dA e2.1 e2.2.1 e2.2.2)))),(14,AV.ah 80 r.bl),(15,AV.int (↑(r.bl.length):Int)),(16,AV.int 0)] (bR (dK e2.1 (Prod.snd (dA e2.1 e2.2.1 e2.2.2))))=sp 52 [(0,b 0),(5,AV.lit (bf κ e1.w)),(14,AV.ah 80 e1.bl),(15,AV.int (↑(e1.bl.length):Int)),(16,AV.int e1.i)] (bR e1.a)/\(List.length e1.a.ds<=9223372036854775807/\(e1.w=(0:Int)\/e1.w=(51:Int)\/e1.w=(52:Int)\/e1.w=(53:Int))/\e1.bl.length<=100000/\(∀(e0:AV),List.Mem e0 e1.bl->jR (da e0)<=100000)/\(0:Int)<=e1.i/\e1.i<=(↑(e1.bl.length):Int))/\∀(e0:Bool),True->aq e0 d d):=by kernel_rfl
abbrev YR:=km×dk
def mD(x:YR):=kg getM gx (cP x.1.ds) (dx x.2.bl) (fe getM gx (cP x.1.ds) ⟨x.2.rel,aa x.2.hl⟩ (x.1.es,x.1.more))
def ab9(x:YR):=([Er,au x.2],bR x.1)
def OP(x:YR):=x.1.ds.length<=aW/\dc x.2
noncomputable def TI(κ:Kp)(x:YR):Out (AV×List Dn.Obj):= .one (.lit (bf κ (mD x).1),bR (dK x.1 (mD x).2))
theorem cPs κ:bd (EYq κ) 12 152 (aO ab9 OP (TI κ)):=by
 refine aR ?_;rintro⟨a,r⟩ K ⟨g,d⟩ f;simp only at g d;refine Eq.mpr (yPa κ a r K) ?_;have c: ∀l,l∈r.bl->jR (da l)<=100000:=fun l i=>by
  obtain⟨k,h,e⟩:=List.getElem_of_mem i;have:=kG d h
  rwa [aM _ _ h,e] at this
 have j:mD (a,r)=lB ⟨dK a (dA a r.rel r.hl).2,(dA a r.rel r.hl).1,r.bl,0⟩:=by
  rfl
 have f:K (.lit (bf κ (mD (a,r)).1)) (bR (dK a (mD (a,r)).2)):=f;rw[j] at f;refine⟨(a,r.rel,r.hl),rfl,⟨g,pH d⟩,rfl,⟨dK a (dA a r.rel r.hl).2,(dA a r.rel r.hl).1,r.bl,0⟩,rfl,⟨g,tR _ _ _,d.2,c,by simp only;omega,by simp only;omega⟩,fun b _=>?_⟩;cases b<;>exact f
noncomputable def QL κ:=(EYq κ).aw 152 (aO ab9 OP (TI κ))
theorem eYs κ:aE (QL κ):=(eYq _).aw (mYq _) (cPs _)
theorem mYs κ:aj (QL κ):=(mYq _).aw aJ
end Go.Proofs.YtioeffnadipbaaaGreatDoor
namespace Go.Rl
open Go Go.Dn
section
variable {σ:Type} {get:σ->ByteArray->Int} {set:σ->ByteArray->Int->σ}
variable (hgs: ∀st s k t,get (set st s k) t=bif t==s then k else get st t)
include hgs
theorem sD ds{r}(a:a8 r=true) V(g: ∀s,s∈fx r->s∈V) st(c:(ff get set ds r st).1=0)(b:(ff get set ds r st).2.2=true):mz get V (ff get set ds r st).2.1<mz get V st:=by
 have d:iY ds r=0:=by
  grind [iY,Dy]
 simp only[a8,ap7,List.all_eq_true] at a;have e:=PX   ds  (uS a.1.1.1) (fun l f=>Wd (a.2 l f)) d st c;rw[e] at b⊢;exact zD (F4 hgs ds r st) V ((Fy hgs ds r st b).left (Ext.refl _ _) g)
theorem oJ ds{r}(b:a8 r=true) V(a: ∀s,s∈fx r->s∈V): ∀n m st,mz get V st<n->mz get V st<m->fJ get set ds r n st=fJ get set ds r m st
 |0,_,_,h,_=>by omega
 |_+1,0,_,_,h=>by omega
 | n+1,m+1,st,d,f=>by
  rw[fJ,fJ];cases e:decide ((ff get set ds r st).1=0) with
  |false=>rfl
  | true=>
   cases c:(ff get set ds r st).2.2 with
   |false=>rfl
   |true=>
    have:=sD hgs ds b V a st (by grind) c
    exact oJ ds b V a n m _ (by omega) (by omega)
end
end Go.Rl
namespace Go.Proofs.YtioeffnadipbaaaGreatDoor
open Go Go.Dn Go.Rl Go.Proofs
attribute [local irreducible] a0 vc
set_option maxRecDepth 20000
structure uz where
 ds:List AV
 r:dk
 es:List (Value×AV)
 more:Bool
abbrev Sg(x:uz):=sp 60 [(3, .ptr 0 0 [] 0),(6, .ptr 1 0 [] 0)] [.box 48 (au x.r), .box 219 (.agg [.ah 43 x.ds, .mp 2, .bool x.more]), .map 9 3 x.es]
theorem xTy κ x I n K:(vc (QL κ) 12 106 none 0 (ad (Pr κ).toProgram 106 4) (Sg x) (bj (QL κ) 106 4 0 I n K))=(
 letI b:=AV.ptr 0 0 []
 letI c:=AV.bool
 letI d:=Obj.box
 letI e:=Dn.Obj.map
 aq x.more (∃(a:YR),letI f:=bf κ (Prod.fst (mD a));letI g:=dK a.1 (Prod.snd (mD a));([b 0,au x.r],[d 219 (AV.agg [AV.ah 43 x.ds,AV.mp 1,c false]),e 9 3 x.es])=([b 0,au a.2],[d 219 (AV.agg [AV.ah 43 a.1.ds,AV.mp 1,c a.1.more]),e 9 3 a.1.es])/\(a.1.ds.length<=9223372036854775807/\bk (aa (bo 38 a.2.hl a.2.bl))<=100000/\a.2.bl.length<=100000)/\aV (aD f) (aq (!bO f) (aV (kH κ f) (K Exit.ret (sp 60 [(4,AV.nil),(5,AV.int (R2 κ f))] []))) (∃(m:Nat),m<n/\I m (sp 60 [(3,b 0),(6,AV.ptr 1 0 [] 0)] [d 48 (au x.r),d 219 (AV.agg [AV.ah 43 (km.ds g),AV.mp 2,c (km.more g)]),e 9 3 (km.es g)])))) (K (Exit.exit 0) (sp 60 [(3,b 0),(6,AV.ptr 1 0 [] 0)] [d 48 (au x.r),d 219 (AV.agg [AV.ah 43 x.ds,AV.mp 2,c x.more]),e 9 3 x.es]))):=by kernel_rfl
abbrev dsR(x:uz):List Dc:=cP x.ds
def zTy(x:uz):=mz getM (dg (aQ x.r)) x.es
def al1 x:=fJ getM gx (dsR x) (aQ x.r) (zTy x+1) x.es
def gI x:=bif x.more then al1 x else(0,x.es)
def Lw(x:uz):=a8 (aQ x.r)=true/\x.ds.length<=aW/\dc x.r
def Ho(x:uz):Out (Exit×S):= .aq (decide ((gI x).1=0)) (.one (.exit 0,Sg ⟨x.ds,x.r,(gI x).2,false⟩)) (.one (.ret,sp 60 [(4, .nil),(5, .int (gI x).1)] []))
theorem D6 ds r a:jO (ff getM gx ds r a).1:=uc _ _ _ (tR _ _ _)
theorem lTy κ:aU (QL κ) 12 106 4 (aG 0 Sg Lw Ho):=by
 refine aC (fun x=>bif x.more then zTy x+1 else 0) ?_;rintro⟨ds,r,a,b⟩ K ⟨c,g,f⟩ e;simp only at c g f;rw[show(QL κ).P=Pr κ from rfl];refine Eq.mpr (xTy κ ⟨ds,r,a,b⟩ _ _ K) ?_;simp only[Ho,Out.run,ae] at e;cases b with
 |false=>exact e.1 rfl
 | true=>
  have m:mD (⟨ds,a,false⟩,r)=ff getM gx (cP ds) (aQ r) a:=rfl;have h: ∀s,s∈fx (aQ r)->s∈dg (aQ r):=fun s l=>(zR c).2 l
  have j:=D6 (cP ds) (aQ r) a;have k:gI ⟨ds,r,a,true⟩=bif decide ((ff getM gx (cP ds) (aQ r) a).1=0) then gI ⟨ds,r,(ff getM gx (cP ds) (aQ r) a).2.1,(ff getM gx (cP ds) (aQ r) a).2.2⟩ else((ff getM gx (cP ds) (aQ r) a).1,(ff getM gx (cP ds) (aQ r) a).2.1):=by
   have e0:gI ⟨ds,r,a,true⟩=fJ getM gx (cP ds) (aQ r) (zTy ⟨ds,r,a,true⟩+1) a:=rfl;rw[e0,fJ];cases d:decide ((ff getM gx (cP ds) (aQ r) a).1=0) with
   |false=>rfl
   | true=>
    rw[aq3,aq3];unfold gI;cases i:(ff getM gx (cP ds) (aQ r) a).2.2 with
    |false=>rfl
    |true=>
     rw[aq3];have:=sD nV (cP ds) c _ h a (by simpa using d) i
     exact oJ nV (cP ds) c _ h _ _ _ this (Nat.lt_succ_self _)
  refine⟨(⟨ds,a,false⟩,r),rfl,⟨g,f⟩,?_⟩;rw[m];refine ai.2 ⟨cD _ _,?_⟩;rw[jE];cases d:decide ((ff getM gx (cP ds) (aQ r) a).1=0) with
  |false=>
   rw[k,d,aq1] at e;refine ai.2 ⟨A9 κ j,?_⟩;rw[MF κ j];exact e.2 d
  | true=>
   rw[k,d,aq3] at e;refine⟨_,?_,⟨ds,r,(ff getM gx (cP ds) (aQ r) a).2.1,(ff getM gx (cP ds) (aQ r) a).2.2⟩,rfl,⟨c,g,f⟩,rfl,?_⟩
   ·simp only
    cases i:(ff getM gx (cP ds) (aQ r) a).2.2 with
    |false=>exact Nat.succ_pos _
    |true=>
     have:=sD nV (cP ds) c _ h a (by simpa using d) i
     exact Nat.succ_lt_succ this
   ·simp only[Ho,Out.run,ae]
    exact e
noncomputable def Rt κ:=(QL κ).an 106 4 (aG 0 Sg Lw Ho)
theorem eYv κ:aE (Rt κ):=(eYs _).an (mYs _) (lTy _)
theorem mYv κ:aj (Rt κ):=(mYs _).an aI
def iA(l:List Int):List AV:=l.map fun k=> .lit (.int .i64 k)
theorem iV l:(iA l).length=l.length:=by simp[iA]
theorem wH l m:iA (l++m)=iA l++iA m:=by simp[iA]
structure Xa where
 ds:List AV
 es:List (Value×AV)
 o:List Int
 vs:List ByteArray
 i:Int
abbrev Rz(x:Xa):=sp 60 [(6, .ptr 0 0 [] 0),(8, .ak 2 0 (iA x.o).length),(36, .ak 3 0 x.vs.length),(37, .int x.vs.length),(38, .int x.i)] [.box 219 (.agg [.ah 43 x.ds, .mp 1, .bool false]), .map 9 3 x.es, .row 3 (iA x.o), .row 9 (strs x.vs)]
theorem xTz κ ds es o vs i I n K:(vc (Rt κ) 12 106 none 0 (ad (Pr κ).toProgram 106 11) (sp 60 [(6, .ptr 0 0 [] 0),(8, .ak 2 0 o.length),(36, .ak 3 0 vs.length),(37, .int vs.length),(38, .int i)] [.box 219 (.agg [.ah 43 ds, .mp 1, .bool false]), .map 9 3 es, .row 3 o, .row 9 vs]) (bj (Rt κ) 106 11 0 I n K))=(
 letI a:=AV.int
 letI b:=c6 es (Value.string (toStr (nth vs (0+i.toNat)))) (a 0)
 letI c:=i<(↑(vs.length):Int)
 aq (decide c) (aV (decide ((0:Int)<=i)&&decide c) (aq (toInt b==(0:Int)) (K Exit.ret (sp 60 [(4,AV.nil),(5,a 53)] [])) (aV (decide
 ((o.length+1+1)*9<=70368744177664)) (∃(e0:Nat),e0<n/\I e0 (sp 60 [(6,AV.ptr 0 0 [] 0),(8,AV.ak 2 0 (o.length+1)),(36,AV.ak 3 0 vs.length),
 (37,a (↑(vs.length):Int)),(38,a (IntKind.wrap IntKind.i64 (i+(1:Int))))] [Obj.box 219 (AV.agg [AV.ah 43 ds,AV.mp 1,AV.bool false]),
 Dn.Obj.map 9 3 es,Obj.row 3 (List.take o.length o++[a (toInt b)]),Obj.row 9 vs]))))) (K (Exit.exit 2) (sp 60 [(8,AV.ak 0 0 o.length)] [Obj.row 3 o]))):=by kernel_rfl
def ma(x:Xa):=x.vs.drop x.i.toNat
def ur x:=(ma x).all fun s=>!decide (getM x.es s=0)
def NM(x:Xa):=x.vs.length<=100000/\x.o.length<=x.i.toNat/\0<=x.i/\x.i<=x.vs.length
def Hn(x:Xa):Out (Exit×S):= .aq (ur x) (.one (.exit 2,sp 60 [(8, .ak 0 0 (iA (x.o++(ma x).map (getM x.es))).length)] [.row 3 (iA (x.o++(ma x).map (getM x.es)))])) (.one (.ret,sp 60 [(4, .nil),(5, .int 53)] []))
theorem lTz κ:aU (Rt κ) 12 106 11 (aG 0 Rz NM Hn):=by
 refine aC (fun x=>x.vs.length - x.i.toNat) ?_;rintro⟨ds,a,o,vs,i⟩ K ⟨h,m,f,k⟩ b;simp only at h m f k;rw[show(Rt κ).P=Pr κ from rfl];have e0:(⟨ds,a,o,vs,i⟩:Xa).vs.length=(strs vs).length:=(ba vs).symm;simp only[Rz,e0];refine Eq.mpr (xTz κ ds a (iA o) (strs vs) i _ _ K) ?_;simp only[Hn,Out.run,ae] at b;simp only[ba];rw[ae,ap6,ap8,ai,ap7,ap6,ap6];refine⟨fun g=>⟨⟨f,g⟩,?_⟩,fun g=>?_⟩
 ·have j:i.toNat<vs.length:=by omega
  have c:ma ⟨ds,a,o,vs,i⟩=vs[i.toNat]::ma ⟨ds,a,o++[getM a vs[i.toNat]],vs,i+1⟩:=by
   unfold ma;simp only[show(i+1).toNat=i.toNat+1 by omega];exact aq7 j
  have d:ur ⟨ds,a,o,vs,i⟩=(!decide (getM a vs[i.toNat]=0)&&ur ⟨ds,a,o++[getM a vs[i.toNat]],vs,i+1⟩):=by
   unfold ur;rw[c,List.all_cons]
  rw[Nat.zero_add,wu vs _ j,Xg];have l:toInt (c6 a (Value.string (toStr (.lit (.string vs[i.toNat])))) (AV.int 0))=getM a vs[i.toNat]:=rfl;rw[l,ae];refine⟨fun e=>?_,fun e=>?_⟩
  ·rw[d,e] at b
   exact b.2 rfl
  ·rw[d,e,c,Bool.not_false,ar2] at b
   rw[ai,ap6,iV];rw[az (n:=i+1) (by omega) (by omega)];refine⟨by omega,_,?_,⟨ds,a,o++[getM a vs[i.toNat]],vs,i+1⟩,?_,⟨h,by simp only[ar1,List.length_singleton];omega,by simp only;omega,by simp only;omega⟩,rfl,?_⟩
   ·simp only;omega
   ·simp only[Rz,wH,iV,ar1,List.length_singleton,List.take_of_length_le (show(iA o).length<=o.length by rw[iV];omega)]
    rfl
   ·simp only[Hn,Out.run,ae]
    grind
 ·have c:ma ⟨ds,a,o,vs,i⟩=[]:=by
   unfold ma;exact aq4 (by simp only;omega)
  have d:ur ⟨ds,a,o,vs,i⟩=true:=by
   unfold ur;rw[c];rfl
  rw[d,c] at b;have:=b.1 rfl
  simp only[List.map_nil,List.append_nil] at this;exact this
noncomputable def Ym κ:=(Rt κ).an 106 11 (aG 0 Rz NM Hn)
theorem eYz κ:aE (Ym κ):=(eYv _).an (mYv _) (lTz _)
theorem mYz κ:aj (Ym κ):=(mYv _).an aI
theorem yTz κ ds r K:(a0 (Ym κ) 12 106 [.ah 43 ds,au r] [] K)=(
 letI a:=AV.ptr 0 0 []
 letI b:=AV.int
 letI c:=AV.agg
 letI d:=AV.bool
 letI e:=AV.str
 letI f:=Obj.box
 letI g:=Obj.row
 letI h:=Dn.Obj.map
 letI i:=AV.ah
 letI k:=Pg.toProgram (Env.P (QL κ))
 letI l:=Pg.toProgram (Env.P (Rt κ))
 aV (List.all [c [c [e r.rel,i 38 r.hl],i 80 r.bl,b r.line]] fc) (aq (!fB ds [c [c [e r.rel,i 38 r.hl],i 80 r.bl,b r.line]]) (K (AV.aH [AV.nil,b 30]) []) (ad k 106 4=ad k 106 4/\∃(e2:uz),letI j:=uz.r {ds:=e2.ds,r:=e2.r,es:=Prod.snd (gI e2),more:=false};sp 60 [(3,a 0),(6,AV.ptr 1 0 [] 0)] [f 48 (c [c [e r.rel,i 38 r.hl],i 80 r.bl,b r.line]),f 219 (c [i 43 ds,AV.mp 2,d true]),h 9 3 []]=sp 60 [(3,a 0),(6,AV.ptr 1 0 [] 0)] [f 48 (c [c [e e2.r.rel,i 38 e2.r.hl],i 80 e2.r.bl,b e2.r.line]),f 219 (c [i 43 e2.ds,AV.mp 2,d e2.more]),h 9 3 e2.es]/\(a8 (aQ e2.r)=true/\e2.ds.length<=9223372036854775807/\bk (aa (bo 38 e2.r.hl e2.r.bl))<=100000/\List.length e2.r.bl<=100000)/\aq (decide (Prod.fst (gI e2)=(0:Int))) (∃(e1:dk),letI m:=List.length (dg (aQ e1));([c [c [AV.lit (Value.string (dk.rel j)),i 38 (dk.hl j)],i 80 (dk.bl j),AV.lit (Value.int IntKind.i64 (dk.line j))]],aL)=([c [c [e e1.rel,i 38 e1.hl],i 80 e1.bl,b e1.line]],aL)/\(a8 (aQ e1)=true/\bk (aa (bo 38 e1.hl e1.bl))<=100000/\e1.bl.length<=100000)/\ad l 106 11=ad l 106 11/\∃(e0:Xa),letI n:=iA (e0.o++List.map (getM e0.es) (ma e0));sp 60 [(6,a 0),(8,AV.ak 2 0 0),(36,AV.ak 3 0 m),(37,b (↑m:Int)),(38,b 0)] [f 219 (c [i 43 (uz.ds {ds:=e2.ds,r:=e2.r,es:=Prod.snd (gI e2),more:=false}),AV.mp 1,d false]),h 9 3 (uz.es {ds:=e2.ds,r:=e2.r,es:=Prod.snd (gI e2),more:=false}),g 3 [],g 9 (strs (dg (aQ e1)))]=sp 60 [(6,a 0),(8,AV.ak 2 0 (List.length (iA e0.o))),(36,AV.ak 3 0 e0.vs.length),(37,b (↑(e0.vs.length):Int)),(38,b e0.i)] [f 219 (c [i 43 e0.ds,AV.mp 1,d false]),h 9 3 e0.es,g 3 (iA e0.o),g 9 (strs e0.vs)]/\(e0.vs.length<=100000/\e0.o.length<=e0.i.toNat/\(0:Int)<=e0.i/\e0.i<=(↑(e0.vs.length):Int))/\aq (ur e0) (K (AV.aH [AV.ak 0 0 (List.length n),b 0]) [g 3 n]) (K (AV.aH [AV.nil,b 53]) [])) (K (AV.aH [AV.nil,b (Prod.fst (gI e2))]) [])))):=by kernel_rfl
abbrev ATs:=List AV×dk
def uO(x:ATs):=L2 (cP x.1) (aQ x.2)
def ac3(x:ATs):List AV×List Dn.Obj:=([.ah 43 x.1,au x.2],[])
def Mk(x:ATs):=x.1.length<=aW/\dc x.2
def Me(x:ATs):Out (AV×List Dn.Obj):= .aq (fB x.1 [au x.2]) (.aq (decide ((uO x).1=0)) (.one (.aH [.ak 0 0 (iA (uO x).2).length, .int 0],[.row 3 (iA (uO x).2)])) (.one (.aH [.nil, .int (uO x).1],[]))) (.one (.aH [.nil, .int 30],[]))
theorem KN{ds r}(h:fB ds [au r]=true):a8 (aQ r)=true:=by
 unfold fB at h;rw[ap7] at h;have:=h.2
 rw[List.all_cons,ap7] at this;exact this.1
theorem cTs κ:bd (Ym κ) 12 106 (aO ac3 Mk Me):=by
 refine aR ?_;rintro⟨ds,r⟩ K ⟨i,b⟩ h;simp only at i b;refine Eq.mpr (yTz κ ds r K) ?_;simp only[Me,Out.run,ae] at h;have g:=gH (aa r.hl);rw[eD] at g;have p:=pH b;have o:=b.2;refine ai.2 ⟨?_,?_⟩
 ·show(fc (au r)&&true)=true
  have:fc (au r)=(decide (r.hl.length<=aW)&&decide (r.bl.length<=aW)):=rfl
  rw[this,aq2 (by simp only[aW];omega),aq2 (by simp only[aW];omega)];rfl
 refine ae.2 ⟨fun e=>h.2 (by simpa using e),fun e=>?_⟩;have j:fB ds [au r]=true:=by simpa using e
 have c:=KN j;have a:=h.1 j;have n:gI ⟨ds,r,[],true⟩=fJ getM gx (cP ds) (aQ r) ((dg (aQ r)).length+1) []:=oJ nV (cP ds) c _ (fun s k=>(zR c).2 k) _ _ _ (Nat.lt_succ_self _) (Nat.lt_succ_of_le (Pw _ _ _));have l:uO (ds,r)=bif decide ((gI ⟨ds,r,[],true⟩).1=0) then(bif (dg (aQ r)).all (fun s=>!decide (getM (gI ⟨ds,r,[],true⟩).2 s=0)) then(0,(dg (aQ r)).map (getM (gI ⟨ds,r,[],true⟩).2)) else(53,[])) else((gI ⟨ds,r,[],true⟩).1,[]):=by
  rw[n];rfl
 rw[l] at a;refine⟨rfl,⟨ds,r,[],true⟩,rfl,⟨c,i,b⟩,?_⟩;refine ae.2 ⟨fun d=>⟨r,rfl,⟨c,b⟩,rfl,⟨ds,(gI ⟨ds,r,[],true⟩).2,[],dg (aQ r),0⟩,rfl,⟨KG b,Nat.zero_le _,by simp only;omega,by simp only;omega⟩,?_⟩,fun d=>?_⟩
 ·rw[d,aq3] at a
  have m:ur ⟨ds,(gI ⟨ds,r,[],true⟩).2,[],dg (aQ r),0⟩=(dg (aQ r)).all (fun s=>!decide (getM (gI ⟨ds,r,[],true⟩).2 s=0)):=rfl;rw[m];refine ae.2 ⟨fun f=>?_,fun f=>?_⟩
  ·rw[f] at a
   exact a.1 rfl
  ·rw[f] at a
   exact a.2 rfl
 ·rw[d,aq1] at a
  exact a.2 d
noncomputable def R1 κ:=(Ym κ).aw 106 (aO ac3 Mk Me)
theorem eTy κ:aE (R1 κ):=(eYz _).aw (mYz _) (cTs _)
theorem mTy κ:aj (R1 κ):=(mYz _).aw aJ
abbrev eG(ds a:List AV):AV:= .agg [.ah 43 ds, .ah 48 a]
def dr(x:AV):dk:=⟨[],[],toStr (ag (ag x 0) 0),af (ag (ag x 0) 1),af (ag x 1),toInt (ag x 2),0⟩
structure Lf where
 ds:List AV
 rs:List AV
 i:Int
abbrev U4(x:Lf):Dn.Obj:= .box 25 (eG x.ds x.rs)
def Tx(ds:List AV):List AV->Int->Int×Int
 |[],_=>(0,0)
 |d::l,i=>bif decide (bx (toStr (ag d 0)) ds=i) then Tx ds l (i+1) else(toInt (ag d 5),50)
def kj ds x:=bif fB ds [au (dr x)] then(uO (ds,dr x)).1 else 30
def Hf(f:AV->Int):List AV->Int×Int
 |[]=>(0,0)
 |x::l=>bif decide (f x=0) then Hf f l else(toInt (ag x 2),f x)
def BY ds a:=bif fB ds a then bif decide ((Tx ds ds 0).2=0) then Hf (kj ds) a else Tx ds ds 0 else(0,30)
def kQ(x:AV):Int:=GK (aQ (dr x))
def lZ ds a:=bif decide ((BY ds a).2=0) then Hf kQ a else BY ds a
def nF(ds a:List AV):=ds.length<=aW/\a.length<=aW/\∀x,x∈a->dc (dr x)
theorem HL{ds c}(h:nF ds c):c.all fc=true:=by
 refine List.all_eq_true.2 fun x d=>?_
 have b:=h.2.2 x d;have a:=gH (aa (dr x).hl);rw[eD] at a;have e:=pH b;have hl:=b.2
 grind [fc,dr,aW]
abbrev UA x:=sp 57 [(1, .ptr 0 0 [] 0),(16, .ah 43 x.ds),(17, .int x.ds.length),(18, .int x.i)] [U4 x]
theorem xC1 κ x I n K:(vc (R1 κ) 12 61 none 0 (ad (Pr κ).toProgram 61 4) (UA x) (bj (R1 κ) 61 4 0 I n K))=(
 letI a:=AV.agg [AV.ah 43 x.ds,AV.ah 48 x.rs]
 letI b:=x.i<(↑(x.ds.length):Int)
 aq (decide b) (aV (decide ((0:Int)<=x.i)&&decide b) (∃(e1:List AV×ByteArray),([AV.ah 43 x.ds,AV.str (toStr (ag (nth x.ds x.i.toNat) 0))],aL)=
 ([AV.ah 43 e1.1,AV.str e1.2],aL)/\iy e1/\aq (bx e1.2 e1.1 != x.i) (K Exit.ret (sp 57 [(2,AV.int (toInt (ag (nth x.ds x.i.toNat) 5))),(3,AV.int 50)] []))
 (∃(e0:Nat),e0<n/\I e0 (sp 57 [(1,AV.ptr 0 0 [] 0),(16,AV.ah 43 x.ds),(17,AV.int (↑(x.ds.length):Int)),(18,AV.int (IntKind.wrap IntKind.i64 (x.i
 +(1:Int))))] [Obj.box 25 a])))) (K (Exit.exit 0) (sp 57 [(1,AV.ptr 0 0 [] 0)] [Obj.box 25 a]))):=by kernel_rfl
def Lo(x:Lf):=Tx x.ds (x.ds.drop x.i.toNat) x.i
def Ot(x:Lf):=x.ds.length<=aW/\0<=x.i/\x.i<=x.ds.length
def I3(x:Lf):Out (Exit×S):= .aq (decide ((Lo x).2=0)) (.one (.exit 0,sp 57 [(1, .ptr 0 0 [] 0)] [U4 x])) (.one (.ret,sp 57 [(2, .int (Lo x).1),(3, .int (Lo x).2)] []))
theorem lC1 κ:aU (R1 κ) 12 61 4 (aG 0 UA Ot I3):=by
 refine aC (fun x=>x.ds.length - x.i.toNat) ?_;rintro⟨ds,b,i⟩ K ⟨c,g,j⟩ a;simp only at c g j;rw[show(R1 κ).P=Pr κ from rfl];refine Eq.mpr (xC1 κ ⟨ds,b,i⟩ _ _ K) ?_;simp only[aW] at c;simp only[I3,Out.run,ae] at a;rw[ae,ap6,ap8,ai,ap7,ap6,ap6];refine⟨fun d=>⟨⟨g,d⟩,(ds,toStr (ag (nth ds i.toNat) 0)),rfl,c,?_⟩,fun d=>?_⟩
 ·simp only at d
  have h:i.toNat<ds.length:=by omega
  have f:Lo ⟨ds,b,i⟩=bif decide (bx (toStr (ag (nth ds i.toNat) 0)) ds=i) then Lo ⟨ds,b,i+1⟩ else(toInt (ag (nth ds i.toNat) 5),50):=by
   unfold Lo;simp only[show(i+1).toNat=i.toNat+1 by omega];rw[aq7 h,←aM ds i.toNat h,Tx]
  rw[f] at a;simp only[Pj];cases e:decide (bx (toStr (ag (nth ds i.toNat) 0)) ds=i) with
  |false=>
   rw[e] at a;exact a.2 rfl
  | true=>
   rw[e] at a;rw[az (n:=i+1) (by omega) (by omega)];refine⟨_,?_,⟨ds,b,i+1⟩,rfl,⟨by simpa[aW] using c,by simp only;omega,by simp only;omega⟩,rfl,?_⟩
   ·simp only;omega
   ·simp only[I3,Out.run,ae]
    exact a
 ·simp only at d
  have f:Lo ⟨ds,b,i⟩=(0,0):=by
   unfold Lo;simp only;rw[aq4 (by omega)];rfl
  rw[f] at a;exact a.1 rfl
noncomputable def Rx κ:=(R1 κ).an 61 4 (aG 0 UA Ot I3)
theorem eC1 κ:aE (Rx κ):=(eTy _).an (mTy _) (lC1 _)
theorem mC1 κ:aj (Rx κ):=(mTy _).an aI
abbrev PU x:=sp 57 [(1, .ptr 0 0 [] 0),(38, .ah 48 x.rs),(39, .int x.rs.length),(40, .int x.i)] [U4 x]
theorem xC2 κ x I n K:(vc (Rx κ) 12 61 none 0 (ad (Pr κ).toProgram 61 11) (PU x) (bj (Rx κ) 61 11 0 I n K))=(
 letI a:=AV.int
 letI b:=AV.ah
 letI e:=∃(e0:Nat),e0<n/\I e0 (sp 57 [(1,AV.ptr 0 0 [] 0),(38,b 48 x.rs),(39,a (↑(x.rs.length):Int)),(40,a (IntKind.wrap
  IntKind.i64 (x.i+(1:Int))))] [Obj.box 25 (AV.agg [b 43 x.ds,b 48 x.rs])])
 letI c:=nth x.rs x.i.toNat
 letI f:=x.i<(↑(x.rs.length):Int)
 letI d:=toInt (ag c 2)
 aq (decide f) (aV (decide ((0:Int)<=x.i)&&decide f) (∃(e1:ATs),([b 43 x.ds,AV.agg [AV.agg [AV.str (toStr (ag (ag c 0) 0)),b 38 (af (ag (ag
 c 0) 1))],b 80 (af (ag c 1)),a d]],aL)=([b 43 e1.1,au e1.2],aL)/\(e1.1.length<=9223372036854775807/\bk (aa (bo 38 e1.2.hl e1.2.bl))<=
 100000/\e1.2.bl.length<=100000)/\aq (fB e1.1 [au e1.2]) (aq (decide (Prod.fst (uO e1)=(0:Int))) e (aq (Prod.fst (uO e1) != (0:Int)) (K Exit.ret (sp 57
 [(2,a d),(3,a (Prod.fst (uO e1)))] [])) e)) (K Exit.ret (sp 57 [(2,a d),(3,a 30)] [])))) (K (Exit.exit 2) (sp 57 [] []))):=by kernel_rfl
def AM f(x:Lf):=Hf f (x.rs.drop x.i.toNat)
def sK(x:Lf):=nF x.ds x.rs/\0<=x.i/\x.i<=x.rs.length
def CR(x:Lf):Out (Exit×S):= .aq (decide ((AM (kj x.ds) x).2=0)) (.one (.exit 2,sp 57 [] [])) (.one (.ret,sp 57 [(2, .int (AM (kj x.ds) x).1),(3, .int (AM (kj x.ds) x).2)] []))
theorem HB f ds a i(c:0<=i)(b:i.toNat<a.length):AM f ⟨ds,a,i⟩=bif decide (f (nth a i.toNat)=0) then AM f ⟨ds,a,i+1⟩ else(toInt (ag (nth a i.toNat) 2),f (nth a i.toNat)):=by
 grind [AM,List.drop_eq_getElem_cons,aM,Hf]
theorem Ir f ds a i(h:a.length<=i.toNat):AM f ⟨ds,a,i⟩=(0,0):=by
 unfold AM;rw[aq4 h];rfl
theorem lC2 κ:aU (Rx κ) 12 61 11 (aG 0 PU sK CR):=by
 refine aC (fun x=>x.rs.length - x.i.toNat) ?_;rintro⟨ds,a,i⟩ K ⟨c,h,p⟩ b;simp only at c h p;rw[show(Rx κ).P=Pr κ from rfl];refine Eq.mpr (xC2 κ ⟨ds,a,i⟩ _ _ K) ?_;have g:=c.2.1;simp only[aW] at g;simp only[CR,Out.run,ae] at b;rw[ae,ap6,ap8,ai,ap7,ap6,ap6];refine⟨fun d=>⟨⟨h,d⟩,(ds,dr (nth a i.toNat)),rfl,⟨c.1,?_⟩,?_⟩,fun d=>?_⟩
 ·simp only at d
  exact c.2.2 _ (by rw[aM _ _ (show i.toNat<a.length by omega)];exact List.getElem_mem _)
 ·simp only at d
  have r:i.toNat<a.length:=by omega
  rw[HB _ _ _ _ h r] at b;have l:kj ds (nth a i.toNat)=0->∃m,m<a.length - i.toNat/\et PU sK CR (fun x=>x.rs.length - x.i.toNat) K m (PU ⟨ds,a,i+1⟩):=fun e=>by
   rw[e] at b;refine⟨_,?_,⟨ds,a,i+1⟩,rfl,⟨c,by simp only;omega,by simp only;omega⟩,rfl,?_⟩
   ·simp only;omega
   ·simp only[CR,Out.run,ae]
    exact b
  have f: ∀e:Int,kj ds (nth a i.toNat)=e->e≠0->K .ret (sp 57 [(2, .int (toInt (ag (nth a i.toNat) 2))),(3, .int e)] []):=fun e q k=>by
   rw[q,aq0 k] at b;exact b.2 (aq0 k)
  rw[az (n:=i+1) (by omega) (by omega)];have o:kj ds (nth a i.toNat)=bif fB ds [au (dr (nth a i.toNat))] then(uO (ds,dr (nth a i.toNat))).1 else 30:=rfl
  refine ae.2 ⟨fun j=>?_,fun j=>?_⟩
  ·simp_all[aq3,ae,ap8,Pj,aq8,ap6]
  ·rw[j,aq1] at o
   exact f 30 o (by decide)
 ·simp only at d
  rw[Ir _ _ _ _ (by omega)] at b;exact b.1 rfl
noncomputable def EC2 κ:=(Rx κ).an 61 11 (aG 0 PU sK CR)
theorem eC2 κ:aE (EC2 κ):=(eC1 _).an (mC1 _) (lC2 _)
theorem mC2 κ:aj (EC2 κ):=(mC1 _).an aI
theorem yCd κ ds rs K:(a0 (EC2 κ) 12 61 [eG ds rs] [] K)=(
 letI a:=AV.ptr 0 0 []
 letI b:=AV.int
 letI c:=AV.ah
 letI e:=Pg.toProgram (Env.P (R1 κ))
 letI f:=Pg.toProgram (Env.P (Rx κ))
 aV (List.all rs fc) (aq (!fB ds rs) (K (AV.aH [b 0,b 30]) []) (ad e 61 4=ad e 61 4/\∃(e2:Lf),letI g:=[Obj.box 25 (AV.agg [c 43 e2.ds,c 48 e2.rs])];sp 57 [(1,a 0),(16,c 43 ds),(17,b (↑(ds.length):Int)),(18,b 0)] [Obj.box 25 (AV.agg [c 43 ds,c 48 rs])]=sp 57 [(1,a 0),(16,c 43 e2.ds),(17,b (↑(e2.ds.length):Int)),(18,b e2.i)] g/\(e2.ds.length<=9223372036854775807/\(0:Int)<=e2.i/\e2.i<=(↑(e2.ds.length):Int))/\aq (decide (Prod.snd (Lo e2)=(0:Int))) (ad f 61 11=ad f 61 11/\∃(e1:Lf),letI d:=AM (kj e1.ds) e1;sp 57 [(1,a 0),(38,c 48 e2.rs),(39,b (↑(e2.rs.length):Int)),(40,b 0)] g=sp 57 [(1,a 0),(38,c 48 e1.rs),(39,b (↑(e1.rs.length):Int)),(40,b e1.i)] [Obj.box 25 (AV.agg [c 43 e1.ds,c 48 e1.rs])]/\((e1.ds.length<=9223372036854775807/\e1.rs.length<=9223372036854775807/\∀(e0:AV),List.Mem e0 e1.rs->bk (aa (bo 38 (dk.hl (dr e0)) (dk.bl (dr e0))))<=100000/\List.length (dk.bl (dr e0))<=100000)/\(0:Int)<=e1.i/\e1.i<=(↑(e1.rs.length):Int))/\aq (decide (Prod.snd d=(0:Int))) (K (AV.aH [b 0,b 0]) []) (K (AV.aH [b (Prod.fst d),b (Prod.snd d)]) [])) (K (AV.aH [b (Prod.fst (Lo e2)),b (Prod.snd (Lo e2))]) [])))):=by kernel_rfl
abbrev B3:=List AV×List AV
def R9(x:B3):List AV×List Dn.Obj:=([eG x.1 x.2],[])
def Ay(x:B3):Prop:=nF x.1 x.2
def M3(x:B3):Out (AV×List Dn.Obj):= .one (.aH [.int (BY x.1 x.2).1, .int (BY x.1 x.2).2],[])
theorem GJ f: ∀l,(Hf f l).2=0->Hf f l=(0,0)
 |[],_=>rfl
 | x::l,h=>by
  rw[Hf] at h⊢;cases e:decide (f x=0) with
  |true=>rw[e] at h;exact GJ f l h
  |false=>
   grind
theorem cCd κ:bd (EC2 κ) 12 61 (aO R9 Ay M3):=by
 refine aR ?_;rintro⟨ds,a⟩ K c b;have c:nF ds a:=c;refine Eq.mpr (yCd κ ds a K) ?_;simp only[M3,Out.run,BY] at b;refine ai.2 ⟨HL c,ae.2 ⟨fun e=>?_,fun e=>?_⟩⟩
 ·grind
 ·rw[show fB ds a=true by simpa using e,aq3] at b
  have g:Lo ⟨ds,a,0⟩=Tx ds ds 0:=rfl;have h:AM (kj ds) ⟨ds,a,0⟩=Hf (kj ds) a:=rfl;refine⟨rfl,⟨ds,a,0⟩,rfl,⟨c.1,by simp only;omega,by simp only;omega⟩,?_⟩;rw[g];refine ae.2 ⟨fun f=>⟨rfl,⟨ds,a,0⟩,rfl,⟨c,by simp only;omega,by simp only;omega⟩,?_⟩,fun f=>?_⟩
  ·rw[f,aq3] at b
   rw[h];refine ae.2 ⟨fun d=>?_,fun d=>b⟩;rw[ap6] at d;rw[GJ _ _ d] at b;exact b
  grind
noncomputable def SH κ:=(EC2 κ).aw 61 (aO R9 Ay M3)
theorem eCd κ:aE (SH κ):=(eC2 _).aw (mC2 _) (cCd _)
theorem mCd κ:aj (SH κ):=(mC2 _).aw aJ
abbrev OL(x:Lf):=sp 37 [(20, .ah 48 x.rs),(21, .int x.rs.length),(22, .int x.i)] []
theorem xC3 κ x I n K:(vc (SH κ) 12 31 none 0 (ad (Pr κ).toProgram 31 5) (OL x) (bj (SH κ) 31 5 0 I n K))=(
 letI a:=AV.int
 letI b:=nth x.rs x.i.toNat
 letI d:=x.i<(↑(x.rs.length):Int)
 letI c:=toInt (ag b 2)
 aq (decide d) (aV (decide ((0:Int)<=x.i)&&decide d) (∃(e1:dk),([AV.agg [AV.agg [AV.str (toStr (ag (ag b 0) 0)),AV.ah 38 (af (ag (ag b 0) 1))],
 AV.ah 80 (af (ag b 1)),a c]],aL)=([au e1],aL)/\(bk (aa (bo 38 e1.hl e1.bl))<=100000/\e1.bl.length<=100000)/\aq (a8 (aQ e1)) (aq (jX (aQ e1)) (∃
 (e0:Nat),e0<n/\I e0 (sp 37 [(20,AV.ah 48 x.rs),(21,a (↑(x.rs.length):Int)),(22,a (IntKind.wrap IntKind.i64 (x.i+(1:Int))))] [])) (K
 Exit.ret (sp 37 [(2,a c),(3,a 60)] []))) (K Exit.ret (sp 37 [(2,a c),(3,a 30)] [])))) (K (Exit.exit 0) (sp 37 [] []))):=by kernel_rfl
def Ea(x:Lf):Out (Exit×S):= .aq (decide ((AM kQ x).2=0)) (.one (.exit 0,sp 37 [] [])) (.one (.ret,sp 37 [(2, .int (AM kQ x).1),(3, .int (AM kQ x).2)] []))
theorem lC3 κ:aU (SH κ) 12 31 5 (aG 0 OL sK Ea):=by
 refine aC (fun x=>x.rs.length - x.i.toNat) ?_;rintro⟨ds,a,i⟩ K ⟨f,h,p⟩ b;simp only at f h p;rw[show(SH κ).P=Pr κ from rfl];refine Eq.mpr (xC3 κ ⟨ds,a,i⟩ _ _ K) ?_;have j:=f.2.1;simp only[aW] at j;simp only[Ea,Out.run,ae] at b;rw[ae,ap6,ap8,ai,ap7,ap6,ap6];refine⟨fun d=>⟨⟨h,d⟩,dr (nth a i.toNat),rfl,?_,?_⟩,fun d=>?_⟩
 ·simp only at d
  exact f.2.2 _ (by rw[aM _ _ (show i.toNat<a.length by omega)];exact List.getElem_mem _)
 ·simp only at d
  have r:i.toNat<a.length:=by omega
  rw[HB _ _ _ _ h r] at b;have l:kQ (nth a i.toNat)=0->∃m,m<a.length - i.toNat/\et OL sK Ea (fun x=>x.rs.length - x.i.toNat) K m (OL ⟨ds,a,i+1⟩):=fun e=>by
   rw[e] at b;refine⟨_,?_,⟨ds,a,i+1⟩,rfl,⟨f,by simp only;omega,by simp only;omega⟩,rfl,?_⟩
   ·simp only;omega
   ·simp only[Ea,Out.run,ae]
    exact b
  have c: ∀e:Int,kQ (nth a i.toNat)=e->e≠0->K .ret (sp 37 [(2, .int (toInt (ag (nth a i.toNat) 2))),(3, .int e)] []):=fun e q o=>by
   rw[q,aq0 o] at b;exact b.2 (aq0 o)
  rw[az (n:=i+1) (by omega) (by omega)];have k:kQ (nth a i.toNat)=bif a8 (aQ (dr (nth a i.toNat))) then bif jX (aQ (dr (nth a i.toNat))) then 0 else 60 else 30:=rfl
  refine ae.2 ⟨fun g=>?_,fun g=>?_⟩
  ·rw[g,aq3] at k
   grind [ae]
  ·rw[g,aq1] at k
   exact c 30 k (by decide)
 ·simp only at d
  rw[Ir _ _ _ _ (by omega)] at b;exact b.1 rfl
noncomputable def YW κ:=(SH κ).an 31 5 (aG 0 OL sK Ea)
theorem eC3 κ:aE (YW κ):=(eCd _).an (mCd _) (lC3 _)
theorem mC3 κ:aj (YW κ):=(mCd _).an aI
theorem yCs κ ds rs K:(a0 (YW κ) 12 31 [eG ds rs] [] K)=(
 letI b:=AV.int
 letI c:=AV.ah
 ∃(a:B3),([AV.agg [c 43 ds,c 48 rs]],aL)=([AV.agg [c 43 a.1,c 48 a.2]],aL)/\(a.1.length<=9223372036854775807/\a.2.length<=
 9223372036854775807/\∀(x:AV),List.Mem x a.2->bk (aa (bo 38 (dk.hl (dr x)) (dk.bl (dr x))))<=100000/\List.length (dk.bl (dr x))<=100000)
 /\aq (Prod.snd (BY a.1 a.2) != (0:Int)) (K (AV.aH [b (Prod.fst (BY a.1 a.2)),b (Prod.snd (BY a.1 a.2))]) []) (ad (Pg.toProgram
 (Env.P (SH κ))) 31 5=ad (Pg.toProgram (Env.P (SH κ))) 31 5/\∃(a:Lf),sp 37 [(20,c 48 rs),(21,b (↑(rs.length):Int)),(22,b
 0)] []=sp 37 [(20,c 48 a.rs),(21,b (↑(a.rs.length):Int)),(22,b a.i)] []/\((a.ds.length<=9223372036854775807/\a.rs.length<=
 9223372036854775807/\∀(x:AV),List.Mem x a.rs->bk (aa (bo 38 (dk.hl (dr x)) (dk.bl (dr x))))<=100000/\List.length (dk.bl (dr x))<=
 100000)/\(0:Int)<=a.i/\a.i<=(↑(a.rs.length):Int))/\aq (decide (Prod.snd (AM kQ a)=(0:Int))) (K (AV.aH [b 0,b 0]) []) (K (AV.aH
 [b (Prod.fst (AM kQ a)),b (Prod.snd (AM kQ a))]) []))):=by kernel_rfl
def PF(x:B3):Out (AV×List Dn.Obj):= .one (.aH [.int (lZ x.1 x.2).1, .int (lZ x.1 x.2).2],[])
theorem cCs κ:bd (YW κ) 12 31 (aO R9 Ay PF):=by
 refine aR ?_;rintro⟨ds,a⟩ K c b;refine Eq.mpr (yCs κ ds a K) ?_;simp only[PF,Out.run,lZ] at b;refine⟨(ds,a),rfl,c,?_⟩;simp only[Pj];have f:AM kQ ⟨ds,a,0⟩=Hf kQ a:=rfl;refine ae.2 ⟨fun e=>?_,fun e=>?_⟩
 ·grind
 ·rw[show decide _=true by simpa using e] at b
  refine⟨trivial,⟨ds,a,0⟩,rfl,⟨c,by simp only;omega,by simp only;omega⟩,?_⟩;rw[f];refine ae.2 ⟨fun d=>?_,fun d=>b⟩
  simp_all[ap6,aq3,GJ]
noncomputable def ECs κ:=(YW κ).aw 31 (aO R9 Ay PF)
theorem eCs κ:aE (ECs κ):=(eC3 _).aw (mC3 _) (cCs _)
theorem mCs κ:aj (ECs κ):=(mC3 _).aw aJ
end Go.Proofs.YtioeffnadipbaaaGreatDoor
