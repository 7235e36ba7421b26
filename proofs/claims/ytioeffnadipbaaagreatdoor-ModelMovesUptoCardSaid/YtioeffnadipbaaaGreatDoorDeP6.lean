import Derived.Test.YtioeffnadipbaaaGreatDoorDeP1
import Derived.Test.YtioeffnadipbaaaGreatDoorDeP4
namespace Go.Rl
open Go Go.Dn
structure Dc where
 rel:ByteArray
 types:List Int
def lb(s:ByteArray):List Dc->Option Nat
 |[]=>none
 |d::l=>bif o8 d.rel s then some 0 else(lb s l).map (· +1)
def df(ds:List Dc)(s:ByteArray):List Int:=match lb s ds with|some i=>(ds.getD i ⟨ByteArray.empty,[]⟩).types|none=>[]
def known(ds:List Dc)(a:At):Int:=match lb a.rel ds with|none=>51|some _=>bif decide ((df ds a.rel).length=a.l.length) then 0 else 52
def dx(l:Lt):=decide (l.op<3)||decide (6<l.op)
def jt(ds:List Dc):List Lt->Int
 |[]=>0
 |l::b=>bif dx l&& !decide (known ds l.a=0) then known ds l.a else jt ds b
def jm ds(r:Rl):=bif decide (known ds r.head=0) then jt ds r.body else known ds r.head
section
variable {σ:Type} (get:σ->ByteArray->Int) (set:σ->ByteArray->Int->σ)
def bG(t:Tm) st:=bif decide (t.op=1) then get st t.s else bif decide (t.op=3) then 2 else bif decide (t.op=4) then 0 else 1
mutual
def Tm.dh:Tm->Int->σ->Bool×σ
 | .mk op s _ l,w,st=>bif decide (op=1) then(bif decide (w=0)|| !decide (get st s=0) then(false,st) else(true,set st s w)) else ec l st
def ec:List Tm->σ->Bool×σ
 |[],st=>(false,st)
 |t::l,st=>((Tm.dh t 1 st).1||(ec l (Tm.dh t 1 st).2).1,(ec l (Tm.dh t 1 st).2).2)
end
mutual
def Tm.want:Tm->Int->σ×Bool->Bool×(σ×Bool)
 | .mk op s n l,k,x=>
  bif (jj l x).1 then jj l x
  else bif decide (k=0)||decide (op=4) then(false,(jj l x).2)
  else bif decide (bG get (.mk op s n l) (jj l x).2.1=0) then(false,(set (jj l x).2.1 s k,true))
  else(!decide (bG get (.mk op s n l) (jj l x).2.1=k),(jj l x).2)
def jj:List Tm->σ×Bool->Bool×(σ×Bool)
 |[],x=>(false,x)
 |t::l,x=>bif (Tm.want t 1 x).1 then Tm.want t 1 x else jj l (Tm.want t 1 x).2
end
def cv:List Int->List Tm->σ->Bool×σ
 |w::a,t::l,st=>((t.dh get set w st).1||(cv a l (t.dh get set w st).2).1,(cv a l (t.dh get set w st).2).2)
 |_,_,st=>(false,st)
def jR:List Int->List Tm->σ×Bool->Bool×(σ×Bool)
 |w::a,t::l,x=>bif (t.want get set w x).1 then t.want get set w x else jR a l (t.want get set w x).2
 |_,_,x=>(false,x)
def gI(a:Int):=decide (3<=a)&&decide (a<=6)
def lI(l:Lt) st:=bif decide (bG get l.y st>bG get l.x st) then bG get l.y st else bG get l.x st
def eG ds(l:Lt) st:=
 bif gI l.op then
  ((l.x.dh get set (lI get l st) st).1||(l.y.dh get set (lI get l st) (l.x.dh get set (lI get l st) st).2).1,(l.y.dh get set (lI get l st) (l.x.dh get set (lI get l st) st).2).2)
 else bif decide (l.op=1)||decide (l.op=2) then cv get set (df ds l.a.rel) l.a.l st
 else((cv get set (df ds l.a.rel) l.a.l st).1||(l.x.dh get set 1 (cv get set (df ds l.a.rel) l.a.l st).2).1||(l.y.dh get set 1 (l.x.dh get set 1 (cv get set (df ds l.a.rel) l.a.l st).2).2).1,
  (l.y.dh get set 1 (l.x.dh get set 1 (cv get set (df ds l.a.rel) l.a.l st).2).2).2)
def fu(ds:List Dc):List Lt->σ->Bool×σ
 |[],st=>(false,st)
 |l::b,st=>((eG get set ds l st).1||(fu ds b (eG get set ds l st).2).1,(fu ds b (eG get set ds l st).2).2)
def j8 ds(r:Rl) st:=
 ((cv get set (df ds r.head.rel) r.head.l st).1||(fu get set ds r.body (cv get set (df ds r.head.rel) r.head.l st).2).1,(fu get set ds r.body (cv get set (df ds r.head.rel) r.head.l st).2).2)
def fg ds a x:=
 bif decide (known ds a=0) then(bif (jR get set (df ds a.rel) a.l x).1 then 53 else 0,(jR get set (df ds a.rel) a.l x).2) else(known ds a,x)
def lu(y:Bool×σ×Bool)(f:σ×Bool->Bool×σ×Bool):Int×σ×Bool:=bif y.1 then(53,y.2) else(bif (f y.2).1 then 53 else 0,(f y.2).2)
def kR ds(l:Lt) x:=
 bif gI l.op then lu (l.x.want get set (lI get l x.1) x) (l.y.want get set (lI get l x.1))
 else bif decide (l.op=1)||decide (l.op=2) then fg get set ds l.a x
 else bif !decide ((fg get set ds l.a x).1=0) then fg get set ds l.a x
 else bif decide (l.op=7) then(bif (l.x.want get set 1 (fg get set ds l.a x).2).1 then 53 else 0,(l.x.want get set 1 (fg get set ds l.a x).2).2)
 else lu (l.x.want get set 1 (fg get set ds l.a x).2) (l.y.want get set 1)
def vW(e:Int):=decide (e=51)||decide (e=52)
def iN w e:=bif decide (w=0)||decide (w=53)&&vW e then e else w
def kj(ds:List Dc):List Lt->Int×(σ×Bool)->Int×(σ×Bool)
 |[],y=>y
 |l::b,y=>bif vW (iN y.1 (kR get set ds l y.2).1) then(iN y.1 (kR get set ds l y.2).1,(kR get set ds l y.2).2)
  else kj ds b (iN y.1 (kR get set ds l y.2).1,(kR get set ds l y.2).2)
def fm ds(r:Rl) st:=kj get set ds r.body (fg get set ds r.head (st,false))
def fR(ds:List Dc)(r:Rl):Nat->σ->Int×σ
 |0,st=>(0,st)
 |n+1,st=>bif decide ((fm get set ds r st).1=0) then(bif (fm get set ds r st).2.2 then fR ds r n (fm get set ds r st).2.1 else(0,(fm get set ds r st).2.1)) else((fm get set ds r st).1,(fm get set ds r st).2.1)
def Ext st st':=∀s,get st s≠0->get st' s=get st s
theorem Ext.refl st:Ext get st st:=fun _ _=>rfl
variable {get set}
theorem Ext.trans{a b c}(d:Ext get a b)(e:Ext get b c):Ext get a c:=fun s h=>by rw[e s (by rw[d s h];grind),d s h]
variable (hgs: ∀st s k t,get (set st s k) t=bif t==s then k else get st t)
include hgs
mutual
theorem Tm.eo: ∀(t:Tm) (w:Int) (st:σ),Ext get st (t.dh get set w st).2
 | .mk op s n l,w,st=>by
  rw[Tm.dh];cases decide (op=1) with
  |false=>exact qS l st
  | true=>
   rw[ao6];cases h:(decide (w=0)|| !decide (get st s=0)) with
   |true=>exact Ext.refl _ _
   | false=>
    intro t ht;rw[ao4,hgs];cases e:t==s with
    |false=>rfl
    |true=>
     rw[Bool.or_eq_false_iff,ap1,an9] at h;rw[eq_of_beq e] at ht;exact absurd h.2 ht
theorem qS: ∀(l:List Tm) (st:σ),Ext get st (ec get set l st).2
 |[],st=>by have _:=hgs;exact Ext.refl _ _
 |t::l,st=>by rw[ec];exact(Tm.eo t 1 st).trans (qS l _)
end
theorem gE: ∀a l st,Ext get st (cv get set a l st).2
 |w::a,t::l,st=>by exact(Tm.eo hgs t w _).trans (gE _ l _)
 |[],_,st=>by grind [cv,Ext.refl]
 |_::_,[],st=>by grind [cv,Ext.refl]
theorem tZ ds l st:Ext get st (eG get set ds l st).2:=by
 unfold eG;cases gI _ with
 |true=>exact(Tm.eo hgs _ _ st).trans (Tm.eo hgs _ _ _)
 |false=>
  cases(decide (l.op=1)||decide (l.op=2)) with
  |true=>grind [gE]
  |false=>exact((gE hgs _ _ st).trans (Tm.eo hgs l.x 1 _)).trans (Tm.eo hgs l.y 1 _)
theorem ng ds: ∀b st,Ext get st (fu get set ds b st).2
 |[],st=>Ext.refl _ _
 |l::b,st=>by exact(tZ hgs _ l _).trans (ng _ b _)
theorem GJ ds r st:Ext get st (j8 get set ds r st).2:=(gE hgs _ _ _).trans (ng hgs _ _ _)
end
def ak9 o(s:ByteArray):=bif o.contains s then o else o++[s]
def ZF(o m:List _):=m.foldl ak9 o
mutual
def Tm.rv:Tm->List ByteArray
 | .mk op s _ l=>bif decide (op=1) then[s] else rvL l []
def rvL:List Tm->List ByteArray->List ByteArray
 |[],o=>o
 |t::l,o=>rvL l (ZF o t.rv)
end
mutual
def Tm.wf:Tm->Bool
 | .mk op _ _ l=>bif mA op then decide (l.length=2)&&HE l else decide (l.length=0)
def HE:List Tm->Bool
 |[]=>true
 |t::l=>t.wf&&HE l
end
theorem yn: ∀h t,ar h t=true->t.wf=true
 |0,_,h=>by grind [ar]
 | h+1, .mk b s n l,e=>by
  rw[tH] at e;rw[Tm.wf];have c: ∀l,l4 h l=true->HE l=true:=by
   intro l;induction l with
   |nil=>intro _;rfl
   |cons t l a=>
    intro e;simp only[l4,List.all_cons,ao0] at e;rw[HE,yn h t e.1.2,a e.2];rfl
  grind
theorem Hv{t}(h:Lo t=true):t.wf=true/\t.op=0:=by
 obtain⟨b,s,n,l⟩:=t;simp only[Lo,ao0,an9] at h;have a:=h.1.1;subst a;exact⟨ao5 h.2,rfl⟩
theorem Oj{h}: ∀{l},l.all (ar h)=true->HE l=true
 |[],_=>rfl
 |t::l,e=>by
  simp only[List.all_cons,ao0] at e;rw[HE,yn h t e.1,Oj e.2];rfl
theorem uU{a}(h:bm a=true):HE a.l=true:=by
 grind [bm,Oj]
structure Sm(l:Lt):Prop where
 x:l.x.wf=true
 y:l.y.wf=true
 a:HE l.a.l=true
 cmp:gI l.op=true->l.x.op≠4/\l.y.op≠4
 one:l.op=7->l.y.op=0
theorem VR{l}(h:jq l=true):Sm l:=by
 unfold jq at h;have j:UA l.a=true->HE l.a.l=true:=fun h=>by
  simp only[UA,ao0,an9] at h;rw[List.eq_nil_of_length_eq_zero h.2];rfl
 have b: ∀{t:Tm},ar 20 t=true->t.wf=true:=fun h=>yn _ _ h
 have g:gI l.op=true->3<=l.op/\l.op<=6:=fun h=>by
  simpa[gI] using h
 cases d:decide (l.op=1)||decide (l.op=2) with
 |true=>
  rw[d,ao6] at h;simp only[ao0] at h
  simp only[ap2,an9] at d;exact⟨(Hv h.2.1).1,(Hv h.2.2).1,uU h.1,fun e=>by have:=g e;omega,fun e=>by omega⟩
 | false=>
  rw[d,ao4] at h;cases c:decide (l.op=3)||decide (l.op=4)||decide (l.op=5)||decide (l.op=6) with
  |true=>
   rw[c,ao6] at h;simp only[ao0,Bool.not_eq_true',ao1] at h
   simp only[ap2,an9] at c;exact⟨b h.1.2,b h.2,j h.1.1.1.1,fun _=>⟨h.1.1.1.2,h.1.1.2⟩,fun e=>by omega⟩
  | false=>
   rw[c,ao4] at h;simp only[Bool.or_eq_false_iff,ao1] at d c;cases f:decide (l.op=7) with
   |true=>
    rw[f,ao6] at h;simp only[ao0] at h
    exact⟨b h.2,(Hv h.1.2.2).1,uU h.1.1,fun e=>by have:=g e;omega,fun _=>(Hv h.1.2.2).2⟩
   | false=>
    rw[f,ao4] at h;rw[ao1] at f;cases i:decide (l.op=8)||decide (l.op=9)||decide (l.op=10) with
    |true=>
     rw[i,ao6] at h;simp only[ao0] at h
     exact⟨b h.1.2,b h.2,uU h.1.1.1,fun e=>by have:=g e;omega,fun e=>absurd e f⟩
    |false=>rw[i,ao4] at h;cases h
section
variable {σ:Type} {get:σ->ByteArray->Int} {set:σ->ByteArray->Int->σ}
theorem Uj{a}(h:a=1):mA a=false:=by subst h;rfl
mutual
theorem Tm.nw: ∀(t:Tm) (k:Int) (x:σ×Bool),t.wf=true->(t.want get set k x).1=false->(t.want get set k x).2=((t.dh get set k x.1).2,x.2||(t.dh get set k x.1).1)
 | .mk op s n l,k,x,hw,h=>by
  rw[Tm.wf] at hw;rw[Tm.want] at h⊢;rw[Tm.dh];cases he:(jj get set l x).1 with
  |true=>rw[he,ao6,he] at h;cases h
  | false=>
   rw[he,ao4] at h;rw[ao4];cases h1:decide (op=1) with
   | true=>
    rw[an9] at h1;rw[Uj h1,ao4,an9] at hw;rw[List.eq_nil_of_length_eq_zero hw];rw[List.eq_nil_of_length_eq_zero hw] at h;rw[jj] at h⊢;subst h1;simp only[bG,Tm.op,Tm.s,ao6,decide_true,show decide ((1:Int)=4)=false from rfl,Bool.or_false] at h⊢;cases hk:decide (k=0) with
    |true=>simp
    |false=>
     rw[hk] at h;simp only[ao4,Bool.false_or] at h⊢;cases hg:decide (get x.1 s=0) with
     |true=>simp
     |false=>simp
   | false=>
    rw[ao4];have ih:(jj get set l x).2=((ec get set l x.1).2,x.2||(ec get set l x.1).1):=by
     cases h2:mA op with
     |true=>
      rw[h2,ao6,ao0] at hw;exact Cx l x hw.2 he
     |false=>
      rw[h2,ao4,an9] at hw;rw[List.eq_nil_of_length_eq_zero hw];simp[jj,ec]
    cases hk:decide (k=0)||decide (op=4) with
    |true=>exact ih
    | false=>
     rw[hk,ao4] at h;rw[ao4];rw[Bool.or_eq_false_iff] at hk;have hn:decide (bG get (.mk op s n l) (jj get set l x).2.1=0)=false:=by
      unfold bG;rw[show(Tm.mk op s n l).op=op from rfl,h1,ao4,hk.2];cases decide (op=3)<;>rfl
     rw[hn,ao4];exact ih
theorem Cx: ∀(l:List Tm) (x:σ×Bool),HE l=true->(jj get set l x).1=false->(jj get set l x).2=((ec get set l x.1).2,x.2||(ec get set l x.1).1)
 |[],x,_,_=>by simp[jj,ec]
 | t::l,x,hw,h=>by
  rw[HE,ao0] at hw;rw[jj] at h⊢;rw[ec];cases he:(t.want get set 1 x).1 with
  |true=>rw[he,ao6,he] at h;cases h
  |false=>
   rw[he,ao4] at h;rw[ao4];have e1:=Tm.nw t 1 x hw.1 he;have e2:=Cx l _ hw.2 h;rw[e2,e1];simp only[Bool.or_assoc]
end
theorem wa: ∀a l x,HE l=true->(jR get set a l x).1=false->(jR get set a l x).2=((cv get set a l x.1).2,x.2||(cv get set a l x.1).1)
 |[],l,x,_,_=>by simp[jR,cv]
 |w::a,[],x,_,_=>by simp[jR,cv]
 | w::a,t::l,x,b,h=>by
  rw[HE,ao0] at b;rw[jR] at h⊢;rw[cv];cases c:(t.want get set w x).1 with
  |true=>grind
  |false=>
   rw[c,ao4] at h;have e:=t.nw w x b.1 c;have d:=wa a l _ b.2 h
   grind
theorem CJ{y:Bool×σ×Bool}{f}(h:(lu y f).1=0):y.1=false/\(f y.2).1=false/\(lu y f).2=(f y.2).2:=by
 grind [lu]
theorem sJ{y:Bool×σ×Bool}{f}:(lu y f).1=0\/(lu y f).1=53:=by
 grind [lu]
theorem Ge{t:Tm}(b:t.wf=true)(h:t.op=0) k st:t.dh get set k st=(false,st):=by
 obtain⟨a,s,n,l⟩:=t;have h:a=0:=h
 grind [Tm.wf,mA,Tm.dh,ec]
theorem QX ds{l}(c:Sm l)(t:dx l=true->known ds l.a=0) x(h:(kR get set ds l x).1=0):(kR get set ds l x).2=((eG get set ds l x.1).2,x.2||(eG get set ds l x.1).1):=by
 unfold kR at h⊢;unfold eG;cases j:gI l.op with
 |true=>
  rw[j,ao6] at h;rw[ao6,ao6];obtain⟨n,o,k⟩:=CJ h;have d:=l.x.nw _ x c.x n;have i:=l.y.nw _ _ c.y o;rw[k,i,d];simp only[Bool.or_assoc]
 | false=>
  rw[j,ao4] at h;rw[ao4,ao4];have m:dx l=true:=by
   simp only[gI,Bool.and_eq_false_iff,ao1] at j;simp only[dx,ap2,an9];omega
  have s:fg get set ds l.a x=(bif (jR get set (df ds l.a.rel) l.a.l x).1 then 53 else 0,(jR get set (df ds l.a.rel) l.a.l x).2):=by
   unfold fg;rw[t m];rfl
  have p:(fg get set ds l.a x).1=0->(fg get set ds l.a x).2=((cv get set (df ds l.a.rel) l.a.l x.1).2,x.2||(cv get set (df ds l.a.rel) l.a.l x.1).1):=fun e=>by
   rw[s] at e⊢;cases b:(jR get set (df ds l.a.rel) l.a.l x).1 with
   |true=>rw[b] at e;cases e
   |false=>exact wa _ _ _ c.a b
  cases f:decide (l.op=1)||decide (l.op=2) with
  |true=>
   rw[f,ao6] at h;rw[ao6,ao6];exact p h
  | false=>
   rw[f,ao4] at h;rw[ao4,ao4];cases b:decide ((fg get set ds l.a x).1=0) with
   |false=>rw[b,Bool.not_false,ao6] at h;rw[h] at b;cases b
   | true=>
    rw[b,Bool.not_true,ao4] at h;rw[Bool.not_true,ao4];rw[an9] at b;have q:=p b;cases g:decide (l.op=7) with
    | true=>
     rw[g,ao6] at h;rw[ao6];have r:(l.x.want get set 1 (fg get set ds l.a x).2).1=false:=by
      cases e:(l.x.want get set 1 (fg get set ds l.a x).2).1 with
      |true=>rw[e] at h;cases h
      |false=>rfl
     have d:=l.x.nw 1 _ c.x r;rw[an9] at g;rw[d,q,Ge c.y (c.one g)];simp only[Bool.or_false,Bool.or_assoc]
    |false=>
     rw[g,ao4] at h;rw[ao4];obtain⟨n,o,k⟩:=CJ h;have d:=l.x.nw _ _ c.x n;have i:=l.y.nw _ _ c.y o;rw[k,i,d,q];simp only[Bool.or_assoc]
theorem xV ds{l}(e:dx l=true->known ds l.a=0) x:(kR get set ds l x).1=0\/(kR get set ds l x).1=53:=by
 unfold kR;cases c:gI l.op with
 |true=>rw[ao6];exact sJ
 | false=>
  have d:dx l=true:=by
   simp only[gI,Bool.and_eq_false_iff,ao1] at c;simp only[dx,ap2,an9];omega
  have b:(fg get set ds l.a x).1=0\/(fg get set ds l.a x).1=53:=by
   unfold fg;grind
  rw[ao4];cases decide (l.op=1)||decide (l.op=2) with
  |true=>exact b
  | false=>
   rw[ao4];cases decide ((fg get set ds l.a x).1=0) with
   |false=>exact b
   | true=>
    cases decide (l.op=7) with
    |true=>
     grind
    |false=>rw[ao4];exact sJ
theorem Q2 ds{l}(b:dx l=true)(c:known ds l.a≠0) x:(kR get set ds l x).1=known ds l.a:=by
 grind [gI,dx,fg,kR]
theorem vM ds: ∀b x,jt ds b=0->(kj get set ds b (53,x)).1=53
 |[],_,_=>rfl
 | l::b,x,h=>by
  rw[jt] at h;have d:dx l=true->known ds l.a=0:=fun e=>by
   grind
  have f:jt ds b=0:=by
   grind
  rw[kj];have c:iN 53 (kR get set ds l x).1=53:=by
   rcases xV   ds d x with e|e<;>rw[e]<;>rfl
  simp only[c];exact vM ds b _ f
theorem DZ ds: ∀b x,jt ds b=0->(∀l,l∈b->Sm l)->(kj get set ds b (0,x)).1=0->(kj get set ds b (0,x)).2=((fu get set ds b x.1).2,x.2||(fu get set ds b x.1).1)
 |[],x,_,_,_=>by simp[kj,fu]
 | l::b,x,h,d,c=>by
  rw[jt] at h;have f:dx l=true->known ds l.a=0:=fun e=>by
   grind
  have i:jt ds b=0:=by
   grind
  rw[kj] at c⊢;rw[fu];have j: ∀e:Int,iN 0 e=e:=fun e=>rfl
  simp only[j] at c⊢;rcases xV (get:=get) (set:=set) ds f x with e|e
  ·rw[e] at c⊢
   have k:=QX ds (d l List.mem_cons_self) f x e;have n:=DZ ds b _ i (fun m g=>d m (List.mem_cons_of_mem _ g)) c;rw[show vW 0=false from rfl,ao4,n,k];simp only[Bool.or_assoc]
  simp_all[vW,ao4,vM]
theorem MC ds{r}(f:HE r.head.l=true)(e: ∀l,l∈r.body->Sm l)(a:jm ds r=0) st(h:(fm get set ds r st).1=0):(fm get set ds r st).2=((j8 get set ds r st).2,(j8 get set ds r st).1):=by
 unfold jm at a;have c:known ds r.head=0:=by
  grind
 rw[c] at a;have d:jt ds r.body=0:=a;unfold fm at h⊢;have g:fg get set ds r.head (st,false)=(bif (jR get set (df ds r.head.rel) r.head.l (st,false)).1 then 53 else 0,(jR get set (df ds r.head.rel) r.head.l (st,false)).2):=by
  unfold fg;rw[c];rfl
 rw[g] at h⊢;cases b:(jR get set (df ds r.head.rel) r.head.l (st,false)).1 with
 |true=>rw[b,ao6,vM ds _ _ d] at h;cases h
 |false=>
  rw[b,ao4] at h;rw[ao4,DZ ds _ _ d e h,wa _ _ _ f b];rfl
end
section
variable {σ:Type} {get:σ->ByteArray->Int} {set:σ->ByteArray->Int->σ}
variable (hgs: ∀st s k t,get (set st s k) t=bif t==s then k else get st t)
include hgs
end
section
variable {σ:Type} {get:σ->ByteArray->Int} {set:σ->ByteArray->Int->σ}
def Val(get:σ->ByteArray->Int) st:=∀s,get st s=0\/get st s=1\/get st s=2
end
theorem A7{l s}(h:s∈l.x.vars):s∈eu l:=by grind [eu,ax]
theorem Bs{l s}(h:s∈l.y.vars):s∈eu l:=by grind [eu,ax]
theorem GI{l s}(h:s∈ax l.a.l):s∈eu l:=by grind [eu]
section
variable {σ:Type} {get:σ->ByteArray->Int} {set:σ->ByteArray->Int->σ}
def zo(get:σ->ByteArray->Int)(V:ByteArray->Prop) a b:=∃s,V s/\get a s=0/\get b s≠0
theorem zo.left{V W a b c}(h:zo get V a b)(e:Ext get b c)(f: ∀s,V s->W s):zo get W a c:=by
 obtain⟨s,g,i,d⟩:=h;exact⟨s,f s g,i,by rw[e s d];omega⟩
theorem zo.right{V W a b c}(f:Ext get a b)(h:zo get V b c)(g: ∀s,V s->W s):zo get W a c:=by
 obtain⟨s,i,j,d⟩:=h;refine⟨s,g s i,?_,d⟩;cases e:decide (get a s=0) with
 |true=>grind
 |false=>rw[ao1] at e;rw[f s e] at j;omega
variable (hgs: ∀st s k t,get (set st s k) t=bif t==s then k else get st t)
include hgs
mutual
theorem Tm.kI: ∀(t:Tm) (w:Int) (st:σ),(t.dh get set w st).1=true->zo get (fun s=>s∈t.vars) st (t.dh get set w st).2
 | .mk op s n l,w,st,h=>by
  rw[Tm.dh] at h⊢;cases h1:decide (op=1) with
  |false=>
   rw[h1,ao4] at h;rw[ao4];exact(xG l st h).left (Ext.refl _ _) fun s hs=>by rw[Tm.vars];exact List.mem_append_right _ hs
  | true=>
   rw[h1,ao6] at h;rw[ao6];cases hc:(decide (w=0)|| !decide (get st s=0)) with
   |true=>rw[hc,ao6] at h;cases h
   |false=>
    rw[ao4];simp only[Bool.or_eq_false_iff,ao1,ap1,an9] at hc;refine⟨s,by rw[Tm.vars,h1];simp,hc.2,?_⟩;rw[hgs];simpa using hc.1
theorem xG: ∀(l:List Tm) (st:σ),(ec get set l st).1=true->zo get (fun s=>s∈ax l) st (ec get set l st).2
 |[],_,h=>by rw[ec] at h;cases h
 | t::l,st,h=>by
  rw[ec] at h⊢;cases h1:(t.dh get set 1 st).1 with
  |true=>exact(Tm.kI t 1 st h1).left (qS hgs l _) fun s hs=>by rw[ax];exact List.mem_append_left _ hs
  |false=>
   rw[h1,Bool.false_or] at h;exact zo.right (Tm.eo hgs t 1 st) (xG l _ h) fun s hs=>by rw[ax];exact List.mem_append_right _ hs
end
theorem mZ: ∀a l st,(cv get set a l st).1=true->zo get (fun s=>s∈ax l) st (cv get set a l st).2
 |[],l,st,h=>by simp[cv] at h
 |w::a,[],st,h=>by simp[cv] at h
 | w::a,t::l,st,h=>by
  rw[cv] at h⊢;cases b:(t.dh get set w st).1 with
  |true=>exact(Tm.kI hgs t w st b).left (gE hgs a l _) fun s c=>by rw[ax];grind
  |false=>
   rw[b] at h;exact zo.right (Tm.eo hgs t w st) (mZ a l _ h) fun s c=>by rw[ax];grind
theorem Dk ds l st(h:(eG get set ds l st).1=true):zo get (fun s=>s∈eu l) st (eG get set ds l st).2:=by
 unfold eG at h⊢;cases d:gI l.op with
 | true=>
  rw[d,ao6] at h;rw[ao6];cases b:(l.x.dh get set (lI get l st) st).1 with
  |true=>exact(Tm.kI hgs _ _ _ b).left (Tm.eo hgs l.y _ _) fun s=>A7
  |false=>
   rw[b,Bool.false_or] at h;exact zo.right (Tm.eo hgs l.x _ st) (Tm.kI hgs _ _ _ h) fun s=>Bs
 | false=>
  rw[d,ao4] at h;rw[ao4];cases c:decide (l.op=1)||decide (l.op=2) with
  |true=>rw[c,ao6] at h;exact(mZ hgs _ _ _ h).left (Ext.refl _ _) fun s=>GI
  | false=>
   rw[c,ao4] at h;rw[ao4];cases e:(cv get set (df ds l.a.rel) l.a.l st).1 with
   |true=>exact(mZ hgs _ _ _ e).left ((Tm.eo hgs l.x _ _).trans (Tm.eo hgs l.y _ _)) fun s=>GI
   | false=>
    rw[e,Bool.false_or] at h;cases b:(l.x.dh get set 1 (cv get set (df ds l.a.rel) l.a.l st).2).1 with
    |true=>exact zo.right (gE hgs _ _ st) ((Tm.kI hgs _ _ _ b).left (W:=fun s=>s∈eu l) (Tm.eo hgs l.y _ _) fun s=>A7) fun s f=>f
    |false=>
     rw[b,Bool.false_or] at h;exact zo.right ((gE hgs _ _ st).trans (Tm.eo hgs l.x _ _)) (Tm.kI hgs _ _ _ h) fun s=>Bs
theorem yd ds: ∀b st,(fu get set ds b st).1=true->zo get (fun s=>s∈b.flatMap eu) st (fu get set ds b st).2
 |[],_,h=>by cases h
 | l::b,st,h=>by
  rw[fu] at h⊢;cases a:(eG get set ds l st).1 with
  |true=>exact(Dk hgs ds l st a).left (ng hgs ds b _) (by grind)
  |false=>
   rw[a] at h;exact zo.right (tZ hgs ds l st) (yd ds b _ h) (by grind)
theorem Gi ds r st(h:(j8 get set ds r st).1=true):zo get (fun s=>s∈fD r) st (j8 get set ds r st).2:=by
 unfold j8 at h⊢;cases a:(cv get set (df ds r.head.rel) r.head.l st).1 with
 |true=>exact(mZ hgs _ _ _ a).left (ng hgs ds _ _) fun s b=>by rw[fD];grind
 |false=>
  grind [zo.right,gE,yd,fD,List.mem_append_right]
omit hgs
def mu(get:σ->ByteArray->Int)(V:List _) st:=(V.filter fun s=>decide (get st s=0)).length
theorem OU get V(st:σ):mu get V st<=V.length:=List.length_filter_le _ _
theorem zM{a b}(h:Ext get a b): ∀V,mu get V b<=mu get V a
 |[]=>Nat.le_refl _
 | s::V=>by
  have c:=zM h V;unfold mu at c⊢;rw[List.filter_cons,List.filter_cons];cases e:decide (get a s=0) with
  |true=>
   grind
  |false=>
   rw[ao1] at e;rw[ao3 (by rw[h s e];exact e)]
   grind
theorem zz{a b}(h:Ext get a b): ∀V,zo get (fun s=>s∈V) a b->mu get V b<mu get V a
 |[],⟨_,c,_⟩=>nomatch c
 | s::V,⟨t,c,f,g⟩=>by
  rcases List.mem_cons.1 c with rfl|c
  ·have d:=zM h V
   unfold mu at d⊢
   grind
  ·have d:=zz h V ⟨t,c,f,g⟩
   unfold mu at d⊢;rw[List.filter_cons,List.filter_cons];cases e:decide (get a s=0) with
   |true=>
    grind
   |false=>
    rw[ao1] at e;rw[ao3 (by rw[h s e];exact e)];simpa using d
include hgs
end
section
variable {σ ρ:Type} {get:σ->ByteArray->Int} {set:σ->ByteArray->Int->σ} {get':ρ->ByteArray->Int} {set':ρ->ByteArray->Int->ρ} {V:ByteArray->Prop} {P:ρ->Prop}
def Alike(get:σ->ByteArray->Int)(c:ρ->ByteArray->Int)(V:ByteArray->Prop)(P:ρ->Prop) a b:=P b/\∀s,V s->get a s=c b s
variable (hg: ∀st s k t,get (set st s k) t=bif t==s then k else get st t) (hg': ∀st s k t,P st->V s->V t->get' (set' st s k) t=bif t==s then k else get' st t) (hp: ∀st s k,P st->V s->P (set' st s k))
theorem Alike.ty{a b}(h:Alike get get' V P a b){t}(d: ∀s,s∈t.vars->V s):bG get t a=bG get' t b:=by
 unfold bG;cases e:decide (t.op=1) with
 |false=>rfl
 |true=>
  refine h.2 _ (d _ ?_);obtain⟨c,s,n,l⟩:=t;rw[Tm.vars,show decide (c=1)=true from e];simp[Tm.s]
theorem Alike.kind{a b}(h:Alike get get' V P a b){l}(d: ∀s,s∈eu l->V s):lI get l a=lI get' l b:=by
 unfold lI;rw[h.ty  fun s c=>d s (A7 c),h.ty  fun s c=>d s (Bs c)]
include hg hg' hp
mutual
theorem Alike.dh: ∀(t:Tm) (w:Int) {a:σ} {b:ρ},Alike get get' V P a b->(∀s,s∈t.vars->V s)->(t.dh get set w a).1=(t.dh get' set' w b).1/\Alike get get' V P (t.dh get set w a).2 (t.dh get' set' w b).2
 | .mk op s n l,w,a,b,h,hv=>by
  rw[Tm.dh,Tm.dh];cases h1:decide (op=1) with
  |false=>exact Alike.ec l h fun s hs=>hv s (by rw[Tm.vars];exact List.mem_append_right _ hs)
  | true=>
   have hs:V s:=hv s (by rw[Tm.vars,h1];simp);rw[ao6,ao6,h.2 s hs];cases(decide (w=0)|| !decide (get' b s=0)) with
   |true=>exact⟨rfl,h⟩
   |false=>
    refine⟨rfl,hp b s w h.1 hs,fun t ht=>?_⟩;rw[ao4,ao4,hg,hg' b s w t h.1 hs ht,h.2 t ht]
theorem Alike.ec: ∀(l:List Tm) {a:σ} {b:ρ},Alike get get' V P a b->(∀s,s∈ax l->V s)->(ec get set l a).1=(ec get' set' l b).1/\Alike get get' V P (ec get set l a).2 (ec get' set' l b).2
 |[],a,b,h,_=>by have _:=hg;have _:=hg';have _:=hp;exact⟨rfl,h⟩
 |t::l,a,b,h,hv=>by
  rw[Rl.ec,Rl.ec];obtain⟨e1,h1⟩:=Alike.dh t 1 h fun s hs=>hv s (by rw[ax];exact List.mem_append_left _ hs)
  obtain⟨e2,h2⟩:=Alike.ec l h1 fun s hs=>hv s (by rw[ax];exact List.mem_append_right _ hs)
  exact⟨by rw[e1,e2],h2⟩
end
theorem Alike.cv: ∀c l {a b},Alike get get' V P a b->(∀s,s∈ax l->V s)->(cv get set c l a).1=(cv get' set' c l b).1/\Alike get get' V P (cv get set c l a).2 (cv get' set' c l b).2
 |[],l,a,b,h,_=>by simpa[Rl.cv] using h
 |w::c,[],a,b,h,_=>by simpa[Rl.cv] using h
 |w::c,t::l,a,b,h,d=>by
  rw[Rl.cv,Rl.cv];obtain⟨g,e⟩:=Alike.dh hg hg' hp t w h fun s f=>d s (by rw[ax];grind)
  obtain⟨j,i⟩:=Alike.cv c l e fun s f=>d s (by rw[ax];grind)
  grind
theorem Alike.eG ds l{a b}(h:Alike get get' V P a b)(d: ∀s,s∈eu l->V s):(eG get set ds l a).1=(eG get' set' ds l b).1/\Alike get get' V P (eG get set ds l a).2 (eG get' set' ds l b).2:=by
 unfold Rl.eG;have j: ∀s,s∈l.x.vars->V s:=fun s c=>d s (A7 c)
 have g: ∀s,s∈l.y.vars->V s:=fun s c=>d s (Bs c)
 have k: ∀s,s∈ax l.a.l->V s:=fun s c=>d s (GI c)
 cases gI l.op with
 |true=>
  rw[ao6,ao6,h.kind d]
  grind [Alike.dh,lI]
 | false=>
  rw[ao4,ao4];obtain⟨e,f⟩:=Alike.cv hg hg' hp (df ds l.a.rel) l.a.l h k;cases decide (l.op=1)||decide (l.op=2) with
  |true=>exact⟨e,f⟩
  |false=>
   obtain⟨m,n⟩:=Alike.dh hg hg' hp l.x 1 f j;obtain⟨o,i⟩:=Alike.dh hg hg' hp l.y 1 n g;exact⟨by rw[ao4,ao4,e,m,o],i⟩
theorem Alike.fu ds: ∀l {a b},Alike get get' V P a b->(∀s,s∈l.flatMap eu->V s)->(fu get set ds l a).1=(fu get' set' ds l b).1/\Alike get get' V P (fu get set ds l a).2 (fu get' set' ds l b).2
 |[],a,b,h,_=>⟨rfl,h⟩
 |l::m,a,b,h,d=>by
  rw[Rl.fu,Rl.fu];obtain⟨f,c⟩:=Alike.eG hg hg' hp ds l h (by grind);obtain⟨g,e⟩:=Alike.fu ds m c (by grind)
  grind
theorem Alike.j8 ds r{a b}(h:Alike get get' V P a b)(c: ∀s,s∈fD r->V s):(j8 get set ds r a).1=(j8 get' set' ds r b).1/\Alike get get' V P (j8 get set ds r a).2 (j8 get' set' ds r b).2:=by
 grind [Rl.j8,Alike.cv,fD,Alike.fu]
end
def getM a s:=toInt (cX a (.string s) (.lit (.int .i64 0)))
def gB a s k:=eD a (.string s) (.lit (.int .i64 k))
theorem og: ∀a s k t,getM (gB a s k) t=bif t==s then k else getM a t
 |[],s,k,t=>by
  simp only[getM,gB,eD,cX,ei];cases t==s<;>rfl
 | (d,e)::a,s,k,t=>by
  have b:=og a s k t;simp only[getM,gB,eD,cX] at b⊢;cases h:ei (.string s) d with
  |true=>
   have c:=zJ h;subst c;simp only[ao6,cX,ei];cases f:t==s<;>rfl
  |false=>
   simp only[ao4,cX]
   grind
def plc(V:List _) s:=V.findIdx (o8 s)
def jQ V(τ:List Int) s k:=τ.set (plc V s) k
def OH ds r:=
 bif decide ((fR getM gB ds r ((de r).length+1) []).1=0) then
  bif (de r).all fun s=>!decide (getM (fR getM gB ds r ((de r).length+1) []).2 s=0) then(0,(de r).map (getM (fR getM gB ds r ((de r).length+1) []).2)) else(53,[])
 else((fR getM gB ds r ((de r).length+1) []).1,[])
theorem tq ds a:known ds a=0\/known ds a=51\/known ds a=52:=by
 grind [known]
section
variable {σ:Type} {get:σ->ByteArray->Int} {set:σ->ByteArray->Int->σ}
theorem Er ds: ∀b y,y.1=0\/y.1=53->jt ds b≠0->(kj get set ds b y).1=jt ds b
 |[],_,_,h=>absurd rfl h
 | l::b,y,i,h=>by
  rw[jt] at h⊢;rw[kj];cases c:dx l&& !decide (known ds l.a=0) with
  |true=>
   rw[ao6]
   grind [Q2,iN,known,tq,vW]
  | false=>
   rw[c,ao4] at h;rw[ao4];have j:dx l=true->known ds l.a=0:=fun e=>by
    rw[e,ap5] at c;simpa using c
   have d:iN y.1 (kR get set ds l y.2).1=0\/iN y.1 (kR get set ds l y.2).1=53:=by
    rcases xV (get:=get) (set:=set) ds j y.2 with e|e<;>rcases i with f|f<;>rw[e,f]<;>decide
   have g:vW (iN y.1 (kR get set ds l y.2).1)=false:=by rcases d with e|e<;>rw[e]<;>rfl
   rw[g,ao4];exact Er ds b _ d h
theorem DS ds r st(h:jm ds r≠0):(fm get set ds r st).1=jm ds r:=by
 unfold fm;unfold jm at h⊢;cases a:decide (known ds r.head=0) with
 |true=>
  rw[a,ao6] at h;rw[ao6];refine Er ds _ _ ?_ h;unfold fg
  grind
 | false=>
  rw[ao4];have b:fg get set ds r.head (st,false)=(known ds r.head,(st,false)):=by
   unfold fg;rw[a];rfl
  rw[b];rw[ao1] at a;cases r.body<;>grind [kj,iN,known,tq,vW]
end
end Go.Rl
namespace Go.Proofs.YtioeffnadipbaaaGreatDoor
open Go Go.Dn Go.Rl Go.Proofs Go.RowKit Go.Extern.Stop Go.Stop Go.Extern
def SV(κ:Kp)(e:Int):=bif decide (e=51) then κ.fI else bif decide (e=52) then κ.arity else κ.type
def bf(κ:Kp)(e:Int):Value:=bif decide (e=0) then .nilIface else .iface 273 (.pointer (some (SV κ e)))
def wv(e:Int):=e=51\/e=52\/e=53
def jU(e:Int):Prop:=e=0\/wv e
theorem cE κ e:aC (bf κ e)=true:=by unfold bf;cases decide (e=0)<;>rfl
theorem jB κ e:bO (bf κ e)=decide (e=0):=by unfold bf;cases decide (e=0)<;>rfl
theorem OS κ{e k}(b:wv e)(a:wv k)(h:e≠k):SV κ e≠SV κ k:=by
 rcases b with rfl|rfl|rfl<;>rcases a with rfl|rfl|rfl<;>first|grind|exact κ.d1|exact κ.d2|exact κ.d3|exact κ.d1.symm|exact κ.d2.symm|exact κ.d3.symm
theorem Qp κ{e k}(a:jU e)(b:jU k):bf κ e=bf κ k↔e=k:=by
 rcases a with rfl|a
 ·grind [bf]
 ·have e0:decide (e=0)=false:=by rcases a with rfl|rfl|rfl<;>rfl
  rcases b with rfl|b
  ·grind [bf]
  grind [bf,OS]
theorem I1 κ{e}(f:wv e): ∃c t,zN κ (SV κ e).block=some (.cells c t (0,0)):=by
 have d: ∀b,(∀g,g∈[1,0,3,4,2]->b≠g)->b=κ.fI.block\/b=κ.arity.block\/b=κ.type.block->∃c t,zN κ b=some (.cells c t (0,0)):=by
  intro b a h;unfold zN;rw[tC (a _ (by simp)),tC (a 0 (by simp)),tC (a 3 (by simp)),tC (a 4 (by simp)),tC (a 2 (by simp))];simp only[ao4];cases k:Nat.beq b κ.fI.block with
  |true=>exact⟨_,_,rfl⟩
  | false=>
   rw[ao4];cases i:Nat.beq b κ.arity.block with
   |true=>exact⟨_,_,rfl⟩
   |false=>
    rw[ao4];cases j:Nat.beq b κ.type.block<;>grind [Nat.beq_refl]
 rcases f with rfl|rfl|rfl
 ·exact d _ κ.n3 (.inl rfl)
 ·exact d _ κ.n4 (.inr (.inl rfl))
 ·exact d _ κ.n5 (.inr (.inr rfl))
theorem ZC v a w:(Instr.typeAssert (.iface 273 v) a 259 true).run Tryz.prog w= .ok (.tuple #[.nilIface, .bool false]) w:=run_typeAssert_lacksB Tryz.underlying259 (by kernel_rfl) (by kernel_rfl) v _ w
theorem Lg v a w:(Instr.typeAssert (.iface 273 v) a 261 true).run Tryz.prog w= .ok (.tuple #[.nilIface, .bool false]) w:=run_typeAssert_lacksB Tryz.underlying261 (by kernel_rfl) (by kernel_rfl) v _ w
theorem Gx v a w:(Instr.typeAssert (.iface 273 v) a 263 true).run Tryz.prog w= .ok (.tuple #[.nilIface, .bool false]) w:=run_typeAssert_lacksB Tryz.underlying263 (by kernel_rfl) (by kernel_rfl) v _ w
set_option maxRecDepth 8000 in
theorem Ns(a b:Addr)(w:World)(hab:a≠b){ca cb:Array Value}{ta tb:TypeId}(ha:w.heap[a.block]? =some (.cells ca ta (0,0)))(hb:w.heap[b.block]? =some (.cells cb tb (0,0))):
  Calls Tryz.prog 108 #[.iface 273 (.pointer (some a)), .iface 273 (.pointer (some b))] w fun e w'=>e= .returned (.bool false)/\w'=w:=by
 obtain⟨i,hi,hcmp⟩:=Option.map_eq_some_iff.1 F2;obtain⟨j,hj,hjs⟩:=Option.map_eq_some_iff.1 Gs;have h8:= @run_callFunc_extern Tryz.prog 157 _ Extern.ReflectliteType.typeOf Tryz.func157 (by kernel_rfl) (by kernel_rfl) (by kernel_rfl) (by kernel_rfl);have h32:= @run_callFunc_extern Tryz.prog 222 _ (Extern.ReflectliteType.method fun t=>do Go.Extern.Rtype.noPackHeld "Comparable" t;pure (.bool (←typeInfo t).comparable)) Tryz.func222 (by kernel_rfl) (by kernel_rfl) (by kernel_rfl) (by kernel_rfl);have tT:=wi;have cT:=nC;have mR:=iD;have hne:=run_eql_iface_ptr_other (P:=Tryz.prog) w Tryz.underlying171 Tryz.underlying273 hi hcmp hj (by omega) hab ha hb;have n1:=ZC;have n2:=Lg;have n3:=Gx
 go_enter Tryz.func108,Tryz.ntmps108
 go_wp2
 refine wp_loop_rounds 1 ?_;rw[rounds_succ]
 go_wp2
 all_goals (go_ret;exact⟨rfl,rfl⟩)
open Classical in
noncomputable def kX(κ:Kp)(v:Value):Bool:=decide (∃e,jU e/\v=bf κ e)
open Classical in
noncomputable def l5(κ:Kp)(v:Value):Bool:=decide (∃e,wv e/\v=bf κ e)
open Classical in
noncomputable def gJ(v t:Value):Bool:=decide (v=t)
theorem wh κ v:kX κ v=true↔ ∃e,jU e/\v=bf κ e:=by grind [kX]
theorem DF κ v:l5 κ v=true↔ ∃e,wv e/\v=bf κ e:=by grind [l5]
theorem K4 v t:gJ v t=true↔v=t:=by grind [gJ]
theorem Bh κ{e}(h:jU e):kX κ (bf κ e)=true:=(wh _ _).2 ⟨e,h,rfl⟩
theorem BZ κ{e}(h:wv e):l5 κ (bf κ e)=true:=(DF _ _).2 ⟨e,h,rfl⟩
theorem iy κ{e k}(b:jU e)(a:jU k):gJ (bf κ e) (bf κ k)=decide (e=k):=by
 rw[Bool.eq_iff_iff,K4]
 grind [Qp]
noncomputable def UX(κ:Kp):List AV->Option (Bool×AV)
 |[.lit v, .lit t]=>some (kX κ v&&l5 κ t, .bool (gJ v t))
 |_=>none
theorem aj0 κ:gr (Pr κ) 108 (UX κ):=by
 intro i x v b;unfold UX at b;split at b
 ·simp only[ao2,ao8,ao0] at b
  obtain⟨⟨m,l⟩,rfl⟩:=b;obtain⟨e,a,rfl⟩:=(wh _ _).1 m;obtain⟨k,d,rfl⟩:=(DF _ _).1 l;have q:decide (k=0)=false:=by rcases d with rfl|rfl|rfl<;>rfl
  have c:bf κ k= .iface 273 (.pointer (some (SV κ k))):=by unfold bf;rw[q];rfl
  refine⟨_,_,Tryz.func108,rfl,rfl,rfl,fun C u j g o=>?_⟩;rw[xH o,iy κ a (.inr d)];rcases a with rfl|a
  ·have e0:bf κ 0= .nilIface:=rfl
   rw[e0,c];refine(callsIn_wide.2 (Mj _ C.w)).mono ?_
   grind [ik.refl,decide_eq_false]
  ·have e0:decide (e=0)=false:=by rcases a with rfl|rfl|rfl<;>rfl
   have f:bf κ e= .iface 273 (.pointer (some (SV κ e))):=by unfold bf;rw[e0];rfl
   rw[f,c];by_cases h:e=k
   ·subst h
    refine(callsIn_wide.2 (Hn _ C.w)).mono ?_;rintro e r ⟨rfl,rfl⟩;refine⟨?_,ik.refl _⟩;rw[ao5 rfl]
   ·obtain⟨A,B,p⟩:=I1 κ a
    obtain⟨y,z,s⟩:=I1 κ d;have t:=(g.kept _ _ (by rw[j];exact p)).2;have n:=(g.kept _ _ (by rw[j];exact s)).2;refine(callsIn_wide.2 (Ns _ _ C.w (OS κ a d h) t n)).mono ?_;rintro e r ⟨rfl,rfl⟩;refine⟨?_,ik.refl _⟩;rw[ao3 h]
 ·cases b
noncomputable def RG κ:=(E15 κ).aK 108 (UX κ)
theorem eIe κ:aE (RG κ):=(e15 _).eT (aj0 _)
theorem mIe κ:aj (RG κ):=(m15 _).aK
end Go.Proofs.YtioeffnadipbaaaGreatDoor
namespace Go.Proofs.YtioeffnadipbaaaGreatDoor
open Go Go.Dn Go.Rl Go.Proofs
attribute [local irreducible] a9 vc
set_option maxRecDepth 20000
structure U6 where
 rel:ByteArray
 names:List AV
 types:List AV
 i:Bool
 o:Bool
 line:Int
abbrev TI(d:U6):AV:= .agg [.lit (.string d.rel), .ah 9 d.names, .ah 3 d.types, .bool d.i, .bool d.o, .int d.line]
def Rx t:=decide (toInt t=1)||decide (toInt t=2)
def GQ:List AV->List AV->Bool
 |n::b,t::a=>isName (toStr n)&&Rx t&&GQ b a
 |_,_=>true
def DP b a c:=isName b&& !decide (a.length=0)&&decide (a.length<=8)&&decide (c.length=a.length)&&GQ a c
def JC a:=DP (toStr (af a 0)) (ag (af a 1)) (ag (af a 2))
theorem Ka{b a i}(d:i<b.length)(c:i<a.length):GQ (b.drop i) (a.drop i)=(isName (toStr (nth b i))&&Rx (nth a i)&&GQ (b.drop (i+1)) (a.drop (i+1))):=by
 grind [List.drop_eq_getElem_cons,GQ,aV]
theorem xDc κ d i I n K:(vc (RG κ) 12 94 none 0 (ae (Pr κ).toProgram 94 4) (sp 58 [(1, .ptr 0 0 [] 0),(31, .ah 9 d.names),(32, .int d.names.length),(33, .int i)] [.box 43 (TI d)]) (bj (RG κ) 94 4 0 I n K))=(
 letI a:=∃(e0:Nat),e0<n/\I e0 (sp 58 [(1,AV.ptr 0 0 [] 0),(31,AV.ah 9 d.names),(32,AV.int (↑(d.names.length):Int)),(33,AV.int (IntKind.wrap
  IntKind.i64 (i+(1:Int))))] [Obj.box 43 (AV.agg [AV.str d.rel,AV.ah 9 d.names,AV.ah 3 d.types,AV.bool d.i,AV.bool d.o,AV.int d.line])])
 letI b:=decide ((0:Int)<=i)&&decide (i<(↑(d.types.length):Int))
 letI c:=K Exit.ret (sp 58 [(2,AV.bool false)] [])
 letI e:=i<(↑(d.names.length):Int)
 ak (decide e) (aR (decide ((0:Int)<=i)&&decide e) (ak (!isName (toStr (nth d.names i.toNat))) c (aR b (ak (toInt (nth d.types i.toNat) != (1:Int))
 (aR b (ak (toInt (nth d.types i.toNat) != (2:Int)) c a)) a)))) (K (Exit.exit 0) (sp 58 [] []))):=by kernel_rfl
abbrev RT(a:U6×Int):=sp 58 [(1, .ptr 0 0 [] 0),(31, .ah 9 a.1.names),(32, .int a.1.names.length),(33, .int a.2)] [.box 43 (TI a.1)]
def ER(a:U6×Int):=a.1.types.length=a.1.names.length/\a.1.names.length<=8/\0<=a.2/\a.2<=a.1.names.length
def Ef(a:U6×Int):Out (Exit×S):= .ak (GQ (a.1.names.drop a.2.toNat) (a.1.types.drop a.2.toNat)) (.one (.exit 0,sp 58 [] [])) (.one (.ret,sp 58 [(2, .bool false)] []))
theorem lDc κ:aX (RG κ) 12 94 4 (aG 0 RT ER Ef):=by
 refine aD (fun a=>a.1.names.length - a.2.toNat) ?_;rintro⟨d,i⟩ K ⟨c,e,h,g⟩ b;simp only at c e h g;rw[show(RG κ).P=Pr κ from rfl];refine Eq.mpr (xDc κ d i _ _ K) ?_;simp only[Ef,Out.run,ad] at b;simp only[ad,ai,an9,ao1,ao0,Bool.not_eq_true',ap1,bne_iff_ne,bne_eq_false_iff_eq];refine⟨fun j=>?_,fun j=>?_⟩
 ·have k:i.toNat<d.names.length:=by omega
  rw[Ka k (by omega)] at b;rw[az (n:=i+1) (by omega) (by omega)];have o:Rx (nth d.types i.toNat)=true->isName (toStr (nth d.names i.toNat))=true->∃m,m<d.names.length - i.toNat/\et RT ER Ef (fun a=>a.1.names.length - a.2.toNat) K m (RT (d,i+1)):=fun l f=>by
   rw[l,f,ap5,ap5] at b;refine⟨_,?_,(d,i+1),rfl,⟨c,e,by simp only;omega,by simp only;omega⟩,rfl,?_⟩
   ·simp only;omega
   ·simp only[Ef,Out.run,ad,show(i+1).toNat=i.toNat+1 by omega]
    exact b
  simp_all[Rx,nth,ao3,ao5,Bool.or_true,Bool.true_or]
 ·rw[ao7 (by omega)] at b
  exact b.1 rfl
noncomputable def ZT κ:=(RG κ).aq 94 4 (aG 0 RT ER Ef)
theorem eDl κ:aE (ZT κ):=(eIe _).aq (mIe _) (lDc _)
theorem mDl κ:aj (ZT κ):=(mIe _).aq aI
theorem yDc κ d K:(a9 (ZT κ) 12 94 [TI d] [] K)=(
 letI a:=AV.int
 letI b:=AV.bool
 letI c:=AV.ah
 letI e:=K (b false) []
 letI f:=d.names.length
 letI g:=Pg.toProgram (Env.P (RG κ))
 ak (!isName d.rel) e (ak ((↑f:Int)==(0:Int)) e (ak (decide ((↑f:Int)>(8:Int))) e (ak ((↑(d.types.length):Int) != (↑f:Int)) e (ae g 94 4
 =ae g 94 4/\∃(e0:U6×Int),sp 58 [(1,AV.ptr 0 0 [] 0),(31,c 9 d.names),(32,a (↑f:Int)),(33,a 0)] [Obj.box 43 (AV.agg [AV.str
 d.rel,c 9 d.names,c 3 d.types,b d.i,b d.o,a d.line])]=sp 58 [(1,AV.ptr 0 0 [] 0),(31,c 9 e0.1.names),(32,a
 (↑(e0.1.names.length):Int)),(33,a e0.2)] [Obj.box 43 (AV.agg [AV.str e0.1.rel,c 9 e0.1.names,c 3 e0.1.types,b e0.1.i,b e0.1.o,
 a e0.1.line])]/\(e0.1.types.length=e0.1.names.length/\e0.1.names.length<=8/\(0:Int)<=e0.2/\e0.2<=(↑(e0.1.names.length):Int))/\ak (GQ
 (List.drop e0.2.toNat e0.1.names) (List.drop e0.2.toNat e0.1.types)) (K (b true) []) e))))):=by kernel_rfl
def gDc:List AV->Option (Bool×AV)
 |[.agg [.lit (.string a), .ah 9 b, .ah 3 c, .lit (.bool _), .lit (.bool _), .lit (.int .i64 _)]]=>some (true, .bool (DP a b c))
 |_=>none
theorem pDc κ:cg (ZT κ) 12 94 gDc:=by
 intro h x d;unfold gDc at d;split at d
 ·rename_i c b f j i a
  simp only[ao2,ao8,true_and] at d;subst d;refine⟨_,rfl,rfl,?_⟩;refine Eq.mpr (yDc κ ⟨c,b,f,j,i,a⟩ _) ?_;unfold DP;simp only[ad,an9,ao1,Bool.not_eq_true',ap1,beq_iff_eq,beq_eq_false_iff_ne,bne_iff_ne,bne_eq_false_iff_eq];refine⟨fun e=>nZ (by rw[e];rfl),fun e=>⟨fun k=>nZ ?_,fun k=>⟨fun l=>nZ ?_,fun l=>⟨fun m=>nZ ?_,fun m=>⟨trivial,(⟨c,b,f,j,i,a⟩,0),rfl,⟨by simp only;omega,by simp only;omega,by simp only;omega,by simp only;omega⟩,?_⟩⟩⟩⟩⟩
  ·rw[ao5 (show b.length=0 by omega)];simp
  ·rw[ao3 (show ¬ b.length<=8 by omega)];simp
  ·rw[ao3 (show ¬ f.length=b.length by omega)];simp
  ·rw[e,ao3 (show ¬ b.length=0 by omega),ao5 (show b.length<=8 by omega),ao5 (show f.length=b.length by omega)]
   simp only[Int.toNat_zero,ao9,Bool.not_false,ap5];exact⟨fun g=>nZ g.symm,fun g=>nZ g.symm⟩
 ·cases d
noncomputable def Rr κ:=(ZT κ).aK 94 gDc
theorem eDc κ:aE (Rr κ):=(eDl _).aK (mDl _) (pDc _)
theorem mDc κ:aj (Rr κ):=(mDl _).aK
theorem af9 κ ds rs i I n K:(vc (Rr κ) 12 109 none 1 (ae (Pr κ).toProgram 109 2) (sp 19 [(0, .ah 43 ds),(1, .bn 93 []),(7, .int ds.length),(8, .int i)] [.box 25 (.agg [.ah 43 ds, .ah 48 rs])]) (bj (Rr κ) 109 2 1 I n K))=(
 letI a:=AV.agg [AV.ah 43 ds,AV.ah 48 rs]
 letI b:=nth ds i.toNat
 letI c:=i<(↑(ds.length):Int)
 ak (decide c) (aR (decide ((0:Int)<=i)&&decide c) (ak (!DP (toStr (af b 0)) (ag (af b 1)) (ag (af b 2))) (K Exit.ret (sp 19 [(4,AV.int i)] [Obj.box
 25 a])) (∃(e0:Nat),e0<n/\I e0 (sp 19 [(0,AV.ah 43 ds),(1,AV.bn 93 []),(7,AV.int (↑(ds.length):Int)),(8,AV.int (IntKind.wrap IntKind.i64 (i+(1
 :Int))))] [Obj.box 25 a])))) (K (Exit.exit 0) (sp 19 [] [Obj.box 25 a]))):=by kernel_rfl
abbrev L5:Nat:=109
abbrev Xc:Nat:=119
abbrev Kv(ds a:List AV):Dn.Obj:= .box 25 (.agg [.ah 43 ds, .ah 48 a])
abbrev RS:=List AV×List AV×Int
abbrev SN(a:RS):=sp 19 [(0, .ah 43 a.1),(1, .bn 93 []),(7, .int a.1.length),(8, .int a.2.2)] [Kv a.1 a.2.1]
def Hc(a:RS):=a.1.length<=aW/\0<=a.2.2/\a.2.2<=a.1.length
def Az(a:RS):Out (Exit×S):= .ak ((a.1.drop a.2.2.toNat).all JC) (.one (.exit 0,sp 19 [] [Kv a.1 a.2.1])) (.all (fun j=>0<=j) fun j=> .one (.ret,sp 19 [(4, .int j)] [Kv a.1 a.2.1]))
theorem af7 κ:aX (Rr κ) 12 L5 2 (aG 1 SN Hc Az):=by
 refine aD (fun a=>a.1.length - a.2.2.toNat) ?_;rintro⟨ds,f,i⟩ K ⟨d,c,j⟩ b;simp only at d c j;rw[show(Rr κ).P=Pr κ from rfl];refine Eq.mpr (af9 κ ds f i _ _ K) ?_;simp only[aW] at d;simp only[Az,Out.run,ad] at b;simp only[ad,ai,an9,ao1,ao0,Bool.not_eq_true',ap1];refine⟨fun g=>⟨⟨c,g⟩,?_⟩,fun g=>?_⟩
 ·have h:i.toNat<ds.length:=by omega
  rw[ap0 h,←aV ds i.toNat h,List.all_cons] at b;refine⟨fun e=>b.2 (by rw[show JC (nth ds i.toNat)=false from e];rfl) i c,fun e=>?_⟩;rw[show JC (nth ds i.toNat)=true from e,ap5] at b;rw[az (n:=i+1) (by omega) (by omega)];refine⟨_,?_,(ds,f,i+1),rfl,⟨by simpa[aW] using d,by simp only;omega,by simp only;omega⟩,rfl,?_⟩
  ·simp only;omega
  grind [Az,Out.run,ad]
 ·rw[ao7 (by omega)] at b
  exact b.1 rfl
noncomputable def vH κ:=(Rr κ).aq L5 2 (aG 1 SN Hc Az)
theorem an5 κ:aE (vH κ):=(eDc _).aq (mDc _) (af7 _)
theorem ZV κ:aj (vH κ):=(mDc _).aq aI
theorem ak4 κ ds rs i I n K:(vc (vH κ) 12 119 none 1 (ae (Pr κ).toProgram 119 2) (sp 19 [(0, .ah 48 rs),(1, .bn 95 []),(7, .int rs.length),(8, .int i)] [.box 25 (.agg [.ah 43 ds, .ah 48 rs])]) (bj (vH κ) 119 2 1 I n K))=(
 letI b:=AV.agg [AV.ah 43 ds,AV.ah 48 rs]
 letI a:=nth rs i.toNat
 letI c:=i<(↑(rs.length):Int)
 ak (decide c) (aR (decide ((0:Int)<=i)&&decide c) (aR (decide (List.length (ag (af (af a 0) 1))<=9223372036854775807)&&decide (List.length (ag (af a 1))<=9223372036854775807)) (ak (!ba {head:={rel:=toStr (af (af a 0) 0),l:=aa (ag (af (af a 0) 1))},body:=dv (ag (af a 1))}) (K Exit.ret (sp 19 [(4,AV.int i)] [Obj.box 25 b])) (∃(e0:Nat),e0<n/\I e0 (sp 19 [(0,AV.ah 48 rs),(1,AV.bn 95 []),(7,AV.int (↑(rs.length):Int)),(8,AV.int (IntKind.wrap IntKind.i64 (i+(1:Int))))] [Obj.box 25 b]))))) (K (Exit.exit 0) (sp 19 [] [Obj.box 25 b]))):=by kernel_rfl
def fh a:=decide ((ag (af (af a 0) 1)).length<=aW)&&decide ((ag (af a 1)).length<=aW)
def qR(a:AV):Bool:=ba (xJ a)
abbrev TJ(a:RS):=sp 19 [(0, .ah 48 a.2.1),(1, .bn 95 []),(7, .int a.2.1.length),(8, .int a.2.2)] [Kv a.1 a.2.1]
def Hf(a:RS):=a.2.1.length<=aW/\0<=a.2.2/\a.2.2<=a.2.1.length/\a.2.1.all fh=true
def Bu(a:RS):Out (Exit×S):= .ak ((a.2.1.drop a.2.2.toNat).all qR) (.one (.exit 0,sp 19 [] [Kv a.1 a.2.1])) (.all (fun j=>0<=j) fun j=> .one (.ret,sp 19 [(4, .int j)] [Kv a.1 a.2.1]))
theorem P8{a}(h:a.all fh=true){k}(b:k<a.length):(ag (af (af (nth a k) 0) 1)).length<=aW/\(ag (af (nth a k) 1)).length<=aW:=by
 grind [aV,List.getElem_mem,fh]
theorem ak0 κ:aX (vH κ) 12 Xc 2 (aG 1 TJ Hf Bu):=by
 refine aD (fun a=>a.2.1.length - a.2.2.toNat) ?_;rintro⟨ds,c,i⟩ K ⟨f,d,k,g⟩ b;simp only at f d k g;rw[show(vH κ).P=Pr κ from rfl];refine Eq.mpr (ak4 κ ds c i _ _ K) ?_;simp only[aW] at f;simp only[Bu,Out.run,ad] at b;simp only[ad,ai,an9,ao1,ao0,Bool.not_eq_true',ap1];refine⟨fun j=>⟨⟨d,j⟩,P8 g (by omega),?_⟩,fun j=>?_⟩
 ·have h:i.toNat<c.length:=by omega
  rw[ap0 h,←aV c i.toNat h,List.all_cons] at b;refine⟨fun e=>b.2 (by rw[show qR (nth c i.toNat)=false from e];rfl) i d,fun e=>?_⟩;rw[show qR (nth c i.toNat)=true from e,ap5] at b;rw[az (n:=i+1) (by omega) (by omega)];refine⟨_,?_,(ds,c,i+1),rfl,⟨by simpa[aW] using f,by simp only;omega,by simp only;omega,g⟩,rfl,?_⟩
  ·simp only;omega
  grind [Bu,Out.run,ad]
 ·rw[ao7 (by omega)] at b
  exact b.1 rfl
noncomputable def NU κ:=(vH κ).aq Xc 2 (aG 1 TJ Hf Bu)
theorem ah7 κ:aE (NU κ):=(an5 _).aq (ZV _) (ak0 _)
theorem Yy κ:aj (NU κ):=(ZV _).aq aI
theorem yRt κ ds rs K:(a9 (NU κ) 12 48 [.agg [.ah 43 ds, .ah 48 rs]] [] K)=(
 letI a:=AV.int
 letI b:=AV.ah
 letI h:=∀(e0:Int),(0:Int)<=e0->K (AV.lit (Value.bool !decide (e0>=(0:Int)))) []
 letI d:=Pg.toProgram (Env.P (vH κ))
 letI c:=K (AV.bool false) []
 letI e:=Pg.toProgram (Env.P (Rr κ))
 ak (decide ((↑(ds.length):Int)>(60:Int))) c (ak (decide ((↑(rs.length):Int)>(200:Int))) c (ae e L5 2=ae e L5 2/\∃(e3:RS),letI f:=[Obj.box 25 (AV.agg [b 43 e3.1,b 48 e3.2.1])];letI g:=ae d Xc 2=ae d Xc 2/\∃(e1:RS),sp 19 [(0,b 48 e3.2.1),(1,AV.bn 95 []),(7,a (↑(e3.2.1.length):Int)),(8,a 0)] f=sp 19 [(0,b 48 e1.2.1),(1,AV.bn 95 []),(7,a (↑(e1.2.1.length):Int)),(8,a e1.2.2)] [Obj.box 25 (AV.agg [b 43 e1.1,b 48 e1.2.1])]/\(e1.2.1.length<=9223372036854775807/\(0:Int)<=e1.2.2/\e1.2.2<=(↑(e1.2.1.length):Int)/\List.all e1.2.1 fh=true)/\ak (List.all (List.drop (Int.toNat e1.2.2) e1.2.1) qR) (K (AV.bool true) []) h;sp 19 [(0,b 43 ds),(1,AV.bn 93 []),(7,a (↑(ds.length):Int)),(8,a 0)] [Obj.box 25 (AV.agg [b 43 ds,b 48 rs])]=sp 19 [(0,b 43 e3.1),(1,AV.bn 93 []),(7,a (↑(e3.1.length):Int)),(8,a e3.2.2)] f/\(e3.1.length<=9223372036854775807/\(0:Int)<=e3.2.2/\e3.2.2<=(↑(e3.1.length):Int))/\ak (List.all (List.drop (Int.toNat e3.2.2) e3.1) JC) g (∀(e2:Int),(0:Int)<=e2->ak (!decide (e2>=(0:Int))) g c)))):=by kernel_rfl
def fc(ds a:List _):=decide (ds.length<=60)&&decide (a.length<=200)&&ds.all JC&&a.all qR
def gRt:List AV->Option (Bool×AV)
 |[.agg [.ah 43 ds, .ah 48 a]]=>some (a.all fh, .bool (fc ds a))
 |_=>none
theorem pRt κ:cg (NU κ) 12 48 gRt:=by
 intro g x a;unfold gRt at a;split at a
 ·rename_i ds b
  simp only[ao2,ao8] at a;obtain⟨h,rfl⟩:=a;refine⟨_,rfl,rfl,?_⟩;refine Eq.mpr (yRt κ ds b _) ?_;unfold fc;rw[ad,an9,ao1];refine⟨fun e=>nZ (by rw[ao3 (show ¬ ds.length<=60 by omega)];rfl),fun e=>?_⟩;rw[ad,an9,ao1];refine⟨fun i=>nZ (by rw[ao3 (show ¬ b.length<=200 by omega)];simp),fun i=>?_⟩;rw[ao5 (show ds.length<=60 by omega),ao5 (show b.length<=200 by omega)];refine⟨rfl,(ds,b,0),rfl,⟨by simp only[aW];omega,by simp only;omega,by simp only;omega⟩,?_⟩;simp only[Int.toNat_zero,ao9,ap5];rw[ad];refine⟨fun f=>⟨trivial,(ds,b,0),rfl,⟨by simp only[aW];omega,by simp only;omega,by simp only;omega,h⟩,?_⟩,fun f y d=>?_⟩
  ·simp only[Int.toNat_zero,ao9]
   rw[ad,f];refine⟨fun c=>nZ (by rw[c];rfl),fun c y d=>nZ ?_⟩;rw[c,ao5 (show y>=0 from d)];rfl
  ·rw[ao5 (show y>=0 from d)]
   exact nZ (by rw[f];rfl)
 ·cases a
noncomputable def RB κ:=(NU κ).aK 48 gRt
theorem eRt κ:aE (RB κ):=(ah7 _).aK (Yy _) (pRt _)
theorem mRt κ:aj (RB κ):=(Yy _).aK
theorem xFi κ ds s i I n K:(vc (RB κ) 12 L5 none 1 (ae (Pr κ).toProgram L5 2) (sp 19 [(0, .ah 43 ds),(1, .bn 110 [.ptr 0 0 [] 0]),(7, .int ds.length),(8, .int i)] [.box 9 (.lit (.string s))]) (bj (RB κ) L5 2 1 I n K))=(
 letI a:=i<(↑(ds.length):Int)
 ak (decide a) (aR (decide ((0:Int)<=i)&&decide a) (ak (ByteArray.toList (toStr (af (nth ds i.toNat) 0))==ByteArray.toList s) (K Exit.ret (sp 19 [(4,
 AV.int i)] [Obj.box 9 (AV.str s)])) (∃(e0:Nat),e0<n/\I e0 (sp 19 [(0,AV.ah 43 ds),(1,AV.bn 110 [AV.ptr 0 0 [] 0]),(7,AV.int (↑(ds.length):Int)),
 (8,AV.int (IntKind.wrap IntKind.i64 (i+(1:Int))))] [Obj.box 9 (AV.str s)])))) (K (Exit.exit 0) (sp 19 [] [Obj.box 9 (AV.str s)]))):=by kernel_rfl
def mv(s:ByteArray):List AV->Int->Int
 |[],_=> -1
 |d::l,i=>bif o8 (toStr (af d 0)) s then i else mv s l (i+1)
abbrev Zi(a:List _×ByteArray×Int):=sp 19 [(0, .ah 43 a.1),(1, .bn 110 [.ptr 0 0 [] 0]),(7, .int a.1.length),(8, .int a.2.2)] [.box 9 (.lit (.string a.2.1))]
def OQ(a:List AV×ByteArray×Int):=a.1.length<=aW/\0<=a.2.2/\a.2.2<=a.1.length
def Jk(a:List AV×ByteArray×Int):Out (Exit×S):= .ak (decide (0<=mv a.2.1 (a.1.drop a.2.2.toNat) a.2.2)) (.one (.ret,sp 19 [(4, .int (mv a.2.1 (a.1.drop a.2.2.toNat) a.2.2))] [.box 9 (.lit (.string a.2.1))])) (.one (.exit 0,sp 19 [] [.box 9 (.lit (.string a.2.1))]))
theorem lFi κ:aX (RB κ) 12 L5 2 (aG 1 Zi OQ Jk):=by
 refine aD (fun a=>a.1.length - a.2.2.toNat) ?_;rintro⟨ds,s,i⟩ K ⟨d,c,h⟩ b;simp only at d c h;rw[show(RB κ).P=Pr κ from rfl];refine Eq.mpr (xFi κ ds s i _ _ K) ?_;simp only[aW] at d;simp only[Jk,Out.run,ad] at b;simp only[ad,ai,an9,ao1,ao0];refine⟨fun g=>⟨⟨c,g⟩,?_⟩,fun g=>?_⟩
 ·have f:i.toNat<ds.length:=by omega
  rw[ap0 f,←aV ds i.toNat f,mv] at b;refine⟨fun e=>?_,fun e=>?_⟩
  ·rw[show o8 (toStr (af (nth ds i.toNat) 0)) s=true from e,ao6] at b
   exact b.1 (ao5 c)
  ·rw[show o8 (toStr (af (nth ds i.toNat) 0)) s=false from e,ao4] at b
   rw[az (n:=i+1) (by omega) (by omega)];refine⟨_,?_,(ds,s,i+1),rfl,⟨by simpa[aW] using d,by simp only;omega,by simp only;omega⟩,rfl,?_⟩
   ·simp only;omega
   ·simp only[Jk,Out.run,ad,show(i+1).toNat=i.toNat+1 by omega]
    exact b
 ·rw[ao7 (by omega)] at b
  exact b.2 rfl
noncomputable def XO κ:=(RB κ).aq L5 2 (aG 1 Zi OQ Jk)
theorem eFl κ:aE (XO κ):=(eRt _).aq (mRt _) (lFi _)
theorem mFl κ:aj (XO κ):=(mRt _).aq aI
theorem yFi κ ds s K:(a9 (XO κ) 12 63 [.ah 43 ds, .lit (.string s)] [] K)=(
 letI b:=AV.int
 ae (Pg.toProgram (Env.P (RB κ))) L5 2=ae (Pg.toProgram (Env.P (RB κ))) L5 2/\∃(a:List AV×ByteArray×Int),letI c:=List.drop (Int.toNat a.2.2) a.1;sp 19 [(0,AV.ah 43 ds),(1,AV.bn 110 [AV.ptr 0 0 [] 0]),(7,b (↑(ds.length):Int)),(8,b 0)] [Obj.box 9 (AV.str s)]=sp 19 [(0,AV.ah 43 a.1),(1,AV.bn 110 [AV.ptr 0 0 [] 0]),(7,b (↑(a.1.length):Int)),(8,b a.2.2)] [Obj.box 9 (AV.str a.2.1)]/\(a.1.length<=9223372036854775807/\(0:Int)<=a.2.2/\a.2.2<=(↑(a.1.length):Int))/\ak (decide ((0:Int)<=mv a.2.1 c a.2.2)) (K (AV.aJ [b (if(0:Int)>mv a.2.1 c a.2.2 then(0:Int) else mv a.2.1 c a.2.2),AV.bool (decide (mv a.2.1 c a.2.2>=(0:Int)))]) []) (K (AV.aJ [b 0,AV.bool false]) [])):=by kernel_rfl
def bw s ds:=bif decide (0<=mv s ds 0) then mv s ds 0 else 0
def Ee s ds:=decide (0<=mv s ds 0)
def Ho(a:List AV×ByteArray):List AV×List Dn.Obj:=([.ah 43 a.1, .lit (.string a.2)],[])
def iw(a:List AV×ByteArray):=a.1.length<=aW
def E3(a:List AV×ByteArray):Out (AV×List Dn.Obj):= .one (.aJ [.int (bw a.2 a.1), .bool (Ee a.2 a.1)],[])
theorem cFi κ:bg (XO κ) 12 63 (aO Ho iw E3):=by
 refine aU ?_;rintro⟨ds,s⟩ K b a;refine Eq.mpr (yFi κ ds s K) ?_;simp only[E3,Out.run,bw,Ee] at a;refine⟨rfl,(ds,s,0),rfl,⟨b,by simp,by simp⟩,?_⟩;rw[ad]
 grind
noncomputable def YU κ:=(XO κ).aw 63 (aO Ho iw E3)
theorem eFi κ:aE (YU κ):=(eFl _).aw (mFl _) (cFi _)
theorem mFi κ:aj (YU κ):=(mFl _).aw aH
structure ko where
 ds:List AV
 es:List (Value×AV)
 more:Bool
abbrev bQ(a:ko):List Dn.Obj:=[.box 219 (.agg [.ah 43 a.ds, .mp 1, .bool a.more]), .map 9 3 a.es]
abbrev Ey:AV:= .ptr 0 0 [] 0
theorem yOf κ a t K:(a9 (YU κ) 12 197 [Ey,dm t] (bQ a) K)=(
 letI b:=AV.int
 ak (t.op==(1:Int)) (K (b (toInt (cX a.es (Value.string t.s) (b 0)))) (bQ a)) (ak (t.op==(3:Int)) (K (b 2) (bQ a)) (ak (t.op==(4:Int))
 (K (b 0) (bQ a)) (K (b 1) (bQ a))))):=by kernel_rfl
def XW(x:ko×AT):=([Ey,dm x.2],bQ x.1)
def PX(_:ko×AT):Prop:=True
def L4(x:ko×AT):Out (AV×List Dn.Obj):= .one (.int (bG getM x.2.tm x.1.es),bQ x.1)
theorem cOf κ:bg (YU κ) 12 197 (aO XW PX L4):=by
 refine aU ?_;rintro⟨a,t⟩ K _ b;refine Eq.mpr (yOf κ a t K) ?_;simp[L4] at b;have e:bG _ t.tm _=bif decide (t.op=1) then getM a.es _ else bif decide (t.op=3) then 2 else bif decide (t.op=4) then 0 else 1:=rfl
 rw[e] at b;simp[Xd];cases d:decide (t.op=1) with
 |true=>rw[d] at b;exact b
 | false=>
  rw[d] at b;cases f:decide (t.op=3) with
  |true=>rw[f] at b;exact b
  |false=>
   rw[f] at b;cases c:decide (t.op=4) with
   |true=>rw[c] at b;exact b
   |false=>rw[c] at b;exact b
noncomputable def EYo κ:=(YU κ).aw 197 (aO XW PX L4)
theorem eYo κ:aE (EYo κ):=(eFi _).aw (mFi _) (cOf _)
theorem mYo κ:aj (EYo κ):=(mFi _).aw aH
structure pN where
 a:ko
 t:AT
 k:Int
def a0(a:ko)(t:AT) k:=t.tm.want getM gB k (a.es,a.more)
def dL(a:ko)(r:List (Value×AV)×Bool):ko:=⟨a.ds,r.1,r.2⟩
def ib(b:Bool):Int:=bif b then 53 else 0
def V9(x:pN):=([Ey,dm x.t, .int x.k],bQ x.a)
def Vj n(x:pN):=x.t.tm.mP=n/\n<=100000
noncomputable def Iq(κ:Kp)(x:pN):Out (AV×List Dn.Obj):= .one (.lit (bf κ (ib (a0 x.a x.t x.k).1)),bQ (dL x.a (a0 x.a x.t x.k).2))
noncomputable def Sf κ n:=aO V9 (Vj n) (Iq κ)
noncomputable def UT κ r:=(EYo κ).aw 196 fun a st K=>∃m,m<r/\Sf κ m a st K
theorem xWt κ r a t k i I n K:(vc (UT κ r) 12 196 none 2 (ae (Pr κ).toProgram 196 2) (sp 56 [(0,Ey),(2, .int k),(4, .ptr 2 0 [] 0),(12, .ah 38 t.l),(13, .int t.l.length),(14, .int i)] (bQ a++[.box 38 (dm t)])) (bj (UT κ r) 196 2 2 I n K))=(
 letI b:=AV.ptr 0 0 []
 letI c:=AV.int
 letI d:=Obj.box
 letI e:=nth t.l i.toNat
 letI h:=i<(↑(t.l.length):Int)
 ak (decide h) (aR (decide ((0:Int)<=i)&&decide h) (∃(e2:Nat),e2<r/\∃(e1:pN),letI f:=dL e1.a (Prod.snd (a0 e1.a e1.t e1.k));letI g:=bf κ (ib (Prod.fst (a0 e1.a e1.t e1.k)));([b 0,AV.agg [c (toInt (af e 0)),AV.str (toStr (af e 1)),c (toInt (af e 2)),AV.ah 38 (ag (af e 3))],c 1],(bQ a))=([b 0,dm e1.t,c e1.k],(bQ e1.a))/\(Tm.mP (AT.tm e1.t)=e2/\e2<=100000)/\aR (aC g) (ak (!bO g) (K Exit.ret (sp 56 [(6,AV.lit g)] (bQ f))) (∃(e0:Nat),e0<n/\I e0 (sp 56 [(0,b 0),(2,c k),(4,AV.ptr 2 0 [] 0),(12,AV.ah 38 t.l),(13,c (↑(t.l.length):Int)),(14,c (IntKind.wrap IntKind.i64 (i+(1:Int))))] [d 219 (AV.agg [AV.ah 43 (ko.ds f),AV.mp 1,AV.bool (ko.more f)]),Dn.Obj.map 9 3 (ko.es f),d 38 (dm t)]))))) (K (Exit.exit 0) (sp 56 [(0,b 0),(2,c k),(4,AV.ptr 2 0 [] 0)] [d 219 (AV.agg [AV.ah 43 a.ds,AV.mp 1,AV.bool a.more]),Dn.Obj.map 9 3 a.es,d 38 (dm t)]))):=by kernel_rfl
abbrev ZL:=pN×Int
abbrev ac2(x:ZL):=sp 56 [(0,Ey),(2, .int x.1.k),(4, .ptr 2 0 [] 0),(12, .ah 38 x.1.t.l),(13, .int x.1.t.l.length),(14, .int x.2)] (bQ x.1.a++[.box 38 (dm x.1.t)])
def L7 r(x:ZL):=x.1.t.l.length<=aW/\0<=x.2/\x.2<=x.1.t.l.length/\bk (aa (x.1.t.l.drop x.2.toNat))<r/\bk (aa (x.1.t.l.drop x.2.toNat))<=100000
def fZ(x:ZL):=jj getM gB (aa (x.1.t.l.drop x.2.toNat)) (x.1.a.es,x.1.a.more)
noncomputable def Ig(κ:Kp)(x:ZL):Out (Exit×S):= .ak (fZ x).1 (.one (.ret,sp 56 [(6, .lit (bf κ 53))] (bQ (dL x.1.a (fZ x).2))))
 (.one (.exit 0,sp 56 [(0,Ey),(2, .int x.1.k),(4, .ptr 2 0 [] 0)] (bQ (dL x.1.a (fZ x).2)++[.box 38 (dm x.1.t)])))
theorem Ce b:decide (ib b=0)= !b:=by cases b<;>rfl
theorem lWt κ r:aX (UT κ r) 12 196 2 (aG 2 ac2 (L7 r) (Ig κ)):=by
 refine aD (fun x=>x.1.t.l.length - x.2.toNat) ?_;rintro⟨⟨a,t,k⟩,i⟩ K ⟨f,g,p,m,h⟩ b;simp only at f g p m h;rw[show(UT κ r).P=Pr κ from rfl];refine Eq.mpr (xWt κ r a t k i _ _ K) ?_;simp only[aW] at f;simp only[Ig,Out.run,ad] at b;rw[ad,an9,ao1];refine⟨fun j=>?_,fun j=>?_⟩
 ·have o:i.toNat<t.l.length:=by omega
  have e:=eL t.l i.toNat o;have d:fZ (⟨a,t,k⟩,i)=bif (a0 a (eI (nth t.l i.toNat)) 1).1 then a0 a (eI (nth t.l i.toNat)) 1 else fZ (⟨dL a (a0 a (eI (nth t.l i.toNat)) 1).2,t,k⟩,i+1):=by
   unfold fZ a0;simp only[show(i+1).toNat=i.toNat+1 by omega];rw[e,jj,iC];rfl
  rw[e,bk] at m h;rw[d] at b;rw[ai,ao0,an9,an9];refine⟨⟨g,j⟩,(cH (nth t.l i.toNat)).mP,by omega,⟨a,eI (nth t.l i.toNat),1⟩,rfl,⟨by rw[iC],by omega⟩,?_⟩;rw[ai];refine⟨cE _ _,?_⟩;rw[jB,Ce,Bool.not_not,ad];refine⟨fun c=>?_,fun c=>?_⟩
  ·simp only[c,ao6] at b⊢
   exact b.1 trivial
  ·simp only[c,ao4] at b
   rw[az (n:=i+1) (by omega) (by omega)];refine⟨_,?_,(⟨dL a (a0 a (eI (nth t.l i.toNat)) 1).2,t,k⟩,i+1),rfl,⟨by simpa[aW] using f,by simp only;omega,by simp only;omega,?_,?_⟩,rfl,?_⟩
   ·simp only;omega
   ·simp only[show(i+1).toNat=i.toNat+1 by omega];omega
   ·simp only[show(i+1).toNat=i.toNat+1 by omega];omega
   ·simp only[Ig,Out.run,ad]
    exact b
 ·have d:fZ (⟨a,t,k⟩,i)=(false,(a.es,a.more)):=by
   unfold fZ;simp only;rw[ao7 (by omega)];rfl
  rw[d] at b;exact b.2 rfl
noncomputable def YK κ r:=(UT κ r).aq 196 2 (aG 2 ac2 (L7 r) (Ig κ))
theorem yWt κ r a t k K:(a9 (YK κ r) 12 196 [Ey,dm t, .int k] (bQ a) K)=(
 letI b:=AV.ptr 0 0 []
 letI c:=AV.int
 letI d:=Obj.box
 letI e:=Dn.Obj.map
 letI h:=AV.lit Value.nilIface
 letI i:=Pg.toProgram (Env.P (UT κ r))
 ae i 196 2=ae i 196 2/\∃(e1:ZL),letI f:=Value.string e1.1.t.s;letI j:=aa (List.drop e1.2.toNat e1.1.t.l);letI l:=bQ (dL e1.1.a (Prod.snd (fZ e1)));sp 56 [(0,b 0),(2,c k),(4,AV.ptr 2 0 [] 0),(12,AV.ah 38 t.l),(13,c (↑(t.l.length):Int)),(14,c 0)] [d 219 (AV.agg [AV.ah 43 a.ds,AV.mp 1,AV.bool a.more]),e 9 3 a.es,d 38 (dm t)]=sp 56 [(0,b 0),(2,c e1.1.k),(4,AV.ptr 2 0 [] 0),(12,AV.ah 38 e1.1.t.l),(13,c (↑(List.length e1.1.t.l):Int)),(14,c e1.2)] [d 219 (AV.agg [AV.ah 43 e1.1.a.ds,AV.mp 1,AV.bool e1.1.a.more]),e 9 3 e1.1.a.es,d 38 (dm e1.1.t)]/\(List.length e1.1.t.l<=9223372036854775807/\(0:Int)<=e1.2/\e1.2<=(↑(List.length e1.1.t.l):Int)/\bk j<r/\bk j<=100000)/\ak (Prod.fst (fZ e1)) (K (AV.lit (Value.iface 273 (Value.pointer (some (SV κ (53:Int)))))) l) (∃(e0:ko×AT),letI g:=K h (bQ e0.1);([b 0,dm e1.1.t],l)=([b 0,dm e0.2],(bQ e0.1))/\True/\ak (e1.1.k==(0:Int)) g (ak (e1.1.t.op==(4:Int)) g (ak (bG getM (AT.tm e0.2) e0.1.es==(0:Int)) (K h [d 219 (AV.agg [AV.ah 43 e0.1.ds,AV.mp 1,AV.bool true]),e 9 3 (eD (eD e0.1.es f (c (toInt (cX e0.1.es f (c 0))))) f (c e1.1.k))]) (ak (bG getM (AT.tm e0.2) e0.1.es != e1.1.k) (K (AV.lit (Value.iface 273 (Value.pointer (some (Kp.type κ))))) (bQ e0.1)) g))))):=by kernel_rfl
theorem I7 s v w: ∀a,eD (eD a (.string s) v) (.string s) w=eD a (.string s) w
 |[]=>by simp[eD,ei]
 |(c,b)::a=>by
  rw[eD,eD];cases h:ei _ _ with
  |true=>simp[eD,ei]
  |false=>simp[eD,h,I7 s v w _]
theorem Ky κ n:(Sf κ n).gn:=aH
theorem eYr κ r(d: ∀a st K,(∃m,m<r/\Sf κ m a st K)->bZ (Pr κ) 196 a st K):aE (YK κ r)/\aj (YK κ r)/\(YK κ r).P=Pr κ:=
 have h:=(eYo _).fT d;have b:=(mYo _).aw fun _ _ _ _ e ⟨m,f,c⟩=>⟨m,f,Ky _ m _ _ _ _ e c⟩
 ⟨h.aq b (lWt _ r),b.aq aI,rfl⟩
theorem cWt κ r:bg (YK κ r) 12 196 (Sf κ r):=by
 refine aU ?_;rintro⟨a,t,k⟩ K ⟨g,n⟩ b;refine Eq.mpr (yWt κ r a t k K) ?_;simp only[Iq,Out.run] at b;have m:t.tm.mP=1+bk (aa t.l):=rfl;have i:=gF (aa t.l);rw[eE] at i;simp only at g;refine⟨rfl,(⟨a,t,k⟩,0),rfl,⟨by simp only[aW];omega,by simp only;omega,by simp only;omega,by simp only[Int.toNat_zero,ao9];omega,by simp only[Int.toNat_zero,ao9];omega⟩,?_⟩;have h:a0 a t k=bif (fZ (⟨a,t,k⟩,0)).1 then fZ (⟨a,t,k⟩,0) else bif decide (k=0)||decide (t.op=4) then(false,(fZ (⟨a,t,k⟩,0)).2)
   else bif decide (bG getM t.tm (fZ (⟨a,t,k⟩,0)).2.1=0) then(false,(gB (fZ (⟨a,t,k⟩,0)).2.1 t.s k,true)) else(!decide (bG getM t.tm (fZ (⟨a,t,k⟩,0)).2.1=k),(fZ (⟨a,t,k⟩,0)).2):=by
  unfold a0 fZ;rw[AT.tm,Tm.want];rfl
 rw[h] at b;simp only[Xd,LU];cases hd:(fZ (⟨a,t,k⟩,0)).1 with
 |true=>
  rw[hd,ao6,hd] at b;exact b
 | false=>
  rw[hd,ao4] at b;refine⟨(dL a (fZ (⟨a,t,k⟩,0)).2,t),rfl,trivial,?_⟩;cases c:decide (k=0) with
  |true=>rw[c] at b;exact b
  | false=>
   rw[c] at b;cases e:decide (t.op=4) with
   |true=>rw[e] at b;exact b
   | false=>
    rw[e] at b;rw[show(false||false)=false from rfl,ao4] at b;have j:bG getM t.tm (dL a (fZ (⟨a,t,k⟩,0)).2).es=bG getM t.tm (fZ (⟨a,t,k⟩,0)).2.1:=rfl;simp only[j];cases f:decide (bG getM t.tm (fZ (⟨a,t,k⟩,0)).2.1=0) with
    |true=>
     rw[f,ao6] at b;simp only[ak,I7];exact b
    |false=>
     rw[f,ao4] at b;cases d:decide (bG getM t.tm (fZ (⟨a,t,k⟩,0)).2.1=k) with
     |true=>rw[d] at b;exact b
     |false=>rw[d] at b;exact b
def dj(x:pN):=x.t.tm.mP<=100000
theorem qWt κ: ∀b st K,aO V9 dj (Iq κ) b st K->bZ (Pr κ) 196 b st K:=by
 rintro b st K ⟨a,d,e,c⟩;exact aE.pK _ _ (eYr _) (cWt _) _ _ _ K ⟨a,d,⟨rfl,e⟩,c⟩
noncomputable def QA κ:=(EYo κ).aw 196 (aO V9 dj (Iq κ))
theorem eYw κ:aE (QA κ):=(eYo _).fT (qWt _)
theorem mYw κ:aj (QA κ):=(mYo _).aw aH
def XN(x:AV):Dc:=⟨toStr (af x 0),(ag (af x 2)).map toInt⟩
def cP(l:List AV):List Dc:=l.map XN
theorem wI s: ∀ds i,mv s ds i=match lb s (cP ds) with|some k=>i+k|none=> -1
 |[],i=>rfl
 |d::ds,i=>by
  have a:=wI s ds (i+1)
  grind [mv,cP,XN,lb]
theorem D9 s: ∀ds k,lb s ds=some k->k<ds.length
 |[],_,h=>by cases h
 | d::ds,k,h=>by
  rw[lb] at h;cases e:o8 d.rel s with
  |true=>grind
  | false=>
   rw[e] at h;cases a:lb s ds with
   |none=>grind
   |some j=>
    rw[a] at h;have:=D9 s ds j a
    grind
theorem xm{s ds}(h:lb s (cP ds)=none):Ee s ds=false/\bw s ds=0:=by
 grind [wI,Ee,bw]
theorem o7{s ds k}(h:lb s (cP ds)=some k):Ee s ds=true/\bw s ds=k/\k<ds.length:=by
 have e:=wI s ds 0;have a:=D9 s _ k h
 grind [Ee,bw,cP]
def l6 ds(i:Int):=(ag (af (nth ds i.toNat) 2)).map toInt
theorem ye{s ds k}(h:lb s (cP ds)=some k):df (cP ds) s=l6 ds k:=by
 obtain⟨_,_,a⟩:=o7 h;unfold df l6;rw[h,aV _ _ _];simp only[cP];rw[List.getD_eq_getElem?_getD,List.getElem?_map,ap3 a];rfl
theorem K0 ds a l:known (cP ds) ⟨a,aa l⟩=bif Ee a ds then bif decide ((l6 ds (bw a ds)).length=l.length) then 0 else 52 else 51:=by
 unfold known;cases h:lb _ _<;>simp_all[xm,o7,ye,eE]
theorem QM{ds i k}(h:k<(l6 ds i).length):(l6 ds i).drop k=toInt (nth (ag (af (nth ds i.toNat) 2)) k)::(l6 ds i).drop (k+1):=by
 grind [List.drop_eq_getElem_cons,l6,aV]
structure AAt where
 a:ko
 fi:Int
 l:List AV
 k:Int
abbrev Vm(x:AAt):=sp 65 [(0,Ey),(5, .int x.fi),(40, .ah 38 x.l),(41, .int x.l.length),(42, .int x.k)] (bQ x.a)
theorem xAt κ x I n K:(vc (QA κ) 12 180 none 2 (ae (Pr κ).toProgram 180 7) (Vm x) (bj (QA κ) 180 7 2 I n K))=(
 letI a:=AV.ptr 0 0 []
 letI b:=AV.int
 letI c:=nth x.l x.k.toNat
 letI e:=ag (af (nth x.a.ds x.fi.toNat) 2)
 letI f:=x.k<(↑(x.l.length):Int)
 ak (decide f) (aR (decide ((0:Int)<=x.k)&&decide f) (aR (decide ((0:Int)<=x.fi)&&decide (x.fi<(↑(List.length x.a.ds):Int))) (aR (decide ((0:Int)<=x.k)&&decide (x.k<(↑(List.length e):Int))) (∃(e1:pN),letI d:=bf κ (ib (Prod.fst (a0 e1.a e1.t e1.k)));letI g:=bQ (dL e1.a (Prod.snd (a0 e1.a e1.t e1.k)));([a 0,AV.agg [b (toInt (af c 0)),AV.str (toStr (af c 1)),b (toInt (af c 2)),AV.ah 38 (ag (af c 3))],b (toInt (nth e x.k.toNat))],(bQ x.a))=([a 0,dm e1.t,b e1.k],(bQ e1.a))/\dj e1/\aR (aC d) (ak (!bO d) (K Exit.ret (sp 65 [(4,AV.lit d)] g)) (∃(e0:Nat),e0<n/\I e0 (sp 65 [(0,a 0),(5,b x.fi),(40,AV.ah 38 x.l),(41,b (↑(x.l.length):Int)),(42,b (IntKind.wrap IntKind.i64 (x.k+(1:Int))))] g))))))) (K (Exit.exit 1) (sp 65 [] (bQ x.a)))):=by kernel_rfl
def jE(x:AAt):=jR getM gB ((l6 x.a.ds x.fi).drop x.k.toNat) (aa (x.l.drop x.k.toNat)) (x.a.es,x.a.more)
def Nh(x:AAt):=0<=x.fi/\x.fi<x.a.ds.length/\(l6 x.a.ds x.fi).length=x.l.length/\x.l.length<=aW/\0<=x.k/\x.k<=x.l.length/\bk (aa (x.l.drop x.k.toNat))<=100000
noncomputable def H3(κ:Kp)(x:AAt):Out (Exit×S):= .ak (jE x).1 (.one (.ret,sp 65 [(4, .lit (bf κ 53))] (bQ (dL x.a (jE x).2)))) (.one (.exit 1,sp 65 [] (bQ (dL x.a (jE x).2))))
theorem lAt κ:aX (QA κ) 12 180 7 (aG 2 Vm Nh (H3 κ)):=by
 refine aD (fun x=>x.l.length - x.k.toNat) ?_;rintro⟨a,b,l,k⟩ K ⟨j,f,r,p,g,u,q⟩ c;simp only at j f r p g u q;rw[show(QA κ).P=Pr κ from rfl];refine Eq.mpr (xAt κ ⟨a,b,l,k⟩ _ _ K) ?_;simp only[aW] at p;simp only[H3,Out.run,ad] at c;have h:(ag (af (nth a.ds b.toNat) 2)).length=(l6 a.ds b).length:=by simp[l6]
 rw[ad,an9,ao1];refine⟨fun d=>?_,fun d=>?_⟩
 ·simp only at d
  have s:k.toNat<l.length:=by omega
  have e:=eL l k.toNat s;have t:=QM (ds:=a.ds) (i:=b) (k:=k.toNat) (by omega);have o:jE ⟨a,b,l,k⟩=bif (a0 a (eI (nth l k.toNat)) (toInt (nth (ag (af (nth a.ds b.toNat) 2)) k.toNat))).1 then a0 a (eI (nth l k.toNat)) (toInt (nth (ag (af (nth a.ds b.toNat) 2)) k.toNat)) else jE ⟨dL a (a0 a (eI (nth l k.toNat)) (toInt (nth (ag (af (nth a.ds b.toNat) 2)) k.toNat))).2,b,l,k+1⟩:=by
   unfold jE a0;simp only[show(k+1).toNat=k.toNat+1 by omega];rw[e,t,jR,iC];rfl
  rw[e,bk] at q;rw[o] at c;simp only[ai,ao0,an9,h];refine⟨⟨g,d⟩,⟨j,f⟩,⟨g,by omega⟩,⟨a,eI (nth l k.toNat),toInt (nth (ag (af (nth a.ds b.toNat) 2)) k.toNat)⟩,rfl,by show(eI (nth l k.toNat)).tm.mP<=100000;rw[iC];omega,cE _ _,?_⟩;rw[jB,Ce,Bool.not_not,ad];refine⟨fun m=>?_,fun m=>?_⟩
  ·simp only[m,ao6] at c⊢
   exact c.1 trivial
  ·simp only[m,ao4] at c
   rw[az (n:=k+1) (by omega) (by omega)];refine⟨_,?_,⟨dL a (a0 a (eI (nth l k.toNat)) (toInt (nth (ag (af (nth a.ds b.toNat) 2)) k.toNat))).2,b,l,k+1⟩,rfl,⟨j,f,r,by simpa[aW] using p,by simp only;omega,by simp only;omega,?_⟩,rfl,?_⟩
   ·simp only;omega
   ·simp only[show(k+1).toNat=k.toNat+1 by omega];omega
   ·simp only[H3,Out.run,ad]
    exact c
 ·simp only at d
  have o:jE ⟨a,b,l,k⟩=(false,(a.es,a.more)):=by
   unfold jE;simp only;rw[ao7 (show l.length<=k.toNat by omega),ao7 (show(l6 a.ds b).length<=k.toNat by omega)];rfl
  rw[o] at c;exact c.2 rfl
noncomputable def ZK κ:=(QA κ).aq 180 7 (aG 2 Vm Nh (H3 κ))
theorem eYl κ:aE (ZK κ):=(eYw _).aq (mYw _) (lAt _)
theorem mYl κ:aj (ZK κ):=(mYw _).aq aI
theorem yAt κ a rel l K:(a9 (ZK κ) 12 180 [Ey, .agg [.lit (.string rel), .ah 38 l]] (bQ a) K)=(
 letI b:=AV.int
 letI c:=Pg.toProgram (Env.P (QA κ))
 ∃(e1:List AV×ByteArray),([AV.ah 43 a.ds,AV.str rel],aL)=([AV.ah 43 e1.1,AV.str e1.2],aL)/\iw e1/\ak (!Ee e1.2 e1.1) (K (AV.lit (Value.iface 273 (Value.pointer (some (Kp.fI κ))))) (bQ a)) (aR (decide ((0:Int)<=bw e1.2 e1.1)&&decide (bw e1.2 e1.1<(↑(a.ds.length):Int))) (ak ((↑(List.length (ag (af (nth a.ds (Int.toNat (bw e1.2 e1.1))) 2))):Int) != (↑(l.length):Int)) (K (AV.lit (Value.iface 273 (Value.pointer (some (Kp.arity κ))))) (bQ a)) (ae c 180 7=ae c 180 7/\∃(e0:AAt),letI d:=bQ (dL e0.a (Prod.snd (jE e0)));sp 65 [(0,AV.ptr 0 0 [] 0),(5,b (bw e1.2 e1.1)),(40,AV.ah 38 l),(41,b (↑(l.length):Int)),(42,b 0)] (bQ a)=sp 65 [(0,AV.ptr 0 0 [] 0),(5,b e0.fi),(40,AV.ah 38 e0.l),(41,b (↑(e0.l.length):Int)),(42,b e0.k)] (bQ e0.a)/\((0:Int)<=e0.fi/\e0.fi<(↑(List.length e0.a.ds):Int)/\List.length (l6 e0.a.ds e0.fi)=e0.l.length/\e0.l.length<=9223372036854775807/\(0:Int)<=e0.k/\e0.k<=(↑(e0.l.length):Int)/\bk (aa (List.drop e0.k.toNat e0.l))<=100000)/\ak (Prod.fst (jE e0)) (K (AV.lit (Value.iface 273 (Value.pointer (some (SV κ (53:Int)))))) d) (K (AV.lit Value.nilIface) d))))):=by kernel_rfl
def dz(a:ko) b l:=fg getM gB (cP a.ds) ⟨b,aa l⟩ (a.es,a.more)
abbrev WB:=ko×ByteArray×List AV
def XB(x:WB):=([Ey, .agg [.lit (.string x.2.1), .ah 38 x.2.2]],bQ x.1)
def Ou(x:WB):=x.1.ds.length<=aW/\bk (aa x.2.2)<=100000
noncomputable def PK(κ:Kp)(x:WB):Out (AV×List Dn.Obj):= .one (.lit (bf κ (dz x.1 x.2.1 x.2.2).1),bQ (dL x.1 (dz x.1 x.2.1 x.2.2).2))
theorem cAc κ:bg (ZK κ) 12 180 (aO XB Ou (PK κ)):=by
 refine aU ?_;rintro⟨a,c,l⟩ K ⟨h,n⟩ b;simp only at h n;refine Eq.mpr (yAt κ a c l K) ?_;simp only[PK,Out.run,dz,fg,K0] at b;have m:=gF (aa l);rw[eE] at m;refine⟨(a.ds,c),rfl,h,?_⟩;cases f:lb c (cP a.ds) with
 |none=>
  rw[(xm f).1] at b;simp only[(xm f).1];exact b
 | some k=>
  obtain⟨i,j,o⟩:=o7 f;rw[i,j,ye f] at b;have g:(ag (af (nth a.ds (Int.toNat (k:Int))) 2)).length=(l6 a.ds k).length:=by simp[l6]
  simp only[i,j,g,LU];refine ai.2 ⟨by simp;omega,?_⟩;cases d:decide ((l6 a.ds k).length=l.length) with
  |false=>
   rw[d] at b;rw[ao1] at d;rw[ao3 (show ¬ (((l6 a.ds k).length:Int)=(l.length:Int)) by omega)];exact b
  | true=>
   rw[d] at b;rw[an9] at d;rw[ao5 (show(((l6 a.ds k).length:Int)=(l.length:Int)) by omega)];refine⟨trivial,⟨a,k,l,0⟩,rfl,by grind,?_⟩;have hd:jE ⟨a,k,l,0⟩=jR getM gB (l6 a.ds k) (aa l) (a.es,a.more):=by
    unfold jE;simp only[Int.toNat_zero,ao9]
   rw[hd];simp only[ao6,decide_true] at b;rw[ad];refine⟨fun e=>by rw[e] at b;exact b,fun e=>by rw[e] at b;exact b⟩
noncomputable def EYa κ:=(ZK κ).aw 180 (aO XB Ou (PK κ))
theorem eYa κ:aE (EYa κ):=(eYl _).aw (mYl _) (cAc _)
theorem mYa κ:aj (EYa κ):=(mYl _).aw aH
theorem yLi(κ:Kp)(a:ko)(op:Int) rel l(u v:AT) K:(a9 (EYa κ) 12 181 [Ey, .agg [.int op, .agg [.lit (.string rel), .ah 38 l],dm u,dm v]] (bQ a) K)=(
 letI b:=AV.ptr 0 0 []
 letI c:=AV.int
 letI d:=AV.lit
 letI j:=∃(e3:ko×AT),letI n:=AT.tm e3.2;([b 0,dm u],(bQ a))=([b 0,dm e3.2],(bQ e3.1))/\True/\∃(e2:ko×AT),letI f:=if bG getM (AT.tm e2.2) e2.1.es>bG getM n e3.1.es then bG getM (AT.tm e2.2) e2.1.es else bG getM n e3.1.es;([b 0,dm v],(bQ e3.1))=([b 0,dm e2.2],(bQ e2.1))/\True/\∃(e1:pN),letI e:=bf κ (ib (Prod.fst (a0 e1.a e1.t e1.k)));letI g:=bQ (dL e1.a (Prod.snd (a0 e1.a e1.t e1.k)));([b 0,dm u,c f],(bQ e2.1))=([b 0,dm e1.t,c e1.k],(bQ e1.a))/\dj e1/\aR (aC e) (ak (!bO e) (K (d e) g) (∃(e0:pN),([b 0,dm v,c f],g)=([b 0,dm e0.t,c e0.k],(bQ e0.a))/\dj e0/\K (d (bf κ (ib (Prod.fst (a0 e0.a e0.t e0.k))))) (bQ (dL e0.a (Prod.snd (a0 e0.a e0.t e0.k))))))
 letI o:=∃(e0:WB),([b 0,AV.agg [AV.str rel,AV.ah 38 l]],(bQ a))=([b 0,AV.agg [AV.str e0.2.1,AV.ah 38 e0.2.2]],(bQ e0.1))/\
  (e0.1.ds.length<=9223372036854775807/\bk (aa e0.2.2)<=100000)/\K (d (bf κ (Prod.fst (dz e0.1 e0.2.1 e0.2.2)))) (bQ (dL e0.1 (Prod.snd (dz e0.1 e0.2.1
  e0.2.2))))
 letI h:=j/\j/\j
 ak (op==(3:Int)) h (ak (op==(4:Int)) h (ak (op==(5:Int)) h (ak (op==(6:Int)) h (ak (op==(1:Int)) o (ak (op==(2:Int)) o (∃(e2:WB),letI p:=dz e2.1 e2.2.1 e2.2.2;letI k:=bf κ (Prod.fst p);letI q:=bQ (dL e2.1 (Prod.snd p));([b 0,AV.agg [AV.str rel,AV.ah 38 l]],(bQ a))=([b 0,AV.agg [AV.str e2.2.1,AV.ah 38 e2.2.2]],(bQ e2.1))/\(e2.1.ds.length<=9223372036854775807/\bk (aa e2.2.2)<=100000)/\aR (aC k) (ak (!bO k) (K (d k) q) (∃(e1:pN),letI i:=bf κ (ib (Prod.fst (a0 e1.a e1.t e1.k)));letI m:=bQ (dL e1.a (Prod.snd (a0 e1.a e1.t e1.k)));([b 0,dm u,c 1],q)=([b 0,dm e1.t,c e1.k],(bQ e1.a))/\dj e1/\aR (aC i) (ak (!bO i) (K (d i) m) (ak (op==(7:Int)) (K (d i) m) (∃(e0:pN),([b 0,dm v,c 1],m)=([b 0,dm e0.t,c e0.k],(bQ e0.a))/\dj e0/\K (d (bf κ (ib (Prod.fst (a0 e0.a e0.t e0.k))))) (bQ (dL e0.a (Prod.snd (a0 e0.a e0.t e0.k)))))))))))))))):=by kernel_rfl
structure IS where
 a:ko
 op:Int
 rel:ByteArray
 l:List AV
 u:AT
 v:AT
def IS.lt(x:IS):Lt:=⟨x.op,⟨x.rel,aa x.l⟩,x.u.tm,x.v.tm⟩
def bV(x:IS):=kR getM gB (cP x.a.ds) x.lt (x.a.es,x.a.more)
def Zq(x:IS):=([Ey, .agg [.int x.op, .agg [.lit (.string x.rel), .ah 38 x.l],dm x.u,dm x.v]],bQ x.a)
def NK(x:IS):=x.a.ds.length<=aW/\jT x.lt<=100000
noncomputable def SY(κ:Kp)(x:IS):Out (AV×List Dn.Obj):= .one (.lit (bf κ (bV x).1),bQ (dL x.a (bV x).2))
def kd(a:ko)(u v:AT):=if bG getM v.tm a.es>bG getM u.tm a.es then bG getM v.tm a.es else bG getM u.tm a.es
theorem Zj(x:IS):lI getM x.lt x.a.es=kd x.a x.u x.v:=by
 unfold lI kd;show(bif decide (bG _ x.v.tm _>bG _ x.u.tm _) then _ else _)=_
 by_cases h:bG getM x.v.tm x.a.es>bG getM x.u.tm x.a.es
 ·rw[ao5 h,if_pos h];rfl
 ·rw[ao3 h,if_neg h];rfl
theorem AQ κ b:(!bO (bf κ (ib b)))=b:=by rw[jB,Ce,Bool.not_not]
theorem cLi κ:bg (EYa κ) 12 181 (aO Zq NK (SY κ)):=by
 refine aU ?_;rintro⟨a,op,c,l,u,v⟩ K ⟨s,o⟩ f;simp only at s;refine Eq.mpr (yLi κ a op c l u v K) ?_;have f:K (.lit (bf κ (bV ⟨a,op,c,l,u,v⟩).1)) (bQ (dL a (bV ⟨a,op,c,l,u,v⟩).2)):=f;have o:bk [u.tm,v.tm]+bk (aa l)<=100000:=o;simp only[bk] at o;have i:dj ⟨a,u,kd a u v⟩:=by show u.tm.mP<=100000;omega
 have g:dj ⟨dL a (a0 a u (kd a u v)).2,v,kd a u v⟩:=by show v.tm.mP<=100000;omega
 have k:gI op=true->bV ⟨a,op,c,l,u,v⟩=lu (a0 a u (kd a u v)) (v.tm.want getM gB (kd a u v)):=fun d=>by
  unfold bV kR;rw[Zj ⟨a,op,c,l,u,v⟩,show(IS.lt ⟨a,op,c,l,u,v⟩).op=op from rfl,d];rfl
 have h:gI op=true->(!bO (bf κ (ib (a0 a u (kd a u v)).1)))=true->K (.lit (bf κ (ib (a0 a u (kd a u v)).1))) (bQ (dL a (a0 a u (kd a u v)).2)):=fun d q=>by
  rw[AQ] at q;rw[k d] at f;unfold lu at f;rw[q] at f⊢;exact f
 have j:gI op=true->(!bO (bf κ (ib (a0 a u (kd a u v)).1)))=false->K (.lit (bf κ (ib (a0 (dL a (a0 a u (kd a u v)).2) v (kd a u v)).1))) (bQ (dL (dL a (a0 a u (kd a u v)).2) (a0 (dL a (a0 a u (kd a u v)).2) v (kd a u v)).2)):=fun d q=>by
  rw[AQ] at q;rw[k d] at f;unfold lu at f;rw[q] at f;exact f
 have n: ∀b:ko,b=a->(b.ds.length<=9223372036854775807/\bk (aa l)<=100000):=fun b D=>by subst D;exact⟨s,by omega⟩
 have x:gI op=false->(decide (op=1)||decide (op=2))=true->bV ⟨a,op,c,l,u,v⟩=dz a c l:=fun d p=>by
  unfold bV kR;rw[show(IS.lt ⟨a,op,c,l,u,v⟩).op=op from rfl,d,p];rfl
 refine ad.2 ⟨fun e=>by
   have d:gI op=true:=(by rw[show op=3 from eq_of_beq e];rfl)
   exact⟨⟨(a,u),rfl,trivial,(a,v),rfl,trivial,⟨a,u,_⟩,rfl,i,ai.2 ⟨cE _ _,ad.2 ⟨fun q=>h d q,fun q=>⟨⟨_,v,_⟩,rfl,g,j d q⟩⟩⟩⟩,
    ⟨(a,u),rfl,trivial,(a,v),rfl,trivial,⟨a,u,_⟩,rfl,i,ai.2 ⟨cE _ _,ad.2 ⟨fun q=>h d q,fun q=>⟨⟨_,v,_⟩,rfl,g,j d q⟩⟩⟩⟩,
    ⟨(a,u),rfl,trivial,(a,v),rfl,trivial,⟨a,u,_⟩,rfl,i,ai.2 ⟨cE _ _,ad.2 ⟨fun q=>h d q,fun q=>⟨⟨_,v,_⟩,rfl,g,j d q⟩⟩⟩⟩⟩,fun A=>ad.2 ⟨fun e=>by
   have d:gI op=true:=(by rw[show op=4 from eq_of_beq e];rfl)
   exact⟨⟨(a,u),rfl,trivial,(a,v),rfl,trivial,⟨a,u,_⟩,rfl,i,ai.2 ⟨cE _ _,ad.2 ⟨fun q=>h d q,fun q=>⟨⟨_,v,_⟩,rfl,g,j d q⟩⟩⟩⟩,
    ⟨(a,u),rfl,trivial,(a,v),rfl,trivial,⟨a,u,_⟩,rfl,i,ai.2 ⟨cE _ _,ad.2 ⟨fun q=>h d q,fun q=>⟨⟨_,v,_⟩,rfl,g,j d q⟩⟩⟩⟩,
    ⟨(a,u),rfl,trivial,(a,v),rfl,trivial,⟨a,u,_⟩,rfl,i,ai.2 ⟨cE _ _,ad.2 ⟨fun q=>h d q,fun q=>⟨⟨_,v,_⟩,rfl,g,j d q⟩⟩⟩⟩⟩,fun B=>ad.2 ⟨fun e=>by
   have d:gI op=true:=(by rw[show op=5 from eq_of_beq e];rfl)
   exact⟨⟨(a,u),rfl,trivial,(a,v),rfl,trivial,⟨a,u,_⟩,rfl,i,ai.2 ⟨cE _ _,ad.2 ⟨fun q=>h d q,fun q=>⟨⟨_,v,_⟩,rfl,g,j d q⟩⟩⟩⟩,
    ⟨(a,u),rfl,trivial,(a,v),rfl,trivial,⟨a,u,_⟩,rfl,i,ai.2 ⟨cE _ _,ad.2 ⟨fun q=>h d q,fun q=>⟨⟨_,v,_⟩,rfl,g,j d q⟩⟩⟩⟩,
    ⟨(a,u),rfl,trivial,(a,v),rfl,trivial,⟨a,u,_⟩,rfl,i,ai.2 ⟨cE _ _,ad.2 ⟨fun q=>h d q,fun q=>⟨⟨_,v,_⟩,rfl,g,j d q⟩⟩⟩⟩⟩,fun E=>ad.2 ⟨fun e=>by
   have d:gI op=true:=(by rw[show op=6 from eq_of_beq e];rfl)
   exact⟨⟨(a,u),rfl,trivial,(a,v),rfl,trivial,⟨a,u,_⟩,rfl,i,ai.2 ⟨cE _ _,ad.2 ⟨fun q=>h d q,fun q=>⟨⟨_,v,_⟩,rfl,g,j d q⟩⟩⟩⟩,
    ⟨(a,u),rfl,trivial,(a,v),rfl,trivial,⟨a,u,_⟩,rfl,i,ai.2 ⟨cE _ _,ad.2 ⟨fun q=>h d q,fun q=>⟨⟨_,v,_⟩,rfl,g,j d q⟩⟩⟩⟩,
    ⟨(a,u),rfl,trivial,(a,v),rfl,trivial,⟨a,u,_⟩,rfl,i,ai.2 ⟨cE _ _,ad.2 ⟨fun q=>h d q,fun q=>⟨⟨_,v,_⟩,rfl,g,j d q⟩⟩⟩⟩⟩,fun z=>?_⟩⟩⟩⟩
 simp only[beq_eq_false_iff_ne] at A B E z;have d:gI op=false:=by
  unfold gI;rw[Bool.and_eq_false_iff,ao1,ao1];omega
 refine ad.2 ⟨fun e=>⟨(a,c,l),rfl,n a rfl,?_⟩,fun w=>ad.2 ⟨fun e=>⟨(a,c,l),rfl,n a rfl,?_⟩,fun t=>?_⟩⟩
 ·rw[x d (by rw[show op=1 by simpa using e];rfl)] at f;exact f
 ·rw[x d (by rw[show op=2 by simpa using e];rfl)] at f;exact f
 simp only[beq_eq_false_iff_ne] at w t;have C:bV ⟨a,op,c,l,u,v⟩=bif !decide ((dz a c l).1=0) then dz a c l
   else bif decide (op=7) then(ib (a0 (dL a (dz a c l).2) u 1).1,(a0 (dL a (dz a c l).2) u 1).2)
   else lu (a0 (dL a (dz a c l).2) u 1) (v.tm.want getM gB 1):=by
  unfold bV kR;rw[show(IS.lt ⟨a,op,c,l,u,v⟩).op=op from rfl,d,ao3 w,ao3 t];rfl
 rw[C] at f;refine⟨(a,c,l),rfl,n a rfl,ai.2 ⟨cE _ _,?_⟩⟩;rw[jB];refine ad.2 ⟨fun q=>?_,fun q=>?_⟩
 ·rw[q] at f;exact f
 ·rw[q,ao4] at f
  refine⟨⟨dL a (dz a c l).2,u,1⟩,rfl,by show u.tm.mP<=100000;omega,ai.2 ⟨cE _ _,?_⟩⟩;rw[AQ];refine ad.2 ⟨fun m=>?_,fun m=>ad.2 ⟨fun r=>?_,fun r=>⟨⟨dL (dL a (dz a c l).2) (a0 (dL a (dz a c l).2) u 1).2,v,1⟩,rfl,by show v.tm.mP<=100000;omega,?_⟩⟩⟩
  ·have m:(a0 (dL a (dz a c l).2) u 1).1=true:=m
   unfold lu at f;rw[m] at f;simp only[m];cases y:decide (op=7)<;>rw[y] at f<;>exact f
  ·rw[show decide (op=7)=true by simpa using r] at f
   exact f
  ·have m:(a0 (dL a (dz a c l).2) u 1).1=false:=m
   rw[show decide (op=7)=false by simpa using r,ao4] at f;unfold lu at f;rw[m] at f;exact f
noncomputable def Xz κ:=(EYa κ).aw 181 (aO Zq NK (SY κ))
theorem eYt κ:aE (Xz κ):=(eYa _).aw (mYa _) (cLi _)
theorem mYt κ:aj (Xz κ):=(mYa _).aw aH
theorem yCo κ v K:(a9 (Xz κ) 12 153 [.lit v] [] K)=(
 letI a:=Value.iface 273 (Value.pointer (some (Kp.arity κ)))
 letI b:=Value.iface 273 (Value.pointer (some (Kp.type κ)))
 letI c:=Value.iface 273 (Value.pointer (some (Kp.fI κ)))
 aR (kX κ v&&l5 κ c) (ak (gJ v c) (K (AV.int 51) []) (aR (kX κ v&&l5 κ a) (ak (gJ v a) (K (AV.int 52) []) (aR (kX κ v&&l5 κ b) (ak (gJ v b) (K
 (AV.int 53) []) (K (AV.int 0) []))))))):=by kernel_rfl
noncomputable def R1(κ:Kp)(v:Value):Int:=bif gJ v (bf κ 51) then 51 else bif gJ v (bf κ 52) then 52 else bif gJ v (bf κ 53) then 53 else 0
theorem NS κ{e}(h:jU e):R1 κ (bf κ e)=e:=by
 unfold R1;rw[iy _ h (.inr (.inl rfl)),iy _ h (.inr (.inr (.inl rfl))),iy _ h (.inr (.inr (.inr rfl)))];rcases h with rfl|rfl|rfl|rfl<;>rfl
noncomputable def gCo(κ:Kp):List AV->Option (Bool×AV)
 |[.lit v]=>some (kX κ v, .int (R1 κ v))
 |_=>none
theorem pCo κ:cg (Xz κ) 12 153 (gCo κ):=by
 intro h x b;unfold gCo at b;split at b
 ·simp only[ao2,ao8] at b
  obtain⟨i,rfl⟩:=b;refine⟨_,rfl,rfl,?_⟩;obtain⟨e,a,rfl⟩:=(wh _ _).1 i;refine Eq.mpr (yCo κ _ _) ?_;rw[NS κ a];have d: ∀k,wv k->(kX κ (bf κ e)&&l5 κ (bf κ k))=true:=fun k j=>by grind [Bh,BZ]
  have c:Value.iface 273 (.pointer (some κ.fI))=bf κ 51:=rfl;have f:Value.iface 273 (.pointer (some κ.arity))=bf κ 52:=rfl;have g:Value.iface 273 (.pointer (some κ.type))=bf κ 53:=rfl;rw[c,f,g,d _ (.inl rfl),d _ (.inr (.inl rfl)),d _ (.inr (.inr rfl)),iy κ a (.inr (.inl rfl)),iy κ a (.inr (.inr (.inl rfl))),iy κ a (.inr (.inr (.inr rfl)))];rcases a with rfl|rfl|rfl|rfl<;>rfl
 ·cases b
noncomputable def SF κ:=(Xz κ).aK 153 (gCo κ)
theorem eYc κ:aE (SF κ):=(eYt _).aK (mYt _) (pCo _)
theorem mYc κ:aj (SF κ):=(mYt _).aK
structure W0 where
 a:ko
 w:Int
 bl:List AV
 i:Int
noncomputable abbrev SB κ(x:W0):=sp 52 [(0,Ey),(5, .lit (bf κ x.w)),(14, .ah 80 x.bl),(15, .int x.bl.length),(16, .int x.i)] (bQ x.a)
theorem xPa(κ:Kp)(x:W0) I n K:(vc (SF κ) 12 152 none 2 (ae (Pr κ).toProgram 152 3) (SB κ x) (bj (SF κ) 152 3 2 I n K))=(
 letI a:=AV.ptr 0 0 []
 letI b:=AV.int
 letI c:=AV.agg
 letI d:=AV.str
 letI e:=AV.lit
 letI f:=Exit.ret
 letI g:=AV.ah
 letI k:=Value.iface 273 (Value.pointer (some (Kp.arity κ)))
 letI l:=Value.iface 273 (Value.pointer (some (Kp.fI κ)))
 letI j:=nth x.bl x.i.toNat
 letI q:=IntKind.wrap IntKind.i64 (x.i+(1:Int))
 letI o:=x.bl.length
 letI r:=Value.iface 273 (Value.pointer (some (Kp.type κ)))
 letI s:=kX κ (bf κ x.w)&&l5 κ l
 letI t:=kX κ (bf κ x.w)&&l5 κ k
 ak (decide (x.i<(↑o:Int))) (aR (decide ((0:Int)<=x.i)&&decide (x.i<(↑o:Int))) (∃(e1:IS),letI h:=bf κ (Prod.fst (bV e1));letI i:=bQ (dL e1.a (Prod.snd (bV e1)));letI p:=aR (kX κ h&&l5 κ l) (ak (gJ h l) (K f (sp 52 [(4,e h)] i)) (aR (kX κ h&&l5 κ k) (ak (gJ h k) (K f (sp 52 [(4,e h)] i)) (∃(e0:Nat),e0<n/\I e0 (sp 52 [(0,a 0),(5,e h),(14,g 80 x.bl),(15,b (↑o:Int)),(16,b q)] i)))));letI m:=aR s (ak (gJ (bf κ x.w) l) (K f (sp 52 [(4,e (bf κ x.w))] i)) (aR t (ak (gJ (bf κ x.w) k) (K f (sp 52 [(4,e (bf κ x.w))] i)) (∃(e0:Nat),e0<n/\I e0 (sp 52 [(0,a 0),(5,e (bf κ x.w)),(14,g 80 x.bl),(15,b (↑o:Int)),(16,b q)] i)))));([a 0,c [b (toInt (af j 0)),c [d (toStr (af (af j 1) 0)),g 38 (ag (af (af j 1) 1))],c [b (toInt (af (af j 2) 0)),d (toStr (af (af j 2) 1)),b (toInt (af (af j 2) 2)),g 38 (ag (af (af j 2) 3))],c [b (toInt (af (af j 3) 0)),d (toStr (af (af j 3) 1)),b (toInt (af (af j 3) 2)),g 38 (ag (af (af j 3) 3))]]],(bQ x.a))=([a 0,c [b e1.op,c [d e1.rel,g 38 e1.l],c [b e1.u.op,d e1.u.s,b e1.u.n,g 38 e1.u.l],c [b e1.v.op,d e1.v.s,b e1.v.n,g 38 e1.v.l]]],(bQ e1.a))/\(List.length e1.a.ds<=9223372036854775807/\jT (IS.lt e1)<=100000)/\aR (aC (bf κ x.w)) (ak (bO (bf κ x.w)) p (aR (kX κ (bf κ x.w)&&l5 κ r) (ak (gJ (bf κ x.w) r) (aR (kX κ h&&l5 κ l) (ak (gJ h l) p (aR (kX κ h&&l5 κ k) (ak (gJ h k) p m)))) m))))) (K (Exit.exit 0) (sp 52 [(5,e (bf κ x.w))] (bQ x.a)))):=by kernel_rfl
def jb(a:ko)(x:AV):IS:=⟨a,toInt (af x 0),toStr (af (af x 1) 0),ag (af (af x 1) 1),eI (af x 2),eI (af x 3)⟩
theorem D3 a x:(jb a x).lt=cZ x:=by
 unfold IS.lt jb;simp[iC];rfl
theorem ql{σ get set} ds l(x:σ×Bool):jU (kR get set ds l x).1:=by
 have b: ∀e,(e=0\/e=51\/e=52)->jU e:=fun e h=>by
  rcases h with rfl|rfl|rfl
  ·exact .inl rfl
  ·exact .inr (.inl rfl)
  ·exact .inr (.inr (.inl rfl))
 have a:jU 53:= .inr (.inr (.inr rfl))
 grind [jU,lu,sJ,fg,known,tq,kR]
theorem ug{σ get set} ds a(x:σ×Bool):jU (fg get set ds a x).1:=by
 have h:=ql (get:=get) (set:=set) ds ⟨1,a, .mk 0 ByteArray.empty 0 [], .mk 0 ByteArray.empty 0 []⟩ x;exact h
theorem ud{w e}(b:jU w)(a:jU e):jU (iN w e):=by
 grind [iN]
theorem uu{σ get set} ds: ∀b (y:Int×σ×Bool),jU y.1->jU (kj get set ds b y).1
 |[],_,h=>h
 |l::b,y,h=>by
  rw[kj];have:=ud h (ql (get:=get) (set:=set) ds l y.2)
  cases vW _ with
  |true=>grind
  |false=>exact uu _ b _ this
def lM(x:W0):=kj getM gB (cP x.a.ds) (dv (x.bl.drop x.i.toNat)) (x.w,(x.a.es,x.a.more))
def Gb(x:W0):=x.a.ds.length<=aW/\jU x.w/\x.bl.length<=100000/\(∀l,l∈x.bl->jT (cZ l)<=100000)/\0<=x.i/\x.i<=x.bl.length
noncomputable def MJ(κ:Kp)(x:W0):Out (Exit×S):= .all (fun _=>True) fun b=> .ak b (.one (.ret,sp 52 [(4, .lit (bf κ (lM x).1))] (bQ (dL x.a (lM x).2)))) (.one (.exit 0,sp 52 [(5, .lit (bf κ (lM x).1))] (bQ (dL x.a (lM x).2))))
theorem lPa κ:aX (SF κ) 12 152 3 (aG 2 (SB κ) Gb (MJ κ)):=by
 refine aD (fun x=>x.bl.length - x.i.toNat) ?_;rintro⟨a,w,c,i⟩ K ⟨o,h,v,t,B,z⟩ u;simp only at o h v t B z;rw[show(SF κ).P=Pr κ from rfl];refine Eq.mpr (xPa κ ⟨a,w,c,i⟩ _ _ K) ?_;have f:=u true trivial;have d:=u false trivial;simp only[Out.run,ak] at f d;rw[ad,an9,ao1];refine⟨fun k=>?_,fun k=>?_⟩
 ·simp only at k
  have l:i.toNat<c.length:=by omega
  have j:lM ⟨a,w,c,i⟩=bif vW (iN w (bV (jb a (nth c i.toNat))).1) then(iN w (bV (jb a (nth c i.toNat))).1,(bV (jb a (nth c i.toNat))).2) else lM ⟨dL a (bV (jb a (nth c i.toNat))).2,iN w (bV (jb a (nth c i.toNat))).1,c,i+1⟩:=by
   unfold lM bV;simp only[show(i+1).toNat=i.toNat+1 by omega];rw[nY c i.toNat l,kj,D3];rfl
  have g:jU (bV (jb a (nth c i.toNat))).1:=ql _ _ _;have q:jT (cZ (nth c i.toNat))<=100000:=t _ (by rw[aV _ _ l];exact List.getElem_mem l);have R:vW (iN w (bV (jb a (nth c i.toNat))).1)=true->K .ret (sp 52 [(4, .lit (bf κ (iN w (bV (jb a (nth c i.toNat))).1)))] (bQ (dL a (bV (jb a (nth c i.toNat))).2))):=fun e=>by
   rw[j,e,ao6] at f;exact f
  have N:vW (iN w (bV (jb a (nth c i.toNat))).1)=false->∃m,m<c.length - i.toNat/\et (SB κ) Gb (MJ κ) (fun x=>x.bl.length - x.i.toNat) K m (sp 52 [(0,Ey),(5, .lit (bf κ (iN w (bV (jb a (nth c i.toNat))).1))),(14, .ah 80 c),(15, .int c.length),(16, .int (IntKind.wrap .i64 (i+1)))] (bQ (dL a (bV (jb a (nth c i.toNat))).2))):=fun e=>by
   rw[j,e,ao4] at f d;rw[az (n:=i+1) (by omega) (by omega)];refine⟨_,?_,⟨dL a (bV (jb a (nth c i.toNat))).2,iN w (bV (jb a (nth c i.toNat))).1,c,i+1⟩,rfl,⟨o,ud h g,v,t,by simp only;omega,by simp only;omega⟩,rfl,?_⟩
   ·simp only;omega
   ·intro b _
    cases b
    ·exact d
    ·exact f
  refine ai.2 ⟨by simp;omega,jb a (nth c i.toNat),rfl,⟨o,by rw[D3];exact q⟩,?_⟩;have p:Value.iface 273 (.pointer (some κ.fI))=bf κ 51:=rfl;have s:Value.iface 273 (.pointer (some κ.arity))=bf κ 52:=rfl;have r:Value.iface 273 (.pointer (some κ.type))=bf κ 53:=rfl;have A:(jb a (nth c i.toNat)).a=a:=rfl;simp only[p,s,r,A,cE,jB]
  revert R N g
  generalize bV (jb a (nth c i.toNat))=y
  intro g R N;simp only[Bh κ g,Bh κ h,BZ κ (show wv 51 from .inl rfl),BZ κ (show wv 52 from .inr (.inl rfl)),BZ κ (show wv 53 from .inr (.inr rfl)),iy κ g (show jU 51 from .inr (.inl rfl)),iy κ g (show jU 52 from .inr (.inr (.inl rfl))),iy κ h (show jU 51 from .inr (.inl rfl)),iy κ h (show jU 52 from .inr (.inr (.inl rfl))),iy κ h (show jU 53 from .inr (.inr (.inr rfl)))];obtain⟨e,C⟩:=y;simp only at g R N⊢;rcases h with rfl|rfl|rfl|rfl<;>rcases g with rfl|rfl|rfl|rfl<;>first|exact R rfl|exact N rfl
 ·simp only at k
  have j:lM ⟨a,w,c,i⟩=(w,(a.es,a.more)):=by
   unfold lM;simp only;rw[ao7 (by omega)];rfl
  rw[j] at d;exact d
noncomputable def YW κ:=(SF κ).aq 152 3 (aG 2 (SB κ) Gb (MJ κ))
theorem eYq κ:aE (YW κ):=(eYc _).aq (mYc _) (lPa _)
theorem mYq κ:aj (YW κ):=(mYc _).aq aI
theorem yPa κ a r K:(a9 (YW κ) 12 152 [Ey,au r] (bQ a) K)=(
 letI b:=AV.ptr 0 0 []
 letI c:=Pg.toProgram (Env.P (SF κ))
 ∃(e2:WB),([b 0,AV.agg [AV.str r.rel,AV.ah 38 r.hl]],(bQ a))=([b 0,AV.agg [AV.str e2.2.1,AV.ah 38 e2.2.2]],(bQ e2.1))/\(e2.1.ds.length<=9223372036854775807/\bk (aa e2.2.2)<=100000)/\ae c 152 3=ae c 152 3/\∃(e1:W0),letI d:=K (AV.lit (bf κ (Prod.fst (lM e1)))) (bQ (dL e1.a (Prod.snd (lM e1))));sp 52 [(0,b 0),(5,AV.lit (bf κ (Prod.fst (dz e2.1 e2.2.1 e2.2.2)))),(14,AV.ah 80 r.bl),(15,AV.int (↑(r.bl.length):Int)),(16,AV.int 0)] (bQ (dL e2.1 (Prod.snd (dz e2.1 e2.2.1 e2.2.2))))=sp 52 [(0,b 0),(5,AV.lit (bf κ e1.w)),(14,AV.ah 80 e1.bl),(15,AV.int (↑(e1.bl.length):Int)),(16,AV.int e1.i)] (bQ e1.a)/\(List.length e1.a.ds<=9223372036854775807/\(e1.w=(0:Int)\/e1.w=(51:Int)\/e1.w=(52:Int)\/e1.w=(53:Int))/\e1.bl.length<=100000/\(∀(e0:AV),List.Mem e0 e1.bl->jT (cZ e0)<=100000)/\(0:Int)<=e1.i/\e1.i<=(↑(e1.bl.length):Int))/\∀(e0:Bool),True->ak e0 d d):=by kernel_rfl
abbrev Yv:=ko×dk
def mH(x:Yv):=kj getM gB (cP x.1.ds) (dv x.2.bl) (fg getM gB (cP x.1.ds) ⟨x.2.rel,aa x.2.hl⟩ (x.1.es,x.1.more))
def Zf(x:Yv):=([Ey,au x.2],bQ x.1)
def PW(x:Yv):=x.1.ds.length<=aW/\c9 x.2
noncomputable def Ua(κ:Kp)(x:Yv):Out (AV×List Dn.Obj):= .one (.lit (bf κ (mH x).1),bQ (dL x.1 (mH x).2))
theorem cPs κ:bg (YW κ) 12 152 (aO Zf PW (Ua κ)):=by
 refine aU ?_;rintro⟨a,r⟩ K ⟨g,d⟩ f;simp only at g d;refine Eq.mpr (yPa κ a r K) ?_;have c: ∀l,l∈r.bl->jT (cZ l)<=100000:=fun l i=>by
  obtain⟨k,h,e⟩:=List.getElem_of_mem i;have:=lq d h
  rwa [aV _ _ h,e] at this
 have j:mH (a,r)=lM ⟨dL a (dz a r.rel r.hl).2,(dz a r.rel r.hl).1,r.bl,0⟩:=by
  rfl
 have f:K (.lit (bf κ (mH (a,r)).1)) (bQ (dL a (mH (a,r)).2)):=f;rw[j] at f;refine⟨(a,r.rel,r.hl),rfl,⟨g,po d⟩,rfl,⟨dL a (dz a r.rel r.hl).2,(dz a r.rel r.hl).1,r.bl,0⟩,rfl,⟨g,ug _ _ _,d.2,c,by simp only;omega,by simp only;omega⟩,fun b _=>?_⟩;cases b<;>exact f
noncomputable def Qi κ:=(YW κ).aw 152 (aO Zf PW (Ua κ))
theorem eYs κ:aE (Qi κ):=(eYq _).aw (mYq _) (cPs _)
theorem mYs κ:aj (Qi κ):=(mYq _).aw aH
end Go.Proofs.YtioeffnadipbaaaGreatDoor
namespace Go.Rl
open Go Go.Dn
section
variable {σ:Type} {get:σ->ByteArray->Int} {set:σ->ByteArray->Int->σ}
variable (hgs: ∀st s k t,get (set st s k) t=bif t==s then k else get st t)
include hgs
theorem tp ds{r}(a:ba r=true) V(g: ∀s,s∈fD r->s∈V) st(c:(fm get set ds r st).1=0)(b:(fm get set ds r st).2.2=true):mu get V (fm get set ds r st).2.1<mu get V st:=by
 have d:jm ds r=0:=by
  grind [jm,DS]
 simp only[ba,ao0,List.all_eq_true] at a;have e:=MC   ds  (uU a.1.1.1) (fun l f=>VR (a.2 l f)) d st c;rw[e] at b⊢;exact zz (GJ hgs ds r st) V ((Gi hgs ds r st b).left (Ext.refl _ _) g)
theorem oJ ds{r}(b:ba r=true) V(a: ∀s,s∈fD r->s∈V): ∀n m st,mu get V st<n->mu get V st<m->fR get set ds r n st=fR get set ds r m st
 |0,_,_,h,_=>by omega
 |_+1,0,_,_,h=>by omega
 | n+1,m+1,st,d,f=>by
  rw[fR,fR];cases e:decide ((fm get set ds r st).1=0) with
  |false=>rfl
  | true=>
   cases c:(fm get set ds r st).2.2 with
   |false=>rfl
   |true=>
    have:=tp hgs ds b V a st (by grind) c
    exact oJ ds b V a n m _ (by omega) (by omega)
end
end Go.Rl
namespace Go.Proofs.YtioeffnadipbaaaGreatDoor
open Go Go.Dn Go.Rl Go.Proofs
attribute [local irreducible] a9 vc
set_option maxRecDepth 20000
structure uO where
 ds:List AV
 r:dk
 es:List (Value×AV)
 more:Bool
abbrev Rz(x:uO):=sp 60 [(3, .ptr 0 0 [] 0),(6, .ptr 1 0 [] 0)] [.box 48 (au x.r), .box 219 (.agg [.ah 43 x.ds, .mp 2, .bool x.more]), .map 9 3 x.es]
theorem xTy κ x I n K:(vc (Qi κ) 12 106 none 0 (ae (Pr κ).toProgram 106 4) (Rz x) (bj (Qi κ) 106 4 0 I n K))=(
 letI b:=AV.ptr 0 0 []
 letI c:=AV.bool
 letI d:=Obj.box
 letI e:=Dn.Obj.map
 ak x.more (∃(a:Yv),letI f:=bf κ (Prod.fst (mH a));letI g:=dL a.1 (Prod.snd (mH a));([b 0,au x.r],[d 219 (AV.agg [AV.ah 43 x.ds,AV.mp 1,c false]),e 9 3 x.es])=([b 0,au a.2],[d 219 (AV.agg [AV.ah 43 a.1.ds,AV.mp 1,c a.1.more]),e 9 3 a.1.es])/\(a.1.ds.length<=9223372036854775807/\bk (aa (bo 38 a.2.hl a.2.bl))<=100000/\a.2.bl.length<=100000)/\aR (aC f) (ak (!bO f) (aR (kX κ f) (K Exit.ret (sp 60 [(4,AV.nil),(5,AV.int (R1 κ f))] []))) (∃(m:Nat),m<n/\I m (sp 60 [(3,b 0),(6,AV.ptr 1 0 [] 0)] [d 48 (au x.r),d 219 (AV.agg [AV.ah 43 (ko.ds g),AV.mp 2,c (ko.more g)]),e 9 3 (ko.es g)])))) (K (Exit.exit 0) (sp 60 [(3,b 0),(6,AV.ptr 1 0 [] 0)] [d 48 (au x.r),d 219 (AV.agg [AV.ah 43 x.ds,AV.mp 2,c x.more]),e 9 3 x.es]))):=by kernel_rfl
abbrev dsR(x:uO):List Dc:=cP x.ds
def zTy(x:uO):=mu getM (de (aM x.r)) x.es
def aj5 x:=fR getM gB (dsR x) (aM x.r) (zTy x+1) x.es
def gH x:=bif x.more then aj5 x else(0,x.es)
def M9(x:uO):=ba (aM x.r)=true/\x.ds.length<=aW/\c9 x.r
def Iu(x:uO):Out (Exit×S):= .ak (decide ((gH x).1=0)) (.one (.exit 0,Rz ⟨x.ds,x.r,(gH x).2,false⟩)) (.one (.ret,sp 60 [(4, .nil),(5, .int (gH x).1)] []))
theorem Dm ds r a:jU (fm getM gB ds r a).1:=uu _ _ _ (ug _ _ _)
theorem lTy κ:aX (Qi κ) 12 106 4 (aG 0 Rz M9 Iu):=by
 refine aD (fun x=>bif x.more then zTy x+1 else 0) ?_;rintro⟨ds,r,a,b⟩ K ⟨c,g,f⟩ e;simp only at c g f;rw[show(Qi κ).P=Pr κ from rfl];refine Eq.mpr (xTy κ ⟨ds,r,a,b⟩ _ _ K) ?_;simp only[Iu,Out.run,ad] at e;cases b with
 |false=>exact e.1 rfl
 | true=>
  have m:mH (⟨ds,a,false⟩,r)=fm getM gB (cP ds) (aM r) a:=rfl;have h: ∀s,s∈fD (aM r)->s∈de (aM r):=fun s l=>(zV c).2 l
  have j:=Dm (cP ds) (aM r) a;have k:gH ⟨ds,r,a,true⟩=bif decide ((fm getM gB (cP ds) (aM r) a).1=0) then gH ⟨ds,r,(fm getM gB (cP ds) (aM r) a).2.1,(fm getM gB (cP ds) (aM r) a).2.2⟩ else((fm getM gB (cP ds) (aM r) a).1,(fm getM gB (cP ds) (aM r) a).2.1):=by
   have e0:gH ⟨ds,r,a,true⟩=fR getM gB (cP ds) (aM r) (zTy ⟨ds,r,a,true⟩+1) a:=rfl;rw[e0,fR];cases d:decide ((fm getM gB (cP ds) (aM r) a).1=0) with
   |false=>rfl
   | true=>
    rw[ao6,ao6];unfold gH;cases i:(fm getM gB (cP ds) (aM r) a).2.2 with
    |false=>rfl
    |true=>
     rw[ao6];have:=tp og (cP ds) c _ h a (by simpa using d) i
     exact oJ og (cP ds) c _ h _ _ _ this (Nat.lt_succ_self _)
  refine⟨(⟨ds,a,false⟩,r),rfl,⟨g,f⟩,?_⟩;rw[m];refine ai.2 ⟨cE _ _,?_⟩;rw[jB];cases d:decide ((fm getM gB (cP ds) (aM r) a).1=0) with
  |false=>
   rw[k,d,ao4] at e;refine ai.2 ⟨Bh κ j,?_⟩;rw[NS κ j];exact e.2 d
  | true=>
   rw[k,d,ao6] at e;refine⟨_,?_,⟨ds,r,(fm getM gB (cP ds) (aM r) a).2.1,(fm getM gB (cP ds) (aM r) a).2.2⟩,rfl,⟨c,g,f⟩,rfl,?_⟩
   ·simp only
    cases i:(fm getM gB (cP ds) (aM r) a).2.2 with
    |false=>exact Nat.succ_pos _
    |true=>
     have:=tp og (cP ds) c _ h a (by simpa using d) i
     exact Nat.succ_lt_succ this
   ·simp only[Iu,Out.run,ad]
    exact e
noncomputable def SE κ:=(Qi κ).aq 106 4 (aG 0 Rz M9 Iu)
theorem eYv κ:aE (SE κ):=(eYs _).aq (mYs _) (lTy _)
theorem mYv κ:aj (SE κ):=(mYs _).aq aI
def iA(l:List Int):List AV:=l.map fun k=> .lit (.int .i64 k)
theorem jw l:(iA l).length=l.length:=by simp[iA]
theorem w8 l m:iA (l++m)=iA l++iA m:=by simp[iA]
structure W6 where
 ds:List AV
 es:List (Value×AV)
 o:List Int
 vs:List ByteArray
 i:Int
abbrev RO(x:W6):=sp 60 [(6, .ptr 0 0 [] 0),(8, .an 2 0 (iA x.o).length),(36, .an 3 0 x.vs.length),(37, .int x.vs.length),(38, .int x.i)] [.box 219 (.agg [.ah 43 x.ds, .mp 1, .bool false]), .map 9 3 x.es, .row 3 (iA x.o), .row 9 (strs x.vs)]
theorem xTz κ ds es o vs i I n K:(vc (SE κ) 12 106 none 0 (ae (Pr κ).toProgram 106 11) (sp 60 [(6, .ptr 0 0 [] 0),(8, .an 2 0 o.length),(36, .an 3 0 vs.length),(37, .int vs.length),(38, .int i)] [.box 219 (.agg [.ah 43 ds, .mp 1, .bool false]), .map 9 3 es, .row 3 o, .row 9 vs]) (bj (SE κ) 106 11 0 I n K))=(
 letI a:=AV.int
 letI b:=cX es (Value.string (toStr (nth vs (0+i.toNat)))) (a 0)
 letI c:=i<(↑(vs.length):Int)
 ak (decide c) (aR (decide ((0:Int)<=i)&&decide c) (ak (toInt b==(0:Int)) (K Exit.ret (sp 60 [(4,AV.nil),(5,a 53)] [])) (aR (decide
 ((o.length+1+1)*9<=70368744177664)) (∃(e0:Nat),e0<n/\I e0 (sp 60 [(6,AV.ptr 0 0 [] 0),(8,AV.an 2 0 (o.length+1)),(36,AV.an 3 0 vs.length),
 (37,a (↑(vs.length):Int)),(38,a (IntKind.wrap IntKind.i64 (i+(1:Int))))] [Obj.box 219 (AV.agg [AV.ah 43 ds,AV.mp 1,AV.bool false]),
 Dn.Obj.map 9 3 es,Obj.row 3 (List.take o.length o++[a (toInt b)]),Obj.row 9 vs]))))) (K (Exit.exit 2) (sp 60 [(8,AV.an 0 0 o.length)] [Obj.row 3 o]))):=by kernel_rfl
def mf(x:W6):=x.vs.drop x.i.toNat
def uc x:=(mf x).all fun s=>!decide (getM x.es s=0)
def Ps(x:W6):=x.vs.length<=100000/\x.o.length<=x.i.toNat/\0<=x.i/\x.i<=x.vs.length
def Ip(x:W6):Out (Exit×S):= .ak (uc x) (.one (.exit 2,sp 60 [(8, .an 0 0 (iA (x.o++(mf x).map (getM x.es))).length)] [.row 3 (iA (x.o++(mf x).map (getM x.es)))])) (.one (.ret,sp 60 [(4, .nil),(5, .int 53)] []))
theorem lTz κ:aX (SE κ) 12 106 11 (aG 0 RO Ps Ip):=by
 refine aD (fun x=>x.vs.length - x.i.toNat) ?_;rintro⟨ds,a,o,vs,i⟩ K ⟨h,m,f,k⟩ b;simp only at h m f k;rw[show(SE κ).P=Pr κ from rfl];have e0:(⟨ds,a,o,vs,i⟩:W6).vs.length=(strs vs).length:=(bd vs).symm;simp only[RO,e0];refine Eq.mpr (xTz κ ds a (iA o) (strs vs) i _ _ K) ?_;simp only[Ip,Out.run,ad] at b;simp only[bd];rw[ad,an9,ao1,ai,ao0,an9,an9];refine⟨fun g=>⟨⟨f,g⟩,?_⟩,fun g=>?_⟩
 ·have j:i.toNat<vs.length:=by omega
  have c:mf ⟨ds,a,o,vs,i⟩=vs[i.toNat]::mf ⟨ds,a,o++[getM a vs[i.toNat]],vs,i+1⟩:=by
   unfold mf;simp only[show(i+1).toNat=i.toNat+1 by omega];exact ap0 j
  have d:uc ⟨ds,a,o,vs,i⟩=(!decide (getM a vs[i.toNat]=0)&&uc ⟨ds,a,o++[getM a vs[i.toNat]],vs,i+1⟩):=by
   unfold uc;rw[c,List.all_cons]
  rw[Nat.zero_add,wE vs _ j,Xd];have l:toInt (cX a (Value.string (toStr (.lit (.string vs[i.toNat])))) (AV.int 0))=getM a vs[i.toNat]:=rfl;rw[l,ad];refine⟨fun e=>?_,fun e=>?_⟩
  ·rw[d,e] at b
   exact b.2 rfl
  ·rw[d,e,c,Bool.not_false,ap5] at b
   rw[ai,an9,jw];rw[az (n:=i+1) (by omega) (by omega)];refine⟨by omega,_,?_,⟨ds,a,o++[getM a vs[i.toNat]],vs,i+1⟩,?_,⟨h,by simp only[ap4,List.length_singleton];omega,by simp only;omega,by simp only;omega⟩,rfl,?_⟩
   ·simp only;omega
   ·simp only[RO,w8,jw,ap4,List.length_singleton,List.take_of_length_le (show(iA o).length<=o.length by rw[jw];omega)]
    rfl
   ·simp only[Ip,Out.run,ad]
    grind
 ·have c:mf ⟨ds,a,o,vs,i⟩=[]:=by
   unfold mf;exact ao7 (by simp only;omega)
  have d:uc ⟨ds,a,o,vs,i⟩=true:=by
   unfold uc;rw[c];rfl
  rw[d,c] at b;have:=b.1 rfl
  simp only[List.map_nil,List.append_nil] at this;exact this
noncomputable def Yk κ:=(SE κ).aq 106 11 (aG 0 RO Ps Ip)
theorem eYz κ:aE (Yk κ):=(eYv _).aq (mYv _) (lTz _)
theorem mYz κ:aj (Yk κ):=(mYv _).aq aI
theorem yTz κ ds r K:(a9 (Yk κ) 12 106 [.ah 43 ds,au r] [] K)=(
 letI a:=AV.ptr 0 0 []
 letI b:=AV.int
 letI c:=AV.agg
 letI d:=AV.bool
 letI e:=AV.str
 letI f:=Obj.box
 letI g:=Obj.row
 letI h:=Dn.Obj.map
 letI i:=AV.ah
 letI k:=Pg.toProgram (Env.P (Qi κ))
 letI l:=Pg.toProgram (Env.P (SE κ))
 aR (List.all [c [c [e r.rel,i 38 r.hl],i 80 r.bl,b r.line]] fh) (ak (!fc ds [c [c [e r.rel,i 38 r.hl],i 80 r.bl,b r.line]]) (K (AV.aJ [AV.nil,b 30]) []) (ae k 106 4=ae k 106 4/\∃(e2:uO),letI j:=uO.r {ds:=e2.ds,r:=e2.r,es:=Prod.snd (gH e2),more:=false};sp 60 [(3,a 0),(6,AV.ptr 1 0 [] 0)] [f 48 (c [c [e r.rel,i 38 r.hl],i 80 r.bl,b r.line]),f 219 (c [i 43 ds,AV.mp 2,d true]),h 9 3 []]=sp 60 [(3,a 0),(6,AV.ptr 1 0 [] 0)] [f 48 (c [c [e e2.r.rel,i 38 e2.r.hl],i 80 e2.r.bl,b e2.r.line]),f 219 (c [i 43 e2.ds,AV.mp 2,d e2.more]),h 9 3 e2.es]/\(ba (aM e2.r)=true/\e2.ds.length<=9223372036854775807/\bk (aa (bo 38 e2.r.hl e2.r.bl))<=100000/\List.length e2.r.bl<=100000)/\ak (decide (Prod.fst (gH e2)=(0:Int))) (∃(e1:dk),letI m:=List.length (de (aM e1));([c [c [AV.lit (Value.string (dk.rel j)),i 38 (dk.hl j)],i 80 (dk.bl j),AV.lit (Value.int IntKind.i64 (dk.line j))]],aL)=([c [c [e e1.rel,i 38 e1.hl],i 80 e1.bl,b e1.line]],aL)/\(ba (aM e1)=true/\bk (aa (bo 38 e1.hl e1.bl))<=100000/\e1.bl.length<=100000)/\ae l 106 11=ae l 106 11/\∃(e0:W6),letI n:=iA (e0.o++List.map (getM e0.es) (mf e0));sp 60 [(6,a 0),(8,AV.an 2 0 0),(36,AV.an 3 0 m),(37,b (↑m:Int)),(38,b 0)] [f 219 (c [i 43 (uO.ds {ds:=e2.ds,r:=e2.r,es:=Prod.snd (gH e2),more:=false}),AV.mp 1,d false]),h 9 3 (uO.es {ds:=e2.ds,r:=e2.r,es:=Prod.snd (gH e2),more:=false}),g 3 [],g 9 (strs (de (aM e1)))]=sp 60 [(6,a 0),(8,AV.an 2 0 (List.length (iA e0.o))),(36,AV.an 3 0 e0.vs.length),(37,b (↑(e0.vs.length):Int)),(38,b e0.i)] [f 219 (c [i 43 e0.ds,AV.mp 1,d false]),h 9 3 e0.es,g 3 (iA e0.o),g 9 (strs e0.vs)]/\(e0.vs.length<=100000/\e0.o.length<=e0.i.toNat/\(0:Int)<=e0.i/\e0.i<=(↑(e0.vs.length):Int))/\ak (uc e0) (K (AV.aJ [AV.an 0 0 (List.length n),b 0]) [g 3 n]) (K (AV.aJ [AV.nil,b 53]) [])) (K (AV.aJ [AV.nil,b (Prod.fst (gH e2))]) [])))):=by kernel_rfl
abbrev YD:=List AV×dk
def uR(x:YD):=OH (cP x.1) (aM x.2)
def Yt(x:YD):List AV×List Dn.Obj:=([.ah 43 x.1,au x.2],[])
def ND(x:YD):=x.1.length<=aW/\c9 x.2
def On(x:YD):Out (AV×List Dn.Obj):= .ak (fc x.1 [au x.2]) (.ak (decide ((uR x).1=0)) (.one (.aJ [.an 0 0 (iA (uR x).2).length, .int 0],[.row 3 (iA (uR x).2)])) (.one (.aJ [.nil, .int (uR x).1],[]))) (.one (.aJ [.nil, .int 30],[]))
theorem KN{ds r}(h:fc ds [au r]=true):ba (aM r)=true:=by
 unfold fc at h;rw[ao0] at h;have:=h.2
 rw[List.all_cons,ao0] at this;exact this.1
theorem cTs κ:bg (Yk κ) 12 106 (aO Yt ND On):=by
 refine aU ?_;rintro⟨ds,r⟩ K ⟨i,b⟩ h;simp only at i b;refine Eq.mpr (yTz κ ds r K) ?_;simp only[On,Out.run,ad] at h;have g:=gF (aa r.hl);rw[eE] at g;have p:=po b;have o:=b.2;refine ai.2 ⟨?_,?_⟩
 ·show(fh (au r)&&true)=true
  have:fh (au r)=(decide (r.hl.length<=aW)&&decide (r.bl.length<=aW)):=rfl
  rw[this,ao5 (by simp only[aW];omega),ao5 (by simp only[aW];omega)];rfl
 refine ad.2 ⟨fun e=>h.2 (by simpa using e),fun e=>?_⟩;have j:fc ds [au r]=true:=by simpa using e
 have c:=KN j;have a:=h.1 j;have n:gH ⟨ds,r,[],true⟩=fR getM gB (cP ds) (aM r) ((de (aM r)).length+1) []:=oJ og (cP ds) c _ (fun s k=>(zV c).2 k) _ _ _ (Nat.lt_succ_self _) (Nat.lt_succ_of_le (OU _ _ _));have l:uR (ds,r)=bif decide ((gH ⟨ds,r,[],true⟩).1=0) then(bif (de (aM r)).all (fun s=>!decide (getM (gH ⟨ds,r,[],true⟩).2 s=0)) then(0,(de (aM r)).map (getM (gH ⟨ds,r,[],true⟩).2)) else(53,[])) else((gH ⟨ds,r,[],true⟩).1,[]):=by
  rw[n];rfl
 rw[l] at a;refine⟨rfl,⟨ds,r,[],true⟩,rfl,⟨c,i,b⟩,?_⟩;refine ad.2 ⟨fun d=>⟨r,rfl,⟨c,b⟩,rfl,⟨ds,(gH ⟨ds,r,[],true⟩).2,[],de (aM r),0⟩,rfl,⟨J5 b,Nat.zero_le _,by simp only;omega,by simp only;omega⟩,?_⟩,fun d=>?_⟩
 ·rw[d,ao6] at a
  have m:uc ⟨ds,(gH ⟨ds,r,[],true⟩).2,[],de (aM r),0⟩=(de (aM r)).all (fun s=>!decide (getM (gH ⟨ds,r,[],true⟩).2 s=0)):=rfl;rw[m];refine ad.2 ⟨fun f=>?_,fun f=>?_⟩
  ·rw[f] at a
   exact a.1 rfl
  ·rw[f] at a
   exact a.2 rfl
 ·rw[d,ao4] at a
  exact a.2 d
noncomputable def Qj κ:=(Yk κ).aw 106 (aO Yt ND On)
theorem eTy κ:aE (Qj κ):=(eYz _).aw (mYz _) (cTs _)
theorem mTy κ:aj (Qj κ):=(mYz _).aw aH
abbrev eg(ds a:List AV):AV:= .agg [.ah 43 ds, .ah 48 a]
def dg(x:AV):dk:=⟨[],[],toStr (af (af x 0) 0),ag (af (af x 0) 1),ag (af x 1),toInt (af x 2),0⟩
structure Lv where
 ds:List AV
 rs:List AV
 i:Int
abbrev Uz(x:Lv):Dn.Obj:= .box 25 (eg x.ds x.rs)
def Tz(ds:List AV):List AV->Int->Int×Int
 |[],_=>(0,0)
 |d::l,i=>bif decide (bw (toStr (af d 0)) ds=i) then Tz ds l (i+1) else(toInt (af d 5),50)
def kl ds x:=bif fc ds [au (dg x)] then(uR (ds,dg x)).1 else 30
def Hl(f:AV->Int):List AV->Int×Int
 |[]=>(0,0)
 |x::l=>bif decide (f x=0) then Hl f l else(toInt (af x 2),f x)
def BD ds a:=bif fc ds a then bif decide ((Tz ds ds 0).2=0) then Hl (kl ds) a else Tz ds ds 0 else(0,30)
def ld(x:AV):Int:=EE (aM (dg x))
def kt ds a:=bif decide ((BD ds a).2=0) then Hl ld a else BD ds a
def lk(ds a:List AV):=ds.length<=aW/\a.length<=aW/\∀x,x∈a->c9 (dg x)
theorem HN{ds c}(h:lk ds c):c.all fh=true:=by
 refine List.all_eq_true.2 fun x d=>?_
 have b:=h.2.2 x d;have a:=gF (aa (dg x).hl);rw[eE] at a;have e:=po b;have hl:=b.2
 grind [fh,dg,aW]
abbrev WC x:=sp 57 [(1, .ptr 0 0 [] 0),(16, .ah 43 x.ds),(17, .int x.ds.length),(18, .int x.i)] [Uz x]
theorem xC1 κ x I n K:(vc (Qj κ) 12 61 none 0 (ae (Pr κ).toProgram 61 4) (WC x) (bj (Qj κ) 61 4 0 I n K))=(
 letI a:=AV.agg [AV.ah 43 x.ds,AV.ah 48 x.rs]
 letI b:=x.i<(↑(x.ds.length):Int)
 ak (decide b) (aR (decide ((0:Int)<=x.i)&&decide b) (∃(e1:List AV×ByteArray),([AV.ah 43 x.ds,AV.str (toStr (af (nth x.ds x.i.toNat) 0))],aL)=
 ([AV.ah 43 e1.1,AV.str e1.2],aL)/\iw e1/\ak (bw e1.2 e1.1 != x.i) (K Exit.ret (sp 57 [(2,AV.int (toInt (af (nth x.ds x.i.toNat) 5))),(3,AV.int 50)] []))
 (∃(e0:Nat),e0<n/\I e0 (sp 57 [(1,AV.ptr 0 0 [] 0),(16,AV.ah 43 x.ds),(17,AV.int (↑(x.ds.length):Int)),(18,AV.int (IntKind.wrap IntKind.i64 (x.i
 +(1:Int))))] [Obj.box 25 a])))) (K (Exit.exit 0) (sp 57 [(1,AV.ptr 0 0 [] 0)] [Obj.box 25 a]))):=by kernel_rfl
def Lp(x:Lv):=Tz x.ds (x.ds.drop x.i.toNat) x.i
def LK(x:Lv):=x.ds.length<=aW/\0<=x.i/\x.i<=x.ds.length
def IG(x:Lv):Out (Exit×S):= .ak (decide ((Lp x).2=0)) (.one (.exit 0,sp 57 [(1, .ptr 0 0 [] 0)] [Uz x])) (.one (.ret,sp 57 [(2, .int (Lp x).1),(3, .int (Lp x).2)] []))
theorem lC1 κ:aX (Qj κ) 12 61 4 (aG 0 WC LK IG):=by
 refine aD (fun x=>x.ds.length - x.i.toNat) ?_;rintro⟨ds,b,i⟩ K ⟨c,g,j⟩ a;simp only at c g j;rw[show(Qj κ).P=Pr κ from rfl];refine Eq.mpr (xC1 κ ⟨ds,b,i⟩ _ _ K) ?_;simp only[aW] at c;simp only[IG,Out.run,ad] at a;rw[ad,an9,ao1,ai,ao0,an9,an9];refine⟨fun d=>⟨⟨g,d⟩,(ds,toStr (af (nth ds i.toNat) 0)),rfl,c,?_⟩,fun d=>?_⟩
 ·simp only at d
  have h:i.toNat<ds.length:=by omega
  have f:Lp ⟨ds,b,i⟩=bif decide (bw (toStr (af (nth ds i.toNat) 0)) ds=i) then Lp ⟨ds,b,i+1⟩ else(toInt (af (nth ds i.toNat) 5),50):=by
   unfold Lp;simp only[show(i+1).toNat=i.toNat+1 by omega];rw[ap0 h,←aV ds i.toNat h,Tz]
  rw[f] at a;simp only[LU];cases e:decide (bw (toStr (af (nth ds i.toNat) 0)) ds=i) with
  |false=>
   rw[e] at a;exact a.2 rfl
  | true=>
   rw[e] at a;rw[az (n:=i+1) (by omega) (by omega)];refine⟨_,?_,⟨ds,b,i+1⟩,rfl,⟨by simpa[aW] using c,by simp only;omega,by simp only;omega⟩,rfl,?_⟩
   ·simp only;omega
   ·simp only[IG,Out.run,ad]
    exact a
 ·simp only at d
  have f:Lp ⟨ds,b,i⟩=(0,0):=by
   unfold Lp;simp only;rw[ao7 (by omega)];rfl
  rw[f] at a;exact a.1 rfl
noncomputable def RF κ:=(Qj κ).aq 61 4 (aG 0 WC LK IG)
theorem eC1 κ:aE (RF κ):=(eTy _).aq (mTy _) (lC1 _)
theorem mC1 κ:aj (RF κ):=(mTy _).aq aI
abbrev Ol x:=sp 57 [(1, .ptr 0 0 [] 0),(38, .ah 48 x.rs),(39, .int x.rs.length),(40, .int x.i)] [Uz x]
theorem xC2 κ x I n K:(vc (RF κ) 12 61 none 0 (ae (Pr κ).toProgram 61 11) (Ol x) (bj (RF κ) 61 11 0 I n K))=(
 letI a:=AV.int
 letI b:=AV.ah
 letI e:=∃(e0:Nat),e0<n/\I e0 (sp 57 [(1,AV.ptr 0 0 [] 0),(38,b 48 x.rs),(39,a (↑(x.rs.length):Int)),(40,a (IntKind.wrap
  IntKind.i64 (x.i+(1:Int))))] [Obj.box 25 (AV.agg [b 43 x.ds,b 48 x.rs])])
 letI c:=nth x.rs x.i.toNat
 letI f:=x.i<(↑(x.rs.length):Int)
 letI d:=toInt (af c 2)
 ak (decide f) (aR (decide ((0:Int)<=x.i)&&decide f) (∃(e1:YD),([b 43 x.ds,AV.agg [AV.agg [AV.str (toStr (af (af c 0) 0)),b 38 (ag (af (af
 c 0) 1))],b 80 (ag (af c 1)),a d]],aL)=([b 43 e1.1,au e1.2],aL)/\(e1.1.length<=9223372036854775807/\bk (aa (bo 38 e1.2.hl e1.2.bl))<=
 100000/\e1.2.bl.length<=100000)/\ak (fc e1.1 [au e1.2]) (ak (decide (Prod.fst (uR e1)=(0:Int))) e (ak (Prod.fst (uR e1) != (0:Int)) (K Exit.ret (sp 57
 [(2,a d),(3,a (Prod.fst (uR e1)))] [])) e)) (K Exit.ret (sp 57 [(2,a d),(3,a 30)] [])))) (K (Exit.exit 2) (sp 57 [] []))):=by kernel_rfl
def Am f(x:Lv):=Hl f (x.rs.drop x.i.toNat)
def sW(x:Lv):=lk x.ds x.rs/\0<=x.i/\x.i<=x.rs.length
def Ch(x:Lv):Out (Exit×S):= .ak (decide ((Am (kl x.ds) x).2=0)) (.one (.exit 2,sp 57 [] [])) (.one (.ret,sp 57 [(2, .int (Am (kl x.ds) x).1),(3, .int (Am (kl x.ds) x).2)] []))
theorem Hh f ds a i(c:0<=i)(b:i.toNat<a.length):Am f ⟨ds,a,i⟩=bif decide (f (nth a i.toNat)=0) then Am f ⟨ds,a,i+1⟩ else(toInt (af (nth a i.toNat) 2),f (nth a i.toNat)):=by
 grind [Am,List.drop_eq_getElem_cons,aV,Hl]
theorem IL f ds a i(h:a.length<=i.toNat):Am f ⟨ds,a,i⟩=(0,0):=by
 unfold Am;rw[ao7 h];rfl
theorem lC2 κ:aX (RF κ) 12 61 11 (aG 0 Ol sW Ch):=by
 refine aD (fun x=>x.rs.length - x.i.toNat) ?_;rintro⟨ds,a,i⟩ K ⟨c,h,p⟩ b;simp only at c h p;rw[show(RF κ).P=Pr κ from rfl];refine Eq.mpr (xC2 κ ⟨ds,a,i⟩ _ _ K) ?_;have g:=c.2.1;simp only[aW] at g;simp only[Ch,Out.run,ad] at b;rw[ad,an9,ao1,ai,ao0,an9,an9];refine⟨fun d=>⟨⟨h,d⟩,(ds,dg (nth a i.toNat)),rfl,⟨c.1,?_⟩,?_⟩,fun d=>?_⟩
 ·simp only at d
  exact c.2.2 _ (by rw[aV _ _ (show i.toNat<a.length by omega)];exact List.getElem_mem _)
 ·simp only at d
  have r:i.toNat<a.length:=by omega
  rw[Hh _ _ _ _ h r] at b;have l:kl ds (nth a i.toNat)=0->∃m,m<a.length - i.toNat/\et Ol sW Ch (fun x=>x.rs.length - x.i.toNat) K m (Ol ⟨ds,a,i+1⟩):=fun e=>by
   rw[e] at b;refine⟨_,?_,⟨ds,a,i+1⟩,rfl,⟨c,by simp only;omega,by simp only;omega⟩,rfl,?_⟩
   ·simp only;omega
   ·simp only[Ch,Out.run,ad]
    exact b
  have f: ∀e:Int,kl ds (nth a i.toNat)=e->e≠0->K .ret (sp 57 [(2, .int (toInt (af (nth a i.toNat) 2))),(3, .int e)] []):=fun e q k=>by
   rw[q,ao3 k] at b;exact b.2 (ao3 k)
  rw[az (n:=i+1) (by omega) (by omega)];have o:kl ds (nth a i.toNat)=bif fc ds [au (dg (nth a i.toNat))] then(uR (ds,dg (nth a i.toNat))).1 else 30:=rfl
  refine ad.2 ⟨fun j=>?_,fun j=>?_⟩
  ·simp_all[ao6,ad,ao1,LU,ap1,an9]
  ·rw[j,ao4] at o
   exact f 30 o (by decide)
 ·simp only at d
  rw[IL _ _ _ _ (by omega)] at b;exact b.1 rfl
noncomputable def EC2 κ:=(RF κ).aq 61 11 (aG 0 Ol sW Ch)
theorem eC2 κ:aE (EC2 κ):=(eC1 _).aq (mC1 _) (lC2 _)
theorem mC2 κ:aj (EC2 κ):=(mC1 _).aq aI
theorem yCd κ ds rs K:(a9 (EC2 κ) 12 61 [eg ds rs] [] K)=(
 letI a:=AV.ptr 0 0 []
 letI b:=AV.int
 letI c:=AV.ah
 letI e:=Pg.toProgram (Env.P (Qj κ))
 letI f:=Pg.toProgram (Env.P (RF κ))
 aR (List.all rs fh) (ak (!fc ds rs) (K (AV.aJ [b 0,b 30]) []) (ae e 61 4=ae e 61 4/\∃(e2:Lv),letI g:=[Obj.box 25 (AV.agg [c 43 e2.ds,c 48 e2.rs])];sp 57 [(1,a 0),(16,c 43 ds),(17,b (↑(ds.length):Int)),(18,b 0)] [Obj.box 25 (AV.agg [c 43 ds,c 48 rs])]=sp 57 [(1,a 0),(16,c 43 e2.ds),(17,b (↑(e2.ds.length):Int)),(18,b e2.i)] g/\(e2.ds.length<=9223372036854775807/\(0:Int)<=e2.i/\e2.i<=(↑(e2.ds.length):Int))/\ak (decide (Prod.snd (Lp e2)=(0:Int))) (ae f 61 11=ae f 61 11/\∃(e1:Lv),letI d:=Am (kl e1.ds) e1;sp 57 [(1,a 0),(38,c 48 e2.rs),(39,b (↑(e2.rs.length):Int)),(40,b 0)] g=sp 57 [(1,a 0),(38,c 48 e1.rs),(39,b (↑(e1.rs.length):Int)),(40,b e1.i)] [Obj.box 25 (AV.agg [c 43 e1.ds,c 48 e1.rs])]/\((e1.ds.length<=9223372036854775807/\e1.rs.length<=9223372036854775807/\∀(e0:AV),List.Mem e0 e1.rs->bk (aa (bo 38 (dk.hl (dg e0)) (dk.bl (dg e0))))<=100000/\List.length (dk.bl (dg e0))<=100000)/\(0:Int)<=e1.i/\e1.i<=(↑(e1.rs.length):Int))/\ak (decide (Prod.snd d=(0:Int))) (K (AV.aJ [b 0,b 0]) []) (K (AV.aJ [b (Prod.fst d),b (Prod.snd d)]) [])) (K (AV.aJ [b (Prod.fst (Lp e2)),b (Prod.snd (Lp e2))]) [])))):=by kernel_rfl
abbrev yt:=List AV×List AV
def R5(x:yt):List AV×List Dn.Obj:=([eg x.1 x.2],[])
def B7(x:yt):Prop:=lk x.1 x.2
def OW(x:yt):Out (AV×List Dn.Obj):= .one (.aJ [.int (BD x.1 x.2).1, .int (BD x.1 x.2).2],[])
theorem FR f: ∀l,(Hl f l).2=0->Hl f l=(0,0)
 |[],_=>rfl
 | x::l,h=>by
  rw[Hl] at h⊢;cases e:decide (f x=0) with
  |true=>rw[e] at h;exact FR f l h
  |false=>
   grind
theorem cCd κ:bg (EC2 κ) 12 61 (aO R5 B7 OW):=by
 refine aU ?_;rintro⟨ds,a⟩ K c b;have c:lk ds a:=c;refine Eq.mpr (yCd κ ds a K) ?_;simp only[OW,Out.run,BD] at b;refine ai.2 ⟨HN c,ad.2 ⟨fun e=>?_,fun e=>?_⟩⟩
 ·grind
 ·rw[show fc ds a=true by simpa using e,ao6] at b
  have g:Lp ⟨ds,a,0⟩=Tz ds ds 0:=rfl;have h:Am (kl ds) ⟨ds,a,0⟩=Hl (kl ds) a:=rfl;refine⟨rfl,⟨ds,a,0⟩,rfl,⟨c.1,by simp only;omega,by simp only;omega⟩,?_⟩;rw[g];refine ad.2 ⟨fun f=>⟨rfl,⟨ds,a,0⟩,rfl,⟨c,by simp only;omega,by simp only;omega⟩,?_⟩,fun f=>?_⟩
  ·rw[f,ao6] at b
   rw[h];refine ad.2 ⟨fun d=>?_,fun d=>b⟩;rw[an9] at d;rw[FR _ _ d] at b;exact b
  grind
noncomputable def RU κ:=(EC2 κ).aw 61 (aO R5 B7 OW)
theorem eCd κ:aE (RU κ):=(eC2 _).aw (mC2 _) (cCd _)
theorem mCd κ:aj (RU κ):=(mC2 _).aw aH
abbrev Mg(x:Lv):=sp 37 [(20, .ah 48 x.rs),(21, .int x.rs.length),(22, .int x.i)] []
theorem xC3 κ x I n K:(vc (RU κ) 12 31 none 0 (ae (Pr κ).toProgram 31 5) (Mg x) (bj (RU κ) 31 5 0 I n K))=(
 letI a:=AV.int
 letI b:=nth x.rs x.i.toNat
 letI d:=x.i<(↑(x.rs.length):Int)
 letI c:=toInt (af b 2)
 ak (decide d) (aR (decide ((0:Int)<=x.i)&&decide d) (∃(e1:dk),([AV.agg [AV.agg [AV.str (toStr (af (af b 0) 0)),AV.ah 38 (ag (af (af b 0) 1))],
 AV.ah 80 (ag (af b 1)),a c]],aL)=([au e1],aL)/\(bk (aa (bo 38 e1.hl e1.bl))<=100000/\e1.bl.length<=100000)/\ak (ba (aM e1)) (ak (jY (aM e1)) (∃
 (e0:Nat),e0<n/\I e0 (sp 37 [(20,AV.ah 48 x.rs),(21,a (↑(x.rs.length):Int)),(22,a (IntKind.wrap IntKind.i64 (x.i+(1:Int))))] [])) (K
 Exit.ret (sp 37 [(2,a c),(3,a 60)] []))) (K Exit.ret (sp 37 [(2,a c),(3,a 30)] [])))) (K (Exit.exit 0) (sp 37 [] []))):=by kernel_rfl
def Ct(x:Lv):Out (Exit×S):= .ak (decide ((Am ld x).2=0)) (.one (.exit 0,sp 37 [] [])) (.one (.ret,sp 37 [(2, .int (Am ld x).1),(3, .int (Am ld x).2)] []))
theorem lC3 κ:aX (RU κ) 12 31 5 (aG 0 Mg sW Ct):=by
 refine aD (fun x=>x.rs.length - x.i.toNat) ?_;rintro⟨ds,a,i⟩ K ⟨f,h,p⟩ b;simp only at f h p;rw[show(RU κ).P=Pr κ from rfl];refine Eq.mpr (xC3 κ ⟨ds,a,i⟩ _ _ K) ?_;have j:=f.2.1;simp only[aW] at j;simp only[Ct,Out.run,ad] at b;rw[ad,an9,ao1,ai,ao0,an9,an9];refine⟨fun d=>⟨⟨h,d⟩,dg (nth a i.toNat),rfl,?_,?_⟩,fun d=>?_⟩
 ·simp only at d
  exact f.2.2 _ (by rw[aV _ _ (show i.toNat<a.length by omega)];exact List.getElem_mem _)
 ·simp only at d
  have r:i.toNat<a.length:=by omega
  rw[Hh _ _ _ _ h r] at b;have l:ld (nth a i.toNat)=0->∃m,m<a.length - i.toNat/\et Mg sW Ct (fun x=>x.rs.length - x.i.toNat) K m (Mg ⟨ds,a,i+1⟩):=fun e=>by
   rw[e] at b;refine⟨_,?_,⟨ds,a,i+1⟩,rfl,⟨f,by simp only;omega,by simp only;omega⟩,rfl,?_⟩
   ·simp only;omega
   ·simp only[Ct,Out.run,ad]
    exact b
  have c: ∀e:Int,ld (nth a i.toNat)=e->e≠0->K .ret (sp 37 [(2, .int (toInt (af (nth a i.toNat) 2))),(3, .int e)] []):=fun e q o=>by
   rw[q,ao3 o] at b;exact b.2 (ao3 o)
  rw[az (n:=i+1) (by omega) (by omega)];have k:ld (nth a i.toNat)=bif ba (aM (dg (nth a i.toNat))) then bif jY (aM (dg (nth a i.toNat))) then 0 else 60 else 30:=rfl
  refine ad.2 ⟨fun g=>?_,fun g=>?_⟩
  ·rw[g,ao6] at k
   grind [ad]
  ·rw[g,ao4] at k
   exact c 30 k (by decide)
 ·simp only at d
  rw[IL _ _ _ _ (by omega)] at b;exact b.1 rfl
noncomputable def Zx κ:=(RU κ).aq 31 5 (aG 0 Mg sW Ct)
theorem eC3 κ:aE (Zx κ):=(eCd _).aq (mCd _) (lC3 _)
theorem mC3 κ:aj (Zx κ):=(mCd _).aq aI
theorem yCs κ ds rs K:(a9 (Zx κ) 12 31 [eg ds rs] [] K)=(
 letI b:=AV.int
 letI c:=AV.ah
 ∃(a:yt),([AV.agg [c 43 ds,c 48 rs]],aL)=([AV.agg [c 43 a.1,c 48 a.2]],aL)/\(a.1.length<=9223372036854775807/\a.2.length<=
 9223372036854775807/\∀(x:AV),List.Mem x a.2->bk (aa (bo 38 (dk.hl (dg x)) (dk.bl (dg x))))<=100000/\List.length (dk.bl (dg x))<=100000)
 /\ak (Prod.snd (BD a.1 a.2) != (0:Int)) (K (AV.aJ [b (Prod.fst (BD a.1 a.2)),b (Prod.snd (BD a.1 a.2))]) []) (ae (Pg.toProgram
 (Env.P (RU κ))) 31 5=ae (Pg.toProgram (Env.P (RU κ))) 31 5/\∃(a:Lv),sp 37 [(20,c 48 rs),(21,b (↑(rs.length):Int)),(22,b
 0)] []=sp 37 [(20,c 48 a.rs),(21,b (↑(a.rs.length):Int)),(22,b a.i)] []/\((a.ds.length<=9223372036854775807/\a.rs.length<=
 9223372036854775807/\∀(x:AV),List.Mem x a.rs->bk (aa (bo 38 (dk.hl (dg x)) (dk.bl (dg x))))<=100000/\List.length (dk.bl (dg x))<=
 100000)/\(0:Int)<=a.i/\a.i<=(↑(a.rs.length):Int))/\ak (decide (Prod.snd (Am ld a)=(0:Int))) (K (AV.aJ [b 0,b 0]) []) (K (AV.aJ
 [b (Prod.fst (Am ld a)),b (Prod.snd (Am ld a))]) []))):=by kernel_rfl
def PJ(x:yt):Out (AV×List Dn.Obj):= .one (.aJ [.int (kt x.1 x.2).1, .int (kt x.1 x.2).2],[])
theorem cCs κ:bg (Zx κ) 12 31 (aO R5 B7 PJ):=by
 refine aU ?_;rintro⟨ds,a⟩ K c b;refine Eq.mpr (yCs κ ds a K) ?_;simp only[PJ,Out.run,kt] at b;refine⟨(ds,a),rfl,c,?_⟩;simp only[LU];have f:Am ld ⟨ds,a,0⟩=Hl ld a:=rfl;refine ad.2 ⟨fun e=>?_,fun e=>?_⟩
 ·grind
 ·rw[show decide _=true by simpa using e] at b
  refine⟨trivial,⟨ds,a,0⟩,rfl,⟨c,by simp only;omega,by simp only;omega⟩,?_⟩;rw[f];refine ad.2 ⟨fun d=>?_,fun d=>b⟩
  simp_all[an9,ao6,FR]
noncomputable def Y6 κ:=(Zx κ).aw 31 (aO R5 B7 PJ)
theorem eCs κ:aE (Y6 κ):=(eC3 _).aw (mC3 _) (cCs _)
theorem mCs κ:aj (Y6 κ):=(mC3 _).aw aH
end Go.Proofs.YtioeffnadipbaaaGreatDoor
