import Derived.Test.YthaiinlfnommnaaGreatDoorDbM1
namespace Go.Rl
open Go Go.Dn
structure Dc where
 rel:ByteArray
 types:List Int
def j8(s:ByteArray):List Dc->Option Nat
 |[]=>none
 |d::l=>bif ll d.rel s then some 0 else(j8 s l).map (· +1)
def cO(ds:List Dc)(s:ByteArray):List Int:=match j8 s ds with|some i=>(ds.getD i ⟨ByteArray.empty,[]⟩).types|none=>[]
def known(ds:List Dc)(a:At):Int:=match j8 a.rel ds with|none=>51|some _=>bif decide ((cO ds a.rel).length=a.l.length) then 0 else 52
def dX(l:Lt):Bool:=decide (l.op<3)||decide (6<l.op)
def iX(ds:List Dc):List Lt->Int
 |[]=>0
 |l::b=>bif dX l&& !decide (known ds l.a=0) then known ds l.a else iX ds b
def j2(ds:List Dc)(r:Rl):Int:=bif decide (known ds r.head=0) then iX ds r.body else known ds r.head
section
variable {σ:Type} (get:σ->ByteArray->Int) (set:σ->ByteArray->Int->σ)
def bK(t:Tm)(st:σ):Int:=bif decide (t.op=1) then get st t.s else bif decide (t.op=3) then 2 else bif decide (t.op=4) then 0 else 1
mutual
def Tm.dx:Tm->Int->σ->Bool×σ
 | .mk op s _ l,w,st=>bif decide (op=1) then(bif decide (w=0)|| !decide (get st s=0) then(false,st) else(true,set st s w)) else eb l st
def eb:List Tm->σ->Bool×σ
 |[],st=>(false,st)
 |t::l,st=>((Tm.dx t 1 st).1||(eb l (Tm.dx t 1 st).2).1,(eb l (Tm.dx t 1 st).2).2)
end
mutual
def Tm.want:Tm->Int->σ×Bool->Bool×(σ×Bool)
 | .mk op s n l,k,x=>
  bif (jd l x).1 then jd l x
  else bif decide (k=0)||decide (op=4) then(false,(jd l x).2)
  else bif decide (bK get (.mk op s n l) (jd l x).2.1=0) then(false,(set (jd l x).2.1 s k,true))
  else(!decide (bK get (.mk op s n l) (jd l x).2.1=k),(jd l x).2)
def jd:List Tm->σ×Bool->Bool×(σ×Bool)
 |[],x=>(false,x)
 |t::l,x=>bif (Tm.want t 1 x).1 then Tm.want t 1 x else jd l (Tm.want t 1 x).2
end
def cw:List Int->List Tm->σ->Bool×σ
 |w::ws,t::l,st=>((t.dx get set w st).1||(cw ws l (t.dx get set w st).2).1,(cw ws l (t.dx get set w st).2).2)
 |_,_,st=>(false,st)
def iN:List Int->List Tm->σ×Bool->Bool×(σ×Bool)
 |w::ws,t::l,x=>bif (t.want get set w x).1 then t.want get set w x else iN ws l (t.want get set w x).2
 |_,_,x=>(false,x)
def fT(op:Int):Bool:=decide (3<=op)&&decide (op<=6)
def kP(l:Lt)(st:σ):Int:=bif decide (bK get l.y st>bK get l.x st) then bK get l.y st else bK get l.x st
def eF(ds:List Dc)(l:Lt)(st:σ):Bool×σ:=
 bif fT l.op then
  ((l.x.dx get set (kP get l st) st).1||(l.y.dx get set (kP get l st) (l.x.dx get set (kP get l st) st).2).1,(l.y.dx get set (kP get l st) (l.x.dx get set (kP get l st) st).2).2)
 else bif decide (l.op=1)||decide (l.op=2) then cw get set (cO ds l.a.rel) l.a.l st
 else((cw get set (cO ds l.a.rel) l.a.l st).1||(l.x.dx get set 1 (cw get set (cO ds l.a.rel) l.a.l st).2).1||(l.y.dx get set 1 (l.x.dx get set 1 (cw get set (cO ds l.a.rel) l.a.l st).2).2).1,
  (l.y.dx get set 1 (l.x.dx get set 1 (cw get set (cO ds l.a.rel) l.a.l st).2).2).2)
def eT(ds:List Dc):List Lt->σ->Bool×σ
 |[],st=>(false,st)
 |l::b,st=>((eF get set ds l st).1||(eT ds b (eF get set ds l st).2).1,(eT ds b (eF get set ds l st).2).2)
def j4(ds:List Dc)(r:Rl)(st:σ):Bool×σ:=
 ((cw get set (cO ds r.head.rel) r.head.l st).1||(eT get set ds r.body (cw get set (cO ds r.head.rel) r.head.l st).2).1,(eT get set ds r.body (cw get set (cO ds r.head.rel) r.head.l st).2).2)
def eh(ds:List Dc)(a:At)(x:σ×Bool):Int×(σ×Bool):=
 bif decide (known ds a=0) then(bif (iN get set (cO ds a.rel) a.l x).1 then 53 else 0,(iN get set (cO ds a.rel) a.l x).2) else(known ds a,x)
def kD(y:Bool×(σ×Bool))(f:σ×Bool->Bool×(σ×Bool)):Int×(σ×Bool):=bif y.1 then(53,y.2) else(bif (f y.2).1 then 53 else 0,(f y.2).2)
def kj(ds:List Dc)(l:Lt)(x:σ×Bool):Int×(σ×Bool):=
 bif fT l.op then kD (l.x.want get set (kP get l x.1) x) (l.y.want get set (kP get l x.1))
 else bif decide (l.op=1)||decide (l.op=2) then eh get set ds l.a x
 else bif !decide ((eh get set ds l.a x).1=0) then eh get set ds l.a x
 else bif decide (l.op=7) then(bif (l.x.want get set 1 (eh get set ds l.a x).2).1 then 53 else 0,(l.x.want get set 1 (eh get set ds l.a x).2).2)
 else kD (l.x.want get set 1 (eh get set ds l.a x).2) (l.y.want get set 1)
def tK(e:Int):Bool:=decide (e=51)||decide (e=52)
def im(w e:Int):Int:=bif decide (w=0)||decide (w=53)&&tK e then e else w
def kb(ds:List Dc):List Lt->Int×(σ×Bool)->Int×(σ×Bool)
 |[],y=>y
 |l::b,y=>bif tK (im y.1 (kj get set ds l y.2).1) then(im y.1 (kj get set ds l y.2).1,(kj get set ds l y.2).2)
  else kb ds b (im y.1 (kj get set ds l y.2).1,(kj get set ds l y.2).2)
def fo(ds:List Dc)(r:Rl)(st:σ):Int×(σ×Bool):=kb get set ds r.body (eh get set ds r.head (st,false))
def fM(ds:List Dc)(r:Rl):Nat->σ->Int×σ
 |0,st=>(0,st)
 |n+1,st=>bif decide ((fo get set ds r st).1=0) then(bif (fo get set ds r st).2.2 then fM ds r n (fo get set ds r st).2.1 else(0,(fo get set ds r st).2.1)) else((fo get set ds r st).1,(fo get set ds r st).2.1)
def Ext(st st':σ):Prop:=∀s,get st s≠0->get st' s=get st s
theorem Ext.refl(st:σ):Ext get st st:=fun _ _=>rfl
variable {get set}
theorem Ext.trans{a b c:σ}(h1:Ext get a b)(h2:Ext get b c):Ext get a c:=fun s h=>by rw[h2 s (by rw[h1 s h];exact h),h1 s h]
variable (hgs: ∀st s k t,get (set st s k) t=bif t==s then k else get st t)
include hgs
mutual
theorem Tm.ei: ∀(t:Tm) (w:Int) (st:σ),Ext get st (t.dx get set w st).2
 | .mk op s n l,w,st=>by
  rw[Tm.dx]
  cases decide (op=1) with
  |false=>exact qc l st
  | true=>
   rw[aa9]
   cases h:(decide (w=0)|| !decide (get st s=0)) with
   |true=>exact Ext.refl _ _
   | false=>
    intro t ht
    rw[aa7,hgs]
    cases e:t==s with
    |false=>rfl
    |true=>
     rw[Bool.or_eq_false_iff,ab4,aa2] at h
     rw[eq_of_beq e] at ht
     exact absurd h.2 ht
theorem qc: ∀(l:List Tm) (st:σ),Ext get st (eb get set l st).2
 |[],st=>by have _:=hgs;exact Ext.refl _ _
 |t::l,st=>by rw[eb];exact(Tm.ei t 1 st).trans (qc l _)
end
theorem gF: ∀(ws:List Int) (l:List Tm) (st:σ),Ext get st (cw get set ws l st).2
 |w::ws,t::l,st=>by rw[cw];exact(Tm.ei hgs t w st).trans (gF ws l _)
 |[],_,st=>by rw[cw];exact Ext.refl _ _;intro _ _ _ _ h;cases h
 |_::_,[],st=>by rw[cw];exact Ext.refl _ _;intro _ _ _ _ _ h;cases h
theorem sO(ds:List Dc)(l:Lt)(st:σ):Ext get st (eF get set ds l st).2:=by
 unfold eF
 cases fT l.op with
 |true=>exact(Tm.ei hgs l.x _ st).trans (Tm.ei hgs l.y _ _)
 |false=>
  rw[aa7]
  cases(decide (l.op=1)||decide (l.op=2)) with
  |true=>exact gF hgs _ _ st
  |false=>exact((gF hgs _ _ st).trans (Tm.ei hgs l.x 1 _)).trans (Tm.ei hgs l.y 1 _)
theorem mW(ds:List Dc): ∀(b:List Lt) (st:σ),Ext get st (eT get set ds b st).2
 |[],st=>Ext.refl _ _
 |l::b,st=>by rw[eT];exact(sO hgs ds l st).trans (mW ds b _)
theorem DU(ds:List Dc)(r:Rl)(st:σ):Ext get st (j4 get set ds r st).2:=(gF hgs _ _ st).trans (mW hgs ds _ _)
end
def X2(o:List ByteArray)(s:ByteArray):List ByteArray:=bif o.contains s then o else o++[s]
def VQ(o m:List ByteArray):List ByteArray:=m.foldl X2 o
mutual
def Tm.rv:Tm->List ByteArray
 | .mk op s _ l=>bif decide (op=1) then[s] else rvL l []
def rvL:List Tm->List ByteArray->List ByteArray
 |[],o=>o
 |t::l,o=>rvL l (VQ o t.rv)
end
mutual
def Tm.wf:Tm->Bool
 | .mk op _ _ l=>bif kI op then decide (l.length=2)&&Hw l else decide (l.length=0)
def Hw:List Tm->Bool
 |[]=>true
 |t::l=>t.wf&&Hw l
end
theorem wR: ∀(h:Nat) (t:Tm),aw h t=true->t.wf=true
 |0,_,h=>by simp[aw] at h
 | h+1, .mk op s n l,e=>by
  rw[se] at e
  rw[Tm.wf]
  have go: ∀l:List Tm,mE h l=true->Hw l=true:=by
   intro l
   induction l with
   |nil=>intro _;rfl
   |cons t l ih=>
    intro e
    simp only[mE,List.all_cons,aa3] at e
    rw[Hw,wR h t e.1.2,ih e.2];rfl
  cases h0:decide (op=0) with
  |true=>rw[h0,aa9] at e;cases e
  | false=>
   rw[h0,aa7] at e
   cases h2:kI op with
   |true=>
    rw[h2,aa9] at e
    simp only[aa3] at e
    rw[aa9,e.1.2,go l e.2];rfl
   |false=>
    rw[h2,aa7,aa3] at e
    exact e.2
theorem GW{t:Tm}(h:Gk t=true):t.wf=true/\t.op=0:=by
 obtain⟨op,s,n,l⟩:=t
 simp only[Gk,aa3,aa2] at h
 have h0:op=0:=h.1.1
 subst h0
 exact⟨aa8 h.2,rfl⟩
theorem JP{h:Nat}: ∀{l:List Tm},l.all (aw h)=true->Hw l=true
 |[],_=>rfl
 |t::l,e=>by
  simp only[List.all_cons,aa3] at e
  rw[Hw,wR h t e.1,JP e.2];rfl
theorem tZ{a:At}(h:bq a=true):Hw a.l=true:=by
 simp only[bq,aa3] at h
 exact JP h.2
structure Po(l:Lt):Prop where
 x:l.x.wf=true
 y:l.y.wf=true
 a:Hw l.a.l=true
 cmp:fT l.op=true->l.x.op≠4/\l.y.op≠4
 one:l.op=7->l.y.op=0
theorem Sy{l:Lt}(h:iV l=true):Po l:=by
 unfold iV at h
 have nA:Rr l.a=true->Hw l.a.l=true:=fun h=>by
  simp only[Rr,aa3,aa2] at h
  rw[List.eq_nil_of_length_eq_zero h.2];rfl
 have v1: ∀{t:Tm},aw 20 t=true->t.wf=true:=fun h=>wR _ _ h
 have hc:fT l.op=true->3<=l.op/\l.op<=6:=fun h=>by
  simpa[fT] using h
 cases h1:decide (l.op=1)||decide (l.op=2) with
 |true=>
  rw[h1,aa9] at h;simp only[aa3] at h
  simp only[ab7,aa2] at h1
  exact⟨(GW h.2.1).1,(GW h.2.2).1,tZ h.1,fun e=>by have:=hc e;omega,fun e=>by omega⟩
 | false=>
  rw[h1,aa7] at h
  cases h2:decide (l.op=3)||decide (l.op=4)||decide (l.op=5)||decide (l.op=6) with
  |true=>
   rw[h2,aa9] at h;simp only[aa3,Bool.not_eq_true',aa4] at h
   simp only[ab7,aa2] at h2
   exact⟨v1 h.1.2,v1 h.2,nA h.1.1.1.1,fun _=>⟨h.1.1.1.2,h.1.1.2⟩,fun e=>by omega⟩
  | false=>
   rw[h2,aa7] at h
   simp only[Bool.or_eq_false_iff,aa4] at h1 h2
   cases h3:decide (l.op=7) with
   |true=>
    rw[h3,aa9] at h;simp only[aa3] at h
    exact⟨v1 h.2,(GW h.1.2.2).1,tZ h.1.1,fun e=>by have:=hc e;omega,fun _=>(GW h.1.2.2).2⟩
   | false=>
    rw[h3,aa7] at h
    rw[aa4] at h3
    cases h4:decide (l.op=8)||decide (l.op=9)||decide (l.op=10) with
    |true=>
     rw[h4,aa9] at h;simp only[aa3] at h
     exact⟨v1 h.1.2,v1 h.2,tZ h.1.1.1,fun e=>by have:=hc e;omega,fun e=>absurd e h3⟩
    |false=>rw[h4,aa7] at h;cases h
section
variable {σ:Type} {get:σ->ByteArray->Int} {set:σ->ByteArray->Int->σ}
theorem Ry{op:Int}(h:op=1):kI op=false:=by subst h;rfl
mutual
theorem Tm.nh: ∀(t:Tm) (k:Int) (x:σ×Bool),t.wf=true->(t.want get set k x).1=false->(t.want get set k x).2=((t.dx get set k x.1).2,x.2||(t.dx get set k x.1).1)
 | .mk op s n l,k,x,hw,h=>by
  rw[Tm.wf] at hw
  rw[Tm.want] at h⊢
  rw[Tm.dx]
  cases he:(jd get set l x).1 with
  |true=>rw[he,aa9,he] at h;cases h
  | false=>
   rw[he,aa7] at h
   rw[aa7]
   cases h1:decide (op=1) with
   | true=>
    rw[aa2] at h1
    rw[Ry h1,aa7,aa2] at hw
    rw[List.eq_nil_of_length_eq_zero hw]
    rw[List.eq_nil_of_length_eq_zero hw] at h
    rw[jd] at h⊢
    subst h1
    simp only[bK,Tm.op,Tm.s,aa9,decide_true,show decide ((1:Int)=4)=false from rfl,Bool.or_false] at h⊢
    cases hk:decide (k=0) with
    |true=>simp
    |false=>
     rw[hk] at h
     simp only[aa7,Bool.false_or] at h⊢
     cases hg:decide (get x.1 s=0) with
     |true=>simp
     |false=>simp
   | false=>
    rw[aa7]
    have ih:(jd get set l x).2=((eb get set l x.1).2,x.2||(eb get set l x.1).1):=by
     cases h2:kI op with
     |true=>
      rw[h2,aa9,aa3] at hw
      exact Ca l x hw.2 he
     |false=>
      rw[h2,aa7,aa2] at hw
      rw[List.eq_nil_of_length_eq_zero hw]
      simp[jd,eb]
    cases hk:decide (k=0)||decide (op=4) with
    |true=>exact ih
    | false=>
     rw[hk,aa7] at h
     rw[aa7]
     rw[Bool.or_eq_false_iff] at hk
     have hn:decide (bK get (.mk op s n l) (jd get set l x).2.1=0)=false:=by
      unfold bK
      rw[show(Tm.mk op s n l).op=op from rfl,h1,aa7,hk.2]
      cases decide (op=3)<;>rfl
     rw[hn,aa7]
     exact ih
theorem Ca: ∀(l:List Tm) (x:σ×Bool),Hw l=true->(jd get set l x).1=false->(jd get set l x).2=((eb get set l x.1).2,x.2||(eb get set l x.1).1)
 |[],x,_,_=>by simp[jd,eb]
 | t::l,x,hw,h=>by
  rw[Hw,aa3] at hw
  rw[jd] at h⊢
  rw[eb]
  cases he:(t.want get set 1 x).1 with
  |true=>rw[he,aa9,he] at h;cases h
  |false=>
   rw[he,aa7] at h
   rw[aa7]
   have e1:=Tm.nh t 1 x hw.1 he
   have e2:=Ca l _ hw.2 h
   rw[e2,e1]
   simp only[Bool.or_assoc]
end
theorem vH: ∀(ws:List Int) (l:List Tm) (x:σ×Bool),Hw l=true->(iN get set ws l x).1=false->(iN get set ws l x).2=((cw get set ws l x.1).2,x.2||(cw get set ws l x.1).1)
 |[],l,x,_,_=>by simp[iN,cw]
 |w::ws,[],x,_,_=>by simp[iN,cw]
 | w::ws,t::l,x,hw,h=>by
  rw[Hw,aa3] at hw
  rw[iN] at h⊢
  rw[cw]
  cases he:(t.want get set w x).1 with
  |true=>rw[he,aa9,he] at h;cases h
  |false=>
   rw[he,aa7] at h
   rw[aa7]
   have e1:=t.nh w x hw.1 he
   have e2:=vH ws l _ hw.2 h
   rw[e2,e1]
   simp only[Bool.or_assoc]
theorem C7{y:Bool×(σ×Bool)}{f:σ×Bool->Bool×(σ×Bool)}(h:(kD y f).1=0):y.1=false/\(f y.2).1=false/\(kD y f).2=(f y.2).2:=by
 unfold kD at h⊢
 cases h1:y.1 with
 |true=>rw[h1] at h;cases h
 |false=>
  rw[h1,aa7] at h
  cases h2:(f y.2).1 with
  |true=>rw[h2] at h;cases h
  |false=>exact⟨rfl,rfl,rfl⟩
theorem sC{y:Bool×(σ×Bool)}{f:σ×Bool->Bool×(σ×Bool)}:(kD y f).1=0\/(kD y f).1=53:=by
 unfold kD
 cases y.1 with
 |true=>exact .inr rfl
 |false=>
  rw[aa7]
  cases(f y.2).1
  ·exact .inl rfl
  ·exact .inr rfl
theorem DP{t:Tm}(hw:t.wf=true)(h:t.op=0)(k:Int)(st:σ):t.dx get set k st=(false,st):=by
 obtain⟨op,s,n,l⟩:=t
 have h:op=0:=h
 subst h
 have:l.length=0:=by simpa[Tm.wf,kI] using hw
 rw[List.eq_nil_of_length_eq_zero this,Tm.dx,eb]
 rfl
theorem NS(ds:List Dc){l:Lt}(hl:Po l)(hk:dX l=true->known ds l.a=0)(x:σ×Bool)(h:(kj get set ds l x).1=0):(kj get set ds l x).2=((eF get set ds l x.1).2,x.2||(eF get set ds l x.1).1):=by
 unfold kj at h⊢
 unfold eF
 cases hc:fT l.op with
 |true=>
  rw[hc,aa9] at h
  rw[aa9,aa9]
  obtain⟨h1,h2,h3⟩:=C7 h
  have e1:=l.x.nh _ x hl.x h1
  have e2:=l.y.nh _ _ hl.y h2
  rw[h3,e2,e1]
  simp only[Bool.or_assoc]
 | false=>
  rw[hc,aa7] at h
  rw[aa7,aa7]
  have hat:dX l=true:=by
   simp only[fT,Bool.and_eq_false_iff,aa4] at hc
   simp only[dX,ab7,aa2];omega
  have ha:eh get set ds l.a x=(bif (iN get set (cO ds l.a.rel) l.a.l x).1 then 53 else 0,(iN get set (cO ds l.a.rel) l.a.l x).2):=by
   unfold eh;rw[hk hat];rfl
  have ok:(eh get set ds l.a x).1=0->(eh get set ds l.a x).2=((cw get set (cO ds l.a.rel) l.a.l x.1).2,x.2||(cw get set (cO ds l.a.rel) l.a.l x.1).1):=fun e=>by
   rw[ha] at e⊢
   cases he:(iN get set (cO ds l.a.rel) l.a.l x).1 with
   |true=>rw[he] at e;cases e
   |false=>exact vH _ _ _ hl.a he
  cases h12:decide (l.op=1)||decide (l.op=2) with
  |true=>
   rw[h12,aa9] at h
   rw[aa9,aa9]
   exact ok h
  | false=>
   rw[h12,aa7] at h
   rw[aa7,aa7]
   cases he:decide ((eh get set ds l.a x).1=0) with
   |false=>rw[he,Bool.not_false,aa9] at h;rw[h] at he;cases he
   | true=>
    rw[he,Bool.not_true,aa7] at h
    rw[Bool.not_true,aa7]
    rw[aa2] at he
    have e0:=ok he
    cases h7:decide (l.op=7) with
    | true=>
     rw[h7,aa9] at h
     rw[aa9]
     have hx:(l.x.want get set 1 (eh get set ds l.a x).2).1=false:=by
      cases e:(l.x.want get set 1 (eh get set ds l.a x).2).1 with
      |true=>rw[e] at h;cases h
      |false=>rfl
     have e1:=l.x.nh 1 _ hl.x hx
     rw[aa2] at h7
     rw[e1,e0,DP hl.y (hl.one h7)]
     simp only[Bool.or_false,Bool.or_assoc]
    |false=>
     rw[h7,aa7] at h
     rw[aa7]
     obtain⟨h1,h2,h3⟩:=C7 h
     have e1:=l.x.nh _ _ hl.x h1
     have e2:=l.y.nh _ _ hl.y h2
     rw[h3,e2,e1,e0]
     simp only[Bool.or_assoc]
theorem vG(ds:List Dc){l:Lt}(hk:dX l=true->known ds l.a=0)(x:σ×Bool):(kj get set ds l x).1=0\/(kj get set ds l x).1=53:=by
 unfold kj
 cases hc:fT l.op with
 |true=>rw[aa9];exact sC
 | false=>
  have hat:dX l=true:=by
   simp only[fT,Bool.and_eq_false_iff,aa4] at hc
   simp only[dX,ab7,aa2];omega
  have ha:(eh get set ds l.a x).1=0\/(eh get set ds l.a x).1=53:=by
   unfold eh;rw[hk hat]
   simp only[decide_true,aa9]
   cases(iN get set (cO ds l.a.rel) l.a.l x).1
   ·exact .inl rfl
   ·exact .inr rfl
  rw[aa7]
  cases decide (l.op=1)||decide (l.op=2) with
  |true=>exact ha
  | false=>
   rw[aa7]
   cases decide ((eh get set ds l.a x).1=0) with
   |false=>exact ha
   | true=>
    rw[Bool.not_true,aa7]
    cases decide (l.op=7) with
    |true=>
     rw[aa9]
     cases(l.x.want get set 1 (eh get set ds l.a x).2).1
     ·exact .inl rfl
     ·exact .inr rfl
    |false=>rw[aa7];exact sC
theorem Pw(ds:List Dc){l:Lt}(hat:dX l=true)(hk:known ds l.a≠0)(x:σ×Bool):(kj get set ds l x).1=known ds l.a:=by
 have hc:fT l.op=false:=by
  simp only[dX,ab7,aa2] at hat
  simp only[fT,Bool.and_eq_false_iff,aa4];omega
 have ha:eh get set ds l.a x=(known ds l.a,x):=by
  unfold eh;rw[aa6 hk];rfl
 unfold kj
 rw[hc,aa7,ha]
 simp only[aa6 hk,Bool.not_false,aa9]
 cases decide (l.op=1)||decide (l.op=2)<;>rfl
theorem wi(ds:List Dc): ∀(b:List Lt) (x:σ×Bool),iX ds b=0->(kb get set ds b (53,x)).1=53
 |[],_,_=>rfl
 | l::b,x,h=>by
  rw[iX] at h
  have hk:dX l=true->known ds l.a=0:=fun e=>by
   rw[e,ac1] at h
   cases h0:decide (known ds l.a=0) with
   |true=>simpa using h0
   |false=>rw[h0] at h;simp at h h0;exact absurd h h0
  have hb:iX ds b=0:=by
   cases e:dX l with
   |false=>rw[e] at h;exact h
   |true=>rw[e,aa8 (hk e)] at h;exact h
  rw[kb]
  have hn:im 53 (kj get set ds l x).1=53:=by
   rcases vG (get:=get) (set:=set) ds hk x with e|e<;>rw[e]<;>rfl
  simp only[hn]
  exact wi ds b _ hb
theorem Bd(ds:List Dc): ∀(b:List Lt) (x:σ×Bool),iX ds b=0->(∀l,l∈b->Po l)->(kb get set ds b (0,x)).1=0->(kb get set ds b (0,x)).2=((eT get set ds b x.1).2,x.2||(eT get set ds b x.1).1)
 |[],x,_,_,_=>by simp[kb,eT]
 | l::b,x,h,hw,he=>by
  rw[iX] at h
  have hk:dX l=true->known ds l.a=0:=fun e=>by
   rw[e,ac1] at h
   cases h0:decide (known ds l.a=0) with
   |true=>simpa using h0
   |false=>rw[h0] at h;simp at h h0;exact absurd h h0
  have hb:iX ds b=0:=by
   cases e:dX l with
   |false=>rw[e] at h;exact h
   |true=>rw[e,aa8 (hk e)] at h;exact h
  rw[kb] at he⊢
  rw[eT]
  have hn: ∀e:Int,im 0 e=e:=fun e=>rfl
  simp only[hn] at he⊢
  rcases vG (get:=get) (set:=set) ds hk x with e|e
  ·rw[e] at he⊢
   have e1:=NS ds (hw l List.mem_cons_self) hk x e
   have e2:=Bd ds b _ hb (fun m hm=>hw m (List.mem_cons_of_mem _ hm)) he
   rw[show tK 0=false from rfl,aa7,e2,e1]
   simp only[Bool.or_assoc]
  ·rw[e] at he
   rw[show tK 53=false from rfl,aa7,wi ds b _ hb] at he
   cases he
theorem Mi(ds:List Dc){r:Rl}(hh:Hw r.head.l=true)(hw: ∀l,l∈r.body->Po l)(hk:j2 ds r=0)(st:σ)(h:(fo get set ds r st).1=0):(fo get set ds r st).2=((j4 get set ds r st).2,(j4 get set ds r st).1):=by
 unfold j2 at hk
 have h0:known ds r.head=0:=by
  cases e:decide (known ds r.head=0) with
  |true=>simpa using e
  |false=>rw[e,aa7] at hk;exact hk
 rw[h0] at hk
 have hb:iX ds r.body=0:=hk
 unfold fo at h⊢
 have ha:eh get set ds r.head (st,false)=(bif (iN get set (cO ds r.head.rel) r.head.l (st,false)).1 then 53 else 0,(iN get set (cO ds r.head.rel) r.head.l (st,false)).2):=by
  unfold eh;rw[h0];rfl
 rw[ha] at h⊢
 cases he:(iN get set (cO ds r.head.rel) r.head.l (st,false)).1 with
 |true=>rw[he,aa9,wi ds _ _ hb] at h;cases h
 |false=>
  rw[he,aa7] at h
  rw[aa7,Bd ds _ _ hb hw h,vH _ _ _ hh he]
  simp only[Bool.false_or];rfl
end
section
variable {σ:Type} {get:σ->ByteArray->Int} {set:σ->ByteArray->Int->σ}
variable (hgs: ∀st s k t,get (set st s k) t=bif t==s then k else get st t)
include hgs
end
section
variable {σ:Type} {get:σ->ByteArray->Int} {set:σ->ByteArray->Int->σ}
end
theorem Ao{l:Lt}{s:ByteArray}(h:s∈l.x.vars):s∈eE l:=by simp[eE,ax,h]
theorem yR{l:Lt}{s:ByteArray}(h:s∈l.y.vars):s∈eE l:=by simp[eE,ax,h]
theorem Et{l:Lt}{s:ByteArray}(h:s∈ax l.a.l):s∈eE l:=by simp[eE,h]
section
variable {σ:Type} {get:σ->ByteArray->Int} {set:σ->ByteArray->Int->σ}
def yz(get:σ->ByteArray->Int)(V:ByteArray->Prop)(a b:σ):Prop:=∃s,V s/\get a s=0/\get b s≠0
theorem yz.left{V W:ByteArray->Prop}{a b c:σ}(h:yz get V a b)(hx:Ext get b c)(hs: ∀s,V s->W s):yz get W a c:=by
 obtain⟨s,h1,h2,h3⟩:=h
 exact⟨s,hs s h1,h2,by rw[hx s h3];exact h3⟩
theorem yz.right{V W:ByteArray->Prop}{a b c:σ}(hx:Ext get a b)(h:yz get V b c)(hs: ∀s,V s->W s):yz get W a c:=by
 obtain⟨s,h1,h2,h3⟩:=h
 refine⟨s,hs s h1,?_,h3⟩
 cases e:decide (get a s=0) with
 |true=>simpa using e
 |false=>rw[aa4] at e;rw[hx s e] at h2;exact absurd h2 e
variable (hgs: ∀st s k t,get (set st s k) t=bif t==s then k else get st t)
include hgs
mutual
theorem Tm.ku: ∀(t:Tm) (w:Int) (st:σ),(t.dx get set w st).1=true->yz get (fun s=>s∈t.vars) st (t.dx get set w st).2
 | .mk op s n l,w,st,h=>by
  rw[Tm.dx] at h⊢
  cases h1:decide (op=1) with
  |false=>
   rw[h1,aa7] at h
   rw[aa7]
   exact(v8 l st h).left (Ext.refl _ _) fun s hs=>by rw[Tm.vars];exact ab5 _ hs
  | true=>
   rw[h1,aa9] at h
   rw[aa9]
   cases hc:(decide (w=0)|| !decide (get st s=0)) with
   |true=>rw[hc,aa9] at h;cases h
   |false=>
    rw[aa7]
    simp only[Bool.or_eq_false_iff,aa4,ab4,aa2] at hc
    refine⟨s,by rw[Tm.vars,h1];simp,hc.2,?_⟩
    rw[hgs]
    simpa using hc.1
theorem v8: ∀(l:List Tm) (st:σ),(eb get set l st).1=true->yz get (fun s=>s∈ax l) st (eb get set l st).2
 |[],_,h=>by rw[eb] at h;cases h
 | t::l,st,h=>by
  rw[eb] at h⊢
  cases h1:(t.dx get set 1 st).1 with
  |true=>exact(Tm.ku t 1 st h1).left (qc hgs l _) fun s hs=>by rw[ax];exact ab6 _ hs
  |false=>
   rw[h1,Bool.false_or] at h
   exact yz.right (Tm.ei hgs t 1 st) (v8 l _ h) fun s hs=>by rw[ax];exact ab5 _ hs
end
theorem mY: ∀(ws:List Int) (l:List Tm) (st:σ),(cw get set ws l st).1=true->yz get (fun s=>s∈ax l) st (cw get set ws l st).2
 |[],l,st,h=>by simp[cw] at h
 |w::ws,[],st,h=>by simp[cw] at h
 | w::ws,t::l,st,h=>by
  rw[cw] at h⊢
  cases h1:(t.dx get set w st).1 with
  |true=>exact(Tm.ku hgs t w st h1).left (gF hgs ws l _) fun s hs=>by rw[ax];exact ab6 _ hs
  |false=>
   rw[h1,Bool.false_or] at h
   exact yz.right (Tm.ei hgs t w st) (mY ws l _ h) fun s hs=>by rw[ax];exact ab5 _ hs
theorem BM(ds:List Dc)(l:Lt)(st:σ)(h:(eF get set ds l st).1=true):yz get (fun s=>s∈eE l) st (eF get set ds l st).2:=by
 unfold eF at h⊢
 cases hc:fT l.op with
 | true=>
  rw[hc,aa9] at h
  rw[aa9]
  cases h1:(l.x.dx get set (kP get l st) st).1 with
  |true=>exact(Tm.ku hgs _ _ _ h1).left (Tm.ei hgs l.y _ _) fun s=>Ao
  |false=>
   rw[h1,Bool.false_or] at h
   exact yz.right (Tm.ei hgs l.x _ st) (Tm.ku hgs _ _ _ h) fun s=>yR
 | false=>
  rw[hc,aa7] at h
  rw[aa7]
  cases h12:decide (l.op=1)||decide (l.op=2) with
  |true=>rw[h12,aa9] at h;exact(mY hgs _ _ _ h).left (Ext.refl _ _) fun s=>Et
  | false=>
   rw[h12,aa7] at h
   rw[aa7]
   cases h0:(cw get set (cO ds l.a.rel) l.a.l st).1 with
   |true=>exact(mY hgs _ _ _ h0).left ((Tm.ei hgs l.x _ _).trans (Tm.ei hgs l.y _ _)) fun s=>Et
   | false=>
    rw[h0,Bool.false_or] at h
    cases h1:(l.x.dx get set 1 (cw get set (cO ds l.a.rel) l.a.l st).2).1 with
    |true=>exact yz.right (gF hgs _ _ st) ((Tm.ku hgs _ _ _ h1).left (W:=fun s=>s∈eE l) (Tm.ei hgs l.y _ _) fun s=>Ao) fun s hs=>hs
    |false=>
     rw[h1,Bool.false_or] at h
     exact yz.right ((gF hgs _ _ st).trans (Tm.ei hgs l.x _ _)) (Tm.ku hgs _ _ _ h) fun s=>yR
theorem w7(ds:List Dc): ∀(b:List Lt) (st:σ),(eT get set ds b st).1=true->yz get (fun s=>s∈b.flatMap eE) st (eT get set ds b st).2
 |[],_,h=>by rw[eT] at h;cases h
 | l::b,st,h=>by
  rw[eT] at h⊢
  cases h1:(eF get set ds l st).1 with
  |true=>exact(BM hgs ds l st h1).left (mW hgs ds b _) fun s hs=>by rw[List.flatMap_cons];exact ab6 _ hs
  |false=>
   rw[h1,Bool.false_or] at h
   exact yz.right (sO hgs ds l st) (w7 ds b _ h) fun s hs=>by rw[List.flatMap_cons];exact ab5 _ hs
theorem EE(ds:List Dc)(r:Rl)(st:σ)(h:(j4 get set ds r st).1=true):yz get (fun s=>s∈fw r) st (j4 get set ds r st).2:=by
 unfold j4 at h⊢
 cases h1:(cw get set (cO ds r.head.rel) r.head.l st).1 with
 |true=>exact(mY hgs _ _ _ h1).left (mW hgs ds _ _) fun s hs=>by rw[fw];exact ab6 _ hs
 |false=>
  rw[h1,Bool.false_or] at h
  exact yz.right (gF hgs _ _ st) (w7 hgs ds _ _ h) fun s hs=>by rw[fw];exact ab5 _ hs
omit hgs
def lZ(get:σ->ByteArray->Int)(V:List ByteArray)(st:σ):Nat:=(V.filter fun s=>decide (get st s=0)).length
theorem KS(get:σ->ByteArray->Int)(V:List ByteArray)(st:σ):lZ get V st<=V.length:=List.length_filter_le _ _
theorem yH{a b:σ}(h:Ext get a b): ∀V:List ByteArray,lZ get V b<=lZ get V a
 |[]=>Nat.le_refl _
 | s::V=>by
  have ih:=yH h V
  unfold lZ at ih⊢
  rw[List.filter_cons,List.filter_cons]
  cases e:decide (get a s=0) with
  |true=>
   split
   ·simp only[List.length_cons,if_true];omega
   ·simp only[List.length_cons,if_true];omega
  |false=>
   rw[aa4] at e
   rw[aa6 (show ¬ get b s=0 by rw[h s e];exact e)]
   simpa using ih
theorem x1{a b:σ}(h:Ext get a b): ∀V:List ByteArray,yz get (fun s=>s∈V) a b->lZ get V b<lZ get V a
 |[],⟨_,h1,_⟩=>nomatch h1
 | s::V,⟨t,h1,h2,h3⟩=>by
  rcases List.mem_cons.1 h1 with rfl|h1
  ·have ih:=yH h V
   unfold lZ at ih⊢
   rw[List.filter_cons,List.filter_cons,aa8 h2,aa6 h3]
   simp only[if_true,List.length_cons]
   simpa using Nat.lt_succ_of_le ih
  ·have ih:=x1 h V ⟨t,h1,h2,h3⟩
   unfold lZ at ih⊢
   rw[List.filter_cons,List.filter_cons]
   cases e:decide (get a s=0) with
   |true=>
    split
    ·simp only[List.length_cons,if_true];omega
    ·simp only[List.length_cons,if_true];omega
   |false=>
    rw[aa4] at e
    rw[aa6 (show ¬ get b s=0 by rw[h s e];exact e)]
    simpa using ih
include hgs
end
section
variable {σ ρ:Type} {get:σ->ByteArray->Int} {set:σ->ByteArray->Int->σ} {get':ρ->ByteArray->Int} {set':ρ->ByteArray->Int->ρ} {V:ByteArray->Prop} {P:ρ->Prop}
def Alike(get:σ->ByteArray->Int)(get':ρ->ByteArray->Int)(V:ByteArray->Prop)(P:ρ->Prop)(a:σ)(b:ρ):Prop:=P b/\∀s,V s->get a s=get' b s
variable (hg: ∀st s k t,get (set st s k) t=bif t==s then k else get st t) (hg': ∀st s k t,P st->V s->V t->get' (set' st s k) t=bif t==s then k else get' st t) (hp: ∀st s k,P st->V s->P (set' st s k))
theorem Alike.ty{a:σ}{b:ρ}(h:Alike get get' V P a b){t:Tm}(hv: ∀s,s∈t.vars->V s):bK get t a=bK get' t b:=by
 unfold bK
 cases h1:decide (t.op=1) with
 |false=>rfl
 |true=>
  refine h.2 _ (hv _ ?_)
  obtain⟨op,s,n,l⟩:=t
  rw[Tm.vars,show decide (op=1)=true from h1]
  simp[Tm.s]
theorem Alike.kind{a:σ}{b:ρ}(h:Alike get get' V P a b){l:Lt}(hv: ∀s,s∈eE l->V s):kP get l a=kP get' l b:=by
 unfold kP
 rw[h.ty (t:=l.x) fun s hs=>hv s (Ao hs),h.ty (t:=l.y) fun s hs=>hv s (yR hs)]
include hg hg' hp
mutual
theorem Alike.dx: ∀(t:Tm) (w:Int) {a:σ} {b:ρ},Alike get get' V P a b->(∀s,s∈t.vars->V s)->(t.dx get set w a).1=(t.dx get' set' w b).1/\Alike get get' V P (t.dx get set w a).2 (t.dx get' set' w b).2
 | .mk op s n l,w,a,b,h,hv=>by
  rw[Tm.dx,Tm.dx]
  cases h1:decide (op=1) with
  |false=>exact Alike.eb l h fun s hs=>hv s (by rw[Tm.vars];exact ab5 _ hs)
  | true=>
   have hs:V s:=hv s (by rw[Tm.vars,h1];simp)
   rw[aa9,aa9,h.2 s hs]
   cases(decide (w=0)|| !decide (get' b s=0)) with
   |true=>exact⟨rfl,h⟩
   |false=>
    refine⟨rfl,hp b s w h.1 hs,fun t ht=>?_⟩
    rw[aa7,aa7,hg,hg' b s w t h.1 hs ht,h.2 t ht]
theorem Alike.eb: ∀(l:List Tm) {a:σ} {b:ρ},Alike get get' V P a b->(∀s,s∈ax l->V s)->(eb get set l a).1=(eb get' set' l b).1/\Alike get get' V P (eb get set l a).2 (eb get' set' l b).2
 |[],a,b,h,_=>by have _:=hg;have _:=hg';have _:=hp;exact⟨rfl,h⟩
 |t::l,a,b,h,hv=>by
  rw[Rl.eb,Rl.eb]
  obtain⟨e1,h1⟩:=Alike.dx t 1 h fun s hs=>hv s (by rw[ax];exact ab6 _ hs)
  obtain⟨e2,h2⟩:=Alike.eb l h1 fun s hs=>hv s (by rw[ax];exact ab5 _ hs)
  exact⟨by rw[e1,e2],h2⟩
end
theorem Alike.cw: ∀(ws:List Int) (l:List Tm) {a:σ} {b:ρ},Alike get get' V P a b->(∀s,s∈ax l->V s)->(cw get set ws l a).1=(cw get' set' ws l b).1/\Alike get get' V P (cw get set ws l a).2 (cw get' set' ws l b).2
 |[],l,a,b,h,_=>by simpa[Rl.cw] using h
 |w::ws,[],a,b,h,_=>by simpa[Rl.cw] using h
 |w::ws,t::l,a,b,h,hv=>by
  rw[Rl.cw,Rl.cw]
  obtain⟨e1,h1⟩:=Alike.dx hg hg' hp t w h fun s hs=>hv s (by rw[ax];exact ab6 _ hs)
  obtain⟨e2,h2⟩:=Alike.cw ws l h1 fun s hs=>hv s (by rw[ax];exact ab5 _ hs)
  exact⟨by rw[e1,e2],h2⟩
theorem Alike.eF(ds:List Dc)(l:Lt){a:σ}{b:ρ}(h:Alike get get' V P a b)(hv: ∀s,s∈eE l->V s):(eF get set ds l a).1=(eF get' set' ds l b).1/\Alike get get' V P (eF get set ds l a).2 (eF get' set' ds l b).2:=by
 unfold Rl.eF
 have vx: ∀s,s∈l.x.vars->V s:=fun s hs=>hv s (Ao hs)
 have vy: ∀s,s∈l.y.vars->V s:=fun s hs=>hv s (yR hs)
 have va: ∀s,s∈ax l.a.l->V s:=fun s hs=>hv s (Et hs)
 cases fT l.op with
 |true=>
  rw[aa9,aa9,h.kind hv]
  obtain⟨e1,h1⟩:=Alike.dx hg hg' hp l.x (kP get' l b) h vx
  obtain⟨e2,h2⟩:=Alike.dx hg hg' hp l.y (kP get' l b) h1 vy
  exact⟨by rw[e1,e2],h2⟩
 | false=>
  rw[aa7,aa7]
  obtain⟨e0,h0⟩:=Alike.cw hg hg' hp (cO ds l.a.rel) l.a.l h va
  cases decide (l.op=1)||decide (l.op=2) with
  |true=>exact⟨e0,h0⟩
  |false=>
   obtain⟨e1,h1⟩:=Alike.dx hg hg' hp l.x 1 h0 vx
   obtain⟨e2,h2⟩:=Alike.dx hg hg' hp l.y 1 h1 vy
   exact⟨by rw[aa7,aa7,e0,e1,e2],h2⟩
theorem Alike.eT(ds:List Dc): ∀(l:List Lt) {a:σ} {b:ρ},Alike get get' V P a b->(∀s,s∈l.flatMap eE->V s)->(eT get set ds l a).1=(eT get' set' ds l b).1/\Alike get get' V P (eT get set ds l a).2 (eT get' set' ds l b).2
 |[],a,b,h,_=>⟨rfl,h⟩
 |l::m,a,b,h,hv=>by
  rw[Rl.eT,Rl.eT]
  obtain⟨e1,h1⟩:=Alike.eF hg hg' hp ds l h fun s hs=>hv s (by rw[List.flatMap_cons];exact ab6 _ hs)
  obtain⟨e2,h2⟩:=Alike.eT ds m h1 fun s hs=>hv s (by rw[List.flatMap_cons];exact ab5 _ hs)
  exact⟨by rw[e1,e2],h2⟩
theorem Alike.j4(ds:List Dc)(r:Rl){a:σ}{b:ρ}(h:Alike get get' V P a b)(hv: ∀s,s∈fw r->V s):(j4 get set ds r a).1=(j4 get' set' ds r b).1/\Alike get get' V P (j4 get set ds r a).2 (j4 get' set' ds r b).2:=by
 unfold Rl.j4
 obtain⟨e1,h1⟩:=Alike.cw hg hg' hp (cO ds r.head.rel) r.head.l h fun s hs=>hv s (by rw[fw];exact ab6 _ hs)
 obtain⟨e2,h2⟩:=Alike.eT hg hg' hp ds r.body h1 fun s hs=>hv s (by rw[fw];exact ab5 _ hs)
 exact⟨by rw[e1,e2],h2⟩
end
def getM(es:List (Value×AV))(s:ByteArray):Int:=toInt (dt es (.string s) (.lit (.int .i64 0)))
def gp(es:List (Value×AV))(s:ByteArray)(k:Int):List (Value×AV):=ff es (.string s) (.lit (.int .i64 k))
theorem oe: ∀(es:List (Value×AV)) (s:ByteArray) (k:Int) (t:ByteArray),getM (gp es s k) t=bif t==s then k else getM es t
 |[],s,k,t=>by
  simp only[getM,gp,ff,dt,dn]
  cases t==s<;>rfl
 | (k',a')::es,s,k,t=>by
  have ih:=oe es s k t
  simp only[getM,gp,ff,dt] at ih⊢
  cases h:dn (.string s) k' with
  |true=>
   have hk:=oL h
   subst hk
   simp only[aa9,dt,dn]
   cases h2:t==s with
   |true=>rfl
   |false=>simp
  | false=>
   simp only[aa7,dt]
   cases h3:dn (.string t) k' with
   |false=>simpa using ih
   | true=>
    have hk:=oL h3
    subst hk
    have h4:(t==s)=false:=by
     cases h5:t==s with
     |false=>rfl
     |true=>rw[eq_of_beq h5] at h;simp[dn] at h
    simp[h4]
def plc(V:List ByteArray)(s:ByteArray):Nat:=V.findIdx (ll s)
def jI(V:List ByteArray)(τ:List Int)(s:ByteArray)(k:Int):List Int:=τ.set (plc V s) k
def pH(ds:List Dc)(r:Rl):Int×List Int:=
 bif decide ((fM getM gp ds r ((dc r).length+1) []).1=0) then
  (bif (dc r).all (fun s=>!decide (getM (fM getM gp ds r ((dc r).length+1) []).2 s=0)) then(0,(dc r).map (getM (fM getM gp ds r ((dc r).length+1) []).2)) else(53,[]))
 else((fM getM gp ds r ((dc r).length+1) []).1,[])
theorem mj(ds:List Dc)(a:At):known ds a=0\/known ds a=51\/known ds a=52:=by
 unfold known
 cases j8 a.rel ds with
 |none=>exact .inr (.inl rfl)
 |some i=>
  show(bif _ then(0:Int) else 52)=0\/_
  cases decide ((cO ds a.rel).length=a.l.length)
  ·exact .inr (.inr rfl)
  ·exact .inl rfl
section
variable {σ:Type} {get:σ->ByteArray->Int} {set:σ->ByteArray->Int->σ}
theorem De(ds:List Dc): ∀(b:List Lt) (y:Int×(σ×Bool)),(y.1=0\/y.1=53)->iX ds b≠0->(kb get set ds b y).1=iX ds b
 |[],_,_,h=>absurd rfl h
 | l::b,y,hy,h=>by
  rw[iX] at h⊢
  rw[kb]
  cases hc:dX l&& !decide (known ds l.a=0) with
  | true=>
   rw[aa9]
   simp only[aa3,Bool.not_eq_true',aa4] at hc
   rw[Pw ds hc.1 hc.2]
   have hn:im y.1 (known ds l.a)=known ds l.a:=by
    rcases hy with e|e<;>rw[e]<;>rcases mj ds l.a with e2|e2|e2<;>rw[e2]<;>first|rfl|exact absurd e2 hc.2
   have hi:tK (known ds l.a)=true:=by
    rcases mj ds l.a with e2|e2|e2
    ·exact absurd e2 hc.2
    ·rw[e2];rfl
    ·rw[e2];rfl
   rw[hn,hi];rfl
  | false=>
   rw[hc,aa7] at h
   rw[aa7]
   have hk:dX l=true->known ds l.a=0:=fun e=>by
    rw[e,ac1] at hc
    simpa using hc
   have hn:im y.1 (kj get set ds l y.2).1=0\/im y.1 (kj get set ds l y.2).1=53:=by
    rcases vG (get:=get) (set:=set) ds hk y.2 with e|e<;>rcases hy with e2|e2<;>rw[e,e2]<;>decide
   have hi:tK (im y.1 (kj get set ds l y.2).1)=false:=by rcases hn with e|e<;>rw[e]<;>rfl
   rw[hi,aa7]
   exact De ds b _ hn h
theorem CZ(ds:List Dc)(r:Rl)(st:σ)(h:j2 ds r≠0):(fo get set ds r st).1=j2 ds r:=by
 unfold fo
 unfold j2 at h⊢
 cases h0:decide (known ds r.head=0) with
 |true=>
  rw[h0,aa9] at h
  rw[aa9]
  refine De ds _ _ ?_ h
  unfold eh
  rw[h0,aa9]
  cases(iN get set (cO ds r.head.rel) r.head.l (st,false)).1
  ·exact .inl rfl
  ·exact .inr rfl
 | false=>
  rw[aa7]
  have ha:eh get set ds r.head (st,false)=(known ds r.head,(st,false)):=by
   unfold eh;rw[h0];rfl
  rw[ha]
  rw[aa4] at h0
  cases r.body with
  |nil=>rfl
  | cons l b=>
   rw[kb]
   have hn: ∀e,im (known ds r.head) e=known ds r.head:=fun e=>by
    rcases mj ds r.head with e2|e2|e2
    ·exact absurd e2 h0
    ·rw[e2];rfl
    ·rw[e2];rfl
   have hi:tK (known ds r.head)=true:=by
    rcases mj ds r.head with e2|e2|e2
    ·exact absurd e2 h0
    ·rw[e2];rfl
    ·rw[e2];rfl
   simp only[hn,hi];rfl
end
end Go.Rl
