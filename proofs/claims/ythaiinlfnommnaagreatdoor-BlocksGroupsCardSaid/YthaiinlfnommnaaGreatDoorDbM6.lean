import Derived.Test.YthaiinlfnommnaaGreatDoorDbM1
namespace Go.Rl
open Go Go.Dn
structure Dc where
 rel:ByteArray
 types:List Int
def jT(s:ByteArray):List Dc->Option Nat
 |[]=>none
 |d::l=>bif lZ d.rel s then some 0 else(jT s l).map (· +1)
def cw(ds:List Dc)(s:ByteArray):List Int:=match jT s ds with|some i=>(ds.getD i ⟨ByteArray.empty,[]⟩).types|none=>[]
def known(ds:List Dc)(a:At):Int:=match jT a.rel ds with|none=>51|some _=>bif decide ((cw ds a.rel).length=a.l.length) then 0 else 52
def dN(l:Lt):Bool:=decide (l.op<3)||decide (6<l.op)
def iC(ds:List Dc):List Lt->Int
 |[]=>0
 |l::b=>bif dN l&& !decide (known ds l.a=0) then known ds l.a else iC ds b
def jC(ds:List Dc)(r:Rl):Int:=bif decide (known ds r.head=0) then iC ds r.body else known ds r.head
section
variable {σ:Type} (get:σ->ByteArray->Int) (set:σ->ByteArray->Int->σ)
def bD(t:Tm)(st:σ):Int:=bif decide (t.op=1) then get st t.s else bif decide (t.op=3) then 2 else bif decide (t.op=4) then 0 else 1
mutual
def Tm.dk:Tm->Int->σ->Bool×σ
 | .mk op s _ l,w,st=>bif decide (op=1) then(bif decide (w=0)|| !decide (get st s=0) then(false,st) else(true,set st s w)) else dP l st
def dP:List Tm->σ->Bool×σ
 |[],st=>(false,st)
 |t::l,st=>((Tm.dk t 1 st).1||(dP l (Tm.dk t 1 st).2).1,(dP l (Tm.dk t 1 st).2).2)
end
mutual
def Tm.want:Tm->Int->σ×Bool->Bool×(σ×Bool)
 | .mk op s n l,k,x=>
  bif (iw l x).1 then iw l x
  else bif decide (k=0)||decide (op=4) then(false,(iw l x).2)
  else bif decide (bD get (.mk op s n l) (iw l x).2.1=0) then(false,(set (iw l x).2.1 s k,true))
  else(!decide (bD get (.mk op s n l) (iw l x).2.1=k),(iw l x).2)
def iw:List Tm->σ×Bool->Bool×(σ×Bool)
 |[],x=>(false,x)
 |t::l,x=>bif (Tm.want t 1 x).1 then Tm.want t 1 x else iw l (Tm.want t 1 x).2
end
def cm:List Int->List Tm->σ->Bool×σ
 |w::ws,t::l,st=>((t.dk get set w st).1||(cm ws l (t.dk get set w st).2).1,(cm ws l (t.dk get set w st).2).2)
 |_,_,st=>(false,st)
def iq:List Int->List Tm->σ×Bool->Bool×(σ×Bool)
 |w::ws,t::l,x=>bif (t.want get set w x).1 then t.want get set w x else iq ws l (t.want get set w x).2
 |_,_,x=>(false,x)
def fH(op:Int):Bool:=decide (3<=op)&&decide (op<=6)
def kx(l:Lt)(st:σ):Int:=bif decide (bD get l.y st>bD get l.x st) then bD get l.y st else bD get l.x st
def eg(ds:List Dc)(l:Lt)(st:σ):Bool×σ:=
 bif fH l.op then
  ((l.x.dk get set (kx get l st) st).1||(l.y.dk get set (kx get l st) (l.x.dk get set (kx get l st) st).2).1,(l.y.dk get set (kx get l st) (l.x.dk get set (kx get l st) st).2).2)
 else bif decide (l.op=1)||decide (l.op=2) then cm get set (cw ds l.a.rel) l.a.l st
 else((cm get set (cw ds l.a.rel) l.a.l st).1||(l.x.dk get set 1 (cm get set (cw ds l.a.rel) l.a.l st).2).1||(l.y.dk get set 1 (l.x.dk get set 1 (cm get set (cw ds l.a.rel) l.a.l st).2).2).1,
  (l.y.dk get set 1 (l.x.dk get set 1 (cm get set (cw ds l.a.rel) l.a.l st).2).2).2)
def er(ds:List Dc):List Lt->σ->Bool×σ
 |[],st=>(false,st)
 |l::b,st=>((eg get set ds l st).1||(er ds b (eg get set ds l st).2).1,(er ds b (eg get set ds l st).2).2)
def jD(ds:List Dc)(r:Rl)(st:σ):Bool×σ:=
 ((cm get set (cw ds r.head.rel) r.head.l st).1||(er get set ds r.body (cm get set (cw ds r.head.rel) r.head.l st).2).1,(er get set ds r.body (cm get set (cw ds r.head.rel) r.head.l st).2).2)
def dU(ds:List Dc)(a:At)(x:σ×Bool):Int×(σ×Bool):=
 bif decide (known ds a=0) then(bif (iq get set (cw ds a.rel) a.l x).1 then 53 else 0,(iq get set (cw ds a.rel) a.l x).2) else(known ds a,x)
def kI(y:Bool×(σ×Bool))(f:σ×Bool->Bool×(σ×Bool)):Int×(σ×Bool):=bif y.1 then(53,y.2) else(bif (f y.2).1 then 53 else 0,(f y.2).2)
def jV(ds:List Dc)(l:Lt)(x:σ×Bool):Int×(σ×Bool):=
 bif fH l.op then kI (l.x.want get set (kx get l x.1) x) (l.y.want get set (kx get l x.1))
 else bif decide (l.op=1)||decide (l.op=2) then dU get set ds l.a x
 else bif !decide ((dU get set ds l.a x).1=0) then dU get set ds l.a x
 else bif decide (l.op=7) then(bif (l.x.want get set 1 (dU get set ds l.a x).2).1 then 53 else 0,(l.x.want get set 1 (dU get set ds l.a x).2).2)
 else kI (l.x.want get set 1 (dU get set ds l.a x).2) (l.y.want get set 1)
def sD(e:Int):Bool:=decide (e=51)||decide (e=52)
def gO(w e:Int):Int:=bif decide (w=0)||decide (w=53)&&sD e then e else w
def jU(ds:List Dc):List Lt->Int×(σ×Bool)->Int×(σ×Bool)
 |[],y=>y
 |l::b,y=>bif sD (gO y.1 (jV get set ds l y.2).1) then(gO y.1 (jV get set ds l y.2).1,(jV get set ds l y.2).2)
  else jU ds b (gO y.1 (jV get set ds l y.2).1,(jV get set ds l y.2).2)
def eU(ds:List Dc)(r:Rl)(st:σ):Int×(σ×Bool):=jU get set ds r.body (dU get set ds r.head (st,false))
def fB(ds:List Dc)(r:Rl):Nat->σ->Int×σ
 |0,st=>(0,st)
 |n+1,st=>bif decide ((eU get set ds r st).1=0) then(bif (eU get set ds r st).2.2 then fB ds r n (eU get set ds r st).2.1 else(0,(eU get set ds r st).2.1)) else((eU get set ds r st).1,(eU get set ds r st).2.1)
def Ext(st st':σ):Prop:=∀s,get st s≠0->get st' s=get st s
theorem Ext.refl(st:σ):Ext get st st:=fun _ _=>rfl
variable {get set}
theorem Ext.trans{a b c:σ}(h1:Ext get a b)(h2:Ext get b c):Ext get a c:=fun s h=>by rw[h2 s (by rw[h1 s h];exact h),h1 s h]
variable (hgs: ∀st s k t,get (set st s k) t=bif t==s then k else get st t)
include hgs
mutual
theorem Tm.dW: ∀(t:Tm) (w:Int) (st:σ),Ext get st (t.dk get set w st).2
 | .mk op s n l,w,st=>by
  rw[Tm.dk]
  cases decide (op=1) with
  |false=>exact pG l st
  | true=>
   rw[aa8]
   cases h:(decide (w=0)|| !decide (get st s=0)) with
   |true=>exact Ext.refl _ _
   | false=>
    intro t ht
    rw[aa6,hgs]
    cases e:t==s with
    |false=>rfl
    |true=>
     rw[Bool.or_eq_false_iff,ab3,aa1] at h
     rw[eq_of_beq e] at ht
     exact absurd h.2 ht
theorem pG: ∀(l:List Tm) (st:σ),Ext get st (dP get set l st).2
 |[],st=>by have _:=hgs;exact Ext.refl _ _
 |t::l,st=>by rw[dP];exact(Tm.dW t 1 st).trans (pG l _)
end
theorem gn: ∀(ws:List Int) (l:List Tm) (st:σ),Ext get st (cm get set ws l st).2
 |w::ws,t::l,st=>by rw[cm];exact(Tm.dW hgs t w st).trans (gn ws l _)
 |[],_,st=>by rw[cm];exact Ext.refl _ _;intro _ _ _ _ h;cases h
 |_::_,[],st=>by rw[cm];exact Ext.refl _ _;intro _ _ _ _ _ h;cases h
theorem r5(ds:List Dc)(l:Lt)(st:σ):Ext get st (eg get set ds l st).2:=by
 unfold eg
 cases fH l.op with
 |true=>exact(Tm.dW hgs l.x _ st).trans (Tm.dW hgs l.y _ _)
 |false=>
  rw[aa6]
  cases(decide (l.op=1)||decide (l.op=2)) with
  |true=>exact gn hgs _ _ st
  |false=>exact((gn hgs _ _ st).trans (Tm.dW hgs l.x 1 _)).trans (Tm.dW hgs l.y 1 _)
theorem mE(ds:List Dc): ∀(b:List Lt) (st:σ),Ext get st (er get set ds b st).2
 |[],st=>Ext.refl _ _
 |l::b,st=>by rw[er];exact(r5 hgs ds l st).trans (mE ds b _)
theorem C6(ds:List Dc)(r:Rl)(st:σ):Ext get st (jD get set ds r st).2:=(gn hgs _ _ st).trans (mE hgs ds _ _)
end
def WE(o:List ByteArray)(s:ByteArray):List ByteArray:=bif o.contains s then o else o++[s]
def Rh(o m:List ByteArray):List ByteArray:=m.foldl WE o
mutual
def Tm.rv:Tm->List ByteArray
 | .mk op s _ l=>bif decide (op=1) then[s] else XB l []
def XB:List Tm->List ByteArray->List ByteArray
 |[],o=>o
 |t::l,o=>XB l (Rh o t.rv)
end
mutual
def Tm.wf:Tm->Bool
 | .mk op _ _ l=>bif kK op then decide (l.length=2)&&FB l else decide (l.length=0)
def FB:List Tm->Bool
 |[]=>true
 |t::l=>t.wf&&FB l
end
theorem uV: ∀(h:Nat) (t:Tm),au h t=true->t.wf=true
 |0,_,h=>by simp[au] at h
 | h+1, .mk op s n l,e=>by
  rw[re] at e
  rw[Tm.wf]
  have go: ∀l:List Tm,mw h l=true->FB l=true:=by
   intro l
   induction l with
   |nil=>intro _;rfl
   |cons t l ih=>
    intro e
    simp only[mw,List.all_cons,aa2] at e
    rw[FB,uV h t e.1.2,ih e.2];rfl
  cases h0:decide (op=0) with
  |true=>rw[h0,aa8] at e;cases e
  | false=>
   rw[h0,aa6] at e
   cases h2:kK op with
   |true=>
    rw[h2,aa8] at e
    simp only[aa2] at e
    rw[aa8,e.1.2,go l e.2];rfl
   |false=>
    rw[h2,aa6,aa2] at e
    exact e.2
theorem Fv{t:Tm}(h:Fx t=true):t.wf=true/\t.op=0:=by
 obtain⟨op,s,n,l⟩:=t
 simp only[Fx,aa2,aa1] at h
 have h0:op=0:=h.1.1
 subst h0
 exact⟨aa7 h.2,rfl⟩
theorem Iq{h:Nat}: ∀{l:List Tm},l.all (au h)=true->FB l=true
 |[],_=>rfl
 |t::l,e=>by
  simp only[List.all_cons,aa2] at e
  rw[FB,uV h t e.1,Iq e.2];rfl
theorem th{a:At}(h:bf a=true):FB a.l=true:=by
 simp only[bf,aa2] at h
 exact Iq h.2
structure MF(l:Lt):Prop where
 x:l.x.wf=true
 y:l.y.wf=true
 a:FB l.a.l=true
 cmp:fH l.op=true->l.x.op≠4/\l.y.op≠4
 one:l.op=7->l.y.op=0
theorem PT{l:Lt}(h:iE l=true):MF l:=by
 unfold iE at h
 have nA:Qn l.a=true->FB l.a.l=true:=fun h=>by
  simp only[Qn,aa2,aa1] at h
  rw[List.eq_nil_of_length_eq_zero h.2];rfl
 have v1: ∀{t:Tm},au 20 t=true->t.wf=true:=fun h=>uV _ _ h
 have hc:fH l.op=true->3<=l.op/\l.op<=6:=fun h=>by
  simpa[fH] using h
 cases h1:decide (l.op=1)||decide (l.op=2) with
 |true=>
  rw[h1,aa8] at h;simp only[aa2] at h
  simp only[ab6,aa1] at h1
  exact⟨(Fv h.2.1).1,(Fv h.2.2).1,th h.1,fun e=>by have:=hc e;omega,fun e=>by omega⟩
 | false=>
  rw[h1,aa6] at h
  cases h2:decide (l.op=3)||decide (l.op=4)||decide (l.op=5)||decide (l.op=6) with
  |true=>
   rw[h2,aa8] at h;simp only[aa2,Bool.not_eq_true',aa3] at h
   simp only[ab6,aa1] at h2
   exact⟨v1 h.1.2,v1 h.2,nA h.1.1.1.1,fun _=>⟨h.1.1.1.2,h.1.1.2⟩,fun e=>by omega⟩
  | false=>
   rw[h2,aa6] at h
   simp only[Bool.or_eq_false_iff,aa3] at h1 h2
   cases h3:decide (l.op=7) with
   |true=>
    rw[h3,aa8] at h;simp only[aa2] at h
    exact⟨v1 h.2,(Fv h.1.2.2).1,th h.1.1,fun e=>by have:=hc e;omega,fun _=>(Fv h.1.2.2).2⟩
   | false=>
    rw[h3,aa6] at h
    rw[aa3] at h3
    cases h4:decide (l.op=8)||decide (l.op=9)||decide (l.op=10) with
    |true=>
     rw[h4,aa8] at h;simp only[aa2] at h
     exact⟨v1 h.1.2,v1 h.2,th h.1.1.1,fun e=>by have:=hc e;omega,fun e=>absurd e h3⟩
    |false=>rw[h4,aa6] at h;cases h
section
variable {σ:Type} {get:σ->ByteArray->Int} {set:σ->ByteArray->Int->σ}
theorem Pf{op:Int}(h:op=1):kK op=false:=by subst h;rfl
mutual
theorem Tm.mr: ∀(t:Tm) (k:Int) (x:σ×Bool),t.wf=true->(t.want get set k x).1=false->(t.want get set k x).2=((t.dk get set k x.1).2,x.2||(t.dk get set k x.1).1)
 | .mk op s n l,k,x,hw,h=>by
  rw[Tm.wf] at hw
  rw[Tm.want] at h⊢
  rw[Tm.dk]
  cases he:(iw get set l x).1 with
  |true=>rw[he,aa8,he] at h;cases h
  | false=>
   rw[he,aa6] at h
   rw[aa6]
   cases h1:decide (op=1) with
   | true=>
    rw[aa1] at h1
    rw[Pf h1,aa6,aa1] at hw
    rw[List.eq_nil_of_length_eq_zero hw]
    rw[List.eq_nil_of_length_eq_zero hw] at h
    rw[iw] at h⊢
    subst h1
    simp only[bD,Tm.op,Tm.s,aa8,decide_true,show decide ((1:Int)=4)=false from rfl,Bool.or_false] at h⊢
    cases hk:decide (k=0) with
    |true=>simp
    |false=>
     rw[hk] at h
     simp only[aa6,Bool.false_or] at h⊢
     cases hg:decide (get x.1 s=0) with
     |true=>simp
     |false=>simp
   | false=>
    rw[aa6]
    have ih:(iw get set l x).2=((dP get set l x.1).2,x.2||(dP get set l x.1).1):=by
     cases h2:kK op with
     |true=>
      rw[h2,aa8,aa2] at hw
      exact B5 l x hw.2 he
     |false=>
      rw[h2,aa6,aa1] at hw
      rw[List.eq_nil_of_length_eq_zero hw]
      simp[iw,dP]
    cases hk:decide (k=0)||decide (op=4) with
    |true=>exact ih
    | false=>
     rw[hk,aa6] at h
     rw[aa6]
     rw[Bool.or_eq_false_iff] at hk
     have hn:decide (bD get (.mk op s n l) (iw get set l x).2.1=0)=false:=by
      unfold bD
      rw[show(Tm.mk op s n l).op=op from rfl,h1,aa6,hk.2]
      cases decide (op=3)<;>rfl
     rw[hn,aa6]
     exact ih
theorem B5: ∀(l:List Tm) (x:σ×Bool),FB l=true->(iw get set l x).1=false->(iw get set l x).2=((dP get set l x.1).2,x.2||(dP get set l x.1).1)
 |[],x,_,_=>by simp[iw,dP]
 | t::l,x,hw,h=>by
  rw[FB,aa2] at hw
  rw[iw] at h⊢
  rw[dP]
  cases he:(t.want get set 1 x).1 with
  |true=>rw[he,aa8,he] at h;cases h
  |false=>
   rw[he,aa6] at h
   rw[aa6]
   have e1:=Tm.mr t 1 x hw.1 he
   have e2:=B5 l _ hw.2 h
   rw[e2,e1]
   simp only[Bool.or_assoc]
end
theorem vz: ∀(ws:List Int) (l:List Tm) (x:σ×Bool),FB l=true->(iq get set ws l x).1=false->(iq get set ws l x).2=((cm get set ws l x.1).2,x.2||(cm get set ws l x.1).1)
 |[],l,x,_,_=>by simp[iq,cm]
 |w::ws,[],x,_,_=>by simp[iq,cm]
 | w::ws,t::l,x,hw,h=>by
  rw[FB,aa2] at hw
  rw[iq] at h⊢
  rw[cm]
  cases he:(t.want get set w x).1 with
  |true=>rw[he,aa8,he] at h;cases h
  |false=>
   rw[he,aa6] at h
   rw[aa6]
   have e1:=t.mr w x hw.1 he
   have e2:=vz ws l _ hw.2 h
   rw[e2,e1]
   simp only[Bool.or_assoc]
theorem A1{y:Bool×(σ×Bool)}{f:σ×Bool->Bool×(σ×Bool)}(h:(kI y f).1=0):y.1=false/\(f y.2).1=false/\(kI y f).2=(f y.2).2:=by
 unfold kI at h⊢
 cases h1:y.1 with
 |true=>rw[h1] at h;cases h
 |false=>
  rw[h1,aa6] at h
  cases h2:(f y.2).1 with
  |true=>rw[h2] at h;cases h
  |false=>exact⟨rfl,rfl,rfl⟩
theorem rW{y:Bool×(σ×Bool)}{f:σ×Bool->Bool×(σ×Bool)}:(kI y f).1=0\/(kI y f).1=53:=by
 unfold kI
 cases y.1 with
 |true=>exact .inr rfl
 |false=>
  rw[aa6]
  cases(f y.2).1
  ·exact .inl rfl
  ·exact .inr rfl
theorem Ej{t:Tm}(hw:t.wf=true)(h:t.op=0)(k:Int)(st:σ):t.dk get set k st=(false,st):=by
 obtain⟨op,s,n,l⟩:=t
 have h:op=0:=h
 subst h
 have:l.length=0:=by simpa[Tm.wf,kK] using hw
 rw[List.eq_nil_of_length_eq_zero this,Tm.dk,dP]
 rfl
theorem ME(ds:List Dc){l:Lt}(hl:MF l)(hk:dN l=true->known ds l.a=0)(x:σ×Bool)(h:(jV get set ds l x).1=0):(jV get set ds l x).2=((eg get set ds l x.1).2,x.2||(eg get set ds l x.1).1):=by
 unfold jV at h⊢
 unfold eg
 cases hc:fH l.op with
 |true=>
  rw[hc,aa8] at h
  rw[aa8,aa8]
  obtain⟨h1,h2,h3⟩:=A1 h
  have e1:=l.x.mr _ x hl.x h1
  have e2:=l.y.mr _ _ hl.y h2
  rw[h3,e2,e1]
  simp only[Bool.or_assoc]
 | false=>
  rw[hc,aa6] at h
  rw[aa6,aa6]
  have hat:dN l=true:=by
   simp only[fH,Bool.and_eq_false_iff,aa3] at hc
   simp only[dN,ab6,aa1];omega
  have ha:dU get set ds l.a x=(bif (iq get set (cw ds l.a.rel) l.a.l x).1 then 53 else 0,(iq get set (cw ds l.a.rel) l.a.l x).2):=by
   unfold dU;rw[hk hat];rfl
  have ok:(dU get set ds l.a x).1=0->(dU get set ds l.a x).2=((cm get set (cw ds l.a.rel) l.a.l x.1).2,x.2||(cm get set (cw ds l.a.rel) l.a.l x.1).1):=fun e=>by
   rw[ha] at e⊢
   cases he:(iq get set (cw ds l.a.rel) l.a.l x).1 with
   |true=>rw[he] at e;cases e
   |false=>exact vz _ _ _ hl.a he
  cases h12:decide (l.op=1)||decide (l.op=2) with
  |true=>
   rw[h12,aa8] at h
   rw[aa8,aa8]
   exact ok h
  | false=>
   rw[h12,aa6] at h
   rw[aa6,aa6]
   cases he:decide ((dU get set ds l.a x).1=0) with
   |false=>rw[he,Bool.not_false,aa8] at h;rw[h] at he;cases he
   | true=>
    rw[he,Bool.not_true,aa6] at h
    rw[Bool.not_true,aa6]
    rw[aa1] at he
    have e0:=ok he
    cases h7:decide (l.op=7) with
    | true=>
     rw[h7,aa8] at h
     rw[aa8]
     have hx:(l.x.want get set 1 (dU get set ds l.a x).2).1=false:=by
      cases e:(l.x.want get set 1 (dU get set ds l.a x).2).1 with
      |true=>rw[e] at h;cases h
      |false=>rfl
     have e1:=l.x.mr 1 _ hl.x hx
     rw[aa1] at h7
     rw[e1,e0,Ej hl.y (hl.one h7)]
     simp only[Bool.or_false,Bool.or_assoc]
    |false=>
     rw[h7,aa6] at h
     rw[aa6]
     obtain⟨h1,h2,h3⟩:=A1 h
     have e1:=l.x.mr _ _ hl.x h1
     have e2:=l.y.mr _ _ hl.y h2
     rw[h3,e2,e1,e0]
     simp only[Bool.or_assoc]
theorem wj(ds:List Dc){l:Lt}(hk:dN l=true->known ds l.a=0)(x:σ×Bool):(jV get set ds l x).1=0\/(jV get set ds l x).1=53:=by
 unfold jV
 cases hc:fH l.op with
 |true=>rw[aa8];exact rW
 | false=>
  have hat:dN l=true:=by
   simp only[fH,Bool.and_eq_false_iff,aa3] at hc
   simp only[dN,ab6,aa1];omega
  have ha:(dU get set ds l.a x).1=0\/(dU get set ds l.a x).1=53:=by
   unfold dU;rw[hk hat]
   simp only[decide_true,aa8]
   cases(iq get set (cw ds l.a.rel) l.a.l x).1
   ·exact .inl rfl
   ·exact .inr rfl
  rw[aa6]
  cases decide (l.op=1)||decide (l.op=2) with
  |true=>exact ha
  | false=>
   rw[aa6]
   cases decide ((dU get set ds l.a x).1=0) with
   |false=>exact ha
   | true=>
    rw[Bool.not_true,aa6]
    cases decide (l.op=7) with
    |true=>
     rw[aa8]
     cases(l.x.want get set 1 (dU get set ds l.a x).2).1
     ·exact .inl rfl
     ·exact .inr rfl
    |false=>rw[aa6];exact rW
theorem MM(ds:List Dc){l:Lt}(hat:dN l=true)(hk:known ds l.a≠0)(x:σ×Bool):(jV get set ds l x).1=known ds l.a:=by
 have hc:fH l.op=false:=by
  simp only[dN,ab6,aa1] at hat
  simp only[fH,Bool.and_eq_false_iff,aa3];omega
 have ha:dU get set ds l.a x=(known ds l.a,x):=by
  unfold dU;rw[aa5 hk];rfl
 unfold jV
 rw[hc,aa6,ha]
 simp only[aa5 hk,Bool.not_false,aa8]
 cases decide (l.op=1)||decide (l.op=2)<;>rfl
theorem vu(ds:List Dc): ∀(b:List Lt) (x:σ×Bool),iC ds b=0->(jU get set ds b (53,x)).1=53
 |[],_,_=>rfl
 | l::b,x,h=>by
  rw[iC] at h
  have hk:dN l=true->known ds l.a=0:=fun e=>by
   rw[e,ac0] at h
   cases h0:decide (known ds l.a=0) with
   |true=>simpa using h0
   |false=>rw[h0] at h;simp at h h0;exact absurd h h0
  have hb:iC ds b=0:=by
   cases e:dN l with
   |false=>rw[e] at h;exact h
   |true=>rw[e,aa7 (hk e)] at h;exact h
  rw[jU]
  have hn:gO 53 (jV get set ds l x).1=53:=by
   rcases wj (get:=get) (set:=set) ds hk x with e|e<;>rw[e]<;>rfl
  simp only[hn]
  exact vu ds b _ hb
theorem AJ(ds:List Dc): ∀(b:List Lt) (x:σ×Bool),iC ds b=0->(∀l,l∈b->MF l)->(jU get set ds b (0,x)).1=0->(jU get set ds b (0,x)).2=((er get set ds b x.1).2,x.2||(er get set ds b x.1).1)
 |[],x,_,_,_=>by simp[jU,er]
 | l::b,x,h,hw,he=>by
  rw[iC] at h
  have hk:dN l=true->known ds l.a=0:=fun e=>by
   rw[e,ac0] at h
   cases h0:decide (known ds l.a=0) with
   |true=>simpa using h0
   |false=>rw[h0] at h;simp at h h0;exact absurd h h0
  have hb:iC ds b=0:=by
   cases e:dN l with
   |false=>rw[e] at h;exact h
   |true=>rw[e,aa7 (hk e)] at h;exact h
  rw[jU] at he⊢
  rw[er]
  have hn: ∀e:Int,gO 0 e=e:=fun e=>rfl
  simp only[hn] at he⊢
  rcases wj (get:=get) (set:=set) ds hk x with e|e
  ·rw[e] at he⊢
   have e1:=ME ds (hw l List.mem_cons_self) hk x e
   have e2:=AJ ds b _ hb (fun m hm=>hw m (List.mem_cons_of_mem _ hm)) he
   rw[show sD 0=false from rfl,aa6,e2,e1]
   simp only[Bool.or_assoc]
  ·rw[e] at he
   rw[show sD 53=false from rfl,aa6,vu ds b _ hb] at he
   cases he
theorem Jr(ds:List Dc){r:Rl}(hh:FB r.head.l=true)(hw: ∀l,l∈r.body->MF l)(hk:jC ds r=0)(st:σ)(h:(eU get set ds r st).1=0):(eU get set ds r st).2=((jD get set ds r st).2,(jD get set ds r st).1):=by
 unfold jC at hk
 have h0:known ds r.head=0:=by
  cases e:decide (known ds r.head=0) with
  |true=>simpa using e
  |false=>rw[e,aa6] at hk;exact hk
 rw[h0] at hk
 have hb:iC ds r.body=0:=hk
 unfold eU at h⊢
 have ha:dU get set ds r.head (st,false)=(bif (iq get set (cw ds r.head.rel) r.head.l (st,false)).1 then 53 else 0,(iq get set (cw ds r.head.rel) r.head.l (st,false)).2):=by
  unfold dU;rw[h0];rfl
 rw[ha] at h⊢
 cases he:(iq get set (cw ds r.head.rel) r.head.l (st,false)).1 with
 |true=>rw[he,aa8,vu ds _ _ hb] at h;cases h
 |false=>
  rw[he,aa6] at h
  rw[aa6,AJ ds _ _ hb hw h,vz _ _ _ hh he]
  simp only[Bool.false_or];rfl
end
section
variable {σ:Type} {get:σ->ByteArray->Int} {set:σ->ByteArray->Int->σ}
variable (hgs: ∀st s k t,get (set st s k) t=bif t==s then k else get st t)
include hgs
end
section
variable {σ:Type} {get:σ->ByteArray->Int} {set:σ->ByteArray->Int->σ}
end
theorem zz{l:Lt}{s:ByteArray}(h:s∈l.x.vars):s∈eb l:=by simp[eb,aw,h]
theorem yG{l:Lt}{s:ByteArray}(h:s∈l.y.vars):s∈eb l:=by simp[eb,aw,h]
theorem C7{l:Lt}{s:ByteArray}(h:s∈aw l.a.l):s∈eb l:=by simp[eb,h]
section
variable {σ:Type} {get:σ->ByteArray->Int} {set:σ->ByteArray->Int->σ}
def xp(get:σ->ByteArray->Int)(V:ByteArray->Prop)(a b:σ):Prop:=∃s,V s/\get a s=0/\get b s≠0
theorem xp.left{V W:ByteArray->Prop}{a b c:σ}(h:xp get V a b)(hx:Ext get b c)(hs: ∀s,V s->W s):xp get W a c:=by
 obtain⟨s,h1,h2,h3⟩:=h
 exact⟨s,hs s h1,h2,by rw[hx s h3];exact h3⟩
theorem xp.right{V W:ByteArray->Prop}{a b c:σ}(hx:Ext get a b)(h:xp get V b c)(hs: ∀s,V s->W s):xp get W a c:=by
 obtain⟨s,h1,h2,h3⟩:=h
 refine⟨s,hs s h1,?_,h3⟩
 cases e:decide (get a s=0) with
 |true=>simpa using e
 |false=>rw[aa3] at e;rw[hx s e] at h2;exact absurd h2 e
variable (hgs: ∀st s k t,get (set st s k) t=bif t==s then k else get st t)
include hgs
mutual
theorem Tm.kh: ∀(t:Tm) (w:Int) (st:σ),(t.dk get set w st).1=true->xp get (fun s=>s∈t.vars) st (t.dk get set w st).2
 | .mk op s n l,w,st,h=>by
  rw[Tm.dk] at h⊢
  cases h1:decide (op=1) with
  |false=>
   rw[h1,aa6] at h
   rw[aa6]
   exact(tV l st h).left (Ext.refl _ _) fun s hs=>by rw[Tm.vars];exact ab4 _ hs
  | true=>
   rw[h1,aa8] at h
   rw[aa8]
   cases hc:(decide (w=0)|| !decide (get st s=0)) with
   |true=>rw[hc,aa8] at h;cases h
   |false=>
    rw[aa6]
    simp only[Bool.or_eq_false_iff,aa3,ab3,aa1] at hc
    refine⟨s,by rw[Tm.vars,h1];simp,hc.2,?_⟩
    rw[hgs]
    simpa using hc.1
theorem tV: ∀(l:List Tm) (st:σ),(dP get set l st).1=true->xp get (fun s=>s∈aw l) st (dP get set l st).2
 |[],_,h=>by rw[dP] at h;cases h
 | t::l,st,h=>by
  rw[dP] at h⊢
  cases h1:(t.dk get set 1 st).1 with
  |true=>exact(Tm.kh t 1 st h1).left (pG hgs l _) fun s hs=>by rw[aw];exact ab5 _ hs
  |false=>
   rw[h1,Bool.false_or] at h
   exact xp.right (Tm.dW hgs t 1 st) (tV l _ h) fun s hs=>by rw[aw];exact ab4 _ hs
end
theorem mh: ∀(ws:List Int) (l:List Tm) (st:σ),(cm get set ws l st).1=true->xp get (fun s=>s∈aw l) st (cm get set ws l st).2
 |[],l,st,h=>by simp[cm] at h
 |w::ws,[],st,h=>by simp[cm] at h
 | w::ws,t::l,st,h=>by
  rw[cm] at h⊢
  cases h1:(t.dk get set w st).1 with
  |true=>exact(Tm.kh hgs t w st h1).left (gn hgs ws l _) fun s hs=>by rw[aw];exact ab5 _ hs
  |false=>
   rw[h1,Bool.false_or] at h
   exact xp.right (Tm.dW hgs t w st) (mh ws l _ h) fun s hs=>by rw[aw];exact ab4 _ hs
theorem Ch(ds:List Dc)(l:Lt)(st:σ)(h:(eg get set ds l st).1=true):xp get (fun s=>s∈eb l) st (eg get set ds l st).2:=by
 unfold eg at h⊢
 cases hc:fH l.op with
 | true=>
  rw[hc,aa8] at h
  rw[aa8]
  cases h1:(l.x.dk get set (kx get l st) st).1 with
  |true=>exact(Tm.kh hgs _ _ _ h1).left (Tm.dW hgs l.y _ _) fun s=>zz
  |false=>
   rw[h1,Bool.false_or] at h
   exact xp.right (Tm.dW hgs l.x _ st) (Tm.kh hgs _ _ _ h) fun s=>yG
 | false=>
  rw[hc,aa6] at h
  rw[aa6]
  cases h12:decide (l.op=1)||decide (l.op=2) with
  |true=>rw[h12,aa8] at h;exact(mh hgs _ _ _ h).left (Ext.refl _ _) fun s=>C7
  | false=>
   rw[h12,aa6] at h
   rw[aa6]
   cases h0:(cm get set (cw ds l.a.rel) l.a.l st).1 with
   |true=>exact(mh hgs _ _ _ h0).left ((Tm.dW hgs l.x _ _).trans (Tm.dW hgs l.y _ _)) fun s=>C7
   | false=>
    rw[h0,Bool.false_or] at h
    cases h1:(l.x.dk get set 1 (cm get set (cw ds l.a.rel) l.a.l st).2).1 with
    |true=>exact xp.right (gn hgs _ _ st) ((Tm.kh hgs _ _ _ h1).left (W:=fun s=>s∈eb l) (Tm.dW hgs l.y _ _) fun s=>zz) fun s hs=>hs
    |false=>
     rw[h1,Bool.false_or] at h
     exact xp.right ((gn hgs _ _ st).trans (Tm.dW hgs l.x _ _)) (Tm.kh hgs _ _ _ h) fun s=>yG
theorem uH(ds:List Dc): ∀(b:List Lt) (st:σ),(er get set ds b st).1=true->xp get (fun s=>s∈b.flatMap eb) st (er get set ds b st).2
 |[],_,h=>by rw[er] at h;cases h
 | l::b,st,h=>by
  rw[er] at h⊢
  cases h1:(eg get set ds l st).1 with
  |true=>exact(Ch hgs ds l st h1).left (mE hgs ds b _) fun s hs=>by rw[List.flatMap_cons];exact ab5 _ hs
  |false=>
   rw[h1,Bool.false_or] at h
   exact xp.right (r5 hgs ds l st) (uH ds b _ h) fun s hs=>by rw[List.flatMap_cons];exact ab4 _ hs
theorem CU(ds:List Dc)(r:Rl)(st:σ)(h:(jD get set ds r st).1=true):xp get (fun s=>s∈fc r) st (jD get set ds r st).2:=by
 unfold jD at h⊢
 cases h1:(cm get set (cw ds r.head.rel) r.head.l st).1 with
 |true=>exact(mh hgs _ _ _ h1).left (mE hgs ds _ _) fun s hs=>by rw[fc];exact ab5 _ hs
 |false=>
  rw[h1,Bool.false_or] at h
  exact xp.right (gn hgs _ _ st) (uH hgs ds _ _ h) fun s hs=>by rw[fc];exact ab4 _ hs
omit hgs
def lV(get:σ->ByteArray->Int)(V:List ByteArray)(st:σ):Nat:=(V.filter fun s=>decide (get st s=0)).length
theorem Ji(get:σ->ByteArray->Int)(V:List ByteArray)(st:σ):lV get V st<=V.length:=List.length_filter_le _ _
theorem wT{a b:σ}(h:Ext get a b): ∀V:List ByteArray,lV get V b<=lV get V a
 |[]=>Nat.le_refl _
 | s::V=>by
  have ih:=wT h V
  unfold lV at ih⊢
  rw[List.filter_cons,List.filter_cons]
  cases e:decide (get a s=0) with
  |true=>
   split
   ·simp only[List.length_cons,if_true];omega
   ·simp only[List.length_cons,if_true];omega
  |false=>
   rw[aa3] at e
   rw[aa5 (show ¬ get b s=0 by rw[h s e];exact e)]
   simpa using ih
theorem wJ{a b:σ}(h:Ext get a b): ∀V:List ByteArray,xp get (fun s=>s∈V) a b->lV get V b<lV get V a
 |[],⟨_,h1,_⟩=>nomatch h1
 | s::V,⟨t,h1,h2,h3⟩=>by
  rcases List.mem_cons.1 h1 with rfl|h1
  ·have ih:=wT h V
   unfold lV at ih⊢
   rw[List.filter_cons,List.filter_cons,aa7 h2,aa5 h3]
   simp only[if_true,List.length_cons]
   simpa using Nat.lt_succ_of_le ih
  ·have ih:=wJ h V ⟨t,h1,h2,h3⟩
   unfold lV at ih⊢
   rw[List.filter_cons,List.filter_cons]
   cases e:decide (get a s=0) with
   |true=>
    split
    ·simp only[List.length_cons,if_true];omega
    ·simp only[List.length_cons,if_true];omega
   |false=>
    rw[aa3] at e
    rw[aa5 (show ¬ get b s=0 by rw[h s e];exact e)]
    simpa using ih
include hgs
end
section
variable {σ ρ:Type} {get:σ->ByteArray->Int} {set:σ->ByteArray->Int->σ} {get':ρ->ByteArray->Int} {set':ρ->ByteArray->Int->ρ} {V:ByteArray->Prop} {P:ρ->Prop}
def Alike(get:σ->ByteArray->Int)(get':ρ->ByteArray->Int)(V:ByteArray->Prop)(P:ρ->Prop)(a:σ)(b:ρ):Prop:=P b/\∀s,V s->get a s=get' b s
variable (hg: ∀st s k t,get (set st s k) t=bif t==s then k else get st t) (hg': ∀st s k t,P st->V s->V t->get' (set' st s k) t=bif t==s then k else get' st t) (hp: ∀st s k,P st->V s->P (set' st s k))
theorem Alike.ty{a:σ}{b:ρ}(h:Alike get get' V P a b){t:Tm}(hv: ∀s,s∈t.vars->V s):bD get t a=bD get' t b:=by
 unfold bD
 cases h1:decide (t.op=1) with
 |false=>rfl
 |true=>
  refine h.2 _ (hv _ ?_)
  obtain⟨op,s,n,l⟩:=t
  rw[Tm.vars,show decide (op=1)=true from h1]
  simp[Tm.s]
theorem Alike.kind{a:σ}{b:ρ}(h:Alike get get' V P a b){l:Lt}(hv: ∀s,s∈eb l->V s):kx get l a=kx get' l b:=by
 unfold kx
 rw[h.ty (t:=l.x) fun s hs=>hv s (zz hs),h.ty (t:=l.y) fun s hs=>hv s (yG hs)]
include hg hg' hp
mutual
theorem Alike.dk: ∀(t:Tm) (w:Int) {a:σ} {b:ρ},Alike get get' V P a b->(∀s,s∈t.vars->V s)->(t.dk get set w a).1=(t.dk get' set' w b).1/\Alike get get' V P (t.dk get set w a).2 (t.dk get' set' w b).2
 | .mk op s n l,w,a,b,h,hv=>by
  rw[Tm.dk,Tm.dk]
  cases h1:decide (op=1) with
  |false=>exact Alike.dP l h fun s hs=>hv s (by rw[Tm.vars];exact ab4 _ hs)
  | true=>
   have hs:V s:=hv s (by rw[Tm.vars,h1];simp)
   rw[aa8,aa8,h.2 s hs]
   cases(decide (w=0)|| !decide (get' b s=0)) with
   |true=>exact⟨rfl,h⟩
   |false=>
    refine⟨rfl,hp b s w h.1 hs,fun t ht=>?_⟩
    rw[aa6,aa6,hg,hg' b s w t h.1 hs ht,h.2 t ht]
theorem Alike.dP: ∀(l:List Tm) {a:σ} {b:ρ},Alike get get' V P a b->(∀s,s∈aw l->V s)->(dP get set l a).1=(dP get' set' l b).1/\Alike get get' V P (dP get set l a).2 (dP get' set' l b).2
 |[],a,b,h,_=>by have _:=hg;have _:=hg';have _:=hp;exact⟨rfl,h⟩
 |t::l,a,b,h,hv=>by
  rw[Rl.dP,Rl.dP]
  obtain⟨e1,h1⟩:=Alike.dk t 1 h fun s hs=>hv s (by rw[aw];exact ab5 _ hs)
  obtain⟨e2,h2⟩:=Alike.dP l h1 fun s hs=>hv s (by rw[aw];exact ab4 _ hs)
  exact⟨by rw[e1,e2],h2⟩
end
theorem Alike.cm: ∀(ws:List Int) (l:List Tm) {a:σ} {b:ρ},Alike get get' V P a b->(∀s,s∈aw l->V s)->(cm get set ws l a).1=(cm get' set' ws l b).1/\Alike get get' V P (cm get set ws l a).2 (cm get' set' ws l b).2
 |[],l,a,b,h,_=>by simpa[Rl.cm] using h
 |w::ws,[],a,b,h,_=>by simpa[Rl.cm] using h
 |w::ws,t::l,a,b,h,hv=>by
  rw[Rl.cm,Rl.cm]
  obtain⟨e1,h1⟩:=Alike.dk hg hg' hp t w h fun s hs=>hv s (by rw[aw];exact ab5 _ hs)
  obtain⟨e2,h2⟩:=Alike.cm ws l h1 fun s hs=>hv s (by rw[aw];exact ab4 _ hs)
  exact⟨by rw[e1,e2],h2⟩
theorem Alike.eg(ds:List Dc)(l:Lt){a:σ}{b:ρ}(h:Alike get get' V P a b)(hv: ∀s,s∈eb l->V s):(eg get set ds l a).1=(eg get' set' ds l b).1/\Alike get get' V P (eg get set ds l a).2 (eg get' set' ds l b).2:=by
 unfold Rl.eg
 have vx: ∀s,s∈l.x.vars->V s:=fun s hs=>hv s (zz hs)
 have vy: ∀s,s∈l.y.vars->V s:=fun s hs=>hv s (yG hs)
 have va: ∀s,s∈aw l.a.l->V s:=fun s hs=>hv s (C7 hs)
 cases fH l.op with
 |true=>
  rw[aa8,aa8,h.kind hv]
  obtain⟨e1,h1⟩:=Alike.dk hg hg' hp l.x (kx get' l b) h vx
  obtain⟨e2,h2⟩:=Alike.dk hg hg' hp l.y (kx get' l b) h1 vy
  exact⟨by rw[e1,e2],h2⟩
 | false=>
  rw[aa6,aa6]
  obtain⟨e0,h0⟩:=Alike.cm hg hg' hp (cw ds l.a.rel) l.a.l h va
  cases decide (l.op=1)||decide (l.op=2) with
  |true=>exact⟨e0,h0⟩
  |false=>
   obtain⟨e1,h1⟩:=Alike.dk hg hg' hp l.x 1 h0 vx
   obtain⟨e2,h2⟩:=Alike.dk hg hg' hp l.y 1 h1 vy
   exact⟨by rw[aa6,aa6,e0,e1,e2],h2⟩
theorem Alike.er(ds:List Dc): ∀(l:List Lt) {a:σ} {b:ρ},Alike get get' V P a b->(∀s,s∈l.flatMap eb->V s)->(er get set ds l a).1=(er get' set' ds l b).1/\Alike get get' V P (er get set ds l a).2 (er get' set' ds l b).2
 |[],a,b,h,_=>⟨rfl,h⟩
 |l::m,a,b,h,hv=>by
  rw[Rl.er,Rl.er]
  obtain⟨e1,h1⟩:=Alike.eg hg hg' hp ds l h fun s hs=>hv s (by rw[List.flatMap_cons];exact ab5 _ hs)
  obtain⟨e2,h2⟩:=Alike.er ds m h1 fun s hs=>hv s (by rw[List.flatMap_cons];exact ab4 _ hs)
  exact⟨by rw[e1,e2],h2⟩
theorem Alike.jD(ds:List Dc)(r:Rl){a:σ}{b:ρ}(h:Alike get get' V P a b)(hv: ∀s,s∈fc r->V s):(jD get set ds r a).1=(jD get' set' ds r b).1/\Alike get get' V P (jD get set ds r a).2 (jD get' set' ds r b).2:=by
 unfold Rl.jD
 obtain⟨e1,h1⟩:=Alike.cm hg hg' hp (cw ds r.head.rel) r.head.l h fun s hs=>hv s (by rw[fc];exact ab5 _ hs)
 obtain⟨e2,h2⟩:=Alike.er hg hg' hp ds r.body h1 fun s hs=>hv s (by rw[fc];exact ab4 _ hs)
 exact⟨by rw[e1,e2],h2⟩
end
def getM(es:List (Value×AV))(s:ByteArray):Int:=toInt (dh es (.string s) (.lit (.int .i64 0)))
def fU(es:List (Value×AV))(s:ByteArray)(k:Int):List (Value×AV):=eM es (.string s) (.lit (.int .i64 k))
theorem nT: ∀(es:List (Value×AV)) (s:ByteArray) (k:Int) (t:ByteArray),getM (fU es s k) t=bif t==s then k else getM es t
 |[],s,k,t=>by
  simp only[getM,fU,eM,dh,dc]
  cases t==s<;>rfl
 | (k',a')::es,s,k,t=>by
  have ih:=nT es s k t
  simp only[getM,fU,eM,dh] at ih⊢
  cases h:dc (.string s) k' with
  |true=>
   have hk:=ow h
   subst hk
   simp only[aa8,dh,dc]
   cases h2:t==s with
   |true=>rfl
   |false=>simp
  | false=>
   simp only[aa6,dh]
   cases h3:dc (.string t) k' with
   |false=>simpa using ih
   | true=>
    have hk:=ow h3
    subst hk
    have h4:(t==s)=false:=by
     cases h5:t==s with
     |false=>rfl
     |true=>rw[eq_of_beq h5] at h;simp[dc] at h
    simp[h4]
def YX(V:List ByteArray)(s:ByteArray):Nat:=V.findIdx (lZ s)
def jw(V:List ByteArray)(τ:List Int)(s:ByteArray)(k:Int):List Int:=τ.set (YX V s) k
def pD(ds:List Dc)(r:Rl):Int×List Int:=
 bif decide ((fB getM fU ds r ((cP r).length+1) []).1=0) then
  (bif (cP r).all (fun s=>!decide (getM (fB getM fU ds r ((cP r).length+1) []).2 s=0)) then(0,(cP r).map (getM (fB getM fU ds r ((cP r).length+1) []).2)) else(53,[]))
 else((fB getM fU ds r ((cP r).length+1) []).1,[])
theorem lD(ds:List Dc)(a:At):known ds a=0\/known ds a=51\/known ds a=52:=by
 unfold known
 cases jT a.rel ds with
 |none=>exact .inr (.inl rfl)
 |some i=>
  show(bif _ then(0:Int) else 52)=0\/_
  cases decide ((cw ds a.rel).length=a.l.length)
  ·exact .inr (.inr rfl)
  ·exact .inl rfl
section
variable {σ:Type} {get:σ->ByteArray->Int} {set:σ->ByteArray->Int->σ}
theorem B4(ds:List Dc): ∀(b:List Lt) (y:Int×(σ×Bool)),(y.1=0\/y.1=53)->iC ds b≠0->(jU get set ds b y).1=iC ds b
 |[],_,_,h=>absurd rfl h
 | l::b,y,hy,h=>by
  rw[iC] at h⊢
  rw[jU]
  cases hc:dN l&& !decide (known ds l.a=0) with
  | true=>
   rw[aa8]
   simp only[aa2,Bool.not_eq_true',aa3] at hc
   rw[MM ds hc.1 hc.2]
   have hn:gO y.1 (known ds l.a)=known ds l.a:=by
    rcases hy with e|e<;>rw[e]<;>rcases lD ds l.a with e2|e2|e2<;>rw[e2]<;>first|rfl|exact absurd e2 hc.2
   have hi:sD (known ds l.a)=true:=by
    rcases lD ds l.a with e2|e2|e2
    ·exact absurd e2 hc.2
    ·rw[e2];rfl
    ·rw[e2];rfl
   rw[hn,hi];rfl
  | false=>
   rw[hc,aa6] at h
   rw[aa6]
   have hk:dN l=true->known ds l.a=0:=fun e=>by
    rw[e,ac0] at hc
    simpa using hc
   have hn:gO y.1 (jV get set ds l y.2).1=0\/gO y.1 (jV get set ds l y.2).1=53:=by
    rcases wj (get:=get) (set:=set) ds hk y.2 with e|e<;>rcases hy with e2|e2<;>rw[e,e2]<;>decide
   have hi:sD (gO y.1 (jV get set ds l y.2).1)=false:=by rcases hn with e|e<;>rw[e]<;>rfl
   rw[hi,aa6]
   exact B4 ds b _ hn h
theorem B0(ds:List Dc)(r:Rl)(st:σ)(h:jC ds r≠0):(eU get set ds r st).1=jC ds r:=by
 unfold eU
 unfold jC at h⊢
 cases h0:decide (known ds r.head=0) with
 |true=>
  rw[h0,aa8] at h
  rw[aa8]
  refine B4 ds _ _ ?_ h
  unfold dU
  rw[h0,aa8]
  cases(iq get set (cw ds r.head.rel) r.head.l (st,false)).1
  ·exact .inl rfl
  ·exact .inr rfl
 | false=>
  rw[aa6]
  have ha:dU get set ds r.head (st,false)=(known ds r.head,(st,false)):=by
   unfold dU;rw[h0];rfl
  rw[ha]
  rw[aa3] at h0
  cases r.body with
  |nil=>rfl
  | cons l b=>
   rw[jU]
   have hn: ∀e,gO (known ds r.head) e=known ds r.head:=fun e=>by
    rcases lD ds r.head with e2|e2|e2
    ·exact absurd e2 h0
    ·rw[e2];rfl
    ·rw[e2];rfl
   have hi:sD (known ds r.head)=true:=by
    rcases lD ds r.head with e2|e2|e2
    ·exact absurd e2 h0
    ·rw[e2];rfl
    ·rw[e2];rfl
   simp only[hn,hi];rfl
end
end Go.Rl
