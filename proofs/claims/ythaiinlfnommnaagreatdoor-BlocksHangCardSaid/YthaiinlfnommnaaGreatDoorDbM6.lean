import Derived.Test.YthaiinlfnommnaaGreatDoorDbM1
namespace Go.Rl
open Go Go.Dn
structure Dc where
 rel:ByteArray
 types:List Int
def j5(s:ByteArray):List Dc->Option Nat
 |[]=>none
 |d::l=>bif lU d.rel s then some 0 else(j5 s l).map (· +1)
def cF(ds:List Dc)(s:ByteArray):List Int:=match j5 s ds with|some i=>(ds.getD i ⟨ByteArray.empty,[]⟩).types|none=>[]
def known(ds:List Dc)(a:At):Int:=match j5 a.rel ds with|none=>51|some _=>bif decide ((cF ds a.rel).length=a.l.length) then 0 else 52
def dH(l:Lt):Bool:=decide (l.op<3)||decide (6<l.op)
def iV(ds:List Dc):List Lt->Int
 |[]=>0
 |l::b=>bif dH l&& !decide (known ds l.a=0) then known ds l.a else iV ds b
def jT(ds:List Dc)(r:Rl):Int:=bif decide (known ds r.head=0) then iV ds r.body else known ds r.head
section
variable {σ:Type} (get:σ->ByteArray->Int) (set:σ->ByteArray->Int->σ)
def bH(t:Tm)(st:σ):Int:=bif decide (t.op=1) then get st t.s else bif decide (t.op=3) then 2 else bif decide (t.op=4) then 0 else 1
mutual
def Tm.du:Tm->Int->σ->Bool×σ
 | .mk op s _ l,w,st=>bif decide (op=1) then(bif decide (w=0)|| !decide (get st s=0) then(false,st) else(true,set st s w)) else dZ l st
def dZ:List Tm->σ->Bool×σ
 |[],st=>(false,st)
 |t::l,st=>((Tm.du t 1 st).1||(dZ l (Tm.du t 1 st).2).1,(dZ l (Tm.du t 1 st).2).2)
end
mutual
def Tm.want:Tm->Int->σ×Bool->Bool×(σ×Bool)
 | .mk op s n l,k,x=>
  bif (jg l x).1 then jg l x
  else bif decide (k=0)||decide (op=4) then(false,(jg l x).2)
  else bif decide (bH get (.mk op s n l) (jg l x).2.1=0) then(false,(set (jg l x).2.1 s k,true))
  else(!decide (bH get (.mk op s n l) (jg l x).2.1=k),(jg l x).2)
def jg:List Tm->σ×Bool->Bool×(σ×Bool)
 |[],x=>(false,x)
 |t::l,x=>bif (Tm.want t 1 x).1 then Tm.want t 1 x else jg l (Tm.want t 1 x).2
end
def ct:List Int->List Tm->σ->Bool×σ
 |w::ws,t::l,st=>((t.du get set w st).1||(ct ws l (t.du get set w st).2).1,(ct ws l (t.du get set w st).2).2)
 |_,_,st=>(false,st)
def iI:List Int->List Tm->σ×Bool->Bool×(σ×Bool)
 |w::ws,t::l,x=>bif (t.want get set w x).1 then t.want get set w x else iI ws l (t.want get set w x).2
 |_,_,x=>(false,x)
def gf(op:Int):Bool:=decide (3<=op)&&decide (op<=6)
def kz(l:Lt)(st:σ):Int:=bif decide (bH get l.y st>bH get l.x st) then bH get l.y st else bH get l.x st
def eF(ds:List Dc)(l:Lt)(st:σ):Bool×σ:=
 bif gf l.op then
  ((l.x.du get set (kz get l st) st).1||(l.y.du get set (kz get l st) (l.x.du get set (kz get l st) st).2).1,(l.y.du get set (kz get l st) (l.x.du get set (kz get l st) st).2).2)
 else bif decide (l.op=1)||decide (l.op=2) then ct get set (cF ds l.a.rel) l.a.l st
 else((ct get set (cF ds l.a.rel) l.a.l st).1||(l.x.du get set 1 (ct get set (cF ds l.a.rel) l.a.l st).2).1||(l.y.du get set 1 (l.x.du get set 1 (ct get set (cF ds l.a.rel) l.a.l st).2).2).1,
  (l.y.du get set 1 (l.x.du get set 1 (ct get set (cF ds l.a.rel) l.a.l st).2).2).2)
def eM(ds:List Dc):List Lt->σ->Bool×σ
 |[],st=>(false,st)
 |l::b,st=>((eF get set ds l st).1||(eM ds b (eF get set ds l st).2).1,(eM ds b (eF get set ds l st).2).2)
def jQ(ds:List Dc)(r:Rl)(st:σ):Bool×σ:=
 ((ct get set (cF ds r.head.rel) r.head.l st).1||(eM get set ds r.body (ct get set (cF ds r.head.rel) r.head.l st).2).1,(eM get set ds r.body (ct get set (cF ds r.head.rel) r.head.l st).2).2)
def eh(ds:List Dc)(a:At)(x:σ×Bool):Int×(σ×Bool):=
 bif decide (known ds a=0) then(bif (iI get set (cF ds a.rel) a.l x).1 then 53 else 0,(iI get set (cF ds a.rel) a.l x).2) else(known ds a,x)
def lb(y:Bool×(σ×Bool))(f:σ×Bool->Bool×(σ×Bool)):Int×(σ×Bool):=bif y.1 then(53,y.2) else(bif (f y.2).1 then 53 else 0,(f y.2).2)
def kk(ds:List Dc)(l:Lt)(x:σ×Bool):Int×(σ×Bool):=
 bif gf l.op then lb (l.x.want get set (kz get l x.1) x) (l.y.want get set (kz get l x.1))
 else bif decide (l.op=1)||decide (l.op=2) then eh get set ds l.a x
 else bif !decide ((eh get set ds l.a x).1=0) then eh get set ds l.a x
 else bif decide (l.op=7) then(bif (l.x.want get set 1 (eh get set ds l.a x).2).1 then 53 else 0,(l.x.want get set 1 (eh get set ds l.a x).2).2)
 else lb (l.x.want get set 1 (eh get set ds l.a x).2) (l.y.want get set 1)
def tH(e:Int):Bool:=decide (e=51)||decide (e=52)
def ia(w e:Int):Int:=bif decide (w=0)||decide (w=53)&&tH e then e else w
def j7(ds:List Dc):List Lt->Int×(σ×Bool)->Int×(σ×Bool)
 |[],y=>y
 |l::b,y=>bif tH (ia y.1 (kk get set ds l y.2).1) then(ia y.1 (kk get set ds l y.2).1,(kk get set ds l y.2).2)
  else j7 ds b (ia y.1 (kk get set ds l y.2).1,(kk get set ds l y.2).2)
def fk(ds:List Dc)(r:Rl)(st:σ):Int×(σ×Bool):=j7 get set ds r.body (eh get set ds r.head (st,false))
def fO(ds:List Dc)(r:Rl):Nat->σ->Int×σ
 |0,st=>(0,st)
 |n+1,st=>bif decide ((fk get set ds r st).1=0) then(bif (fk get set ds r st).2.2 then fO ds r n (fk get set ds r st).2.1 else(0,(fk get set ds r st).2.1)) else((fk get set ds r st).1,(fk get set ds r st).2.1)
def Ext(st st':σ):Prop:=∀s,get st s≠0->get st' s=get st s
theorem Ext.refl(st:σ):Ext get st st:=fun _ _=>rfl
variable {get set}
theorem Ext.trans{a b c:σ}(h1:Ext get a b)(h2:Ext get b c):Ext get a c:=fun s h=>by rw[h2 s (by rw[h1 s h];exact h),h1 s h]
variable (hgs: ∀st s k t,get (set st s k) t=bif t==s then k else get st t)
include hgs
mutual
theorem Tm.eg: ∀(t:Tm) (w:Int) (st:σ),Ext get st (t.du get set w st).2
 | .mk op s n l,w,st=>by
  rw[Tm.du]
  cases decide (op=1) with
  |false=>exact pW l st
  | true=>
   rw[aa8]
   cases h:(decide (w=0)|| !decide (get st s=0)) with
   |true=>exact Ext.refl _ _
   | false=>
    intro t ht
    rw[aa6,hgs]
    cases e:t==s with
    |false=>rfl
    |true=>
     rw[Bool.or_eq_false_iff,ab3,aa1] at h
     rw[eq_of_beq e] at ht
     exact absurd h.2 ht
theorem pW: ∀(l:List Tm) (st:σ),Ext get st (dZ get set l st).2
 |[],st=>by have _:=hgs;exact Ext.refl _ _
 |t::l,st=>by rw[dZ];exact(Tm.eg t 1 st).trans (pW l _)
end
theorem gE: ∀(ws:List Int) (l:List Tm) (st:σ),Ext get st (ct get set ws l st).2
 |w::ws,t::l,st=>by rw[ct];exact(Tm.eg hgs t w st).trans (gE ws l _)
 |[],_,st=>by rw[ct];exact Ext.refl _ _;intro _ _ _ _ h;cases h
 |_::_,[],st=>by rw[ct];exact Ext.refl _ _;intro _ _ _ _ _ h;cases h
theorem s7(ds:List Dc)(l:Lt)(st:σ):Ext get st (eF get set ds l st).2:=by
 unfold eF
 cases gf l.op with
 |true=>exact(Tm.eg hgs l.x _ st).trans (Tm.eg hgs l.y _ _)
 |false=>
  rw[aa6]
  cases(decide (l.op=1)||decide (l.op=2)) with
  |true=>exact gE hgs _ _ st
  |false=>exact((gE hgs _ _ st).trans (Tm.eg hgs l.x 1 _)).trans (Tm.eg hgs l.y 1 _)
theorem mw(ds:List Dc): ∀(b:List Lt) (st:σ),Ext get st (eM get set ds b st).2
 |[],st=>Ext.refl _ _
 |l::b,st=>by rw[eM];exact(s7 hgs ds l st).trans (mw ds b _)
theorem D2(ds:List Dc)(r:Rl)(st:σ):Ext get st (jQ get set ds r st).2:=(gE hgs _ _ st).trans (mw hgs ds _ _)
end
def Yl(o:List ByteArray)(s:ByteArray):List ByteArray:=bif o.contains s then o else o++[s]
def UB(o m:List ByteArray):List ByteArray:=m.foldl Yl o
mutual
def Tm.rv:Tm->List ByteArray
 | .mk op s _ l=>bif decide (op=1) then[s] else rvL l []
def rvL:List Tm->List ByteArray->List ByteArray
 |[],o=>o
 |t::l,o=>rvL l (UB o t.rv)
end
mutual
def Tm.wf:Tm->Bool
 | .mk op _ _ l=>bif kO op then decide (l.length=2)&&Gs l else decide (l.length=0)
def Gs:List Tm->Bool
 |[]=>true
 |t::l=>t.wf&&Gs l
end
theorem uS: ∀(h:Nat) (t:Tm),au h t=true->t.wf=true
 |0,_,h=>by simp[au] at h
 | h+1, .mk op s n l,e=>by
  rw[r9] at e
  rw[Tm.wf]
  have go: ∀l:List Tm,ng h l=true->Gs l=true:=by
   intro l
   induction l with
   |nil=>intro _;rfl
   |cons t l ih=>
    intro e
    simp only[ng,List.all_cons,aa2] at e
    rw[Gs,uS h t e.1.2,ih e.2];rfl
  cases h0:decide (op=0) with
  |true=>rw[h0,aa8] at e;cases e
  | false=>
   rw[h0,aa6] at e
   cases h2:kO op with
   |true=>
    rw[h2,aa8] at e
    simp only[aa2] at e
    rw[aa8,e.1.2,go l e.2];rfl
   |false=>
    rw[h2,aa6,aa2] at e
    exact e.2
theorem Gp{t:Tm}(h:Hw t=true):t.wf=true/\t.op=0:=by
 obtain⟨op,s,n,l⟩:=t
 simp only[Hw,aa2,aa1] at h
 have h0:op=0:=h.1.1
 subst h0
 exact⟨aa7 h.2,rfl⟩
theorem LG{h:Nat}: ∀{l:List Tm},l.all (au h)=true->Gs l=true
 |[],_=>rfl
 |t::l,e=>by
  simp only[List.all_cons,aa2] at e
  rw[Gs,uS h t e.1,LG e.2];rfl
theorem ue{a:At}(h:bk a=true):Gs a.l=true:=by
 simp only[bk,aa2] at h
 exact LG h.2
structure O8(l:Lt):Prop where
 x:l.x.wf=true
 y:l.y.wf=true
 a:Gs l.a.l=true
 cmp:gf l.op=true->l.x.op≠4/\l.y.op≠4
 one:l.op=7->l.y.op=0
theorem Qz{l:Lt}(h:iR l=true):O8 l:=by
 unfold iR at h
 have nA:Qx l.a=true->Gs l.a.l=true:=fun h=>by
  simp only[Qx,aa2,aa1] at h
  rw[List.eq_nil_of_length_eq_zero h.2];rfl
 have v1: ∀{t:Tm},au 20 t=true->t.wf=true:=fun h=>uS _ _ h
 have hc:gf l.op=true->3<=l.op/\l.op<=6:=fun h=>by
  simpa[gf] using h
 cases h1:decide (l.op=1)||decide (l.op=2) with
 |true=>
  rw[h1,aa8] at h;simp only[aa2] at h
  simp only[ab6,aa1] at h1
  exact⟨(Gp h.2.1).1,(Gp h.2.2).1,ue h.1,fun e=>by have:=hc e;omega,fun e=>by omega⟩
 | false=>
  rw[h1,aa6] at h
  cases h2:decide (l.op=3)||decide (l.op=4)||decide (l.op=5)||decide (l.op=6) with
  |true=>
   rw[h2,aa8] at h;simp only[aa2,Bool.not_eq_true',aa3] at h
   simp only[ab6,aa1] at h2
   exact⟨v1 h.1.2,v1 h.2,nA h.1.1.1.1,fun _=>⟨h.1.1.1.2,h.1.1.2⟩,fun e=>by omega⟩
  | false=>
   rw[h2,aa6] at h
   simp only[Bool.or_eq_false_iff,aa3] at h1 h2
   cases h3:decide (l.op=7) with
   |true=>
    rw[h3,aa8] at h;simp only[aa2] at h
    exact⟨v1 h.2,(Gp h.1.2.2).1,ue h.1.1,fun e=>by have:=hc e;omega,fun _=>(Gp h.1.2.2).2⟩
   | false=>
    rw[h3,aa6] at h
    rw[aa3] at h3
    cases h4:decide (l.op=8)||decide (l.op=9)||decide (l.op=10) with
    |true=>
     rw[h4,aa8] at h;simp only[aa2] at h
     exact⟨v1 h.1.2,v1 h.2,ue h.1.1.1,fun e=>by have:=hc e;omega,fun e=>absurd e h3⟩
    |false=>rw[h4,aa6] at h;cases h
section
variable {σ:Type} {get:σ->ByteArray->Int} {set:σ->ByteArray->Int->σ}
theorem Rs{op:Int}(h:op=1):kO op=false:=by subst h;rfl
mutual
theorem Tm.mL: ∀(t:Tm) (k:Int) (x:σ×Bool),t.wf=true->(t.want get set k x).1=false->(t.want get set k x).2=((t.du get set k x.1).2,x.2||(t.du get set k x.1).1)
 | .mk op s n l,k,x,hw,h=>by
  rw[Tm.wf] at hw
  rw[Tm.want] at h⊢
  rw[Tm.du]
  cases he:(jg get set l x).1 with
  |true=>rw[he,aa8,he] at h;cases h
  | false=>
   rw[he,aa6] at h
   rw[aa6]
   cases h1:decide (op=1) with
   | true=>
    rw[aa1] at h1
    rw[Rs h1,aa6,aa1] at hw
    rw[List.eq_nil_of_length_eq_zero hw]
    rw[List.eq_nil_of_length_eq_zero hw] at h
    rw[jg] at h⊢
    subst h1
    simp only[bH,Tm.op,Tm.s,aa8,decide_true,show decide ((1:Int)=4)=false from rfl,Bool.or_false] at h⊢
    cases hk:decide (k=0) with
    |true=>simp
    |false=>
     rw[hk] at h
     simp only[aa6,Bool.false_or] at h⊢
     cases hg:decide (get x.1 s=0) with
     |true=>simp
     |false=>simp
   | false=>
    rw[aa6]
    have ih:(jg get set l x).2=((dZ get set l x.1).2,x.2||(dZ get set l x.1).1):=by
     cases h2:kO op with
     |true=>
      rw[h2,aa8,aa2] at hw
      exact BG l x hw.2 he
     |false=>
      rw[h2,aa6,aa1] at hw
      rw[List.eq_nil_of_length_eq_zero hw]
      simp[jg,dZ]
    cases hk:decide (k=0)||decide (op=4) with
    |true=>exact ih
    | false=>
     rw[hk,aa6] at h
     rw[aa6]
     rw[Bool.or_eq_false_iff] at hk
     have hn:decide (bH get (.mk op s n l) (jg get set l x).2.1=0)=false:=by
      unfold bH
      rw[show(Tm.mk op s n l).op=op from rfl,h1,aa6,hk.2]
      cases decide (op=3)<;>rfl
     rw[hn,aa6]
     exact ih
theorem BG: ∀(l:List Tm) (x:σ×Bool),Gs l=true->(jg get set l x).1=false->(jg get set l x).2=((dZ get set l x.1).2,x.2||(dZ get set l x.1).1)
 |[],x,_,_=>by simp[jg,dZ]
 | t::l,x,hw,h=>by
  rw[Gs,aa2] at hw
  rw[jg] at h⊢
  rw[dZ]
  cases he:(t.want get set 1 x).1 with
  |true=>rw[he,aa8,he] at h;cases h
  |false=>
   rw[he,aa6] at h
   rw[aa6]
   have e1:=Tm.mL t 1 x hw.1 he
   have e2:=BG l _ hw.2 h
   rw[e2,e1]
   simp only[Bool.or_assoc]
end
theorem vH: ∀(ws:List Int) (l:List Tm) (x:σ×Bool),Gs l=true->(iI get set ws l x).1=false->(iI get set ws l x).2=((ct get set ws l x.1).2,x.2||(ct get set ws l x.1).1)
 |[],l,x,_,_=>by simp[iI,ct]
 |w::ws,[],x,_,_=>by simp[iI,ct]
 | w::ws,t::l,x,hw,h=>by
  rw[Gs,aa2] at hw
  rw[iI] at h⊢
  rw[ct]
  cases he:(t.want get set w x).1 with
  |true=>rw[he,aa8,he] at h;cases h
  |false=>
   rw[he,aa6] at h
   rw[aa6]
   have e1:=t.mL w x hw.1 he
   have e2:=vH ws l _ hw.2 h
   rw[e2,e1]
   simp only[Bool.or_assoc]
theorem C6{y:Bool×(σ×Bool)}{f:σ×Bool->Bool×(σ×Bool)}(h:(lb y f).1=0):y.1=false/\(f y.2).1=false/\(lb y f).2=(f y.2).2:=by
 unfold lb at h⊢
 cases h1:y.1 with
 |true=>rw[h1] at h;cases h
 |false=>
  rw[h1,aa6] at h
  cases h2:(f y.2).1 with
  |true=>rw[h2] at h;cases h
  |false=>exact⟨rfl,rfl,rfl⟩
theorem sz{y:Bool×(σ×Bool)}{f:σ×Bool->Bool×(σ×Bool)}:(lb y f).1=0\/(lb y f).1=53:=by
 unfold lb
 cases y.1 with
 |true=>exact .inr rfl
 |false=>
  rw[aa6]
  cases(f y.2).1
  ·exact .inl rfl
  ·exact .inr rfl
theorem D7{t:Tm}(hw:t.wf=true)(h:t.op=0)(k:Int)(st:σ):t.du get set k st=(false,st):=by
 obtain⟨op,s,n,l⟩:=t
 have h:op=0:=h
 subst h
 have:l.length=0:=by simpa[Tm.wf,kO] using hw
 rw[List.eq_nil_of_length_eq_zero this,Tm.du,dZ]
 rfl
theorem ND(ds:List Dc){l:Lt}(hl:O8 l)(hk:dH l=true->known ds l.a=0)(x:σ×Bool)(h:(kk get set ds l x).1=0):(kk get set ds l x).2=((eF get set ds l x.1).2,x.2||(eF get set ds l x.1).1):=by
 unfold kk at h⊢
 unfold eF
 cases hc:gf l.op with
 |true=>
  rw[hc,aa8] at h
  rw[aa8,aa8]
  obtain⟨h1,h2,h3⟩:=C6 h
  have e1:=l.x.mL _ x hl.x h1
  have e2:=l.y.mL _ _ hl.y h2
  rw[h3,e2,e1]
  simp only[Bool.or_assoc]
 | false=>
  rw[hc,aa6] at h
  rw[aa6,aa6]
  have hat:dH l=true:=by
   simp only[gf,Bool.and_eq_false_iff,aa3] at hc
   simp only[dH,ab6,aa1];omega
  have ha:eh get set ds l.a x=(bif (iI get set (cF ds l.a.rel) l.a.l x).1 then 53 else 0,(iI get set (cF ds l.a.rel) l.a.l x).2):=by
   unfold eh;rw[hk hat];rfl
  have ok:(eh get set ds l.a x).1=0->(eh get set ds l.a x).2=((ct get set (cF ds l.a.rel) l.a.l x.1).2,x.2||(ct get set (cF ds l.a.rel) l.a.l x.1).1):=fun e=>by
   rw[ha] at e⊢
   cases he:(iI get set (cF ds l.a.rel) l.a.l x).1 with
   |true=>rw[he] at e;cases e
   |false=>exact vH _ _ _ hl.a he
  cases h12:decide (l.op=1)||decide (l.op=2) with
  |true=>
   rw[h12,aa8] at h
   rw[aa8,aa8]
   exact ok h
  | false=>
   rw[h12,aa6] at h
   rw[aa6,aa6]
   cases he:decide ((eh get set ds l.a x).1=0) with
   |false=>rw[he,Bool.not_false,aa8] at h;rw[h] at he;cases he
   | true=>
    rw[he,Bool.not_true,aa6] at h
    rw[Bool.not_true,aa6]
    rw[aa1] at he
    have e0:=ok he
    cases h7:decide (l.op=7) with
    | true=>
     rw[h7,aa8] at h
     rw[aa8]
     have hx:(l.x.want get set 1 (eh get set ds l.a x).2).1=false:=by
      cases e:(l.x.want get set 1 (eh get set ds l.a x).2).1 with
      |true=>rw[e] at h;cases h
      |false=>rfl
     have e1:=l.x.mL 1 _ hl.x hx
     rw[aa1] at h7
     rw[e1,e0,D7 hl.y (hl.one h7)]
     simp only[Bool.or_false,Bool.or_assoc]
    |false=>
     rw[h7,aa6] at h
     rw[aa6]
     obtain⟨h1,h2,h3⟩:=C6 h
     have e1:=l.x.mL _ _ hl.x h1
     have e2:=l.y.mL _ _ hl.y h2
     rw[h3,e2,e1,e0]
     simp only[Bool.or_assoc]
theorem vo(ds:List Dc){l:Lt}(hk:dH l=true->known ds l.a=0)(x:σ×Bool):(kk get set ds l x).1=0\/(kk get set ds l x).1=53:=by
 unfold kk
 cases hc:gf l.op with
 |true=>rw[aa8];exact sz
 | false=>
  have hat:dH l=true:=by
   simp only[gf,Bool.and_eq_false_iff,aa3] at hc
   simp only[dH,ab6,aa1];omega
  have ha:(eh get set ds l.a x).1=0\/(eh get set ds l.a x).1=53:=by
   unfold eh;rw[hk hat]
   simp only[decide_true,aa8]
   cases(iI get set (cF ds l.a.rel) l.a.l x).1
   ·exact .inl rfl
   ·exact .inr rfl
  rw[aa6]
  cases decide (l.op=1)||decide (l.op=2) with
  |true=>exact ha
  | false=>
   rw[aa6]
   cases decide ((eh get set ds l.a x).1=0) with
   |false=>exact ha
   | true=>
    rw[Bool.not_true,aa6]
    cases decide (l.op=7) with
    |true=>
     rw[aa8]
     cases(l.x.want get set 1 (eh get set ds l.a x).2).1
     ·exact .inl rfl
     ·exact .inr rfl
    |false=>rw[aa6];exact sz
theorem No(ds:List Dc){l:Lt}(hat:dH l=true)(hk:known ds l.a≠0)(x:σ×Bool):(kk get set ds l x).1=known ds l.a:=by
 have hc:gf l.op=false:=by
  simp only[dH,ab6,aa1] at hat
  simp only[gf,Bool.and_eq_false_iff,aa3];omega
 have ha:eh get set ds l.a x=(known ds l.a,x):=by
  unfold eh;rw[aa5 hk];rfl
 unfold kk
 rw[hc,aa6,ha]
 simp only[aa5 hk,Bool.not_false,aa8]
 cases decide (l.op=1)||decide (l.op=2)<;>rfl
theorem vR(ds:List Dc): ∀(b:List Lt) (x:σ×Bool),iV ds b=0->(j7 get set ds b (53,x)).1=53
 |[],_,_=>rfl
 | l::b,x,h=>by
  rw[iV] at h
  have hk:dH l=true->known ds l.a=0:=fun e=>by
   rw[e,ac0] at h
   cases h0:decide (known ds l.a=0) with
   |true=>simpa using h0
   |false=>rw[h0] at h;simp at h h0;exact absurd h h0
  have hb:iV ds b=0:=by
   cases e:dH l with
   |false=>rw[e] at h;exact h
   |true=>rw[e,aa7 (hk e)] at h;exact h
  rw[j7]
  have hn:ia 53 (kk get set ds l x).1=53:=by
   rcases vo (get:=get) (set:=set) ds hk x with e|e<;>rw[e]<;>rfl
  simp only[hn]
  exact vR ds b _ hb
theorem CA(ds:List Dc): ∀(b:List Lt) (x:σ×Bool),iV ds b=0->(∀l,l∈b->O8 l)->(j7 get set ds b (0,x)).1=0->(j7 get set ds b (0,x)).2=((eM get set ds b x.1).2,x.2||(eM get set ds b x.1).1)
 |[],x,_,_,_=>by simp[j7,eM]
 | l::b,x,h,hw,he=>by
  rw[iV] at h
  have hk:dH l=true->known ds l.a=0:=fun e=>by
   rw[e,ac0] at h
   cases h0:decide (known ds l.a=0) with
   |true=>simpa using h0
   |false=>rw[h0] at h;simp at h h0;exact absurd h h0
  have hb:iV ds b=0:=by
   cases e:dH l with
   |false=>rw[e] at h;exact h
   |true=>rw[e,aa7 (hk e)] at h;exact h
  rw[j7] at he⊢
  rw[eM]
  have hn: ∀e:Int,ia 0 e=e:=fun e=>rfl
  simp only[hn] at he⊢
  rcases vo (get:=get) (set:=set) ds hk x with e|e
  ·rw[e] at he⊢
   have e1:=ND ds (hw l List.mem_cons_self) hk x e
   have e2:=CA ds b _ hb (fun m hm=>hw m (List.mem_cons_of_mem _ hm)) he
   rw[show tH 0=false from rfl,aa6,e2,e1]
   simp only[Bool.or_assoc]
  ·rw[e] at he
   rw[show tH 53=false from rfl,aa6,vR ds b _ hb] at he
   cases he
theorem KI(ds:List Dc){r:Rl}(hh:Gs r.head.l=true)(hw: ∀l,l∈r.body->O8 l)(hk:jT ds r=0)(st:σ)(h:(fk get set ds r st).1=0):(fk get set ds r st).2=((jQ get set ds r st).2,(jQ get set ds r st).1):=by
 unfold jT at hk
 have h0:known ds r.head=0:=by
  cases e:decide (known ds r.head=0) with
  |true=>simpa using e
  |false=>rw[e,aa6] at hk;exact hk
 rw[h0] at hk
 have hb:iV ds r.body=0:=hk
 unfold fk at h⊢
 have ha:eh get set ds r.head (st,false)=(bif (iI get set (cF ds r.head.rel) r.head.l (st,false)).1 then 53 else 0,(iI get set (cF ds r.head.rel) r.head.l (st,false)).2):=by
  unfold eh;rw[h0];rfl
 rw[ha] at h⊢
 cases he:(iI get set (cF ds r.head.rel) r.head.l (st,false)).1 with
 |true=>rw[he,aa8,vR ds _ _ hb] at h;cases h
 |false=>
  rw[he,aa6] at h
  rw[aa6,CA ds _ _ hb hw h,vH _ _ _ hh he]
  simp only[Bool.false_or];rfl
end
section
variable {σ:Type} {get:σ->ByteArray->Int} {set:σ->ByteArray->Int->σ}
variable (hgs: ∀st s k t,get (set st s k) t=bif t==s then k else get st t)
include hgs
end
section
variable {σ:Type} {get:σ->ByteArray->Int} {set:σ->ByteArray->Int->σ}
end
theorem AL{l:Lt}{s:ByteArray}(h:s∈l.x.vars):s∈ej l:=by simp[ej,ay,h]
theorem Ag{l:Lt}{s:ByteArray}(h:s∈l.y.vars):s∈ej l:=by simp[ej,ay,h]
theorem EO{l:Lt}{s:ByteArray}(h:s∈ay l.a.l):s∈ej l:=by simp[ej,h]
section
variable {σ:Type} {get:σ->ByteArray->Int} {set:σ->ByteArray->Int->σ}
def xG(get:σ->ByteArray->Int)(V:ByteArray->Prop)(a b:σ):Prop:=∃s,V s/\get a s=0/\get b s≠0
theorem xG.left{V W:ByteArray->Prop}{a b c:σ}(h:xG get V a b)(hx:Ext get b c)(hs: ∀s,V s->W s):xG get W a c:=by
 obtain⟨s,h1,h2,h3⟩:=h
 exact⟨s,hs s h1,h2,by rw[hx s h3];exact h3⟩
theorem xG.right{V W:ByteArray->Prop}{a b c:σ}(hx:Ext get a b)(h:xG get V b c)(hs: ∀s,V s->W s):xG get W a c:=by
 obtain⟨s,h1,h2,h3⟩:=h
 refine⟨s,hs s h1,?_,h3⟩
 cases e:decide (get a s=0) with
 |true=>simpa using e
 |false=>rw[aa3] at e;rw[hx s e] at h2;exact absurd h2 e
variable (hgs: ∀st s k t,get (set st s k) t=bif t==s then k else get st t)
include hgs
mutual
theorem Tm.kq: ∀(t:Tm) (w:Int) (st:σ),(t.du get set w st).1=true->xG get (fun s=>s∈t.vars) st (t.du get set w st).2
 | .mk op s n l,w,st,h=>by
  rw[Tm.du] at h⊢
  cases h1:decide (op=1) with
  |false=>
   rw[h1,aa6] at h
   rw[aa6]
   exact(xe l st h).left (Ext.refl _ _) fun s hs=>by rw[Tm.vars];exact ab4 _ hs
  | true=>
   rw[h1,aa8] at h
   rw[aa8]
   cases hc:(decide (w=0)|| !decide (get st s=0)) with
   |true=>rw[hc,aa8] at h;cases h
   |false=>
    rw[aa6]
    simp only[Bool.or_eq_false_iff,aa3,ab3,aa1] at hc
    refine⟨s,by rw[Tm.vars,h1];simp,hc.2,?_⟩
    rw[hgs]
    simpa using hc.1
theorem xe: ∀(l:List Tm) (st:σ),(dZ get set l st).1=true->xG get (fun s=>s∈ay l) st (dZ get set l st).2
 |[],_,h=>by rw[dZ] at h;cases h
 | t::l,st,h=>by
  rw[dZ] at h⊢
  cases h1:(t.du get set 1 st).1 with
  |true=>exact(Tm.kq t 1 st h1).left (pW hgs l _) fun s hs=>by rw[ay];exact ab5 _ hs
  |false=>
   rw[h1,Bool.false_or] at h
   exact xG.right (Tm.eg hgs t 1 st) (xe l _ h) fun s hs=>by rw[ay];exact ab4 _ hs
end
theorem mY: ∀(ws:List Int) (l:List Tm) (st:σ),(ct get set ws l st).1=true->xG get (fun s=>s∈ay l) st (ct get set ws l st).2
 |[],l,st,h=>by simp[ct] at h
 |w::ws,[],st,h=>by simp[ct] at h
 | w::ws,t::l,st,h=>by
  rw[ct] at h⊢
  cases h1:(t.du get set w st).1 with
  |true=>exact(Tm.kq hgs t w st h1).left (gE hgs ws l _) fun s hs=>by rw[ay];exact ab5 _ hs
  |false=>
   rw[h1,Bool.false_or] at h
   exact xG.right (Tm.eg hgs t w st) (mY ws l _ h) fun s hs=>by rw[ay];exact ab4 _ hs
theorem Di(ds:List Dc)(l:Lt)(st:σ)(h:(eF get set ds l st).1=true):xG get (fun s=>s∈ej l) st (eF get set ds l st).2:=by
 unfold eF at h⊢
 cases hc:gf l.op with
 | true=>
  rw[hc,aa8] at h
  rw[aa8]
  cases h1:(l.x.du get set (kz get l st) st).1 with
  |true=>exact(Tm.kq hgs _ _ _ h1).left (Tm.eg hgs l.y _ _) fun s=>AL
  |false=>
   rw[h1,Bool.false_or] at h
   exact xG.right (Tm.eg hgs l.x _ st) (Tm.kq hgs _ _ _ h) fun s=>Ag
 | false=>
  rw[hc,aa6] at h
  rw[aa6]
  cases h12:decide (l.op=1)||decide (l.op=2) with
  |true=>rw[h12,aa8] at h;exact(mY hgs _ _ _ h).left (Ext.refl _ _) fun s=>EO
  | false=>
   rw[h12,aa6] at h
   rw[aa6]
   cases h0:(ct get set (cF ds l.a.rel) l.a.l st).1 with
   |true=>exact(mY hgs _ _ _ h0).left ((Tm.eg hgs l.x _ _).trans (Tm.eg hgs l.y _ _)) fun s=>EO
   | false=>
    rw[h0,Bool.false_or] at h
    cases h1:(l.x.du get set 1 (ct get set (cF ds l.a.rel) l.a.l st).2).1 with
    |true=>exact xG.right (gE hgs _ _ st) ((Tm.kq hgs _ _ _ h1).left (W:=fun s=>s∈ej l) (Tm.eg hgs l.y _ _) fun s=>AL) fun s hs=>hs
    |false=>
     rw[h1,Bool.false_or] at h
     exact xG.right ((gE hgs _ _ st).trans (Tm.eg hgs l.x _ _)) (Tm.kq hgs _ _ _ h) fun s=>Ag
theorem uM(ds:List Dc): ∀(b:List Lt) (st:σ),(eM get set ds b st).1=true->xG get (fun s=>s∈b.flatMap ej) st (eM get set ds b st).2
 |[],_,h=>by rw[eM] at h;cases h
 | l::b,st,h=>by
  rw[eM] at h⊢
  cases h1:(eF get set ds l st).1 with
  |true=>exact(Di hgs ds l st h1).left (mw hgs ds b _) fun s hs=>by rw[List.flatMap_cons];exact ab5 _ hs
  |false=>
   rw[h1,Bool.false_or] at h
   exact xG.right (s7 hgs ds l st) (uM ds b _ h) fun s hs=>by rw[List.flatMap_cons];exact ab4 _ hs
theorem EV(ds:List Dc)(r:Rl)(st:σ)(h:(jQ get set ds r st).1=true):xG get (fun s=>s∈ft r) st (jQ get set ds r st).2:=by
 unfold jQ at h⊢
 cases h1:(ct get set (cF ds r.head.rel) r.head.l st).1 with
 |true=>exact(mY hgs _ _ _ h1).left (mw hgs ds _ _) fun s hs=>by rw[ft];exact ab5 _ hs
 |false=>
  rw[h1,Bool.false_or] at h
  exact xG.right (gE hgs _ _ st) (uM hgs ds _ _ h) fun s hs=>by rw[ft];exact ab4 _ hs
omit hgs
def lQ(get:σ->ByteArray->Int)(V:List ByteArray)(st:σ):Nat:=(V.filter fun s=>decide (get st s=0)).length
theorem J3(get:σ->ByteArray->Int)(V:List ByteArray)(st:σ):lQ get V st<=V.length:=List.length_filter_le _ _
theorem xW{a b:σ}(h:Ext get a b): ∀V:List ByteArray,lQ get V b<=lQ get V a
 |[]=>Nat.le_refl _
 | s::V=>by
  have ih:=xW h V
  unfold lQ at ih⊢
  rw[List.filter_cons,List.filter_cons]
  cases e:decide (get a s=0) with
  |true=>
   split
   ·simp only[List.length_cons,if_true];omega
   ·simp only[List.length_cons,if_true];omega
  |false=>
   rw[aa3] at e
   rw[aa5 (show ¬ get b s=0 by rw[h s e];exact e)]
   simpa using ih
theorem x7{a b:σ}(h:Ext get a b): ∀V:List ByteArray,xG get (fun s=>s∈V) a b->lQ get V b<lQ get V a
 |[],⟨_,h1,_⟩=>nomatch h1
 | s::V,⟨t,h1,h2,h3⟩=>by
  rcases List.mem_cons.1 h1 with rfl|h1
  ·have ih:=xW h V
   unfold lQ at ih⊢
   rw[List.filter_cons,List.filter_cons,aa7 h2,aa5 h3]
   simp only[if_true,List.length_cons]
   simpa using Nat.lt_succ_of_le ih
  ·have ih:=x7 h V ⟨t,h1,h2,h3⟩
   unfold lQ at ih⊢
   rw[List.filter_cons,List.filter_cons]
   cases e:decide (get a s=0) with
   |true=>
    split
    ·simp only[List.length_cons,if_true];omega
    ·simp only[List.length_cons,if_true];omega
   |false=>
    rw[aa3] at e
    rw[aa5 (show ¬ get b s=0 by rw[h s e];exact e)]
    simpa using ih
include hgs
end
section
variable {σ ρ:Type} {get:σ->ByteArray->Int} {set:σ->ByteArray->Int->σ} {get':ρ->ByteArray->Int} {set':ρ->ByteArray->Int->ρ} {V:ByteArray->Prop} {P:ρ->Prop}
def Alike(get:σ->ByteArray->Int)(get':ρ->ByteArray->Int)(V:ByteArray->Prop)(P:ρ->Prop)(a:σ)(b:ρ):Prop:=P b/\∀s,V s->get a s=get' b s
variable (hg: ∀st s k t,get (set st s k) t=bif t==s then k else get st t) (hg': ∀st s k t,P st->V s->V t->get' (set' st s k) t=bif t==s then k else get' st t) (hp: ∀st s k,P st->V s->P (set' st s k))
theorem Alike.ty{a:σ}{b:ρ}(h:Alike get get' V P a b){t:Tm}(hv: ∀s,s∈t.vars->V s):bH get t a=bH get' t b:=by
 unfold bH
 cases h1:decide (t.op=1) with
 |false=>rfl
 |true=>
  refine h.2 _ (hv _ ?_)
  obtain⟨op,s,n,l⟩:=t
  rw[Tm.vars,show decide (op=1)=true from h1]
  simp[Tm.s]
theorem Alike.kind{a:σ}{b:ρ}(h:Alike get get' V P a b){l:Lt}(hv: ∀s,s∈ej l->V s):kz get l a=kz get' l b:=by
 unfold kz
 rw[h.ty (t:=l.x) fun s hs=>hv s (AL hs),h.ty (t:=l.y) fun s hs=>hv s (Ag hs)]
include hg hg' hp
mutual
theorem Alike.du: ∀(t:Tm) (w:Int) {a:σ} {b:ρ},Alike get get' V P a b->(∀s,s∈t.vars->V s)->(t.du get set w a).1=(t.du get' set' w b).1/\Alike get get' V P (t.du get set w a).2 (t.du get' set' w b).2
 | .mk op s n l,w,a,b,h,hv=>by
  rw[Tm.du,Tm.du]
  cases h1:decide (op=1) with
  |false=>exact Alike.dZ l h fun s hs=>hv s (by rw[Tm.vars];exact ab4 _ hs)
  | true=>
   have hs:V s:=hv s (by rw[Tm.vars,h1];simp)
   rw[aa8,aa8,h.2 s hs]
   cases(decide (w=0)|| !decide (get' b s=0)) with
   |true=>exact⟨rfl,h⟩
   |false=>
    refine⟨rfl,hp b s w h.1 hs,fun t ht=>?_⟩
    rw[aa6,aa6,hg,hg' b s w t h.1 hs ht,h.2 t ht]
theorem Alike.dZ: ∀(l:List Tm) {a:σ} {b:ρ},Alike get get' V P a b->(∀s,s∈ay l->V s)->(dZ get set l a).1=(dZ get' set' l b).1/\Alike get get' V P (dZ get set l a).2 (dZ get' set' l b).2
 |[],a,b,h,_=>by have _:=hg;have _:=hg';have _:=hp;exact⟨rfl,h⟩
 |t::l,a,b,h,hv=>by
  rw[Rl.dZ,Rl.dZ]
  obtain⟨e1,h1⟩:=Alike.du t 1 h fun s hs=>hv s (by rw[ay];exact ab5 _ hs)
  obtain⟨e2,h2⟩:=Alike.dZ l h1 fun s hs=>hv s (by rw[ay];exact ab4 _ hs)
  exact⟨by rw[e1,e2],h2⟩
end
theorem Alike.ct: ∀(ws:List Int) (l:List Tm) {a:σ} {b:ρ},Alike get get' V P a b->(∀s,s∈ay l->V s)->(ct get set ws l a).1=(ct get' set' ws l b).1/\Alike get get' V P (ct get set ws l a).2 (ct get' set' ws l b).2
 |[],l,a,b,h,_=>by simpa[Rl.ct] using h
 |w::ws,[],a,b,h,_=>by simpa[Rl.ct] using h
 |w::ws,t::l,a,b,h,hv=>by
  rw[Rl.ct,Rl.ct]
  obtain⟨e1,h1⟩:=Alike.du hg hg' hp t w h fun s hs=>hv s (by rw[ay];exact ab5 _ hs)
  obtain⟨e2,h2⟩:=Alike.ct ws l h1 fun s hs=>hv s (by rw[ay];exact ab4 _ hs)
  exact⟨by rw[e1,e2],h2⟩
theorem Alike.eF(ds:List Dc)(l:Lt){a:σ}{b:ρ}(h:Alike get get' V P a b)(hv: ∀s,s∈ej l->V s):(eF get set ds l a).1=(eF get' set' ds l b).1/\Alike get get' V P (eF get set ds l a).2 (eF get' set' ds l b).2:=by
 unfold Rl.eF
 have vx: ∀s,s∈l.x.vars->V s:=fun s hs=>hv s (AL hs)
 have vy: ∀s,s∈l.y.vars->V s:=fun s hs=>hv s (Ag hs)
 have va: ∀s,s∈ay l.a.l->V s:=fun s hs=>hv s (EO hs)
 cases gf l.op with
 |true=>
  rw[aa8,aa8,h.kind hv]
  obtain⟨e1,h1⟩:=Alike.du hg hg' hp l.x (kz get' l b) h vx
  obtain⟨e2,h2⟩:=Alike.du hg hg' hp l.y (kz get' l b) h1 vy
  exact⟨by rw[e1,e2],h2⟩
 | false=>
  rw[aa6,aa6]
  obtain⟨e0,h0⟩:=Alike.ct hg hg' hp (cF ds l.a.rel) l.a.l h va
  cases decide (l.op=1)||decide (l.op=2) with
  |true=>exact⟨e0,h0⟩
  |false=>
   obtain⟨e1,h1⟩:=Alike.du hg hg' hp l.x 1 h0 vx
   obtain⟨e2,h2⟩:=Alike.du hg hg' hp l.y 1 h1 vy
   exact⟨by rw[aa6,aa6,e0,e1,e2],h2⟩
theorem Alike.eM(ds:List Dc): ∀(l:List Lt) {a:σ} {b:ρ},Alike get get' V P a b->(∀s,s∈l.flatMap ej->V s)->(eM get set ds l a).1=(eM get' set' ds l b).1/\Alike get get' V P (eM get set ds l a).2 (eM get' set' ds l b).2
 |[],a,b,h,_=>⟨rfl,h⟩
 |l::m,a,b,h,hv=>by
  rw[Rl.eM,Rl.eM]
  obtain⟨e1,h1⟩:=Alike.eF hg hg' hp ds l h fun s hs=>hv s (by rw[List.flatMap_cons];exact ab5 _ hs)
  obtain⟨e2,h2⟩:=Alike.eM ds m h1 fun s hs=>hv s (by rw[List.flatMap_cons];exact ab4 _ hs)
  exact⟨by rw[e1,e2],h2⟩
theorem Alike.jQ(ds:List Dc)(r:Rl){a:σ}{b:ρ}(h:Alike get get' V P a b)(hv: ∀s,s∈ft r->V s):(jQ get set ds r a).1=(jQ get' set' ds r b).1/\Alike get get' V P (jQ get set ds r a).2 (jQ get' set' ds r b).2:=by
 unfold Rl.jQ
 obtain⟨e1,h1⟩:=Alike.ct hg hg' hp (cF ds r.head.rel) r.head.l h fun s hs=>hv s (by rw[ft];exact ab5 _ hs)
 obtain⟨e2,h2⟩:=Alike.eM hg hg' hp ds r.body h1 fun s hs=>hv s (by rw[ft];exact ab4 _ hs)
 exact⟨by rw[e1,e2],h2⟩
end
def getM(es:List (Value×AV))(s:ByteArray):Int:=toInt (dp es (.string s) (.lit (.int .i64 0)))
def gu(es:List (Value×AV))(s:ByteArray)(k:Int):List (Value×AV):=eX es (.string s) (.lit (.int .i64 k))
theorem n7: ∀(es:List (Value×AV)) (s:ByteArray) (k:Int) (t:ByteArray),getM (gu es s k) t=bif t==s then k else getM es t
 |[],s,k,t=>by
  simp only[getM,gu,eX,dp,di]
  cases t==s<;>rfl
 | (k',a')::es,s,k,t=>by
  have ih:=n7 es s k t
  simp only[getM,gu,eX,dp] at ih⊢
  cases h:di (.string s) k' with
  |true=>
   have hk:=oL h
   subst hk
   simp only[aa8,dp,di]
   cases h2:t==s with
   |true=>rfl
   |false=>simp
  | false=>
   simp only[aa6,dp]
   cases h3:di (.string t) k' with
   |false=>simpa using ih
   | true=>
    have hk:=oL h3
    subst hk
    have h4:(t==s)=false:=by
     cases h5:t==s with
     |false=>rfl
     |true=>rw[eq_of_beq h5] at h;simp[di] at h
    simp[h4]
def plc(V:List ByteArray)(s:ByteArray):Nat:=V.findIdx (lU s)
def jH(V:List ByteArray)(τ:List Int)(s:ByteArray)(k:Int):List Int:=τ.set (plc V s) k
def pV(ds:List Dc)(r:Rl):Int×List Int:=
 bif decide ((fO getM gu ds r ((cZ r).length+1) []).1=0) then
  (bif (cZ r).all (fun s=>!decide (getM (fO getM gu ds r ((cZ r).length+1) []).2 s=0)) then(0,(cZ r).map (getM (fO getM gu ds r ((cZ r).length+1) []).2)) else(53,[]))
 else((fO getM gu ds r ((cZ r).length+1) []).1,[])
theorem mi(ds:List Dc)(a:At):known ds a=0\/known ds a=51\/known ds a=52:=by
 unfold known
 cases j5 a.rel ds with
 |none=>exact .inr (.inl rfl)
 |some i=>
  show(bif _ then(0:Int) else 52)=0\/_
  cases decide ((cF ds a.rel).length=a.l.length)
  ·exact .inr (.inr rfl)
  ·exact .inl rfl
section
variable {σ:Type} {get:σ->ByteArray->Int} {set:σ->ByteArray->Int->σ}
theorem Cp(ds:List Dc): ∀(b:List Lt) (y:Int×(σ×Bool)),(y.1=0\/y.1=53)->iV ds b≠0->(j7 get set ds b y).1=iV ds b
 |[],_,_,h=>absurd rfl h
 | l::b,y,hy,h=>by
  rw[iV] at h⊢
  rw[j7]
  cases hc:dH l&& !decide (known ds l.a=0) with
  | true=>
   rw[aa8]
   simp only[aa2,Bool.not_eq_true',aa3] at hc
   rw[No ds hc.1 hc.2]
   have hn:ia y.1 (known ds l.a)=known ds l.a:=by
    rcases hy with e|e<;>rw[e]<;>rcases mi ds l.a with e2|e2|e2<;>rw[e2]<;>first|rfl|exact absurd e2 hc.2
   have hi:tH (known ds l.a)=true:=by
    rcases mi ds l.a with e2|e2|e2
    ·exact absurd e2 hc.2
    ·rw[e2];rfl
    ·rw[e2];rfl
   rw[hn,hi];rfl
  | false=>
   rw[hc,aa6] at h
   rw[aa6]
   have hk:dH l=true->known ds l.a=0:=fun e=>by
    rw[e,ac0] at hc
    simpa using hc
   have hn:ia y.1 (kk get set ds l y.2).1=0\/ia y.1 (kk get set ds l y.2).1=53:=by
    rcases vo (get:=get) (set:=set) ds hk y.2 with e|e<;>rcases hy with e2|e2<;>rw[e,e2]<;>decide
   have hi:tH (ia y.1 (kk get set ds l y.2).1)=false:=by rcases hn with e|e<;>rw[e]<;>rfl
   rw[hi,aa6]
   exact Cp ds b _ hn h
theorem Cm(ds:List Dc)(r:Rl)(st:σ)(h:jT ds r≠0):(fk get set ds r st).1=jT ds r:=by
 unfold fk
 unfold jT at h⊢
 cases h0:decide (known ds r.head=0) with
 |true=>
  rw[h0,aa8] at h
  rw[aa8]
  refine Cp ds _ _ ?_ h
  unfold eh
  rw[h0,aa8]
  cases(iI get set (cF ds r.head.rel) r.head.l (st,false)).1
  ·exact .inl rfl
  ·exact .inr rfl
 | false=>
  rw[aa6]
  have ha:eh get set ds r.head (st,false)=(known ds r.head,(st,false)):=by
   unfold eh;rw[h0];rfl
  rw[ha]
  rw[aa3] at h0
  cases r.body with
  |nil=>rfl
  | cons l b=>
   rw[j7]
   have hn: ∀e,ia (known ds r.head) e=known ds r.head:=fun e=>by
    rcases mi ds r.head with e2|e2|e2
    ·exact absurd e2 h0
    ·rw[e2];rfl
    ·rw[e2];rfl
   have hi:tH (known ds r.head)=true:=by
    rcases mi ds r.head with e2|e2|e2
    ·exact absurd e2 h0
    ·rw[e2];rfl
    ·rw[e2];rfl
   simp only[hn,hi];rfl
end
end Go.Rl
