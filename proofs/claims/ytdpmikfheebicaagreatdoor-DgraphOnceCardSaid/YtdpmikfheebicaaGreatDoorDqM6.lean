import Derived.Test.YtdpmikfheebicaaGreatDoorDqM1
namespace Go.Rl
open Go Go.Dn
structure Dc where
 rel:ByteArray
 types:List Int
def ju(s:ByteArray):List Dc->Option Nat
 |[]=>none
 |d::l=>bif lB d.rel s then some 0 else(ju s l).map (· +1)
def b9(ds:List Dc)(s:ByteArray):List Int:=match ju s ds with|some i=>(ds.getD i ⟨ByteArray.empty,[]⟩).types|none=>[]
def known(ds:List Dc)(a:At):Int:=match ju a.rel ds with|none=>51|some _=>bif decide ((b9 ds a.rel).length=a.l.length) then 0 else 52
def dm(l:Lt):Bool:=decide (l.op<3)||decide (6<l.op)
def ib(ds:List Dc):List Lt->Int
 |[]=>0
 |l::b=>bif dm l&& !decide (known ds l.a=0) then known ds l.a else ib ds b
def jg(ds:List Dc)(r:Rl):Int:=bif decide (known ds r.head=0) then ib ds r.body else known ds r.head
section
variable {σ:Type} (get:σ->ByteArray->Int) (set:σ->ByteArray->Int->σ)
def bw(t:Tm)(st:σ):Int:=bif decide (t.op=1) then get st t.s else bif decide (t.op=3) then 2 else bif decide (t.op=4) then 0 else 1
mutual
def Tm.cL:Tm->Int->σ->Bool×σ
 | .mk op s _ l,w,st=>bif decide (op=1) then(bif decide (w=0)|| !decide (get st s=0) then(false,st) else(true,set st s w)) else dz l st
def dz:List Tm->σ->Bool×σ
 |[],st=>(false,st)
 |t::l,st=>((Tm.cL t 1 st).1||(dz l (Tm.cL t 1 st).2).1,(dz l (Tm.cL t 1 st).2).2)
end
mutual
def Tm.want:Tm->Int->σ×Bool->Bool×(σ×Bool)
 | .mk op s n l,k,x=>
  bif (gR l x).1 then gR l x
  else bif decide (k=0)||decide (op=4) then(false,(gR l x).2)
  else bif decide (bw get (.mk op s n l) (gR l x).2.1=0) then(false,(set (gR l x).2.1 s k,true))
  else(!decide (bw get (.mk op s n l) (gR l x).2.1=k),(gR l x).2)
def gR:List Tm->σ×Bool->Bool×(σ×Bool)
 |[],x=>(false,x)
 |t::l,x=>bif (Tm.want t 1 x).1 then Tm.want t 1 x else gR l (Tm.want t 1 x).2
end
def b5:List Int->List Tm->σ->Bool×σ
 |w::ws,t::l,st=>((t.cL get set w st).1||(b5 ws l (t.cL get set w st).2).1,(b5 ws l (t.cL get set w st).2).2)
 |_,_,st=>(false,st)
def gM:List Int->List Tm->σ×Bool->Bool×(σ×Bool)
 |w::ws,t::l,x=>bif (t.want get set w x).1 then t.want get set w x else gM ws l (t.want get set w x).2
 |_,_,x=>(false,x)
def ff(op:Int):Bool:=decide (3<=op)&&decide (op<=6)
def jW(l:Lt)(st:σ):Int:=bif decide (bw get l.y st>bw get l.x st) then bw get l.y st else bw get l.x st
def dP(ds:List Dc)(l:Lt)(st:σ):Bool×σ:=
 bif ff l.op then
  ((l.x.cL get set (jW get l st) st).1||(l.y.cL get set (jW get l st) (l.x.cL get set (jW get l st) st).2).1,(l.y.cL get set (jW get l st) (l.x.cL get set (jW get l st) st).2).2)
 else bif decide (l.op=1)||decide (l.op=2) then b5 get set (b9 ds l.a.rel) l.a.l st
 else((b5 get set (b9 ds l.a.rel) l.a.l st).1||(l.x.cL get set 1 (b5 get set (b9 ds l.a.rel) l.a.l st).2).1||(l.y.cL get set 1 (l.x.cL get set 1 (b5 get set (b9 ds l.a.rel) l.a.l st).2).2).1,
  (l.y.cL get set 1 (l.x.cL get set 1 (b5 get set (b9 ds l.a.rel) l.a.l st).2).2).2)
def dW(ds:List Dc):List Lt->σ->Bool×σ
 |[],st=>(false,st)
 |l::b,st=>((dP get set ds l st).1||(dW ds b (dP get set ds l st).2).1,(dW ds b (dP get set ds l st).2).2)
def ji(ds:List Dc)(r:Rl)(st:σ):Bool×σ:=
 ((b5 get set (b9 ds r.head.rel) r.head.l st).1||(dW get set ds r.body (b5 get set (b9 ds r.head.rel) r.head.l st).2).1,(dW get set ds r.body (b5 get set (b9 ds r.head.rel) r.head.l st).2).2)
def dD(ds:List Dc)(a:At)(x:σ×Bool):Int×(σ×Bool):=
 bif decide (known ds a=0) then(bif (gM get set (b9 ds a.rel) a.l x).1 then 53 else 0,(gM get set (b9 ds a.rel) a.l x).2) else(known ds a,x)
def j6(y:Bool×(σ×Bool))(f:σ×Bool->Bool×(σ×Bool)):Int×(σ×Bool):=bif y.1 then(53,y.2) else(bif (f y.2).1 then 53 else 0,(f y.2).2)
def jB(ds:List Dc)(l:Lt)(x:σ×Bool):Int×(σ×Bool):=
 bif ff l.op then j6 (l.x.want get set (jW get l x.1) x) (l.y.want get set (jW get l x.1))
 else bif decide (l.op=1)||decide (l.op=2) then dD get set ds l.a x
 else bif !decide ((dD get set ds l.a x).1=0) then dD get set ds l.a x
 else bif decide (l.op=7) then(bif (l.x.want get set 1 (dD get set ds l.a x).2).1 then 53 else 0,(l.x.want get set 1 (dD get set ds l.a x).2).2)
 else j6 (l.x.want get set 1 (dD get set ds l.a x).2) (l.y.want get set 1)
def sb(e:Int):Bool:=decide (e=51)||decide (e=52)
def gh(w e:Int):Int:=bif decide (w=0)||decide (w=53)&&sb e then e else w
def jr(ds:List Dc):List Lt->Int×(σ×Bool)->Int×(σ×Bool)
 |[],y=>y
 |l::b,y=>bif sb (gh y.1 (jB get set ds l y.2).1) then(gh y.1 (jB get set ds l y.2).1,(jB get set ds l y.2).2)
  else jr ds b (gh y.1 (jB get set ds l y.2).1,(jB get set ds l y.2).2)
def er(ds:List Dc)(r:Rl)(st:σ):Int×(σ×Bool):=jr get set ds r.body (dD get set ds r.head (st,false))
def eV(ds:List Dc)(r:Rl):Nat->σ->Int×σ
 |0,st=>(0,st)
 |n+1,st=>bif decide ((er get set ds r st).1=0) then(bif (er get set ds r st).2.2 then eV ds r n (er get set ds r st).2.1 else(0,(er get set ds r st).2.1)) else((er get set ds r st).1,(er get set ds r st).2.1)
def Ext(st st':σ):Prop:=∀s,get st s≠0->get st' s=get st s
theorem Ext.refl(st:σ):Ext get st st:=fun _ _=>rfl
variable {get set}
theorem Ext.trans{a b c:σ}(h1:Ext get a b)(h2:Ext get b c):Ext get a c:=fun s h=>by rw[h2 s (by rw[h1 s h];exact h),h1 s h]
variable (iN: ∀st s k t,get (set st s k) t=bif t==s then k else get st t)
include iN
mutual
theorem Tm.dC: ∀(t:Tm) (w:Int) (st:σ),Ext get st (t.cL get set w st).2
 | .mk op s n l,w,st=>by
  rw[Tm.cL]
  cases decide (op=1) with
  |false=>exact o9 l st
  | true=>
   rw[aa7]
   cases h:(decide (w=0)|| !decide (get st s=0)) with
   |true=>exact Ext.refl _ _
   | false=>
    intro t ht
    rw[aa5,iN]
    cases e:t==s with
    |false=>rfl
    |true=>
     rw[Bool.or_eq_false_iff,ab2,aa0] at h
     rw[eq_of_beq e] at ht
     exact absurd h.2 ht
theorem o9: ∀(l:List Tm) (st:σ),Ext get st (dz get set l st).2
 |[],st=>by have _:=iN;exact Ext.refl _ _
 |t::l,st=>by rw[dz];exact(Tm.dC t 1 st).trans (o9 l _)
end
theorem fI: ∀(ws:List Int) (l:List Tm) (st:σ),Ext get st (b5 get set ws l st).2
 |w::ws,t::l,st=>by rw[b5];exact(Tm.dC iN t w st).trans (fI ws l _)
 |[],_,st=>by rw[b5];exact Ext.refl _ _;intro _ _ _ _ h;cases h
 |_::_,[],st=>by rw[b5];exact Ext.refl _ _;intro _ _ _ _ _ h;cases h
theorem rF(ds:List Dc)(l:Lt)(st:σ):Ext get st (dP get set ds l st).2:=by
 unfold dP
 cases ff l.op with
 |true=>exact(Tm.dC iN l.x _ st).trans (Tm.dC iN l.y _ _)
 |false=>
  rw[aa5]
  cases(decide (l.op=1)||decide (l.op=2)) with
  |true=>exact fI iN _ _ st
  |false=>exact((fI iN _ _ st).trans (Tm.dC iN l.x 1 _)).trans (Tm.dC iN l.y 1 _)
theorem l6(ds:List Dc): ∀(b:List Lt) (st:σ),Ext get st (dW get set ds b st).2
 |[],st=>Ext.refl _ _
 |l::b,st=>by rw[dW];exact(rF iN ds l st).trans (l6 ds b _)
theorem BT(ds:List Dc)(r:Rl)(st:σ):Ext get st (ji get set ds r st).2:=(fI iN _ _ st).trans (l6 iN ds _ _)
end
def Sm(o:List ByteArray)(s:ByteArray):List ByteArray:=bif o.contains s then o else o++[s]
def Ox(o m:List ByteArray):List ByteArray:=m.foldl Sm o
mutual
def Tm.rv:Tm->List ByteArray
 | .mk op s _ l=>bif decide (op=1) then[s] else Ud l []
def Ud:List Tm->List ByteArray->List ByteArray
 |[],o=>o
 |t::l,o=>Ud l (Ox o t.rv)
end
mutual
def Tm.wf:Tm->Bool
 | .mk op _ _ l=>bif jV op then decide (l.length=2)&&Dk l else decide (l.length=0)
def Dk:List Tm->Bool
 |[]=>true
 |t::l=>t.wf&&Dk l
end
theorem uS: ∀(h:Nat) (t:Tm),ak h t=true->t.wf=true
 |0,_,h=>by simp[ak] at h
 | h+1, .mk op s n l,e=>by
  rw[qE] at e
  rw[Tm.wf]
  have go: ∀l:List Tm,lY h l=true->Dk l=true:=by
   intro l
   induction l with
   |nil=>intro _;rfl
   |cons t l ih=>
    intro e
    simp only[lY,List.all_cons,aa1] at e
    rw[Dk,uS h t e.1.2,ih e.2];rfl
  cases h0:decide (op=0) with
  |true=>rw[h0,aa7] at e;cases e
  | false=>
   rw[h0,aa5] at e
   cases h2:jV op with
   |true=>
    rw[h2,aa7] at e
    simp only[aa1] at e
    rw[aa7,e.1.2,go l e.2];rfl
   |false=>
    rw[h2,aa5,aa1] at e
    exact e.2
theorem Et{t:Tm}(h:Dm t=true):t.wf=true/\t.op=0:=by
 obtain⟨op,s,n,l⟩:=t
 simp only[Dm,aa1,aa0] at h
 have h0:op=0:=h.1.1
 subst h0
 exact⟨aa6 h.2,rfl⟩
theorem HF{h:Nat}: ∀{l:List Tm},l.all (ak h)=true->Dk l=true
 |[],_=>rfl
 |t::l,e=>by
  simp only[List.all_cons,aa1] at e
  rw[Dk,uS h t e.1,HF e.2];rfl
theorem sI{a:At}(h:a7 a=true):Dk a.l=true:=by
 simp only[a7,aa1] at h
 exact HF h.2
structure Lj(l:Lt):Prop where
 x:l.x.wf=true
 y:l.y.wf=true
 a:Dk l.a.l=true
 cmp:ff l.op=true->l.x.op≠4/\l.y.op≠4
 one:l.op=7->l.y.op=0
theorem NN{l:Lt}(h:fU l=true):Lj l:=by
 unfold fU at h
 have nA:NZ l.a=true->Dk l.a.l=true:=fun h=>by
  simp only[NZ,aa1,aa0] at h
  rw[List.eq_nil_of_length_eq_zero h.2];rfl
 have v1: ∀{t:Tm},ak 20 t=true->t.wf=true:=fun h=>uS _ _ h
 have hc:ff l.op=true->3<=l.op/\l.op<=6:=fun h=>by
  simpa[ff] using h
 cases h1:decide (l.op=1)||decide (l.op=2) with
 |true=>
  rw[h1,aa7] at h;simp only[aa1] at h
  simp only[ab5,aa0] at h1
  exact⟨(Et h.2.1).1,(Et h.2.2).1,sI h.1,fun e=>by have:=hc e;omega,fun e=>by omega⟩
 | false=>
  rw[h1,aa5] at h
  cases h2:decide (l.op=3)||decide (l.op=4)||decide (l.op=5)||decide (l.op=6) with
  |true=>
   rw[h2,aa7] at h;simp only[aa1,Bool.not_eq_true',aa2] at h
   simp only[ab5,aa0] at h2
   exact⟨v1 h.1.2,v1 h.2,nA h.1.1.1.1,fun _=>⟨h.1.1.1.2,h.1.1.2⟩,fun e=>by omega⟩
  | false=>
   rw[h2,aa5] at h
   simp only[Bool.or_eq_false_iff,aa2] at h1 h2
   cases h3:decide (l.op=7) with
   |true=>
    rw[h3,aa7] at h;simp only[aa1] at h
    exact⟨v1 h.2,(Et h.1.2.2).1,sI h.1.1,fun e=>by have:=hc e;omega,fun _=>(Et h.1.2.2).2⟩
   | false=>
    rw[h3,aa5] at h
    rw[aa2] at h3
    cases h4:decide (l.op=8)||decide (l.op=9)||decide (l.op=10) with
    |true=>
     rw[h4,aa7] at h;simp only[aa1] at h
     exact⟨v1 h.1.2,v1 h.2,sI h.1.1.1,fun e=>by have:=hc e;omega,fun e=>absurd e h3⟩
    |false=>rw[h4,aa5] at h;cases h
section
variable {σ:Type} {get:σ->ByteArray->Int} {set:σ->ByteArray->Int->σ}
theorem NR{op:Int}(h:op=1):jV op=false:=by subst h;rfl
mutual
theorem Tm.mg: ∀(t:Tm) (k:Int) (x:σ×Bool),t.wf=true->(t.want get set k x).1=false->(t.want get set k x).2=((t.cL get set k x.1).2,x.2||(t.cL get set k x.1).1)
 | .mk op s n l,k,x,hw,h=>by
  rw[Tm.wf] at hw
  rw[Tm.want] at h⊢
  rw[Tm.cL]
  cases he:(gR get set l x).1 with
  |true=>rw[he,aa7,he] at h;cases h
  | false=>
   rw[he,aa5] at h
   rw[aa5]
   cases h1:decide (op=1) with
   | true=>
    rw[aa0] at h1
    rw[NR h1,aa5,aa0] at hw
    rw[List.eq_nil_of_length_eq_zero hw]
    rw[List.eq_nil_of_length_eq_zero hw] at h
    rw[gR] at h⊢
    subst h1
    simp only[bw,Tm.op,Tm.s,aa7,decide_true,show decide ((1:Int)=4)=false from rfl,Bool.or_false] at h⊢
    cases hk:decide (k=0) with
    |true=>simp
    |false=>
     rw[hk] at h
     simp only[aa5,Bool.false_or] at h⊢
     cases hg:decide (get x.1 s=0) with
     |true=>simp
     |false=>simp
   | false=>
    rw[aa5]
    have ih:(gR get set l x).2=((dz get set l x.1).2,x.2||(dz get set l x.1).1):=by
     cases h2:jV op with
     |true=>
      rw[h2,aa7,aa1] at hw
      exact A9 l x hw.2 he
     |false=>
      rw[h2,aa5,aa0] at hw
      rw[List.eq_nil_of_length_eq_zero hw]
      simp[gR,dz]
    cases hk:decide (k=0)||decide (op=4) with
    |true=>exact ih
    | false=>
     rw[hk,aa5] at h
     rw[aa5]
     rw[Bool.or_eq_false_iff] at hk
     have hn:decide (bw get (.mk op s n l) (gR get set l x).2.1=0)=false:=by
      unfold bw
      rw[show(Tm.mk op s n l).op=op from rfl,h1,aa5,hk.2]
      cases decide (op=3)<;>rfl
     rw[hn,aa5]
     exact ih
theorem A9: ∀(l:List Tm) (x:σ×Bool),Dk l=true->(gR get set l x).1=false->(gR get set l x).2=((dz get set l x.1).2,x.2||(dz get set l x.1).1)
 |[],x,_,_=>by simp[gR,dz]
 | t::l,x,hw,h=>by
  rw[Dk,aa1] at hw
  rw[gR] at h⊢
  rw[dz]
  cases he:(t.want get set 1 x).1 with
  |true=>rw[he,aa7,he] at h;cases h
  |false=>
   rw[he,aa5] at h
   rw[aa5]
   have e1:=Tm.mg t 1 x hw.1 he
   have e2:=A9 l _ hw.2 h
   rw[e2,e1]
   simp only[Bool.or_assoc]
end
theorem uu: ∀(ws:List Int) (l:List Tm) (x:σ×Bool),Dk l=true->(gM get set ws l x).1=false->(gM get set ws l x).2=((b5 get set ws l x.1).2,x.2||(b5 get set ws l x.1).1)
 |[],l,x,_,_=>by simp[gM,b5]
 |w::ws,[],x,_,_=>by simp[gM,b5]
 | w::ws,t::l,x,hw,h=>by
  rw[Dk,aa1] at hw
  rw[gM] at h⊢
  rw[b5]
  cases he:(t.want get set w x).1 with
  |true=>rw[he,aa7,he] at h;cases h
  |false=>
   rw[he,aa5] at h
   rw[aa5]
   have e1:=t.mg w x hw.1 he
   have e2:=uu ws l _ hw.2 h
   rw[e2,e1]
   simp only[Bool.or_assoc]
theorem Aw{y:Bool×(σ×Bool)}{f:σ×Bool->Bool×(σ×Bool)}(h:(j6 y f).1=0):y.1=false/\(f y.2).1=false/\(j6 y f).2=(f y.2).2:=by
 unfold j6 at h⊢
 cases h1:y.1 with
 |true=>rw[h1] at h;cases h
 |false=>
  rw[h1,aa5] at h
  cases h2:(f y.2).1 with
  |true=>rw[h2] at h;cases h
  |false=>exact⟨rfl,rfl,rfl⟩
theorem rk{y:Bool×(σ×Bool)}{f:σ×Bool->Bool×(σ×Bool)}:(j6 y f).1=0\/(j6 y f).1=53:=by
 unfold j6
 cases y.1 with
 |true=>exact .inr rfl
 |false=>
  rw[aa5]
  cases(f y.2).1
  ·exact .inl rfl
  ·exact .inr rfl
theorem Ck{t:Tm}(hw:t.wf=true)(h:t.op=0)(k:Int)(st:σ):t.cL get set k st=(false,st):=by
 obtain⟨op,s,n,l⟩:=t
 have h:op=0:=h
 subst h
 have:l.length=0:=by simpa[Tm.wf,jV] using hw
 rw[List.eq_nil_of_length_eq_zero this,Tm.cL,dz]
 rfl
theorem K8(ds:List Dc){l:Lt}(hl:Lj l)(hk:dm l=true->known ds l.a=0)(x:σ×Bool)(h:(jB get set ds l x).1=0):(jB get set ds l x).2=((dP get set ds l x.1).2,x.2||(dP get set ds l x.1).1):=by
 unfold jB at h⊢
 unfold dP
 cases hc:ff l.op with
 |true=>
  rw[hc,aa7] at h
  rw[aa7,aa7]
  obtain⟨h1,h2,h3⟩:=Aw h
  have e1:=l.x.mg _ x hl.x h1
  have e2:=l.y.mg _ _ hl.y h2
  rw[h3,e2,e1]
  simp only[Bool.or_assoc]
 | false=>
  rw[hc,aa5] at h
  rw[aa5,aa5]
  have hat:dm l=true:=by
   simp only[ff,Bool.and_eq_false_iff,aa2] at hc
   simp only[dm,ab5,aa0];omega
  have ha:dD get set ds l.a x=(bif (gM get set (b9 ds l.a.rel) l.a.l x).1 then 53 else 0,(gM get set (b9 ds l.a.rel) l.a.l x).2):=by
   unfold dD;rw[hk hat];rfl
  have ok:(dD get set ds l.a x).1=0->(dD get set ds l.a x).2=((b5 get set (b9 ds l.a.rel) l.a.l x.1).2,x.2||(b5 get set (b9 ds l.a.rel) l.a.l x.1).1):=fun e=>by
   rw[ha] at e⊢
   cases he:(gM get set (b9 ds l.a.rel) l.a.l x).1 with
   |true=>rw[he] at e;cases e
   |false=>exact uu _ _ _ hl.a he
  cases h12:decide (l.op=1)||decide (l.op=2) with
  |true=>
   rw[h12,aa7] at h
   rw[aa7,aa7]
   exact ok h
  | false=>
   rw[h12,aa5] at h
   rw[aa5,aa5]
   cases he:decide ((dD get set ds l.a x).1=0) with
   |false=>rw[he,Bool.not_false,aa7] at h;rw[h] at he;cases he
   | true=>
    rw[he,Bool.not_true,aa5] at h
    rw[Bool.not_true,aa5]
    rw[aa0] at he
    have e0:=ok he
    cases h7:decide (l.op=7) with
    | true=>
     rw[h7,aa7] at h
     rw[aa7]
     have hx:(l.x.want get set 1 (dD get set ds l.a x).2).1=false:=by
      cases e:(l.x.want get set 1 (dD get set ds l.a x).2).1 with
      |true=>rw[e] at h;cases h
      |false=>rfl
     have e1:=l.x.mg 1 _ hl.x hx
     rw[aa0] at h7
     rw[e1,e0,Ck hl.y (hl.one h7)]
     simp only[Bool.or_false,Bool.or_assoc]
    |false=>
     rw[h7,aa5] at h
     rw[aa5]
     obtain⟨h1,h2,h3⟩:=Aw h
     have e1:=l.x.mg _ _ hl.x h1
     have e2:=l.y.mg _ _ hl.y h2
     rw[h3,e2,e1,e0]
     simp only[Bool.or_assoc]
theorem vq(ds:List Dc){l:Lt}(hk:dm l=true->known ds l.a=0)(x:σ×Bool):(jB get set ds l x).1=0\/(jB get set ds l x).1=53:=by
 unfold jB
 cases hc:ff l.op with
 |true=>rw[aa7];exact rk
 | false=>
  have hat:dm l=true:=by
   simp only[ff,Bool.and_eq_false_iff,aa2] at hc
   simp only[dm,ab5,aa0];omega
  have ha:(dD get set ds l.a x).1=0\/(dD get set ds l.a x).1=53:=by
   unfold dD;rw[hk hat]
   simp only[decide_true,aa7]
   cases(gM get set (b9 ds l.a.rel) l.a.l x).1
   ·exact .inl rfl
   ·exact .inr rfl
  rw[aa5]
  cases decide (l.op=1)||decide (l.op=2) with
  |true=>exact ha
  | false=>
   rw[aa5]
   cases decide ((dD get set ds l.a x).1=0) with
   |false=>exact ha
   | true=>
    rw[Bool.not_true,aa5]
    cases decide (l.op=7) with
    |true=>
     rw[aa7]
     cases(l.x.want get set 1 (dD get set ds l.a x).2).1
     ·exact .inl rfl
     ·exact .inr rfl
    |false=>rw[aa5];exact rk
theorem Lp(ds:List Dc){l:Lt}(hat:dm l=true)(hk:known ds l.a≠0)(x:σ×Bool):(jB get set ds l x).1=known ds l.a:=by
 have hc:ff l.op=false:=by
  simp only[dm,ab5,aa0] at hat
  simp only[ff,Bool.and_eq_false_iff,aa2];omega
 have ha:dD get set ds l.a x=(known ds l.a,x):=by
  unfold dD;rw[aa4 hk];rfl
 unfold jB
 rw[hc,aa5,ha]
 simp only[aa4 hk,Bool.not_false,aa7]
 cases decide (l.op=1)||decide (l.op=2)<;>rfl
theorem uc(ds:List Dc): ∀(b:List Lt) (x:σ×Bool),ib ds b=0->(jr get set ds b (53,x)).1=53
 |[],_,_=>rfl
 | l::b,x,h=>by
  rw[ib] at h
  have hk:dm l=true->known ds l.a=0:=fun e=>by
   rw[e,ab9] at h
   cases h0:decide (known ds l.a=0) with
   |true=>simpa using h0
   |false=>rw[h0] at h;simp at h h0;exact absurd h h0
  have hb:ib ds b=0:=by
   cases e:dm l with
   |false=>rw[e] at h;exact h
   |true=>rw[e,aa6 (hk e)] at h;exact h
  rw[jr]
  have hn:gh 53 (jB get set ds l x).1=53:=by
   rcases vq (get:=get) (set:=set) ds hk x with e|e<;>rw[e]<;>rfl
  simp only[hn]
  exact uc ds b _ hb
theorem As(ds:List Dc): ∀(b:List Lt) (x:σ×Bool),ib ds b=0->(∀l,l∈b->Lj l)->(jr get set ds b (0,x)).1=0->(jr get set ds b (0,x)).2=((dW get set ds b x.1).2,x.2||(dW get set ds b x.1).1)
 |[],x,_,_,_=>by simp[jr,dW]
 | l::b,x,h,hw,he=>by
  rw[ib] at h
  have hk:dm l=true->known ds l.a=0:=fun e=>by
   rw[e,ab9] at h
   cases h0:decide (known ds l.a=0) with
   |true=>simpa using h0
   |false=>rw[h0] at h;simp at h h0;exact absurd h h0
  have hb:ib ds b=0:=by
   cases e:dm l with
   |false=>rw[e] at h;exact h
   |true=>rw[e,aa6 (hk e)] at h;exact h
  rw[jr] at he⊢
  rw[dW]
  have hn: ∀e:Int,gh 0 e=e:=fun e=>rfl
  simp only[hn] at he⊢
  rcases vq (get:=get) (set:=set) ds hk x with e|e
  ·rw[e] at he⊢
   have e1:=K8 ds (hw l List.mem_cons_self) hk x e
   have e2:=As ds b _ hb (fun m hm=>hw m (List.mem_cons_of_mem _ hm)) he
   rw[show sb 0=false from rfl,aa5,e2,e1]
   simp only[Bool.or_assoc]
  ·rw[e] at he
   rw[show sb 53=false from rfl,aa5,uc ds b _ hb] at he
   cases he
theorem HS(ds:List Dc){r:Rl}(hh:Dk r.head.l=true)(hw: ∀l,l∈r.body->Lj l)(hk:jg ds r=0)(st:σ)(h:(er get set ds r st).1=0):(er get set ds r st).2=((ji get set ds r st).2,(ji get set ds r st).1):=by
 unfold jg at hk
 have h0:known ds r.head=0:=by
  cases e:decide (known ds r.head=0) with
  |true=>simpa using e
  |false=>rw[e,aa5] at hk;exact hk
 rw[h0] at hk
 have hb:ib ds r.body=0:=hk
 unfold er at h⊢
 have ha:dD get set ds r.head (st,false)=(bif (gM get set (b9 ds r.head.rel) r.head.l (st,false)).1 then 53 else 0,(gM get set (b9 ds r.head.rel) r.head.l (st,false)).2):=by
  unfold dD;rw[h0];rfl
 rw[ha] at h⊢
 cases he:(gM get set (b9 ds r.head.rel) r.head.l (st,false)).1 with
 |true=>rw[he,aa7,uc ds _ _ hb] at h;cases h
 |false=>
  rw[he,aa5] at h
  rw[aa5,As ds _ _ hb hw h,uu _ _ _ hh he]
  simp only[Bool.false_or];rfl
end
section
variable {σ:Type} {get:σ->ByteArray->Int} {set:σ->ByteArray->Int->σ}
variable (iN: ∀st s k t,get (set st s k) t=bif t==s then k else get st t)
include iN
end
section
variable {σ:Type} {get:σ->ByteArray->Int} {set:σ->ByteArray->Int->σ}
end
theorem xL{l:Lt}{s:ByteArray}(h:s∈l.x.vars):s∈dJ l:=by simp[dJ,aq,h]
theorem yS{l:Lt}{s:ByteArray}(h:s∈l.y.vars):s∈dJ l:=by simp[dJ,aq,h]
theorem CK{l:Lt}{s:ByteArray}(h:s∈aq l.a.l):s∈dJ l:=by simp[dJ,h]
section
variable {σ:Type} {get:σ->ByteArray->Int} {set:σ->ByteArray->Int->σ}
def wU(get:σ->ByteArray->Int)(V:ByteArray->Prop)(a b:σ):Prop:=∃s,V s/\get a s=0/\get b s≠0
theorem wU.left{V W:ByteArray->Prop}{a b c:σ}(h:wU get V a b)(hx:Ext get b c)(hs: ∀s,V s->W s):wU get W a c:=by
 obtain⟨s,h1,h2,h3⟩:=h
 exact⟨s,hs s h1,h2,by rw[hx s h3];exact h3⟩
theorem wU.right{V W:ByteArray->Prop}{a b c:σ}(hx:Ext get a b)(h:wU get V b c)(hs: ∀s,V s->W s):wU get W a c:=by
 obtain⟨s,h1,h2,h3⟩:=h
 refine⟨s,hs s h1,?_,h3⟩
 cases e:decide (get a s=0) with
 |true=>simpa using e
 |false=>rw[aa2] at e;rw[hx s e] at h2;exact absurd h2 e
variable (iN: ∀st s k t,get (set st s k) t=bif t==s then k else get st t)
include iN
mutual
theorem Tm.jN: ∀(t:Tm) (w:Int) (st:σ),(t.cL get set w st).1=true->wU get (fun s=>s∈t.vars) st (t.cL get set w st).2
 | .mk op s n l,w,st,h=>by
  rw[Tm.cL] at h⊢
  cases h1:decide (op=1) with
  |false=>
   rw[h1,aa5] at h
   rw[aa5]
   exact(ug l st h).left (Ext.refl _ _) fun s hs=>by rw[Tm.vars];exact ab3 _ hs
  | true=>
   rw[h1,aa7] at h
   rw[aa7]
   cases hc:(decide (w=0)|| !decide (get st s=0)) with
   |true=>rw[hc,aa7] at h;cases h
   |false=>
    rw[aa5]
    simp only[Bool.or_eq_false_iff,aa2,ab2,aa0] at hc
    refine⟨s,by rw[Tm.vars,h1];simp,hc.2,?_⟩
    rw[iN]
    simpa using hc.1
theorem ug: ∀(l:List Tm) (st:σ),(dz get set l st).1=true->wU get (fun s=>s∈aq l) st (dz get set l st).2
 |[],_,h=>by rw[dz] at h;cases h
 | t::l,st,h=>by
  rw[dz] at h⊢
  cases h1:(t.cL get set 1 st).1 with
  |true=>exact(Tm.jN t 1 st h1).left (o9 iN l _) fun s hs=>by rw[aq];exact ab4 _ hs
  |false=>
   rw[h1,Bool.false_or] at h
   exact wU.right (Tm.dC iN t 1 st) (ug l _ h) fun s hs=>by rw[aq];exact ab3 _ hs
end
theorem lS: ∀(ws:List Int) (l:List Tm) (st:σ),(b5 get set ws l st).1=true->wU get (fun s=>s∈aq l) st (b5 get set ws l st).2
 |[],l,st,h=>by simp[b5] at h
 |w::ws,[],st,h=>by simp[b5] at h
 | w::ws,t::l,st,h=>by
  rw[b5] at h⊢
  cases h1:(t.cL get set w st).1 with
  |true=>exact(Tm.jN iN t w st h1).left (fI iN ws l _) fun s hs=>by rw[aq];exact ab4 _ hs
  |false=>
   rw[h1,Bool.false_or] at h
   exact wU.right (Tm.dC iN t w st) (lS ws l _ h) fun s hs=>by rw[aq];exact ab3 _ hs
theorem Ai(ds:List Dc)(l:Lt)(st:σ)(h:(dP get set ds l st).1=true):wU get (fun s=>s∈dJ l) st (dP get set ds l st).2:=by
 unfold dP at h⊢
 cases hc:ff l.op with
 | true=>
  rw[hc,aa7] at h
  rw[aa7]
  cases h1:(l.x.cL get set (jW get l st) st).1 with
  |true=>exact(Tm.jN iN _ _ _ h1).left (Tm.dC iN l.y _ _) fun s=>xL
  |false=>
   rw[h1,Bool.false_or] at h
   exact wU.right (Tm.dC iN l.x _ st) (Tm.jN iN _ _ _ h) fun s=>yS
 | false=>
  rw[hc,aa5] at h
  rw[aa5]
  cases h12:decide (l.op=1)||decide (l.op=2) with
  |true=>rw[h12,aa7] at h;exact(lS iN _ _ _ h).left (Ext.refl _ _) fun s=>CK
  | false=>
   rw[h12,aa5] at h
   rw[aa5]
   cases h0:(b5 get set (b9 ds l.a.rel) l.a.l st).1 with
   |true=>exact(lS iN _ _ _ h0).left ((Tm.dC iN l.x _ _).trans (Tm.dC iN l.y _ _)) fun s=>CK
   | false=>
    rw[h0,Bool.false_or] at h
    cases h1:(l.x.cL get set 1 (b5 get set (b9 ds l.a.rel) l.a.l st).2).1 with
    |true=>exact wU.right (fI iN _ _ st) ((Tm.jN iN _ _ _ h1).left (W:=fun s=>s∈dJ l) (Tm.dC iN l.y _ _) fun s=>xL) fun s hs=>hs
    |false=>
     rw[h1,Bool.false_or] at h
     exact wU.right ((fI iN _ _ st).trans (Tm.dC iN l.x _ _)) (Tm.jN iN _ _ _ h) fun s=>yS
theorem s7(ds:List Dc): ∀(b:List Lt) (st:σ),(dW get set ds b st).1=true->wU get (fun s=>s∈b.flatMap dJ) st (dW get set ds b st).2
 |[],_,h=>by rw[dW] at h;cases h
 | l::b,st,h=>by
  rw[dW] at h⊢
  cases h1:(dP get set ds l st).1 with
  |true=>exact(Ai iN ds l st h1).left (l6 iN ds b _) fun s hs=>by rw[List.flatMap_cons];exact ab4 _ hs
  |false=>
   rw[h1,Bool.false_or] at h
   exact wU.right (rF iN ds l st) (s7 ds b _ h) fun s hs=>by rw[List.flatMap_cons];exact ab3 _ hs
theorem CU(ds:List Dc)(r:Rl)(st:σ)(h:(ji get set ds r st).1=true):wU get (fun s=>s∈eT r) st (ji get set ds r st).2:=by
 unfold ji at h⊢
 cases h1:(b5 get set (b9 ds r.head.rel) r.head.l st).1 with
 |true=>exact(lS iN _ _ _ h1).left (l6 iN ds _ _) fun s hs=>by rw[eT];exact ab4 _ hs
 |false=>
  rw[h1,Bool.false_or] at h
  exact wU.right (fI iN _ _ st) (s7 iN ds _ _ h) fun s hs=>by rw[eT];exact ab3 _ hs
omit iN
def kX(get:σ->ByteArray->Int)(V:List ByteArray)(st:σ):Nat:=(V.filter fun s=>decide (get st s=0)).length
theorem HL(get:σ->ByteArray->Int)(V:List ByteArray)(st:σ):kX get V st<=V.length:=List.length_filter_le _ _
theorem wu{a b:σ}(h:Ext get a b): ∀V:List ByteArray,kX get V b<=kX get V a
 |[]=>Nat.le_refl _
 | s::V=>by
  have ih:=wu h V
  unfold kX at ih⊢
  rw[List.filter_cons,List.filter_cons]
  cases e:decide (get a s=0) with
  |true=>
   split
   ·simp only[List.length_cons,if_true];omega
   ·simp only[List.length_cons,if_true];omega
  |false=>
   rw[aa2] at e
   rw[aa4 (show ¬ get b s=0 by rw[h s e];exact e)]
   simpa using ih
theorem v8{a b:σ}(h:Ext get a b): ∀V:List ByteArray,wU get (fun s=>s∈V) a b->kX get V b<kX get V a
 |[],⟨_,h1,_⟩=>nomatch h1
 | s::V,⟨t,h1,h2,h3⟩=>by
  rcases List.mem_cons.1 h1 with rfl|h1
  ·have ih:=wu h V
   unfold kX at ih⊢
   rw[List.filter_cons,List.filter_cons,aa6 h2,aa4 h3]
   simp only[if_true,List.length_cons]
   simpa using Nat.lt_succ_of_le ih
  ·have ih:=v8 h V ⟨t,h1,h2,h3⟩
   unfold kX at ih⊢
   rw[List.filter_cons,List.filter_cons]
   cases e:decide (get a s=0) with
   |true=>
    split
    ·simp only[List.length_cons,if_true];omega
    ·simp only[List.length_cons,if_true];omega
   |false=>
    rw[aa2] at e
    rw[aa4 (show ¬ get b s=0 by rw[h s e];exact e)]
    simpa using ih
include iN
end
section
variable {σ ρ:Type} {get:σ->ByteArray->Int} {set:σ->ByteArray->Int->σ} {get':ρ->ByteArray->Int} {set':ρ->ByteArray->Int->ρ} {V:ByteArray->Prop} {P:ρ->Prop}
def Alike(get:σ->ByteArray->Int)(get':ρ->ByteArray->Int)(V:ByteArray->Prop)(P:ρ->Prop)(a:σ)(b:ρ):Prop:=P b/\∀s,V s->get a s=get' b s
variable (hg: ∀st s k t,get (set st s k) t=bif t==s then k else get st t) (hg': ∀st s k t,P st->V s->V t->get' (set' st s k) t=bif t==s then k else get' st t) (hp: ∀st s k,P st->V s->P (set' st s k))
theorem Alike.ty{a:σ}{b:ρ}(h:Alike get get' V P a b){t:Tm}(hv: ∀s,s∈t.vars->V s):bw get t a=bw get' t b:=by
 unfold bw
 cases h1:decide (t.op=1) with
 |false=>rfl
 |true=>
  refine h.2 _ (hv _ ?_)
  obtain⟨op,s,n,l⟩:=t
  rw[Tm.vars,show decide (op=1)=true from h1]
  simp[Tm.s]
theorem Alike.kind{a:σ}{b:ρ}(h:Alike get get' V P a b){l:Lt}(hv: ∀s,s∈dJ l->V s):jW get l a=jW get' l b:=by
 unfold jW
 rw[h.ty (t:=l.x) fun s hs=>hv s (xL hs),h.ty (t:=l.y) fun s hs=>hv s (yS hs)]
include hg hg' hp
mutual
theorem Alike.cL: ∀(t:Tm) (w:Int) {a:σ} {b:ρ},Alike get get' V P a b->(∀s,s∈t.vars->V s)->(t.cL get set w a).1=(t.cL get' set' w b).1/\Alike get get' V P (t.cL get set w a).2 (t.cL get' set' w b).2
 | .mk op s n l,w,a,b,h,hv=>by
  rw[Tm.cL,Tm.cL]
  cases h1:decide (op=1) with
  |false=>exact Alike.dz l h fun s hs=>hv s (by rw[Tm.vars];exact ab3 _ hs)
  | true=>
   have hs:V s:=hv s (by rw[Tm.vars,h1];simp)
   rw[aa7,aa7,h.2 s hs]
   cases(decide (w=0)|| !decide (get' b s=0)) with
   |true=>exact⟨rfl,h⟩
   |false=>
    refine⟨rfl,hp b s w h.1 hs,fun t ht=>?_⟩
    rw[aa5,aa5,hg,hg' b s w t h.1 hs ht,h.2 t ht]
theorem Alike.dz: ∀(l:List Tm) {a:σ} {b:ρ},Alike get get' V P a b->(∀s,s∈aq l->V s)->(dz get set l a).1=(dz get' set' l b).1/\Alike get get' V P (dz get set l a).2 (dz get' set' l b).2
 |[],a,b,h,_=>by have _:=hg;have _:=hg';have _:=hp;exact⟨rfl,h⟩
 |t::l,a,b,h,hv=>by
  rw[Rl.dz,Rl.dz]
  obtain⟨e1,h1⟩:=Alike.cL t 1 h fun s hs=>hv s (by rw[aq];exact ab4 _ hs)
  obtain⟨e2,h2⟩:=Alike.dz l h1 fun s hs=>hv s (by rw[aq];exact ab3 _ hs)
  exact⟨by rw[e1,e2],h2⟩
end
theorem Alike.b5: ∀(ws:List Int) (l:List Tm) {a:σ} {b:ρ},Alike get get' V P a b->(∀s,s∈aq l->V s)->(b5 get set ws l a).1=(b5 get' set' ws l b).1/\Alike get get' V P (b5 get set ws l a).2 (b5 get' set' ws l b).2
 |[],l,a,b,h,_=>by simpa[Rl.b5] using h
 |w::ws,[],a,b,h,_=>by simpa[Rl.b5] using h
 |w::ws,t::l,a,b,h,hv=>by
  rw[Rl.b5,Rl.b5]
  obtain⟨e1,h1⟩:=Alike.cL hg hg' hp t w h fun s hs=>hv s (by rw[aq];exact ab4 _ hs)
  obtain⟨e2,h2⟩:=Alike.b5 ws l h1 fun s hs=>hv s (by rw[aq];exact ab3 _ hs)
  exact⟨by rw[e1,e2],h2⟩
theorem Alike.dP(ds:List Dc)(l:Lt){a:σ}{b:ρ}(h:Alike get get' V P a b)(hv: ∀s,s∈dJ l->V s):(dP get set ds l a).1=(dP get' set' ds l b).1/\Alike get get' V P (dP get set ds l a).2 (dP get' set' ds l b).2:=by
 unfold Rl.dP
 have vx: ∀s,s∈l.x.vars->V s:=fun s hs=>hv s (xL hs)
 have vy: ∀s,s∈l.y.vars->V s:=fun s hs=>hv s (yS hs)
 have va: ∀s,s∈aq l.a.l->V s:=fun s hs=>hv s (CK hs)
 cases ff l.op with
 |true=>
  rw[aa7,aa7,h.kind hv]
  obtain⟨e1,h1⟩:=Alike.cL hg hg' hp l.x (jW get' l b) h vx
  obtain⟨e2,h2⟩:=Alike.cL hg hg' hp l.y (jW get' l b) h1 vy
  exact⟨by rw[e1,e2],h2⟩
 | false=>
  rw[aa5,aa5]
  obtain⟨e0,h0⟩:=Alike.b5 hg hg' hp (b9 ds l.a.rel) l.a.l h va
  cases decide (l.op=1)||decide (l.op=2) with
  |true=>exact⟨e0,h0⟩
  |false=>
   obtain⟨e1,h1⟩:=Alike.cL hg hg' hp l.x 1 h0 vx
   obtain⟨e2,h2⟩:=Alike.cL hg hg' hp l.y 1 h1 vy
   exact⟨by rw[aa5,aa5,e0,e1,e2],h2⟩
theorem Alike.dW(ds:List Dc): ∀(l:List Lt) {a:σ} {b:ρ},Alike get get' V P a b->(∀s,s∈l.flatMap dJ->V s)->(dW get set ds l a).1=(dW get' set' ds l b).1/\Alike get get' V P (dW get set ds l a).2 (dW get' set' ds l b).2
 |[],a,b,h,_=>⟨rfl,h⟩
 |l::m,a,b,h,hv=>by
  rw[Rl.dW,Rl.dW]
  obtain⟨e1,h1⟩:=Alike.dP hg hg' hp ds l h fun s hs=>hv s (by rw[List.flatMap_cons];exact ab4 _ hs)
  obtain⟨e2,h2⟩:=Alike.dW ds m h1 fun s hs=>hv s (by rw[List.flatMap_cons];exact ab3 _ hs)
  exact⟨by rw[e1,e2],h2⟩
theorem Alike.ji(ds:List Dc)(r:Rl){a:σ}{b:ρ}(h:Alike get get' V P a b)(hv: ∀s,s∈eT r->V s):(ji get set ds r a).1=(ji get' set' ds r b).1/\Alike get get' V P (ji get set ds r a).2 (ji get' set' ds r b).2:=by
 unfold Rl.ji
 obtain⟨e1,h1⟩:=Alike.b5 hg hg' hp (b9 ds r.head.rel) r.head.l h fun s hs=>hv s (by rw[eT];exact ab4 _ hs)
 obtain⟨e2,h2⟩:=Alike.dW hg hg' hp ds r.body h1 fun s hs=>hv s (by rw[eT];exact ab3 _ hs)
 exact⟨by rw[e1,e2],h2⟩
end
def getM(es:List (Value×AV))(s:ByteArray):Int:=toInt (cM es (.string s) (.lit (.int .i64 0)))
def ft(es:List (Value×AV))(s:ByteArray)(k:Int):List (Value×AV):=eh es (.string s) (.lit (.int .i64 k))
theorem nv: ∀(es:List (Value×AV)) (s:ByteArray) (k:Int) (t:ByteArray),getM (ft es s k) t=bif t==s then k else getM es t
 |[],s,k,t=>by
  simp only[getM,ft,eh,cM,cD]
  cases t==s<;>rfl
 | (k',a')::es,s,k,t=>by
  have ih:=nv es s k t
  simp only[getM,ft,eh,cM] at ih⊢
  cases h:cD (.string s) k' with
  |true=>
   have hk:=nO h
   subst hk
   simp only[aa7,cM,cD]
   cases h2:t==s with
   |true=>rfl
   |false=>simp
  | false=>
   simp only[aa5,cM]
   cases h3:cD (.string t) k' with
   |false=>simpa using ih
   | true=>
    have hk:=nO h3
    subst hk
    have h4:(t==s)=false:=by
     cases h5:t==s with
     |false=>rfl
     |true=>rw[eq_of_beq h5] at h;simp[cD] at h
    simp[h4]
def plc(V:List ByteArray)(s:ByteArray):Nat:=V.findIdx (lB s)
def iV(V:List ByteArray)(τ:List Int)(s:ByteArray)(k:Int):List Int:=τ.set (plc V s) k
def oZ(ds:List Dc)(r:Rl):Int×List Int:=
 bif decide ((eV getM ft ds r ((c6 r).length+1) []).1=0) then
  (bif (c6 r).all (fun s=>!decide (getM (eV getM ft ds r ((c6 r).length+1) []).2 s=0)) then(0,(c6 r).map (getM (eV getM ft ds r ((c6 r).length+1) []).2)) else(53,[]))
 else((eV getM ft ds r ((c6 r).length+1) []).1,[])
theorem kO(ds:List Dc)(a:At):known ds a=0\/known ds a=51\/known ds a=52:=by
 unfold known
 cases ju a.rel ds with
 |none=>exact .inr (.inl rfl)
 |some i=>
  show(bif _ then(0:Int) else 52)=0\/_
  cases decide ((b9 ds a.rel).length=a.l.length)
  ·exact .inr (.inr rfl)
  ·exact .inl rfl
section
variable {σ:Type} {get:σ->ByteArray->Int} {set:σ->ByteArray->Int->σ}
theorem A1(ds:List Dc): ∀(b:List Lt) (y:Int×(σ×Bool)),(y.1=0\/y.1=53)->ib ds b≠0->(jr get set ds b y).1=ib ds b
 |[],_,_,h=>absurd rfl h
 | l::b,y,hy,h=>by
  rw[ib] at h⊢
  rw[jr]
  cases hc:dm l&& !decide (known ds l.a=0) with
  | true=>
   rw[aa7]
   simp only[aa1,Bool.not_eq_true',aa2] at hc
   rw[Lp ds hc.1 hc.2]
   have hn:gh y.1 (known ds l.a)=known ds l.a:=by
    rcases hy with e|e<;>rw[e]<;>rcases kO ds l.a with e2|e2|e2<;>rw[e2]<;>first|rfl|exact absurd e2 hc.2
   have hi:sb (known ds l.a)=true:=by
    rcases kO ds l.a with e2|e2|e2
    ·exact absurd e2 hc.2
    ·rw[e2];rfl
    ·rw[e2];rfl
   rw[hn,hi];rfl
  | false=>
   rw[hc,aa5] at h
   rw[aa5]
   have hk:dm l=true->known ds l.a=0:=fun e=>by
    rw[e,ab9] at hc
    simpa using hc
   have hn:gh y.1 (jB get set ds l y.2).1=0\/gh y.1 (jB get set ds l y.2).1=53:=by
    rcases vq (get:=get) (set:=set) ds hk y.2 with e|e<;>rcases hy with e2|e2<;>rw[e,e2]<;>decide
   have hi:sb (gh y.1 (jB get set ds l y.2).1)=false:=by rcases hn with e|e<;>rw[e]<;>rfl
   rw[hi,aa5]
   exact A1 ds b _ hn h
theorem z6(ds:List Dc)(r:Rl)(st:σ)(h:jg ds r≠0):(er get set ds r st).1=jg ds r:=by
 unfold er
 unfold jg at h⊢
 cases h0:decide (known ds r.head=0) with
 |true=>
  rw[h0,aa7] at h
  rw[aa7]
  refine A1 ds _ _ ?_ h
  unfold dD
  rw[h0,aa7]
  cases(gM get set (b9 ds r.head.rel) r.head.l (st,false)).1
  ·exact .inl rfl
  ·exact .inr rfl
 | false=>
  rw[aa5]
  have ha:dD get set ds r.head (st,false)=(known ds r.head,(st,false)):=by
   unfold dD;rw[h0];rfl
  rw[ha]
  rw[aa2] at h0
  cases r.body with
  |nil=>rfl
  | cons l b=>
   rw[jr]
   have hn: ∀e,gh (known ds r.head) e=known ds r.head:=fun e=>by
    rcases kO ds r.head with e2|e2|e2
    ·exact absurd e2 h0
    ·rw[e2];rfl
    ·rw[e2];rfl
   have hi:sb (known ds r.head)=true:=by
    rcases kO ds r.head with e2|e2|e2
    ·exact absurd e2 h0
    ·rw[e2];rfl
    ·rw[e2];rfl
   simp only[hn,hi];rfl
end
end Go.Rl
