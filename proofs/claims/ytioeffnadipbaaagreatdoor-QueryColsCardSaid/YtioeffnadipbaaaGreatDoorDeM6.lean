import Derived.Test.YtioeffnadipbaaaGreatDoorDeM1
namespace Go.Rl
open Go Go.Dn
structure Dc where
 rel:ByteArray
 types:List Int
def iE(s:ByteArray):List Dc->Option Nat
 |[]=>none
 |d::l=>bif ma d.rel s then some 0 else(iE s l).map (· +1)
def cd(ds:List Dc)(s:ByteArray):List Int:=match iE s ds with|some i=>(ds.getD i ⟨ByteArray.empty,[]⟩).types|none=>[]
def known(ds:List Dc)(a:At):Int:=match iE a.rel ds with|none=>51|some _=>bif decide ((cd ds a.rel).length=a.l.length) then 0 else 52
def fL(l:Lt):Bool:=decide (l.op<3)||decide (6<l.op)
def iJ(ds:List Dc):List Lt->Int
 |[]=>0
 |l::b=>bif fL l&& !decide (known ds l.a=0) then known ds l.a else iJ ds b
def jE(ds:List Dc)(r:Rl):Int:=bif decide (known ds r.head=0) then iJ ds r.body else known ds r.head
section
variable {σ:Type} (get:σ->ByteArray->Int) (set:σ->ByteArray->Int->σ)
def bz(t:Tm)(st:σ):Int:=bif decide (t.op=1) then get st t.s else bif decide (t.op=3) then 2 else bif decide (t.op=4) then 0 else 1
mutual
def Tm.df:Tm->Int->σ->Bool×σ
 | .mk op s _ l,w,st=>bif decide (op=1) then(bif decide (w=0)|| !decide (get st s=0) then(false,st) else(true,set st s w)) else dQ l st
def dQ:List Tm->σ->Bool×σ
 |[],st=>(false,st)
 |t::l,st=>((Tm.df t 1 st).1||(dQ l (Tm.df t 1 st).2).1,(dQ l (Tm.df t 1 st).2).2)
end
mutual
def Tm.want:Tm->Int->σ×Bool->Bool×(σ×Bool)
 | .mk op s n l,k,x=>
  bif (iy l x).1 then iy l x
  else bif decide (k=0)||decide (op=4) then(false,(iy l x).2)
  else bif decide (bz get (.mk op s n l) (iy l x).2.1=0) then(false,(set (iy l x).2.1 s k,true))
  else(!decide (bz get (.mk op s n l) (iy l x).2.1=k),(iy l x).2)
def iy:List Tm->σ×Bool->Bool×(σ×Bool)
 |[],x=>(false,x)
 |t::l,x=>bif (Tm.want t 1 x).1 then Tm.want t 1 x else iy l (Tm.want t 1 x).2
end
def cm:List Int->List Tm->σ->Bool×σ
 |w::ws,t::l,st=>((t.df get set w st).1||(cm ws l (t.df get set w st).2).1,(cm ws l (t.df get set w st).2).2)
 |_,_,st=>(false,st)
def iq:List Int->List Tm->σ×Bool->Bool×(σ×Bool)
 |w::ws,t::l,x=>bif (t.want get set w x).1 then t.want get set w x else iq ws l (t.want get set w x).2
 |_,_,x=>(false,x)
def fO(op:Int):Bool:=decide (3<=op)&&decide (op<=6)
def kc(l:Lt)(st:σ):Int:=bif decide (bz get l.y st>bz get l.x st) then bz get l.y st else bz get l.x st
def er(ds:List Dc)(l:Lt)(st:σ):Bool×σ:=
 bif fO l.op then
  ((l.x.df get set (kc get l st) st).1||(l.y.df get set (kc get l st) (l.x.df get set (kc get l st) st).2).1,(l.y.df get set (kc get l st) (l.x.df get set (kc get l st) st).2).2)
 else bif decide (l.op=1)||decide (l.op=2) then cm get set (cd ds l.a.rel) l.a.l st
 else((cm get set (cd ds l.a.rel) l.a.l st).1||(l.x.df get set 1 (cm get set (cd ds l.a.rel) l.a.l st).2).1||(l.y.df get set 1 (l.x.df get set 1 (cm get set (cd ds l.a.rel) l.a.l st).2).2).1,
  (l.y.df get set 1 (l.x.df get set 1 (cm get set (cd ds l.a.rel) l.a.l st).2).2).2)
def eE(ds:List Dc):List Lt->σ->Bool×σ
 |[],st=>(false,st)
 |l::b,st=>((er get set ds l st).1||(eE ds b (er get set ds l st).2).1,(eE ds b (er get set ds l st).2).2)
def jD(ds:List Dc)(r:Rl)(st:σ):Bool×σ:=
 ((cm get set (cd ds r.head.rel) r.head.l st).1||(eE get set ds r.body (cm get set (cd ds r.head.rel) r.head.l st).2).1,(eE get set ds r.body (cm get set (cd ds r.head.rel) r.head.l st).2).2)
def dY(ds:List Dc)(a:At)(x:σ×Bool):Int×(σ×Bool):=
 bif decide (known ds a=0) then(bif (iq get set (cd ds a.rel) a.l x).1 then 53 else 0,(iq get set (cd ds a.rel) a.l x).2) else(known ds a,x)
def ke(y:Bool×(σ×Bool))(f:σ×Bool->Bool×(σ×Bool)):Int×(σ×Bool):=bif y.1 then(53,y.2) else(bif (f y.2).1 then 53 else 0,(f y.2).2)
def jK(ds:List Dc)(l:Lt)(x:σ×Bool):Int×(σ×Bool):=
 bif fO l.op then ke (l.x.want get set (kc get l x.1) x) (l.y.want get set (kc get l x.1))
 else bif decide (l.op=1)||decide (l.op=2) then dY get set ds l.a x
 else bif !decide ((dY get set ds l.a x).1=0) then dY get set ds l.a x
 else bif decide (l.op=7) then(bif (l.x.want get set 1 (dY get set ds l.a x).2).1 then 53 else 0,(l.x.want get set 1 (dY get set ds l.a x).2).2)
 else ke (l.x.want get set 1 (dY get set ds l.a x).2) (l.y.want get set 1)
def sU(e:Int):Bool:=decide (e=51)||decide (e=52)
def gR(w e:Int):Int:=bif decide (w=0)||decide (w=53)&&sU e then e else w
def jJ(ds:List Dc):List Lt->Int×(σ×Bool)->Int×(σ×Bool)
 |[],y=>y
 |l::b,y=>bif sU (gR y.1 (jK get set ds l y.2).1) then(gR y.1 (jK get set ds l y.2).1,(jK get set ds l y.2).2)
  else jJ ds b (gR y.1 (jK get set ds l y.2).1,(jK get set ds l y.2).2)
def eT(ds:List Dc)(r:Rl)(st:σ):Int×(σ×Bool):=jJ get set ds r.body (dY get set ds r.head (st,false))
def fD(ds:List Dc)(r:Rl):Nat->σ->Int×σ
 |0,st=>(0,st)
 |n+1,st=>bif decide ((eT get set ds r st).1=0) then(bif (eT get set ds r st).2.2 then fD ds r n (eT get set ds r st).2.1 else(0,(eT get set ds r st).2.1)) else((eT get set ds r st).1,(eT get set ds r st).2.1)
def Ext(st st':σ):Prop:=∀s,get st s≠0->get st' s=get st s
theorem Ext.refl(st:σ):Ext get st st:=fun _ _=>rfl
variable {get set}
theorem Ext.trans{a b c:σ}(h1:Ext get a b)(h2:Ext get b c):Ext get a c:=fun s h=>by rw[h2 s (by rw[h1 s h];exact h),h1 s h]
variable (hgs: ∀st s k t,get (set st s k) t=bif t==s then k else get st t)
include hgs
mutual
theorem Tm.dX: ∀(t:Tm) (w:Int) (st:σ),Ext get st (t.df get set w st).2
 | .mk op s n l,w,st=>by
  rw[Tm.df]
  cases decide (op=1) with
  |false=>exact pP l st
  | true=>
   rw[aa7]
   cases h:(decide (w=0)|| !decide (get st s=0)) with
   |true=>exact Ext.refl _ _
   | false=>
    intro t ht
    rw[aa5,hgs]
    cases e:t==s with
    |false=>rfl
    |true=>
     rw[Bool.or_eq_false_iff,ab2,aa0] at h
     rw[eq_of_beq e] at ht
     exact absurd h.2 ht
theorem pP: ∀(l:List Tm) (st:σ),Ext get st (dQ get set l st).2
 |[],st=>by have _:=hgs;exact Ext.refl _ _
 |t::l,st=>by rw[dQ];exact(Tm.dX t 1 st).trans (pP l _)
end
theorem gg: ∀(ws:List Int) (l:List Tm) (st:σ),Ext get st (cm get set ws l st).2
 |w::ws,t::l,st=>by rw[cm];exact(Tm.dX hgs t w st).trans (gg ws l _)
 |[],_,st=>by rw[cm];exact Ext.refl _ _;intro _ _ _ _ h;cases h
 |_::_,[],st=>by rw[cm];exact Ext.refl _ _;intro _ _ _ _ _ h;cases h
theorem sE(ds:List Dc)(l:Lt)(st:σ):Ext get st (er get set ds l st).2:=by
 unfold er
 cases fO l.op with
 |true=>exact(Tm.dX hgs l.x _ st).trans (Tm.dX hgs l.y _ _)
 |false=>
  rw[aa5]
  cases(decide (l.op=1)||decide (l.op=2)) with
  |true=>exact gg hgs _ _ st
  |false=>exact((gg hgs _ _ st).trans (Tm.dX hgs l.x 1 _)).trans (Tm.dX hgs l.y 1 _)
theorem l9(ds:List Dc): ∀(b:List Lt) (st:σ),Ext get st (eE get set ds b st).2
 |[],st=>Ext.refl _ _
 |l::b,st=>by rw[eE];exact(sE hgs ds l st).trans (l9 ds b _)
theorem Db(ds:List Dc)(r:Rl)(st:σ):Ext get st (jD get set ds r st).2:=(gg hgs _ _ st).trans (l9 hgs ds _ _)
end
def WK(o:List ByteArray)(s:ByteArray):List ByteArray:=bif o.contains s then o else o++[s]
def Tx(o m:List ByteArray):List ByteArray:=m.foldl WK o
mutual
def Tm.rv:Tm->List ByteArray
 | .mk op s _ l=>bif decide (op=1) then[s] else Y0 l []
def Y0:List Tm->List ByteArray->List ByteArray
 |[],o=>o
 |t::l,o=>Y0 l (Tx o t.rv)
end
mutual
def Tm.wf:Tm->Bool
 | .mk op _ _ l=>bif lM op then decide (l.length=2)&&EP l else decide (l.length=0)
def EP:List Tm->Bool
 |[]=>true
 |t::l=>t.wf&&EP l
end
theorem vB: ∀(h:Nat) (t:Tm),ak h t=true->t.wf=true
 |0,_,h=>by simp[ak] at h
 | h+1, .mk op s n l,e=>by
  rw[x6] at e
  rw[Tm.wf]
  have go: ∀l:List Tm,lS h l=true->EP l=true:=by
   intro l
   induction l with
   |nil=>intro _;rfl
   |cons t l ih=>
    intro e
    simp only[lS,List.all_cons,aa1] at e
    rw[EP,vB h t e.1.2,ih e.2];rfl
  cases h0:decide (op=0) with
  |true=>rw[h0,aa7] at e;cases e
  | false=>
   rw[h0,aa5] at e
   cases h2:lM op with
   |true=>
    rw[h2,aa7] at e
    simp only[aa1] at e
    rw[aa7,e.1.2,go l e.2];rfl
   |false=>
    rw[h2,aa5,aa1] at e
    exact e.2
theorem Fz{t:Tm}(h:H3 t=true):t.wf=true/\t.op=0:=by
 obtain⟨op,s,n,l⟩:=t
 simp only[H3,aa1,aa0] at h
 have h0:op=0:=h.1.1
 subst h0
 exact⟨aa6 h.2,rfl⟩
theorem Jd{h:Nat}: ∀{l:List Tm},l.all (ak h)=true->EP l=true
 |[],_=>rfl
 |t::l,e=>by
  simp only[List.all_cons,aa1] at e
  rw[EP,vB h t e.1,Jd e.2];rfl
theorem tD{a:At}(h:bk a=true):EP a.l=true:=by
 simp only[bk,aa1] at h
 exact Jd h.2
structure LR(l:Lt):Prop where
 x:l.x.wf=true
 y:l.y.wf=true
 a:EP l.a.l=true
 cmp:fO l.op=true->l.x.op≠4/\l.y.op≠4
 one:l.op=7->l.y.op=0
theorem Ov{l:Lt}(h:lq l=true):LR l:=by
 unfold lq at h
 have nA:Qg l.a=true->EP l.a.l=true:=fun h=>by
  simp only[Qg,aa1,aa0] at h
  rw[List.eq_nil_of_length_eq_zero h.2];rfl
 have v1: ∀{t:Tm},ak 20 t=true->t.wf=true:=fun h=>vB _ _ h
 have hc:fO l.op=true->3<=l.op/\l.op<=6:=fun h=>by
  simpa[fO] using h
 cases h1:decide (l.op=1)||decide (l.op=2) with
 |true=>
  rw[h1,aa7] at h;simp only[aa1] at h
  simp only[ab5,aa0] at h1
  exact⟨(Fz h.2.1).1,(Fz h.2.2).1,tD h.1,fun e=>by have:=hc e;omega,fun e=>by omega⟩
 | false=>
  rw[h1,aa5] at h
  cases h2:decide (l.op=3)||decide (l.op=4)||decide (l.op=5)||decide (l.op=6) with
  |true=>
   rw[h2,aa7] at h;simp only[aa1,Bool.not_eq_true',aa2] at h
   simp only[ab5,aa0] at h2
   exact⟨v1 h.1.2,v1 h.2,nA h.1.1.1.1,fun _=>⟨h.1.1.1.2,h.1.1.2⟩,fun e=>by omega⟩
  | false=>
   rw[h2,aa5] at h
   simp only[Bool.or_eq_false_iff,aa2] at h1 h2
   cases h3:decide (l.op=7) with
   |true=>
    rw[h3,aa7] at h;simp only[aa1] at h
    exact⟨v1 h.2,(Fz h.1.2.2).1,tD h.1.1,fun e=>by have:=hc e;omega,fun _=>(Fz h.1.2.2).2⟩
   | false=>
    rw[h3,aa5] at h
    rw[aa2] at h3
    cases h4:decide (l.op=8)||decide (l.op=9)||decide (l.op=10) with
    |true=>
     rw[h4,aa7] at h;simp only[aa1] at h
     exact⟨v1 h.1.2,v1 h.2,tD h.1.1.1,fun e=>by have:=hc e;omega,fun e=>absurd e h3⟩
    |false=>rw[h4,aa5] at h;cases h
section
variable {σ:Type} {get:σ->ByteArray->Int} {set:σ->ByteArray->Int->σ}
theorem P3{op:Int}(h:op=1):lM op=false:=by subst h;rfl
mutual
theorem Tm.mE: ∀(t:Tm) (k:Int) (x:σ×Bool),t.wf=true->(t.want get set k x).1=false->(t.want get set k x).2=((t.df get set k x.1).2,x.2||(t.df get set k x.1).1)
 | .mk op s n l,k,x,hw,h=>by
  rw[Tm.wf] at hw
  rw[Tm.want] at h⊢
  rw[Tm.df]
  cases he:(iy get set l x).1 with
  |true=>rw[he,aa7,he] at h;cases h
  | false=>
   rw[he,aa5] at h
   rw[aa5]
   cases h1:decide (op=1) with
   | true=>
    rw[aa0] at h1
    rw[P3 h1,aa5,aa0] at hw
    rw[List.eq_nil_of_length_eq_zero hw]
    rw[List.eq_nil_of_length_eq_zero hw] at h
    rw[iy] at h⊢
    subst h1
    simp only[bz,Tm.op,Tm.s,aa7,decide_true,show decide ((1:Int)=4)=false from rfl,Bool.or_false] at h⊢
    cases hk:decide (k=0) with
    |true=>simp
    |false=>
     rw[hk] at h
     simp only[aa5,Bool.false_or] at h⊢
     cases hg:decide (get x.1 s=0) with
     |true=>simp
     |false=>simp
   | false=>
    rw[aa5]
    have ih:(iy get set l x).2=((dQ get set l x.1).2,x.2||(dQ get set l x.1).1):=by
     cases h2:lM op with
     |true=>
      rw[h2,aa7,aa1] at hw
      exact Aj l x hw.2 he
     |false=>
      rw[h2,aa5,aa0] at hw
      rw[List.eq_nil_of_length_eq_zero hw]
      simp[iy,dQ]
    cases hk:decide (k=0)||decide (op=4) with
    |true=>exact ih
    | false=>
     rw[hk,aa5] at h
     rw[aa5]
     rw[Bool.or_eq_false_iff] at hk
     have hn:decide (bz get (.mk op s n l) (iy get set l x).2.1=0)=false:=by
      unfold bz
      rw[show(Tm.mk op s n l).op=op from rfl,h1,aa5,hk.2]
      cases decide (op=3)<;>rfl
     rw[hn,aa5]
     exact ih
theorem Aj: ∀(l:List Tm) (x:σ×Bool),EP l=true->(iy get set l x).1=false->(iy get set l x).2=((dQ get set l x.1).2,x.2||(dQ get set l x.1).1)
 |[],x,_,_=>by simp[iy,dQ]
 | t::l,x,hw,h=>by
  rw[EP,aa1] at hw
  rw[iy] at h⊢
  rw[dQ]
  cases he:(t.want get set 1 x).1 with
  |true=>rw[he,aa7,he] at h;cases h
  |false=>
   rw[he,aa5] at h
   rw[aa5]
   have e1:=Tm.mE t 1 x hw.1 he
   have e2:=Aj l _ hw.2 h
   rw[e2,e1]
   simp only[Bool.or_assoc]
end
theorem vV: ∀(ws:List Int) (l:List Tm) (x:σ×Bool),EP l=true->(iq get set ws l x).1=false->(iq get set ws l x).2=((cm get set ws l x.1).2,x.2||(cm get set ws l x.1).1)
 |[],l,x,_,_=>by simp[iq,cm]
 |w::ws,[],x,_,_=>by simp[iq,cm]
 | w::ws,t::l,x,hw,h=>by
  rw[EP,aa1] at hw
  rw[iq] at h⊢
  rw[cm]
  cases he:(t.want get set w x).1 with
  |true=>rw[he,aa7,he] at h;cases h
  |false=>
   rw[he,aa5] at h
   rw[aa5]
   have e1:=t.mE w x hw.1 he
   have e2:=vV ws l _ hw.2 h
   rw[e2,e1]
   simp only[Bool.or_assoc]
theorem Bh{y:Bool×(σ×Bool)}{f:σ×Bool->Bool×(σ×Bool)}(h:(ke y f).1=0):y.1=false/\(f y.2).1=false/\(ke y f).2=(f y.2).2:=by
 unfold ke at h⊢
 cases h1:y.1 with
 |true=>rw[h1] at h;cases h
 |false=>
  rw[h1,aa5] at h
  cases h2:(f y.2).1 with
  |true=>rw[h2] at h;cases h
  |false=>exact⟨rfl,rfl,rfl⟩
theorem rL{y:Bool×(σ×Bool)}{f:σ×Bool->Bool×(σ×Bool)}:(ke y f).1=0\/(ke y f).1=53:=by
 unfold ke
 cases y.1 with
 |true=>exact .inr rfl
 |false=>
  rw[aa5]
  cases(f y.2).1
  ·exact .inl rfl
  ·exact .inr rfl
theorem Dh{t:Tm}(hw:t.wf=true)(h:t.op=0)(k:Int)(st:σ):t.df get set k st=(false,st):=by
 obtain⟨op,s,n,l⟩:=t
 have h:op=0:=h
 subst h
 have:l.length=0:=by simpa[Tm.wf,lM] using hw
 rw[List.eq_nil_of_length_eq_zero this,Tm.df,dQ]
 rfl
theorem L4(ds:List Dc){l:Lt}(hl:LR l)(hk:fL l=true->known ds l.a=0)(x:σ×Bool)(h:(jK get set ds l x).1=0):(jK get set ds l x).2=((er get set ds l x.1).2,x.2||(er get set ds l x.1).1):=by
 unfold jK at h⊢
 unfold er
 cases hc:fO l.op with
 |true=>
  rw[hc,aa7] at h
  rw[aa7,aa7]
  obtain⟨h1,h2,h3⟩:=Bh h
  have e1:=l.x.mE _ x hl.x h1
  have e2:=l.y.mE _ _ hl.y h2
  rw[h3,e2,e1]
  simp only[Bool.or_assoc]
 | false=>
  rw[hc,aa5] at h
  rw[aa5,aa5]
  have hat:fL l=true:=by
   simp only[fO,Bool.and_eq_false_iff,aa2] at hc
   simp only[fL,ab5,aa0];omega
  have ha:dY get set ds l.a x=(bif (iq get set (cd ds l.a.rel) l.a.l x).1 then 53 else 0,(iq get set (cd ds l.a.rel) l.a.l x).2):=by
   unfold dY;rw[hk hat];rfl
  have ok:(dY get set ds l.a x).1=0->(dY get set ds l.a x).2=((cm get set (cd ds l.a.rel) l.a.l x.1).2,x.2||(cm get set (cd ds l.a.rel) l.a.l x.1).1):=fun e=>by
   rw[ha] at e⊢
   cases he:(iq get set (cd ds l.a.rel) l.a.l x).1 with
   |true=>rw[he] at e;cases e
   |false=>exact vV _ _ _ hl.a he
  cases h12:decide (l.op=1)||decide (l.op=2) with
  |true=>
   rw[h12,aa7] at h
   rw[aa7,aa7]
   exact ok h
  | false=>
   rw[h12,aa5] at h
   rw[aa5,aa5]
   cases he:decide ((dY get set ds l.a x).1=0) with
   |false=>rw[he,Bool.not_false,aa7] at h;rw[h] at he;cases he
   | true=>
    rw[he,Bool.not_true,aa5] at h
    rw[Bool.not_true,aa5]
    rw[aa0] at he
    have e0:=ok he
    cases h7:decide (l.op=7) with
    | true=>
     rw[h7,aa7] at h
     rw[aa7]
     have hx:(l.x.want get set 1 (dY get set ds l.a x).2).1=false:=by
      cases e:(l.x.want get set 1 (dY get set ds l.a x).2).1 with
      |true=>rw[e] at h;cases h
      |false=>rfl
     have e1:=l.x.mE 1 _ hl.x hx
     rw[aa0] at h7
     rw[e1,e0,Dh hl.y (hl.one h7)]
     simp only[Bool.or_false,Bool.or_assoc]
    |false=>
     rw[h7,aa5] at h
     rw[aa5]
     obtain⟨h1,h2,h3⟩:=Bh h
     have e1:=l.x.mE _ _ hl.x h1
     have e2:=l.y.mE _ _ hl.y h2
     rw[h3,e2,e1,e0]
     simp only[Bool.or_assoc]
theorem uh(ds:List Dc){l:Lt}(hk:fL l=true->known ds l.a=0)(x:σ×Bool):(jK get set ds l x).1=0\/(jK get set ds l x).1=53:=by
 unfold jK
 cases hc:fO l.op with
 |true=>rw[aa7];exact rL
 | false=>
  have hat:fL l=true:=by
   simp only[fO,Bool.and_eq_false_iff,aa2] at hc
   simp only[fL,ab5,aa0];omega
  have ha:(dY get set ds l.a x).1=0\/(dY get set ds l.a x).1=53:=by
   unfold dY;rw[hk hat]
   simp only[decide_true,aa7]
   cases(iq get set (cd ds l.a.rel) l.a.l x).1
   ·exact .inl rfl
   ·exact .inr rfl
  rw[aa5]
  cases decide (l.op=1)||decide (l.op=2) with
  |true=>exact ha
  | false=>
   rw[aa5]
   cases decide ((dY get set ds l.a x).1=0) with
   |false=>exact ha
   | true=>
    rw[Bool.not_true,aa5]
    cases decide (l.op=7) with
    |true=>
     rw[aa7]
     cases(l.x.want get set 1 (dY get set ds l.a x).2).1
     ·exact .inl rfl
     ·exact .inr rfl
    |false=>rw[aa5];exact rL
theorem M3(ds:List Dc){l:Lt}(hat:fL l=true)(hk:known ds l.a≠0)(x:σ×Bool):(jK get set ds l x).1=known ds l.a:=by
 have hc:fO l.op=false:=by
  simp only[fL,ab5,aa0] at hat
  simp only[fO,Bool.and_eq_false_iff,aa2];omega
 have ha:dY get set ds l.a x=(known ds l.a,x):=by
  unfold dY;rw[aa4 hk];rfl
 unfold jK
 rw[hc,aa5,ha]
 simp only[aa4 hk,Bool.not_false,aa7]
 cases decide (l.op=1)||decide (l.op=2)<;>rfl
theorem wb(ds:List Dc): ∀(b:List Lt) (x:σ×Bool),iJ ds b=0->(jJ get set ds b (53,x)).1=53
 |[],_,_=>rfl
 | l::b,x,h=>by
  rw[iJ] at h
  have hk:fL l=true->known ds l.a=0:=fun e=>by
   rw[e,ab9] at h
   cases h0:decide (known ds l.a=0) with
   |true=>simpa using h0
   |false=>rw[h0] at h;simp at h h0;exact absurd h h0
  have hb:iJ ds b=0:=by
   cases e:fL l with
   |false=>rw[e] at h;exact h
   |true=>rw[e,aa6 (hk e)] at h;exact h
  rw[jJ]
  have hn:gR 53 (jK get set ds l x).1=53:=by
   rcases uh (get:=get) (set:=set) ds hk x with e|e<;>rw[e]<;>rfl
  simp only[hn]
  exact wb ds b _ hb
theorem BK(ds:List Dc): ∀(b:List Lt) (x:σ×Bool),iJ ds b=0->(∀l,l∈b->LR l)->(jJ get set ds b (0,x)).1=0->(jJ get set ds b (0,x)).2=((eE get set ds b x.1).2,x.2||(eE get set ds b x.1).1)
 |[],x,_,_,_=>by simp[jJ,eE]
 | l::b,x,h,hw,he=>by
  rw[iJ] at h
  have hk:fL l=true->known ds l.a=0:=fun e=>by
   rw[e,ab9] at h
   cases h0:decide (known ds l.a=0) with
   |true=>simpa using h0
   |false=>rw[h0] at h;simp at h h0;exact absurd h h0
  have hb:iJ ds b=0:=by
   cases e:fL l with
   |false=>rw[e] at h;exact h
   |true=>rw[e,aa6 (hk e)] at h;exact h
  rw[jJ] at he⊢
  rw[eE]
  have hn: ∀e:Int,gR 0 e=e:=fun e=>rfl
  simp only[hn] at he⊢
  rcases uh (get:=get) (set:=set) ds hk x with e|e
  ·rw[e] at he⊢
   have e1:=L4 ds (hw l List.mem_cons_self) hk x e
   have e2:=BK ds b _ hb (fun m hm=>hw m (List.mem_cons_of_mem _ hm)) he
   rw[show sU 0=false from rfl,aa5,e2,e1]
   simp only[Bool.or_assoc]
  ·rw[e] at he
   rw[show sU 53=false from rfl,aa5,wb ds b _ hb] at he
   cases he
theorem Kf(ds:List Dc){r:Rl}(hh:EP r.head.l=true)(hw: ∀l,l∈r.body->LR l)(hk:jE ds r=0)(st:σ)(h:(eT get set ds r st).1=0):(eT get set ds r st).2=((jD get set ds r st).2,(jD get set ds r st).1):=by
 unfold jE at hk
 have h0:known ds r.head=0:=by
  cases e:decide (known ds r.head=0) with
  |true=>simpa using e
  |false=>rw[e,aa5] at hk;exact hk
 rw[h0] at hk
 have hb:iJ ds r.body=0:=hk
 unfold eT at h⊢
 have ha:dY get set ds r.head (st,false)=(bif (iq get set (cd ds r.head.rel) r.head.l (st,false)).1 then 53 else 0,(iq get set (cd ds r.head.rel) r.head.l (st,false)).2):=by
  unfold dY;rw[h0];rfl
 rw[ha] at h⊢
 cases he:(iq get set (cd ds r.head.rel) r.head.l (st,false)).1 with
 |true=>rw[he,aa7,wb ds _ _ hb] at h;cases h
 |false=>
  rw[he,aa5] at h
  rw[aa5,BK ds _ _ hb hw h,vV _ _ _ hh he]
  simp only[Bool.false_or];rfl
end
section
variable {σ:Type} {get:σ->ByteArray->Int} {set:σ->ByteArray->Int->σ}
variable (hgs: ∀st s k t,get (set st s k) t=bif t==s then k else get st t)
include hgs
end
section
variable {σ:Type} {get:σ->ByteArray->Int} {set:σ->ByteArray->Int->σ}
def Val(get:σ->ByteArray->Int)(st:σ):Prop:=∀s,get st s=0\/get st s=1\/get st s=2
end
theorem zC{l:Lt}{s:ByteArray}(h:s∈l.x.vars):s∈ei l:=by simp[ei,aq,h]
theorem zb{l:Lt}{s:ByteArray}(h:s∈l.y.vars):s∈ei l:=by simp[ei,aq,h]
theorem Ci{l:Lt}{s:ByteArray}(h:s∈aq l.a.l):s∈ei l:=by simp[ei,h]
section
variable {σ:Type} {get:σ->ByteArray->Int} {set:σ->ByteArray->Int->σ}
def xr(get:σ->ByteArray->Int)(V:ByteArray->Prop)(a b:σ):Prop:=∃s,V s/\get a s=0/\get b s≠0
theorem xr.left{V W:ByteArray->Prop}{a b c:σ}(h:xr get V a b)(hx:Ext get b c)(hs: ∀s,V s->W s):xr get W a c:=by
 obtain⟨s,h1,h2,h3⟩:=h
 exact⟨s,hs s h1,h2,by rw[hx s h3];exact h3⟩
theorem xr.right{V W:ByteArray->Prop}{a b c:σ}(hx:Ext get a b)(h:xr get V b c)(hs: ∀s,V s->W s):xr get W a c:=by
 obtain⟨s,h1,h2,h3⟩:=h
 refine⟨s,hs s h1,?_,h3⟩
 cases e:decide (get a s=0) with
 |true=>simpa using e
 |false=>rw[aa2] at e;rw[hx s e] at h2;exact absurd h2 e
variable (hgs: ∀st s k t,get (set st s k) t=bif t==s then k else get st t)
include hgs
mutual
theorem Tm.j5: ∀(t:Tm) (w:Int) (st:σ),(t.df get set w st).1=true->xr get (fun s=>s∈t.vars) st (t.df get set w st).2
 | .mk op s n l,w,st,h=>by
  rw[Tm.df] at h⊢
  cases h1:decide (op=1) with
  |false=>
   rw[h1,aa5] at h
   rw[aa5]
   exact(vf l st h).left (Ext.refl _ _) fun s hs=>by rw[Tm.vars];exact ab3 _ hs
  | true=>
   rw[h1,aa7] at h
   rw[aa7]
   cases hc:(decide (w=0)|| !decide (get st s=0)) with
   |true=>rw[hc,aa7] at h;cases h
   |false=>
    rw[aa5]
    simp only[Bool.or_eq_false_iff,aa2,ab2,aa0] at hc
    refine⟨s,by rw[Tm.vars,h1];simp,hc.2,?_⟩
    rw[hgs]
    simpa using hc.1
theorem vf: ∀(l:List Tm) (st:σ),(dQ get set l st).1=true->xr get (fun s=>s∈aq l) st (dQ get set l st).2
 |[],_,h=>by rw[dQ] at h;cases h
 | t::l,st,h=>by
  rw[dQ] at h⊢
  cases h1:(t.df get set 1 st).1 with
  |true=>exact(Tm.j5 t 1 st h1).left (pP hgs l _) fun s hs=>by rw[aq];exact ab4 _ hs
  |false=>
   rw[h1,Bool.false_or] at h
   exact xr.right (Tm.dX hgs t 1 st) (vf l _ h) fun s hs=>by rw[aq];exact ab3 _ hs
end
theorem mg: ∀(ws:List Int) (l:List Tm) (st:σ),(cm get set ws l st).1=true->xr get (fun s=>s∈aq l) st (cm get set ws l st).2
 |[],l,st,h=>by simp[cm] at h
 |w::ws,[],st,h=>by simp[cm] at h
 | w::ws,t::l,st,h=>by
  rw[cm] at h⊢
  cases h1:(t.df get set w st).1 with
  |true=>exact(Tm.j5 hgs t w st h1).left (gg hgs ws l _) fun s hs=>by rw[aq];exact ab4 _ hs
  |false=>
   rw[h1,Bool.false_or] at h
   exact xr.right (Tm.dX hgs t w st) (mg ws l _ h) fun s hs=>by rw[aq];exact ab3 _ hs
theorem A6(ds:List Dc)(l:Lt)(st:σ)(h:(er get set ds l st).1=true):xr get (fun s=>s∈ei l) st (er get set ds l st).2:=by
 unfold er at h⊢
 cases hc:fO l.op with
 | true=>
  rw[hc,aa7] at h
  rw[aa7]
  cases h1:(l.x.df get set (kc get l st) st).1 with
  |true=>exact(Tm.j5 hgs _ _ _ h1).left (Tm.dX hgs l.y _ _) fun s=>zC
  |false=>
   rw[h1,Bool.false_or] at h
   exact xr.right (Tm.dX hgs l.x _ st) (Tm.j5 hgs _ _ _ h) fun s=>zb
 | false=>
  rw[hc,aa5] at h
  rw[aa5]
  cases h12:decide (l.op=1)||decide (l.op=2) with
  |true=>rw[h12,aa7] at h;exact(mg hgs _ _ _ h).left (Ext.refl _ _) fun s=>Ci
  | false=>
   rw[h12,aa5] at h
   rw[aa5]
   cases h0:(cm get set (cd ds l.a.rel) l.a.l st).1 with
   |true=>exact(mg hgs _ _ _ h0).left ((Tm.dX hgs l.x _ _).trans (Tm.dX hgs l.y _ _)) fun s=>Ci
   | false=>
    rw[h0,Bool.false_or] at h
    cases h1:(l.x.df get set 1 (cm get set (cd ds l.a.rel) l.a.l st).2).1 with
    |true=>exact xr.right (gg hgs _ _ st) ((Tm.j5 hgs _ _ _ h1).left (W:=fun s=>s∈ei l) (Tm.dX hgs l.y _ _) fun s=>zC) fun s hs=>hs
    |false=>
     rw[h1,Bool.false_or] at h
     exact xr.right ((gg hgs _ _ st).trans (Tm.dX hgs l.x _ _)) (Tm.j5 hgs _ _ _ h) fun s=>zb
theorem we(ds:List Dc): ∀(b:List Lt) (st:σ),(eE get set ds b st).1=true->xr get (fun s=>s∈b.flatMap ei) st (eE get set ds b st).2
 |[],_,h=>by rw[eE] at h;cases h
 | l::b,st,h=>by
  rw[eE] at h⊢
  cases h1:(er get set ds l st).1 with
  |true=>exact(A6 hgs ds l st h1).left (l9 hgs ds b _) fun s hs=>by rw[List.flatMap_cons];exact ab4 _ hs
  |false=>
   rw[h1,Bool.false_or] at h
   exact xr.right (sE hgs ds l st) (we ds b _ h) fun s hs=>by rw[List.flatMap_cons];exact ab3 _ hs
theorem DT(ds:List Dc)(r:Rl)(st:σ)(h:(jD get set ds r st).1=true):xr get (fun s=>s∈ff r) st (jD get set ds r st).2:=by
 unfold jD at h⊢
 cases h1:(cm get set (cd ds r.head.rel) r.head.l st).1 with
 |true=>exact(mg hgs _ _ _ h1).left (l9 hgs ds _ _) fun s hs=>by rw[ff];exact ab4 _ hs
 |false=>
  rw[h1,Bool.false_or] at h
  exact xr.right (gg hgs _ _ st) (we hgs ds _ _ h) fun s hs=>by rw[ff];exact ab3 _ hs
omit hgs
def lz(get:σ->ByteArray->Int)(V:List ByteArray)(st:σ):Nat:=(V.filter fun s=>decide (get st s=0)).length
theorem JZ(get:σ->ByteArray->Int)(V:List ByteArray)(st:σ):lz get V st<=V.length:=List.length_filter_le _ _
theorem xE{a b:σ}(h:Ext get a b): ∀V:List ByteArray,lz get V b<=lz get V a
 |[]=>Nat.le_refl _
 | s::V=>by
  have ih:=xE h V
  unfold lz at ih⊢
  rw[List.filter_cons,List.filter_cons]
  cases e:decide (get a s=0) with
  |true=>
   split
   ·simp only[List.length_cons,if_true];omega
   ·simp only[List.length_cons,if_true];omega
  |false=>
   rw[aa2] at e
   rw[aa4 (show ¬ get b s=0 by rw[h s e];exact e)]
   simpa using ih
theorem xJ{a b:σ}(h:Ext get a b): ∀V:List ByteArray,xr get (fun s=>s∈V) a b->lz get V b<lz get V a
 |[],⟨_,h1,_⟩=>nomatch h1
 | s::V,⟨t,h1,h2,h3⟩=>by
  rcases List.mem_cons.1 h1 with rfl|h1
  ·have ih:=xE h V
   unfold lz at ih⊢
   rw[List.filter_cons,List.filter_cons,aa6 h2,aa4 h3]
   simp only[if_true,List.length_cons]
   simpa using Nat.lt_succ_of_le ih
  ·have ih:=xJ h V ⟨t,h1,h2,h3⟩
   unfold lz at ih⊢
   rw[List.filter_cons,List.filter_cons]
   cases e:decide (get a s=0) with
   |true=>
    split
    ·simp only[List.length_cons,if_true];omega
    ·simp only[List.length_cons,if_true];omega
   |false=>
    rw[aa2] at e
    rw[aa4 (show ¬ get b s=0 by rw[h s e];exact e)]
    simpa using ih
include hgs
end
section
variable {σ ρ:Type} {get:σ->ByteArray->Int} {set:σ->ByteArray->Int->σ} {get':ρ->ByteArray->Int} {set':ρ->ByteArray->Int->ρ} {V:ByteArray->Prop} {P:ρ->Prop}
def Alike(get:σ->ByteArray->Int)(get':ρ->ByteArray->Int)(V:ByteArray->Prop)(P:ρ->Prop)(a:σ)(b:ρ):Prop:=P b/\∀s,V s->get a s=get' b s
variable (hg: ∀st s k t,get (set st s k) t=bif t==s then k else get st t) (hg': ∀st s k t,P st->V s->V t->get' (set' st s k) t=bif t==s then k else get' st t) (hp: ∀st s k,P st->V s->P (set' st s k))
theorem Alike.ty{a:σ}{b:ρ}(h:Alike get get' V P a b){t:Tm}(hv: ∀s,s∈t.vars->V s):bz get t a=bz get' t b:=by
 unfold bz
 cases h1:decide (t.op=1) with
 |false=>rfl
 |true=>
  refine h.2 _ (hv _ ?_)
  obtain⟨op,s,n,l⟩:=t
  rw[Tm.vars,show decide (op=1)=true from h1]
  simp[Tm.s]
theorem Alike.kind{a:σ}{b:ρ}(h:Alike get get' V P a b){l:Lt}(hv: ∀s,s∈ei l->V s):kc get l a=kc get' l b:=by
 unfold kc
 rw[h.ty (t:=l.x) fun s hs=>hv s (zC hs),h.ty (t:=l.y) fun s hs=>hv s (zb hs)]
include hg hg' hp
mutual
theorem Alike.df: ∀(t:Tm) (w:Int) {a:σ} {b:ρ},Alike get get' V P a b->(∀s,s∈t.vars->V s)->(t.df get set w a).1=(t.df get' set' w b).1/\Alike get get' V P (t.df get set w a).2 (t.df get' set' w b).2
 | .mk op s n l,w,a,b,h,hv=>by
  rw[Tm.df,Tm.df]
  cases h1:decide (op=1) with
  |false=>exact Alike.dQ l h fun s hs=>hv s (by rw[Tm.vars];exact ab3 _ hs)
  | true=>
   have hs:V s:=hv s (by rw[Tm.vars,h1];simp)
   rw[aa7,aa7,h.2 s hs]
   cases(decide (w=0)|| !decide (get' b s=0)) with
   |true=>exact⟨rfl,h⟩
   |false=>
    refine⟨rfl,hp b s w h.1 hs,fun t ht=>?_⟩
    rw[aa5,aa5,hg,hg' b s w t h.1 hs ht,h.2 t ht]
theorem Alike.dQ: ∀(l:List Tm) {a:σ} {b:ρ},Alike get get' V P a b->(∀s,s∈aq l->V s)->(dQ get set l a).1=(dQ get' set' l b).1/\Alike get get' V P (dQ get set l a).2 (dQ get' set' l b).2
 |[],a,b,h,_=>by have _:=hg;have _:=hg';have _:=hp;exact⟨rfl,h⟩
 |t::l,a,b,h,hv=>by
  rw[Rl.dQ,Rl.dQ]
  obtain⟨e1,h1⟩:=Alike.df t 1 h fun s hs=>hv s (by rw[aq];exact ab4 _ hs)
  obtain⟨e2,h2⟩:=Alike.dQ l h1 fun s hs=>hv s (by rw[aq];exact ab3 _ hs)
  exact⟨by rw[e1,e2],h2⟩
end
theorem Alike.cm: ∀(ws:List Int) (l:List Tm) {a:σ} {b:ρ},Alike get get' V P a b->(∀s,s∈aq l->V s)->(cm get set ws l a).1=(cm get' set' ws l b).1/\Alike get get' V P (cm get set ws l a).2 (cm get' set' ws l b).2
 |[],l,a,b,h,_=>by simpa[Rl.cm] using h
 |w::ws,[],a,b,h,_=>by simpa[Rl.cm] using h
 |w::ws,t::l,a,b,h,hv=>by
  rw[Rl.cm,Rl.cm]
  obtain⟨e1,h1⟩:=Alike.df hg hg' hp t w h fun s hs=>hv s (by rw[aq];exact ab4 _ hs)
  obtain⟨e2,h2⟩:=Alike.cm ws l h1 fun s hs=>hv s (by rw[aq];exact ab3 _ hs)
  exact⟨by rw[e1,e2],h2⟩
theorem Alike.er(ds:List Dc)(l:Lt){a:σ}{b:ρ}(h:Alike get get' V P a b)(hv: ∀s,s∈ei l->V s):(er get set ds l a).1=(er get' set' ds l b).1/\Alike get get' V P (er get set ds l a).2 (er get' set' ds l b).2:=by
 unfold Rl.er
 have vx: ∀s,s∈l.x.vars->V s:=fun s hs=>hv s (zC hs)
 have vy: ∀s,s∈l.y.vars->V s:=fun s hs=>hv s (zb hs)
 have va: ∀s,s∈aq l.a.l->V s:=fun s hs=>hv s (Ci hs)
 cases fO l.op with
 |true=>
  rw[aa7,aa7,h.kind hv]
  obtain⟨e1,h1⟩:=Alike.df hg hg' hp l.x (kc get' l b) h vx
  obtain⟨e2,h2⟩:=Alike.df hg hg' hp l.y (kc get' l b) h1 vy
  exact⟨by rw[e1,e2],h2⟩
 | false=>
  rw[aa5,aa5]
  obtain⟨e0,h0⟩:=Alike.cm hg hg' hp (cd ds l.a.rel) l.a.l h va
  cases decide (l.op=1)||decide (l.op=2) with
  |true=>exact⟨e0,h0⟩
  |false=>
   obtain⟨e1,h1⟩:=Alike.df hg hg' hp l.x 1 h0 vx
   obtain⟨e2,h2⟩:=Alike.df hg hg' hp l.y 1 h1 vy
   exact⟨by rw[aa5,aa5,e0,e1,e2],h2⟩
theorem Alike.eE(ds:List Dc): ∀(l:List Lt) {a:σ} {b:ρ},Alike get get' V P a b->(∀s,s∈l.flatMap ei->V s)->(eE get set ds l a).1=(eE get' set' ds l b).1/\Alike get get' V P (eE get set ds l a).2 (eE get' set' ds l b).2
 |[],a,b,h,_=>⟨rfl,h⟩
 |l::m,a,b,h,hv=>by
  rw[Rl.eE,Rl.eE]
  obtain⟨e1,h1⟩:=Alike.er hg hg' hp ds l h fun s hs=>hv s (by rw[List.flatMap_cons];exact ab4 _ hs)
  obtain⟨e2,h2⟩:=Alike.eE ds m h1 fun s hs=>hv s (by rw[List.flatMap_cons];exact ab3 _ hs)
  exact⟨by rw[e1,e2],h2⟩
theorem Alike.jD(ds:List Dc)(r:Rl){a:σ}{b:ρ}(h:Alike get get' V P a b)(hv: ∀s,s∈ff r->V s):(jD get set ds r a).1=(jD get' set' ds r b).1/\Alike get get' V P (jD get set ds r a).2 (jD get' set' ds r b).2:=by
 unfold Rl.jD
 obtain⟨e1,h1⟩:=Alike.cm hg hg' hp (cd ds r.head.rel) r.head.l h fun s hs=>hv s (by rw[ff];exact ab4 _ hs)
 obtain⟨e2,h2⟩:=Alike.eE hg hg' hp ds r.body h1 fun s hs=>hv s (by rw[ff];exact ab3 _ hs)
 exact⟨by rw[e1,e2],h2⟩
end
def getM(es:List (Value×AV))(s:ByteArray):Int:=toInt (dO es (.string s) (.lit (.int .i64 0)))
def fZ(es:List (Value×AV))(s:ByteArray)(k:Int):List (Value×AV):=eX es (.string s) (.lit (.int .i64 k))
theorem oe: ∀(es:List (Value×AV)) (s:ByteArray) (k:Int) (t:ByteArray),getM (fZ es s k) t=bif t==s then k else getM es t
 |[],s,k,t=>by
  simp only[getM,fZ,eX,dO,dm]
  cases t==s<;>rfl
 | (k',a')::es,s,k,t=>by
  have ih:=oe es s k t
  simp only[getM,fZ,eX,dO] at ih⊢
  cases h:dm (.string s) k' with
  |true=>
   have hk:=ow h
   subst hk
   simp only[aa7,dO,dm]
   cases h2:t==s with
   |true=>rfl
   |false=>simp
  | false=>
   simp only[aa5,dO]
   cases h3:dm (.string t) k' with
   |false=>simpa using ih
   | true=>
    have hk:=ow h3
    subst hk
    have h4:(t==s)=false:=by
     cases h5:t==s with
     |false=>rfl
     |true=>rw[eq_of_beq h5] at h;simp[dm] at h
    simp[h4]
def plc(V:List ByteArray)(s:ByteArray):Nat:=V.findIdx (ma s)
def lL(V:List ByteArray)(τ:List Int)(s:ByteArray)(k:Int):List Int:=τ.set (plc V s) k
def Jy(ds:List Dc)(r:Rl):Int×List Int:=
 bif decide ((fD getM fZ ds r ((dc r).length+1) []).1=0) then
  (bif (dc r).all (fun s=>!decide (getM (fD getM fZ ds r ((dc r).length+1) []).2 s=0)) then(0,(dc r).map (getM (fD getM fZ ds r ((dc r).length+1) []).2)) else(53,[]))
 else((fD getM fZ ds r ((dc r).length+1) []).1,[])
theorem lI(ds:List Dc)(a:At):known ds a=0\/known ds a=51\/known ds a=52:=by
 unfold known
 cases iE a.rel ds with
 |none=>exact .inr (.inl rfl)
 |some i=>
  show(bif _ then(0:Int) else 52)=0\/_
  cases decide ((cd ds a.rel).length=a.l.length)
  ·exact .inr (.inr rfl)
  ·exact .inl rfl
section
variable {σ:Type} {get:σ->ByteArray->Int} {set:σ->ByteArray->Int->σ}
theorem AD(ds:List Dc): ∀(b:List Lt) (y:Int×(σ×Bool)),(y.1=0\/y.1=53)->iJ ds b≠0->(jJ get set ds b y).1=iJ ds b
 |[],_,_,h=>absurd rfl h
 | l::b,y,hy,h=>by
  rw[iJ] at h⊢
  rw[jJ]
  cases hc:fL l&& !decide (known ds l.a=0) with
  | true=>
   rw[aa7]
   simp only[aa1,Bool.not_eq_true',aa2] at hc
   rw[M3 ds hc.1 hc.2]
   have hn:gR y.1 (known ds l.a)=known ds l.a:=by
    rcases hy with e|e<;>rw[e]<;>rcases lI ds l.a with e2|e2|e2<;>rw[e2]<;>first|rfl|exact absurd e2 hc.2
   have hi:sU (known ds l.a)=true:=by
    rcases lI ds l.a with e2|e2|e2
    ·exact absurd e2 hc.2
    ·rw[e2];rfl
    ·rw[e2];rfl
   rw[hn,hi];rfl
  | false=>
   rw[hc,aa5] at h
   rw[aa5]
   have hk:fL l=true->known ds l.a=0:=fun e=>by
    rw[e,ab9] at hc
    simpa using hc
   have hn:gR y.1 (jK get set ds l y.2).1=0\/gR y.1 (jK get set ds l y.2).1=53:=by
    rcases uh (get:=get) (set:=set) ds hk y.2 with e|e<;>rcases hy with e2|e2<;>rw[e,e2]<;>decide
   have hi:sU (gR y.1 (jK get set ds l y.2).1)=false:=by rcases hn with e|e<;>rw[e]<;>rfl
   rw[hi,aa5]
   exact AD ds b _ hn h
theorem BO(ds:List Dc)(r:Rl)(st:σ)(h:jE ds r≠0):(eT get set ds r st).1=jE ds r:=by
 unfold eT
 unfold jE at h⊢
 cases h0:decide (known ds r.head=0) with
 |true=>
  rw[h0,aa7] at h
  rw[aa7]
  refine AD ds _ _ ?_ h
  unfold dY
  rw[h0,aa7]
  cases(iq get set (cd ds r.head.rel) r.head.l (st,false)).1
  ·exact .inl rfl
  ·exact .inr rfl
 | false=>
  rw[aa5]
  have ha:dY get set ds r.head (st,false)=(known ds r.head,(st,false)):=by
   unfold dY;rw[h0];rfl
  rw[ha]
  rw[aa2] at h0
  cases r.body with
  |nil=>rfl
  | cons l b=>
   rw[jJ]
   have hn: ∀e,gR (known ds r.head) e=known ds r.head:=fun e=>by
    rcases lI ds r.head with e2|e2|e2
    ·exact absurd e2 h0
    ·rw[e2];rfl
    ·rw[e2];rfl
   have hi:sU (known ds r.head)=true:=by
    rcases lI ds r.head with e2|e2|e2
    ·exact absurd e2 h0
    ·rw[e2];rfl
    ·rw[e2];rfl
   simp only[hn,hi];rfl
end
end Go.Rl
