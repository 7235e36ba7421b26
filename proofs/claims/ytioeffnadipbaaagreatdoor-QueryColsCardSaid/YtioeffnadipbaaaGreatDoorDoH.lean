import Derived.Test.YtioeffnadipbaaaGreatDoorDoF
namespace Go.Dn
open Go
def ez(st:List Obj):List Nat->List Obj
 |[]=>st
 |i::l=>ez (c9 st i .dead) l
theorem nU: ∀(l:List Nat) (st:List Obj),(ez st l).length=st.length
 |[],_=>rfl
 |i::l,st=>by simp only[ez];rw[nU l,aU]
theorem kK: ∀(l:List Nat) (st:List Obj) (j:Nat),(j∈l->an (ez st l) j= .dead)/\(j∉l->an (ez st l) j=an st j)
 |[],st,j=>⟨fun h=>by simp at h,fun _=>rfl⟩
 | i ::l,st,j=>by
  obtain⟨h1,h2⟩:=kK l (c9 st i .dead) j
  simp only[ez]
  refine⟨fun hj=>?_,fun hj=>?_⟩
  ·by_cases hl:j∈l
   ·exact h1 hl
   ·rw[h2 hl]
    have e:j=i:=by
     rcases List.mem_cons.1 hj with h|h
     ·exact h
     ·exact absurd h hl
    subst e
    rcases Nat.lt_or_ge j st.length with h|h
    ·exact bn _ _ _ h
    ·exact eh _ _ (by rw[aU];exact h)
  ·grind [bt]
theorem JB{C:Ctx}(hI:Inv C)(ids:List Nat):Inv {C with st:=ez C.st ids}/\Ext C.st.length C {C with st:=ez C.st ids}/\
  (∀b,Own {C with st:=ez C.st ids} b->∃i,i<C.st.length/\i∉ids/\cr (C.ι i) (an C.st i)=true/\(C.ι i).block=C.cls b):=by
 let C':Ctx:={C with st:=ez C.st ids}
 have hk:bH C C':=⟨rfl,fun _ h=>h,fun _ _=>rfl⟩
 have hlen:C'.st.length=C.st.length:=nU _ _
 have hn: ∀j,j∉ids->an C'.st j=an C.st j:=fun j h=>(kK ids C.st j).2 h
 have hd: ∀j,j∈ids->an C'.st j= .dead:=fun j h=>(kK ids C.st j).1 h
 have hrefs: ∀j,j<C.st.length->bU C C' j j:=fun j hj=>by
  by_cases h:j∈ids
  ·exact rQ (by omega) (hd j h)
  ·exact dM hI hj (by omega) (hn j h) rfl (fun _ _ _=>⟨rfl,rfl,rfl⟩)
 have hown: ∀j,cr (C'.ι j) (an C'.st j)=true->j∉ids/\cr (C.ι j) (an C.st j)=true:=fun j h=>by
  by_cases hj:j∈ids
  ·rw[hd j hj] at h;simp[cr] at h
  ·rw[hn j hj] at h;exact⟨hj,h⟩
 have hO: ∀b,Own C' b->∃i,i<C.st.length/\i∉ids/\cr (C.ι i) (an C.st i)=true/\(C.ι i).block=C.cls b:=fun b ⟨i,hi,ho,hb⟩=>by
  rw[hlen] at hi
  exact⟨i,hi,(hown i ho).1,(hown i ho).2,hb⟩
 refine⟨⟨hI.lay,fun j hj=>?_,fun j k hj hk' hjk hoj hok=>?_,hI.xs,fun j hj hoj=>?_,hI.mT,hI.kJ hk⟩,⟨hk,Nat.le_refl _,rfl,rfl,rfl,fun _ _ _=>rfl,fun b hb=> .inl hb,fun b hb=>?_,hrefs,fun _=> .inl ⟨rfl,rfl⟩,rfl⟩,hO⟩
 ·rw[hlen] at hj
  by_cases h:j∈ids
  ·rw[hd j h];trivial
  ·rw[hn j h]
   exact(hI.obj j hj).eu hk hI.lay (fun j hj _=>hrefs j hj) (hI.eQ j hj) ⟨fun b ho hb=>⟨(hI.dv ⟨j,hj,ho,hb.symm⟩).2,rfl⟩,fun _ _=>⟨Iff.rfl,fun _=>rfl⟩,dN.refl _,Nat.le_refl _,fun _ _=>rfl⟩
 ·rw[hlen] at hj hk'
  exact hI.s8 j k hj hk' hjk (hown j hoj).2 (hown k hok).2
 ·rw[hlen] at hj
  exact hI.eQ j hj (hown j hoj).2
 ·obtain⟨i,h1,_,h3,h4⟩:=hO b hb
  exact .inl ⟨i,h1,h3,h4⟩
def E5(P:Program)(st:List Obj):List Obj:=(nM P (upto st.length) {bg:=[],st:=st}).st
def tv(P:Program)(base:Nat)(st:List Obj):List Nat:=gV base (E5 P st) []
def tidy(P:Program)(base:Nat)(st:List Obj)(Q:List Obj->Prop):Prop:=
 aP (oV base (E5 P st) [] (tv P base st)) (vW (gK (fun i=>jt i (tv P base st) 0) (ik (E5 P st) (tv P base st))) Q)
theorem Ff{C:Ctx}(P:Program){base:Nat}{Q:List Obj->Prop}(hI:Inv C)(hb:base<=C.st.length)(h:tidy P base C.st Q):
  ∃C',C'.w=C.w/\Inv C'/\Ext base C C'/\base<=C'.st.length/\Q C'.st:=by
 obtain⟨h1,h2⟩:=ai.1 h
 rw[kf] at h2
 have hs:db C {bg:=[],st:=C.st} {tmps:= #[],defers:=[]}:=⟨rfl,rfl,fun i hi=>by simp at hi⟩
 obtain⟨C2,g1,g2,g3,g4⟩:=nQ P (upto C.st.length) hI hs
 have hst:C2.st=E5 P C.st:=g3.st
 rw[←hst] at h1 h2
 obtain⟨k1,k2,k3⟩:=tJ g2 h1
 refine⟨C2.by (tv P base C.st),g1,k1,(g4.mono hb).trans k2 (Nat.le_refl _),k2.len,?_⟩
 exact h2
def vh:List Obj->Prop
 | .ext (some [])::_=>True
 | .ext none::_=>True
 |_=>False
def EX:Obj->Bool
 | .loop _=>true
 |_=>false
def rJ:Obj->Bool
 | .loop _=>false
 | .ext _=>false
 | .rows _ _ _ _=>false
 |_=>true
def qR(st:List Obj):List Nat->Bool
 |[]=>true
 |i::l=>rJ (an st i)&&qR st l
theorem oX{st:List Obj}: ∀{l:List Nat},qR st l=true->∀i,i∈l->rJ (an st i)=true
 |[],_,i,h=>by simp at h
 |j::l,h,i,hi=>by
  simp only[qR,aa1] at h
  rcases List.mem_cons.1 hi with rfl|hi
  ·exact h.1
  ·exact oX h.2 i hi
def dj(st:List Obj)(caps:List AV):List Nat:=reach st (st.length*st.length+st.length+20) (cW caps) []
def kn(ids:List Nat)(i:Nat):Option Nat:=
 match jt i ids 0 with
 |some k=>some (k+1)
 |none=>none
def qW(st:List Obj)(caps:List AV):Bool:=
 oV 0 st (cW caps) (dj st caps)&&qR st (dj st caps)&&EX (an st (st.length - 1))&&decide (0<st.length)
structure y4(E:Env)(N:Nat)(g:FuncId)(caps:List AV)(st:List Obj)(K:List Obj->Prop)(items:List AV)(I:List AV->List Obj->Prop):Prop where
 ok:qW st caps=true
 call:E.call g (.de 0::fY (kn (dj st caps)) caps) (.ext (some items)::gK (kn (dj st caps)) (ik st (dj st caps))) (fun _ st'=>vh st')
 start:tidy E.P st.length (ez st (dj st caps)) (I items)
 round: ∀as rest st',I (.aX as::rest) st'->iS (vc E N) (st.length - 1) as st' (fun r st''=>match r with
  | .lit (.bool true)=>tidy E.P st.length st'' (I rest)
  | .lit (.bool false)=>K st''
  |_=>False)
 last: ∀st',I [] st'->K st'
structure qG(E:Env)(N:Nat)(g:FuncId)(caps:List AV)(st:List Obj)(K:List Obj->Prop)(items:List AV)(I:List AV->List Obj->Prop)(fl:List (Nat×Nat×TypeId)):Prop where
 ok:qW st caps=true
 call:E.call g (.de 0::fY (kn (dj st caps)) caps) (.ext (some items)::gK (kn (dj st caps)) (ik st (dj st caps))) (fun _ st'=>vh st')
 start:tidy E.P st.length (ez st (dj st caps)) fun st'=>I items (o5 fl st')
 round: ∀as rest st',I (.aX as::rest) st'->iS (vc E N) (st.length - 1) as st' (fun r st''=>match r with
  | .lit (.bool true)=>tidy E.P st.length st'' (I rest)
  | .lit (.bool false)=>K st''
  |_=>False)
 last: ∀st',I [] st'->K st'
theorem y4.toO{E:Env}{N:Nat}{g:FuncId}{caps:List AV}{st:List Obj}{K:List Obj->Prop}{items:List AV}{I:List AV->List Obj->Prop}(h:y4 E N g caps st K items I):qG E N g caps st K items I []:=⟨h.ok,h.call,h.start,h.round,h.last⟩
theorem Kq{C:Ctx}(P:Program){base:Nat}{Q:List Obj->Prop}(fl:List (Nat×Nat×TypeId))(hI:Inv C)(hb:base<=C.st.length)(h:tidy P base C.st fun st'=>Q (o5 fl st')):
  ∃C',C'.w=C.w/\Inv C'/\Ext base C C'/\base<=C'.st.length/\Q C'.st:=by
 obtain⟨C1,t1,t2,t3,t4,t5⟩:=Ff P hI hb h
 obtain⟨C2,a1,_,a3,a4,a5⟩:=qT fl t2
 have hlen:C1.st.length<=C2.st.length:=a5.len
 exact⟨C2,a1.trans t1,a3,t3.trans a5 t4,by omega,by rw[a4];exact t5⟩
theorem QO{A:Ctx}(hI:Inv A){X:Nat->Prop}(h1: ∀b,Own A b-> ¬ X b)(h2: ∀b,A.cls b≠b-> ¬ X b)(h3: ∀b,X b->b<A.w.heap.size):
  Inv {A with X:=fun b=>A.X b\/X b}/\(∀i,i<A.st.length->bU A {A with X:=fun b=>A.X b\/X b} i i):=by
 have hk:bH A {A with X:=fun b=>A.X b\/X b}:=⟨rfl,fun _ h=> .inl h,fun _ _=>rfl⟩
 have hrefs: ∀i,i<A.st.length->bU A {A with X:=fun b=>A.X b\/X b} i i:=fun i hi=>dM hI hi hi rfl rfl (fun _ _ _=>⟨rfl,rfl,rfl⟩)
 refine⟨⟨hI.lay,fun j hj=>?_,hI.s8,fun b hb=>hb.elim (hI.xs b) (h3 b),hI.eQ,fun b hb=>⟨(hI.mT b hb).1,fun hx=>hx.elim (hI.mT b hb).2.1 (h2 b hb),(hI.mT b hb).2.2⟩,hI.kJ hk⟩,hrefs⟩
 exact(hI.obj j hj).eu hk hI.lay (fun j hj _=>hrefs j hj) (hI.eQ j hj) ⟨fun b ho hb=>⟨fun hx=>hx.elim (hI.dv ⟨j,hj,ho,hb.symm⟩).2 (h1 b ⟨j,hj,ho,hb.symm⟩),rfl⟩,fun _ _=>⟨Iff.rfl,fun _=>rfl⟩,dN.refl _,Nat.le_refl _,fun _ _=>rfl⟩
structure Fh(P:Pg)(C:Ctx)(K:List Obj->Prop)(I:List AV->List Obj->Prop)(t:Option (List AV))(O X:Nat->Prop)(w:World)(A:Ctx):Prop where
 hw:A.w=w
 hP:A.P=P
 lr:A.lr=C.lr
 inv:Inv A
 xo: ∀b,A.X b->X b\/O b
 xc: ∀b,C.X b->A.X b
 own: ∀b,Own A b->O b
 cls: ∀b,A.cls b≠b->O b
 oQ: ∀b,A.X b->X b\/Own C b\/C.w.heap.size<=b
 fV: ∀b,Own A b->Own C b\/C.w.heap.size<=b
 W3: ∀b,(A.cls b=C.cls b/\A.rk b=C.rk b)\/(C.w.heap.size<=b/\(Own C (A.cls b)\/C.w.heap.size<=A.cls b))
 refs: ∀i,i<C.st.length->bU C A i i
 UP: ∀b,C.cls b≠b-> ¬ Own C b->w.heap[b]? =C.w.heap[b]?
 size:C.w.heap.size<=w.heap.size
 val:match t with|some rest=>I rest A.st|none=>K A.st
theorem F4{E:Env}(hE:aE E)(hM:aj E){N:Nat}{g:FuncId}{caps:List AV}{C:Ctx}{K:List Obj->Prop}{items:List AV}{I:List AV->List Obj->Prop}{fl:List (Nat×Nat×TypeId)}(hP:C.P=E.P)(h:qG E N g caps C.st K items I fl)
  (hI:Inv C) {r:xF} (_hl:an C.st (C.st.length - 1)= .loop r):Cm E.P (C.ι (C.st.length - 1)).block (fun t O X w=>∃A,Fh E.P C K I t O X w A/\(∀b,O b->b<w.heap.size)):=by
 have h0:0<C.st.length:=by
  have:=h.ok
  simp only[qW,aa1,aa0] at this
  exact this.2
 refine⟨fun t O X X' w w' ⟨A,hA,hO⟩ hXX hOX hsame hos hsz=>?_,fun as rest O X w vs F n ⟨A,hA,hO⟩ hF hXl hOl hrefs hD=>?_⟩
 ·obtain⟨rfl,hAP,hAphi,hAI,hxo,hxc,hown,hcls,hnX,hnO,hcC,hrf,hold,hsize,hval⟩:=hA
  obtain⟨g1,g2,g3⟩:=qc hAI (w:=w') hsz (fun b hb=>hsame b ((hxo b hb).symm.imp id id)) (fun b hb=>hsame b (.inl (hown b hb))) hos
  refine⟨{A with w:=w'},⟨rfl,hAP,hAphi,g1,fun b hb=>(hxo b hb).imp (hXX b) id,hxc,hown,hcls,fun b hb=>(hnX b hb).imp (hXX b) id,hnO,hcC,fun i hi=>(hrf i hi).trans (g3 i (hrf i hi).lt),fun b h1 h2=>?_,Nat.le_trans hsize hsz,hval⟩,fun b hb=>Nat.lt_of_lt_of_le (hO b hb) hsz⟩
  refine(hsame b (.inl ?_)).trans (hold b h1 h2)
  rcases hcC b with⟨e,_⟩|⟨e,_⟩
  ·exact hcls b (by rw[e];exact h1)
  ·have:=(hI.mT b h1).1;omega
 ·obtain⟨rfl,hAP,hAphi,hAI,hxo,hxc,hown,hcls,hnX,hnO,hcC,hrf,hold,hsize,hval⟩:=hA
  obtain⟨D,d1,d2,d3,d4⟩:=hD
  obtain⟨g1,g2⟩:=QO hAI (X:=X) (fun b hb=>(hOl b (hown b hb)).2) (fun b hb=>(hOl b (hcls b hb)).2) hXl
  have hr:=h.round as rest A.st hval
  have hk:bH D {A with X:=fun b=>A.X b\/X b}:=⟨by rw[d1];exact hAP,fun b hb=> .inr (by rw[←d2];exact hb),fun b _=>by rw[d3]⟩
  have hlayD:eI D.P:=by rw[d1,←hP];exact hI.lay
  have hm:=jL hk hlayD some as vs.toList (fun i hi=>by rw[hrefs] at hi;simp at hi) d4
  rw[fq] at hm
  have hlA:C.st.length - 1<A.st.length:=by
   have:=(hrf (C.st.length - 1) (by omega)).lt
   omega
  obtain⟨hc,r1,hr1⟩:=sz (xH hE hM N) hr (C:={A with X:=fun b=>A.X b\/X b}) hAP g1 rfl hm hF n
  have hB:(A.ι (C.st.length - 1)).block=(C.ι (C.st.length - 1)).block:=by
   obtain⟨r0,_,e⟩:=(hrf (C.st.length - 1) (by omega)).loop r1 hr1
   rw[e]
  rw[←hB]
  refine qg hc ?_
  rintro e w' ⟨v,rv,A2,rfl,rfl,hP2,hI2,hrv,hx,hK2⟩
  have hsz2:A.w.heap.size<=A2.w.heap.size:=hx.size
  have hold2: ∀b,C.cls b≠b-> ¬ Own C b->A2.w.heap[b]? =C.w.heap[b]? :=fun b h1 h2=>by
   have hb:=(hI.mT b h1).1
   refine(hx.frame b (by show b<A.w.heap.size;omega) (fun ho=>?_)).trans (hold b h1 h2)
   rcases hnO b ho with h3|h3
   ·exact h2 h3
   ·omega
  have mk: ∀(t:Option (List AV)) (A3:Ctx),A3.w=A2.w->Inv A3->Ext (C.st.length) A2 A3->(match t with|some rest=>I rest A3.st|none=>K A3.st)->
    Fh E.P C K I t (fun b=>O b\/(A.w.heap.size<=b/\b<A2.w.heap.size)) X A2.w A3:=by
   intro t A3 e1 hI3 hx3 hv
   have hx13:Ext C.st.length {A with X:=fun b=>A.X b\/X b} A3:=(hx.mono (by show C.st.length<=A.st.length;omega)).trans hx3 (Nat.le_refl _)
   have hnew: ∀b,Own A3 b->O b\/(A.w.heap.size<=b/\b<A2.w.heap.size):=fun b hb=>by
    rcases hx13.fV b hb with h|h
    ·exact .inl (hown b h)
    ·exact .inr ⟨h,by have:=(hI3.dv hb).1;rw[e1] at this;exact this⟩
   refine⟨e1,hx13.keeps.P.trans hAP,hx13.lr.trans hAphi,hI3,fun b hb=>?_,fun b hb=>hx13.keeps.X b (.inl (hxc b hb)),hnew,fun b hb=>?_,fun b hb=>?_,fun b hb=>?_,fun b=>?_,fun i hi=>((hrf i hi).trans (g2 i (hrf i hi).lt)).trans (hx13.refs i hi),hold2,Nat.le_trans hsize hsz2,hv⟩
   ·rcases hx13.oQ b hb with h|h|h
    ·rcases h with h|h
     ·exact(hxo b h).imp id .inl
     ·exact .inl h
    ·exact .inr (.inl (hown b h))
    ·exact .inr (.inr ⟨h,by have:=hI3.xs b hb;rw[e1] at this;exact this⟩)
   ·rcases hx13.cls b with⟨h,_⟩|⟨h,_⟩
    ·exact .inl (hcls b (by rw[h] at hb;exact hb))
    ·exact .inr ⟨h,by have:=(hI3.mT b hb).1;rw[e1] at this;exact this⟩
   ·rcases hx13.oQ b hb with h|h|h
    ·rcases h with h|h
     ·exact hnX b h
     ·exact .inl h
    ·exact .inr (hnO b h)
    ·exact .inr (.inr (by have h':A.w.heap.size<=b:=h;omega))
   ·rcases hx13.fV b hb with h|h
    ·exact hnO b h
    ·exact .inr (by have h':A.w.heap.size<=b:=h;omega)
   ·rcases hx13.cls b with⟨h,h'⟩|⟨h,h2⟩
    ·rw[h,h'];exact hcC b
    ·refine .inr ⟨by have h':A.w.heap.size<=b:=h;omega,?_⟩
     rcases h2 with h2|h2
     ·exact hnO _ h2
     ·exact .inr (by have h':A.w.heap.size<=A3.cls b:=h2;omega)
  have fin: ∀(rb:Bool) (A3:Ctx),v= .bool rb->A3.w=A2.w->Inv A3->Ext (C.st.length) A2 A3->(match(if rb then some rest else none:Option (List AV)) with|some rest=>I rest A3.st|none=>K A3.st)->
    ∃(r:Bool) (O':Nat->Prop),Ending.returned v= .returned (.bool r)/\(∃A',Fh E.P C K I (if r then some rest else none) O' X A2.w A'/\(∀b,O' b->b<A2.w.heap.size))/\dN A.w A2.w/\A.w.heap.size<=A2.w.heap.size/\(∀b,b<A.w.heap.size-> ¬ O b->A2.w.heap[b]? =A.w.heap[b]?)/\
     (∀b,O b->O' b)/\(∀b,O' b->O b\/A.w.heap.size<=b)/\(∀b,O' b->b<A2.w.heap.size):=by
   intro rb A3 ev e1 hI3 hx3 hv
   have hO': ∀b,(O b\/(A.w.heap.size<=b/\b<A2.w.heap.size))->b<A2.w.heap.size:=fun b hb=>by
    rcases hb with hb|hb
    ·have:=hO b hb;omega
    ·exact hb.2
   exact⟨rb,fun b=>O b\/(A.w.heap.size<=b/\b<A2.w.heap.size),by rw[ev],⟨A3,mk _ A3 e1 hI3 hx3 hv,hO'⟩,⟨hx.os,hx.tape,hx.output⟩,hsz2,fun b hb hnb=>hx.frame b hb (fun ho=>hnb (hown b ho)),fun b hb=> .inl hb,fun b hb=>hb.imp id (·.1),hO'⟩
  have hlen2:C.st.length<=A2.st.length:=by
   have h1:A.st.length<=A2.st.length:=hx.len
   omega
  split at hK2
  ·have hv:=aH hrv
   obtain⟨A3,t1,t2,t3,t4,t5⟩:=Ff E.P hI2 hlen2 hK2
   exact fin true A3 hv t1 t2 t3 t5
  ·have hv:=aH hrv
   exact fin false A2 hv rfl hI2 (Ext.refl A2 hlen2) hK2
  ·exact hK2.elim
theorem Ng{C D:Ctx}{ids:List Nat}{o:Obj}{g:G}(hst:D.st=o::gK (kn ids) (ik C.st ids))(hι:D.ι=fun k=>match k with|0=>g|k+1=>C.ι (ids.getD k 0)){k i:Nat}(h:ids[k]? =some i):
  an D.st (k+1)=eY (kn ids) (an C.st i)/\D.ι (k+1)=C.ι i:=by grind [kn,an,oj,rq]
theorem GN{C D:Ctx}{ids:List Nat}{k i:Nat}(hlt:k+1<D.st.length)(h1:an D.st (k+1)=eY (kn ids) (an C.st i))(h2:D.ι (k+1)=C.ι i)(hw:D.w=C.w)(hp:rJ (an C.st i)=true):bU C D i (k+1):=by
 refine⟨hlt,fun T xs hx=>?_,fun T a hx=>?_,fun K V es hx=>?_,fun r hx=>?_,fun m n ks hx=>?_,fun t hx=>?_,fun s p hx=>?_,fun K V ks vs met hx=>?_,fun T E ls pd hx=>?_⟩
 ·rw[h1,zF] at hx;exact⟨xs,hx,h2,Nat.le_refl _⟩
 ·rw[h1] at hx
  cases ho:an C.st i<;>rw[ho] at hx<;>simp[eY] at hx
  obtain⟨rfl,_⟩:=hx
  exact⟨_,rfl,h2⟩
 ·rw[h1] at hx
  cases ho:an C.st i<;>rw[ho] at hx<;>simp[eY] at hx
  grind [dW.refl]
 ·rw[h1] at hx
  cases ho:an C.st i<;>rw[ho] at hx<;>simp[eY] at hx
  exact⟨_,rfl,h2⟩
 ·rw[h1] at hx
  cases ho:an C.st i<;>rw[ho] at hx<;>simp[eY] at hx
  obtain⟨_,rfl,_⟩:=hx
  exact⟨_,_,rfl,h2⟩
 ·rw[h1] at hx
  cases ho:an C.st i<;>rw[ho] at hx<;>simp[eY] at hx
  exact⟨_,rfl,h2⟩
 ·rw[h1] at hx
  cases ho:an C.st i<;>rw[ho] at hx<;>simp[eY] at hx
  obtain⟨rfl,_⟩:=hx
  exact⟨_,rfl,h2⟩
 ·rw[h1] at hx
  cases ho:an C.st i<;>rw[ho] at hx<;>simp[eY] at hx
  obtain⟨rfl,rfl,rfl,rfl,_⟩:=hx
  exact⟨_,rfl,h2⟩
 ·rw[h1] at hx
  cases ho:an C.st i<;>rw[ho] at hx hp<;>simp[eY] at hx
  cases hp
theorem AP{E:Env}(hE:aE E)(hM:aj E){N:Nat}{g:FuncId}{caps:List AV}{st:List Obj}{K:List Obj->Prop}{items:List AV}{I:List AV->List Obj->Prop}{fl:List (Nat×Nat×TypeId)}(h:qG E N g caps st K items I fl):
  bD E.P g (.de (st.length - 1)::caps) st (fun _ st'=>K st'):=by
 classical
 obtain⟨hfn,hsim⟩:=hE.call _ _ _ _ h.call
 refine⟨hfn,fun C vs hP hI hst hm=>?_⟩
 subst hst
 have hok:=h.ok
 simp only[qW,aa1,aa0] at hok
 obtain⟨⟨⟨k1,k2⟩,k3⟩,k0⟩:=hok
 have hplain:=oX k2
 have hstart:=h.start
 generalize hids:dj C.st caps=ids at k1 k2 hplain hstart hsim
 simp only[oV,aa1] at k1
 obtain⟨⟨⟨⟨i1,i2⟩,i3⟩,i4⟩,i5⟩:=k1
 have hnd:=kU i1
 have hil: ∀i,i∈ids->i<C.st.length:=mC i2
 have hlr: ∃r,an C.st (C.st.length - 1)= .loop r:=by
  cases hx:an C.st (C.st.length - 1)<;>rw[hx] at k3<;>simp[EX] at k3
  exact⟨_,rfl⟩
 obtain⟨r,hl⟩:=hlr
 have hlaw:=F4 hE hM hP h hI hl
 have hll:C.st.length - 1<C.st.length:=by omega
 generalize hle:C.st.length - 1=l at*
 have hlids:l∉ids:=fun hmem=>by
  have:=hplain l hmem
  rw[hl] at this;simp[rJ] at this
 have hownl:cr (C.ι l) (an C.st l)=true:=by rw[hl];rfl
 obtain⟨hBX,hBlt⟩: ¬ C.X (C.ι l).block/\(C.ι l).block<C.w.heap.size:=⟨((hI.obj l hll).lt hownl).2,((hI.obj l hll).lt hownl).1⟩
 have hBself:=hI.eQ l hll hownl
 obtain⟨hI0,hx0,hO0⟩:=JB hI ids
 generalize hC0:({C with st:=ez C.st ids}:Ctx)=C0 at hI0 hx0 hO0
 have e0:C0.w=C.w/\C0.X=C.X/\C0.cls=C.cls/\C0.ι=C.ι/\C0.lr=C.lr/\C0.st=ez C.st ids/\C0.rk=C.rk:=by subst hC0;exact⟨rfl,rfl,rfl,rfl,rfl,rfl,rfl⟩
 obtain⟨w0,X0,cls0,ι0,phi0,st0,elt0⟩:=e0
 have hlen0:C.st.length<=C0.st.length:=hx0.len
 rw[←st0] at hstart
 obtain⟨C2,t1,t2,t3,t4,t5⟩:=Kq E.P fl hI0 hlen0 hstart
 have hw2:C2.w=C.w:=t1.trans w0
 have ownOld: ∀b,Own C0 b->Own C b:=fun b hb=>by
  obtain⟨i,a1,_,a3,a4⟩:=hO0 b hb
  exact⟨i,a1,a3,a4⟩
 let O:Nat->Prop:=fun b=>Own C0 b\/C.cls b≠b
 have hBO:O (C.ι l).block:= .inl ⟨l,by omega,by rw[st0,ι0,(kK ids C.st l).2 hlids];exact hownl,by rw[ι0,cls0];exact hBself.symm⟩
 have hnO: ∀i,i∈ids->cr (C.ι i) (an C.st i)=true-> ¬ O (C.ι i).block:=fun i hi ho hO=>by
  have hs:=hI.eQ i (hil i hi) ho
  rcases hO with hO|hO
  ·obtain⟨j,a1,a2,a3,a4⟩:=hO0 _ hO
   rw[hs] at a4
   exact hI.s8 j i a1 (hil i hi) (fun e=>a2 (e▸hi)) a3 ho a4
  ·exact hO hs
 have hOlt: ∀b,O b->b<C.w.heap.size/\ ¬ C.X b:=fun b hb=>by
  rcases hb with hb|hb
  ·exact hI.dv (ownOld b hb)
  ·exact⟨(hI.mT b hb).1,(hI.mT b hb).2.1⟩
 let Φ:Option (List AV)->(Nat->Prop)->(Nat->Prop)->World->Prop:=fun t O X w=>∃A,Fh E.P C K I t O X w A/\(∀b,O b->b<w.heap.size)
 let ιD:Nat->G:=fun k=>match k with|0=>⟨(C.ι l).block,0,false⟩|k+1=>C.ι (ids.getD k 0)
 let clsD:Nat->Nat:=fun b=>if O b then(C.ι l).block else b
 let D:Ctx:={P:=C.P,X:=C.X,w:=C.w,st:= .ext (some items)::gK (kn ids) (ik C.st ids),ι:=ιD,cls:=clsD,lr:=(fun _=>Φ)}
 have hclsD: ∀b,D.cls b=(C.ι l).block↔O b:=fun b=>by
  show(if O b then(C.ι l).block else b)=(C.ι l).block↔O b
  by_cases hb:O b
  ·rw[if_pos hb];exact⟨fun _=>hb,fun _=>rfl⟩
  ·rw[if_neg hb];exact⟨fun e=>by rw[e];exact hBO,fun h=>absurd h hb⟩
 have hclsN: ∀b,¬ O b->D.cls b=b:=fun b hb=>if_neg hb
 have hk:bH C D:=⟨rfl,fun _ h=>h,fun _ _=>rfl⟩
 have hlenD:D.st.length=ids.length+1:=by simp[D,iz,jP]
 have hat: ∀k i,ids[k]? =some i->an D.st (k+1)=eY (kn ids) (an C.st i)/\D.ι (k+1)=C.ι i:=fun k i hki=>Ng (C:=C) (D:=D) rfl rfl hki
 have href: ∀k i,ids[k]? =some i->bU C D i (k+1):=fun k i hki=>by
  have:=(List.getElem?_eq_some_iff.1 hki).1
  exact GN (by omega) (hat k i hki).1 (hat k i hki).2 rfl (hplain i (List.mem_iff_getElem?.2 ⟨k,hki⟩))
 have hidx: ∀j,j∈ids->∃m,kn ids j=some (m+1)/\ids[m]? =some j:=fun j hj=>by
  obtain⟨m,hm⟩:=nV (ids:=ids) 0 hj
  obtain⟨m',e,hm'⟩:=qS hm
  have e':m=m':=by omega
  subst e'
  exact⟨m,by simp only[kn,hm],hm'⟩
 have hkind: ∀k,k<D.st.length->k=0\/ ∃m i,k=m+1/\ids[m]? =some i/\i∈ids:=fun k hk=>by
  cases k with
  |zero=>exact .inl rfl
  |succ m=>
   have hm:m<ids.length:=by omega
   exact .inr ⟨m,ids[m],rfl,by simp[hm],List.getElem_mem hm⟩
 have hD0:an D.st 0= .ext (some items):=rfl
 have hID:Inv D:=by
  refine⟨hI.lay,fun k hk'=>?_,fun j k hj hk' hjk hoj hok=>?_,hI.xs,fun k hk' hok=>?_,fun b hb=>?_,hI.kJ hk⟩
  ·rcases hkind k hk' with rfl|⟨m,i,rfl,hmi,himem⟩
   ·rw[hD0]
    refine⟨hBX,hBlt,?_,by show Cm C.P _ _;rw[hP];exact hlaw⟩
    show Φ (some items) (fun b=>D.cls b=(C.ι l).block) C.X C.w
    rw[show(fun b=>D.cls b=(C.ι l).block)=O from funext fun b=>propext (hclsD b)]
    refine⟨C2,⟨hw2,t3.keeps.P.trans ((show C0.P=C.P by subst hC0;rfl).trans hP),t3.lr.trans phi0,t2,fun b hb=>?_,fun b hb=>t3.keeps.X b (by rw[X0];exact hb),fun b hb=>?_,fun b hb=>?_,fun b hb=>?_,fun b hb=>?_,fun b=>?_,fun i hi=>(hx0.refs i hi).trans (t3.refs i hi),fun _ _ _=>rfl,Nat.le_refl _,t5⟩,fun b hb=>(hOlt b hb).1⟩
    ·rcases t3.oQ b hb with h|h|h
     ·exact .inl (by rw[←X0];exact h)
     ·exact .inr (.inl h)
     ·have:=t2.xs b hb;rw[t1] at this;omega
    ·rcases t3.fV b hb with h|h
     ·exact .inl h
     ·have:=(t2.dv hb).1;rw[t1] at this;omega
    ·rcases t3.cls b with⟨h,_⟩|⟨h,_⟩
     ·exact .inr (by rw[h,cls0] at hb;exact hb)
     ·have:=(t2.mT b hb).1;rw[t1] at this;omega
    ·rcases t3.oQ b hb with h|h|h
     ·exact .inl (by rw[←X0];exact h)
     ·exact .inr (.inl (ownOld b h))
     ·exact .inr (.inr (by rw[w0] at h;exact h))
    ·rcases t3.fV b hb with h|h
     ·exact .inl (ownOld b h)
     ·exact .inr (by rw[w0] at h;exact h)
    ·rcases t3.cls b with⟨h,h'⟩|⟨h,h2⟩
     ·exact .inl ⟨by rw[h,cls0],by rw[h',elt0]⟩
     ·rw[w0] at h h2
      exact .inr ⟨h,h2.imp (ownOld _) id⟩
   ·rw[(hat m i hmi).1,(hat m i hmi).2]
    have hp:=hplain i himem
    refine(hI.obj i (hil i himem)).move hk hI.lay _ (fun j hj hjl=>?_) (hI.eQ i (hil i himem)) ⟨fun b ho hb=>⟨(hI.dv ⟨i,hil i himem,ho,hb.symm⟩).2,rfl⟩,fun e=>?_,dN.refl _,Nat.le_refl _,fun t e=>?_⟩
    ·have hjm:j∈ids:=j7 i5 j (pG himem hj)
     obtain⟨m',e1,e2⟩:=hidx j hjm
     exact⟨m'+1,e1,href m' j e2⟩
    ·cases hx:an C.st i<;>rw[hx] at hp e<;>simp[yz] at e<;>simp[rJ] at hp
    ·rw[e] at hp;simp[rJ] at hp
  ·rcases hkind j hj with rfl|⟨m,i,rfl,hmi,himem⟩<;>rcases hkind k hk' with rfl|⟨m',i',rfl,hmi',himem'⟩
   ·exact absurd rfl hjk
   ·rw[(hat m' i' hmi').1,(hat m' i' hmi').2,dB] at hok
    rw[(hat m' i' hmi').2]
    exact fun e=>hnO i' himem' hok (by have e':(C.ι l).block=(C.ι i').block:=e;rw[←e'];exact hBO)
   ·rw[(hat m i hmi).1,(hat m i hmi).2,dB] at hoj
    rw[(hat m i hmi).2]
    exact fun e=>hnO i himem hoj (by have e':(C.ι i).block=(C.ι l).block:=e;rw[e'];exact hBO)
   ·rw[(hat m i hmi).1,(hat m i hmi).2,dB] at hoj
    rw[(hat m' i' hmi').1,(hat m' i' hmi').2,dB] at hok
    rw[(hat m i hmi).2,(hat m' i' hmi').2]
    refine hI.s8 i i' (hil i himem) (hil i' himem') (fun e=>hjk ?_) hoj hok
    subst e
    obtain⟨_,e1⟩:=List.getElem?_eq_some_iff.1 hmi
    obtain⟨_,e2⟩:=List.getElem?_eq_some_iff.1 hmi'
    have:=(List.getElem_inj hnd).1 (e1.trans e2.symm)
    rw[this]
  ·rcases hkind k hk' with rfl|⟨m,i,rfl,hmi,himem⟩
   ·exact(hclsD _).2 hBO
   ·rw[(hat m i hmi).1,(hat m i hmi).2,dB] at hok
    rw[(hat m i hmi).2]
    exact hclsN _ (hnO i himem hok)
  ·have hO:O b:=by
    by_cases hO:O b
    ·exact hO
    ·exact absurd (hclsN b hO) hb
   exact⟨(hOlt b hO).1,(hOlt b hO).2,by rw[(hclsD b).2 hO];exact hBlt⟩
 have ownD: ∀b,Own D b->O b\/Own C b:=fun b ⟨k,hk',hok,hb⟩=>by
  rcases hkind k hk' with rfl|⟨m,i,rfl,hmi,himem⟩
  ·exact .inl ((hclsD b).1 hb.symm)
  ·rw[(hat m i hmi).1,(hat m i hmi).2,dB] at hok
   rw[(hat m i hmi).2] at hb
   by_cases hO:O b
   ·exact .inl hO
   ·rw[hclsN b hO] at hb
    exact .inr (by rw[←hb];exact hI.rM (hil i himem) hok)
 have hmD:MT D (.de 0::fY (kn ids) caps) vs.toList:=by
  cases hv:vs.toList with
  |nil=>rw[hv] at hm;simp[MT] at hm
  | cons v vs'=>
   rw[hv] at hm
   simp only[MT] at hm⊢
   have hy:=(zr (⟨hm.1,hm.2.1,hm.2.2.1⟩:Rel C (.de l) v)).2.1 r hl
   subst hy
   refine⟨.inl rfl, .inl (by simp[Value.cells,wid]),?_,jL hk hI.lay _ caps vs' (fun i hi _=>?_) hm.2.2.2⟩
   ·simp only[M]
    have hY:xm D 0 (.func (.yield (C.ι l).block) #[] #[]):=⟨fun r' hr'=>(by have h2:Obj.ext (some items)=Obj.loop r':=hr';cases h2),fun _ _=>rfl⟩
    exact⟨by omega,_,rfl,rfl,hY⟩
   ·obtain⟨m,e1,e2⟩:=hidx i (j7 i4 i hi)
    exact⟨m+1,e1,href m i e2⟩
 refine(hsim D vs (show C.P=E.P from hP) hID rfl hmD).mono ?_
 rintro e w' ⟨v,rv,C3,rfl,rfl,hP3,hI3,hr3,hx3,hK3⟩
 have key: ∀t,an C3.st 0= .ext t->(t=some []\/t=none)->0<C3.st.length->eF C C.st.length (fun _ st'=>K st') (.returned v) C3.w:=by
  intro t h0 ht hpos
  have hob:=hI3.obj 0 hpos
  rw[h0] at hob
  obtain⟨hX3,hB3,hphi3,_⟩:=hob
  have hι3:(C3.ι 0).block=(C.ι l).block:=by
   obtain⟨t',_,e⟩:=(hx3.refs 0 (by show 0<D.st.length;omega)).ext t h0
   rw[e]
  rw[show C3.lr=D.lr from hx3.lr,hι3] at hphi3
  have hown3: ∀b,C3.cls b=(C.ι l).block->Own C3 b:=fun b hb=>⟨0,hpos,by rw[h0];rfl,by rw[hι3,hb]⟩
  obtain⟨A,hA,hAO⟩:=hphi3
  have hOX: ∀b,O b-> ¬ C3.X b:=fun b hb hx=>by
   rcases hx3.cls b with⟨h',_⟩|⟨h',_⟩
   ·exact(hI3.dv (hown3 b (h'.trans ((hclsD b).2 hb)))).2 hx
   ·have h2:C.w.heap.size<=b:=h'
    have:=(hOlt b hb).1
    omega
  refine⟨v, .cK,A,rfl,hA.hw,hA.hP.trans hP.symm,hA.inv,lv v,⟨⟨hA.hP.trans hP.symm,hA.xc,fun b hb=>by rw[hA.hw];exact hx3.keeps.heap b hb⟩,by rw[hA.hw];exact hx3.size,by rw[hA.hw];exact hx3.os,by rw[hA.hw];exact hx3.tape,by rw[hA.hw];exact hx3.output,
   fun b hb hnb=>?_,fun b hb=>?_,hA.fV,hA.refs,hA.W3,hA.lr⟩,?_⟩
  ·rw[hA.hw]
   by_cases hf:C.cls b=b
   ·refine hx3.frame b hb (fun hod=>?_)
    rcases ownD b hod with hO|hO
    ·rcases hO with hO|hO
     ·exact hnb (ownOld b hO)
     ·exact hO hf
    ·exact hnb hO
   ·exact hA.UP b hf hnb
  ·rcases hA.oQ b hb with h'|h'|h'
   ·rcases hx3.oQ b h' with h2|h2|h2
    ·exact .inl h2
    ·rcases ownD b h2 with hO|hO
     ·exact absurd h' (hOX b hO)
     ·exact .inr (.inl hO)
    ·exact .inr (.inr h2)
   ·exact .inr (.inl h')
   ·exact .inr (.inr h')
  ·have hv:=hA.val
   rcases ht with rfl|rfl
   ·exact h.last _ hv
   ·exact hv
 unfold vh at hK3
 split at hK3
 ·rename_i o' heq
  exact key (some []) (by rw[heq];rfl) (.inl rfl) (by rw[heq];simp)
 ·rename_i o' heq
  exact key none (by rw[heq];rfl) (.inr rfl) (by rw[heq];simp)
 ·exact hK3.elim
abbrev dJ:=List AV->List Obj->(List Obj->Prop)->Prop
def dJ.ib(sp:dJ):Prop:=∀caps st (K K':List Obj->Prop),(∀st,K st->K' st)->sp caps st K->sp caps st K'
def ou(E:Env)(N g:Nat)(sp:dJ):Prop:=∀caps st K,sp caps st K->∃items I,y4 E N g caps st K items I
def Env.addRange(E:Env)(f k g:Nat)(sp:dJ):Env:=
 {E with kW:=fun f' k' g' caps st K=>bif Nat.beq f' f&&(Nat.beq k' k&&Nat.beq g' g) then sp caps st K else E.kW f' k' g' caps st K}
theorem aj.addRange{E:Env}(hM:aj E){f k g:Nat}{sp:dJ}(hs:sp.ib):aj (E.addRange f k g sp):=by
 refine⟨hM.call,hM.loop,fun f' k' g' caps st K K' hK h=>?_⟩
 simp only[Env.addRange] at h⊢
 cases hb:(Nat.beq f' f&&(Nat.beq k' k&&Nat.beq g' g)) with
 |true=>rw[hb] at h;exact hs _ _ _ _ hK h
 |false=>rw[hb] at h;exact hM.kW _ _ _ _ _ _ _ hK h
theorem aE.addRange{E:Env}(hE:aE E)(hM:aj E){N f k g:Nat}{sp:dJ}(h:ou E N g sp):aE (E.addRange f k g sp):=by
 refine⟨hE.prog,hE.fu,hE.call,fun f' k' g' caps st K hh=>?_,hE.loop⟩
 simp only[Env.addRange] at hh
 cases hb:(Nat.beq f' f&&(Nat.beq k' k&&Nat.beq g' g)) with
 |true=>
  rw[hb] at hh
  simp only[aa1] at hb
  obtain rfl:=Nat.eq_of_beq_eq_true hb.2.2
  obtain⟨items,I,hr⟩:=h _ _ _ hh
  exact AP hE hM hr.toO
 |false=>rw[hb] at hh;exact hE.kW _ _ _ _ _ _ hh
def u7(E:Env)(N g:Nat)(fl:List (Nat×Nat×TypeId))(sp:dJ):Prop:=∀caps st K,sp caps st K->∃items I,qG E N g caps st K items I fl
theorem aE.G5{E:Env}(hE:aE E)(hM:aj E){N f k g:Nat}{fl:List (Nat×Nat×TypeId)}{sp:dJ}(h:u7 E N g fl sp):aE (E.addRange f k g sp):=by
 refine⟨hE.prog,hE.fu,hE.call,fun f' k' g' caps st K hh=>?_,hE.loop⟩
 simp only[Env.addRange] at hh
 cases hb:(Nat.beq f' f&&(Nat.beq k' k&&Nat.beq g' g)) with
 |true=>
  rw[hb] at hh
  simp only[aa1] at hb
  obtain rfl:=Nat.eq_of_beq_eq_true hb.2.2
  obtain⟨items,I,hr⟩:=h _ _ _ hh
  exact AP hE hM hr
 |false=>rw[hb] at hh;exact hE.kW _ _ _ _ _ _ hh
def Env.dG(E:Env)(gen:FuncId->Bool):Env:={E with gen:=gen}
theorem aE.dG{E:Env}(hE:aE E)(gen:FuncId->Bool):aE (E.dG gen):=⟨hE.prog,hE.fu,hE.call,hE.kW,hE.loop⟩
theorem aj.dG{E:Env}(hM:aj E)(gen:FuncId->Bool):aj (E.dG gen):=⟨hM.call,hM.loop,hM.kW⟩
end Go.Dn
