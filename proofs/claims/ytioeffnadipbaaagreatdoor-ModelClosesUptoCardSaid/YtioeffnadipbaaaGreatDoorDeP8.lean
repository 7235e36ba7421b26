import Derived.Test.YtioeffnadipbaaaGreatDoorDeP1
import Derived.Test.YtioeffnadipbaaaGreatDoorDeP6
namespace Go.Rl
open Go Go.Dn
abbrev Gr:=List (List Int)
def Gr.at(L:Gr)(a:Int):List Int:=L.getD a.toNat []
def qO(L:Gr)(e:Int×Int):=bif (L.at e.1).contains e.2 then L else L.set e.1.toNat (L.at e.1++[e.2])
def uv n(E:List _):=E.foldl qO (List.replicate n [])
theorem DY L e:(qO L e).length=L.length:=by
 grind [qO]
theorem tX: ∀(E:List _) L,(E.foldl qO L).length=L.length
 |[],_=>rfl
 |e::E,L=>by rw[List.foldl_cons,tX E,DY]
theorem GN(L:Gr)(a b:Int) x(c:a.toNat<L.length):Gr.at (L.set a.toNat x) b=if a.toNat=b.toNat then x else L.at b:=by
 grind [Gr.at]
theorem Pl L e(f:0<=e.1/\e.1.toNat<L.length) a b(g:0<=a):b∈(qO L e).at a↔b∈L.at a\/(a,b)=e:=by
 obtain⟨c,d⟩:=e;unfold qO;cases h:(L.at c).contains d with
 |true=>
  grind
 |false=>
  rw[aD0,GN L c a _ f.2]
  grind
theorem AK: ∀(E:List _) L,(∀e,e∈E->0<=e.1/\e.1.toNat<L.length)->∀a b:Int,0<=a->(b∈Gr.at (E.foldl qO L) a↔b∈L.at a\/(a,b)∈E)
 |[],L,_,a,b,_=>by simp
 |e::E,L,h,a,b,c=>by
  rw[List.foldl_cons,AK E _ fun x d=>by grind [DY] a b c,Pl L e (h e (by simp)) a b c,aE5,or_assoc]
theorem Ob: ∀(E:List _) L a,(Gr.at (E.foldl qO L) a).length<=(L.at a).length+E.length
 |[],L,a=>by simp
 | e ::E,L,a=>by
  rw[List.foldl_cons];refine Nat.le_trans (Ob E (qO L e) a) ?_;have:((qO L e).at a).length<=(L.at a).length+1:=by
   unfold qO;cases(L.at e.1).contains e.2 with
   |true=>rw[aD2];omega
   | false=>
    rw[aD0];by_cases c:e.1.toNat<L.length
    ·rw[GN L e.1 a _ c]
     by_cases b:e.1.toNat=a.toNat
     ·simp_all[if_pos,aE1,List.length_singleton,Gr.at]
     ·rw[if_neg b];omega
    ·rw[List.set_eq_of_length_le (by omega)];omega
  grind
theorem GM n a:Gr.at (List.replicate n []) a=[]:=by
 grind [Gr.at]
structure WG(n m:Nat)(L:Gr):Prop where
 len:L.length=n
 le: ∀a,(L.at a).length<=m
 ll: ∀a,0<=a->∀b,b∈L.at a->0<=b/\b<n
theorem JN{n:Nat}{E:List (Int×Int)}(h: ∀e,e∈E->(0<=e.1/\e.1<n)/\0<=e.2/\e.2<n){a b}(c:0<=a):b∈(uv n E).at a↔(a,b)∈E:=by
 grind [uv,AK,GM]
theorem Yp{n:Nat}{E:List (Int×Int)}(h: ∀e,e∈E->(0<=e.1/\e.1<n)/\0<=e.2/\e.2<n):WG n E.length (uv n E):=by
 refine⟨by unfold uv;rw[tX];simp,fun a=>?_,fun a d b c=>?_⟩
 ·grind [Ob,GM,uv]
 grind [JN]
inductive zB (L:Gr):Int->Int->Prop
 |refl (a:Int):zB L a a
 |step {a b c:Int} (h:b∈L.at a) (k:zB L b c):zB L a c
def Rc L a b:=∃c,c∈L.at a/\zB L c b
theorem zB.trans{L a b c}(h:zB L a b)(k:zB L b c):zB L a c:=by
 induction h<;>grind [step]
theorem Rc.trans{L a b c}(h:Rc L a b)(k:Rc L b c):Rc L a c:=by
 obtain⟨d,g,i⟩:=h;obtain⟨e,j,f⟩:=k;exact⟨d,g,i.trans (.step j f)⟩
theorem Rc.step{L a b c}(h:Rc L a b)(k:c∈L.at b):Rc L a c:=h.trans ⟨c,k, .refl c⟩
theorem Rc.mono{L M}(h: ∀a b,0<=a->b∈L.at a->b∈M.at a/\0<=b){a b}(g:0<=a)(k:Rc L a b):Rc M a b:=by
 obtain⟨c,f,i⟩:=k;have st: ∀{x y:Int},zB L x y->0<=x->zB M x y:=fun{x y} k=>by
  induction k with
  |refl=>intro _;exact .refl _
  |step e _ j=>intro d;exact .step (h _ _ d e).1 (by grind)
 exact⟨c,by grind,by grind⟩
theorem Rc.ll{n m L}(e:WG n m L){a b}(f:0<=a)(h:Rc L a b):0<=b/\b<n:=by
 obtain⟨c,d,g⟩:=h;have:=e.ll a f c d
 clear d;induction g with
 |refl=>grind
 |step h _ i=>exact i (e.ll _ this.1 _ h)
def fM(l:List Int):Int:=l.getLastD 0
def Mu(L:Gr):Nat->List Int->List Int->List Int
 |0,_,a=>a
 |_+1,[],a=>a
 |f+1,t::todo,a=>bif a.contains (fM (t::todo)) then Mu L f (t::todo).dropLast a else Mu L f ((t::todo).dropLast++L.at (fM (t::todo))) (a++[fM (t::todo)])
def iH n:=(List.range n).map fun(k:Nat)=>(k:Int)
theorem jc{n a}:a∈iH n↔0<=a/\a<n:=by
 simp[iH];refine⟨?_,fun h=>⟨a.toNat,by omega,by omega⟩⟩;omega
theorem nh{α:Type}{p q}: ∀{l:List α},(∀x,x∈l->p x=true->q x=true)->(∃x,x∈l/\q x=true/\p x=false)->l.countP p<l.countP q
 |[],_,h=>by grind
 | a::l,h,⟨x,b,d,c⟩=>by
  have f:=List.countP_mono_left (l:=l) (p:=p) (q:=q) (by grind);simp only[List.countP_cons];rcases List.mem_cons.1 b with rfl|b
  ·grind
  ·have e:=nh (l:=l) (by grind) ⟨x,b,d,c⟩
   grind
def Bl n(a:List _):=(iH n).countP fun x=>!a.contains x
theorem DJ n a:Bl n a<=n:=by
 grind [List.countP_le_length,iH,Bl]
theorem KT{n:Nat}{a}{b:Int}(c:0<=b/\b<n)(e:a.contains b=false) l(d:b∈l):Bl n (a++l)<Bl n a:=by
 refine nh (fun x _ h=>?_) ⟨b,jc.2 c,by grind,by grind⟩
 grind
def ms n m(todo a:List Int):=Bl n a*(m+1)+todo.length
theorem pA{t todo}:fM (t::todo)∈t::todo:=by
 grind [fM]
theorem Ai{t todo}:(t::todo).dropLast++[fM (t::todo)]=t::todo:=by
 grind [fM,List.dropLast_concat_getLast]
theorem Cu n m t todo a:ms n m (t::todo).dropLast a<ms n m (t::todo) a:=by
 grind [ms]
theorem Ct{n m L}(e:WG n m L) t todo a(c:0<=fM (t::todo)/\fM (t::todo)<n)(b:a.contains (fM (t::todo))=false):
  ms n m ((t::todo).dropLast++L.at (fM (t::todo))) (a++[fM (t::todo)])<ms n m (t::todo) a:=by
 unfold ms;have d:=KT c b [fM (t::todo)] (by simp);have g:=e.le (fM (t::todo));have f:=Nat.mul_le_mul_right (m+1) d
 grind
structure Sd(n m:Nat)(todo met:List Int):Prop where
 ht: ∀x,x∈todo->0<=x/\x<n
 hm: ∀x,x∈met->0<=x/\x<n
 le:todo.length+Bl n met*m<=(n+1)*m
theorem Sd.pop{n m t todo a}(h:Sd n m (t::todo) a):Sd n m (t::todo).dropLast a:=
 ⟨fun x b=>h.ht x (List.dropLast_subset _ b),h.hm,by have:=h.le;grind⟩
theorem Sd.add{n m L}(d:WG n m L){t todo a}(h:Sd n m (t::todo) a)(g:a.contains (fM (t::todo))=false):Sd n m ((t::todo).dropLast++L.at (fM (t::todo))) (a++[fM (t::todo)]):=by
 have c:=h.ht _ pA;refine⟨fun x b=>?_,fun x b=>?_,?_⟩
 ·rcases List.mem_append.1 b with b|b
  ·exact h.ht x (List.dropLast_subset _ b)
  ·exact d.ll _ c.1 x b
 ·rcases List.mem_append.1 b with b|b
  ·exact h.hm x b
  grind
 ·have e:=KT c g [fM (t::todo)] (by simp)
  have j:=d.le (fM (t::todo));have f:=Nat.mul_le_mul_right m (show Bl n (a++[fM (t::todo)])+1<=Bl n a from e);rw[Nat.add_mul] at f;have i:=h.le
  grind
theorem Sd.start{n m L}(b:WG n m L){a}(d:0<=a):Sd n m (L.at a) []:=
 ⟨fun x c=>b.ll a d x c,by simp,by
  have f:=b.le a;have e:=Nat.mul_le_mul_right m (DJ n [])
  grind⟩
theorem tc{n m L}(b:WG n m L): ∀f g todo a,Sd n m todo a->ms n m todo a<=f->ms n m todo a<=g->Mu L f todo a=Mu L g todo a
 |0,g,todo,a,_,h,_=>by
  have:todo=[]:=by unfold ms at h;simp_all
  subst this;cases g<;>rfl
 |f+1,0,todo,a,_,_,h=>by
  have:todo=[]:=by unfold ms at h;simp_all
  subst this;rfl
 |f+1,g+1,[],a,_,_,_=>rfl
 | f+1,g+1,t::todo,a,c,e,i=>by
  rw[Mu,Mu];cases d:a.contains (fM (t::todo)) with
  |true=>
   have:=Cu n m t todo a
   rw[aD2,aD2];exact tc b f g _ _ c.pop (by omega) (by omega)
  |false=>
   have:=Ct b t todo a (c.ht _ pA) d
   exact tc b f g _ _ (c.add b d) (by omega) (by omega)
def yU n m L todo a:=Mu L (ms n m todo a) todo a
theorem Fo n m L a:yU n m L [] a=a:=by
 unfold yU;cases ms n m _ _<;>rfl
theorem Mv{n m L}(b:WG n m L){t todo a}(c:Sd n m (t::todo) a):
  yU n m L (t::todo) a=bif a.contains (fM (t::todo)) then yU n m L (t::todo).dropLast a else yU n m L ((t::todo).dropLast++L.at (fM (t::todo))) (a++[fM (t::todo)]):=by
 have e:ms n m (t::todo) a=ms n m (t::todo) a - 1+1:=by rfl
 unfold yU;rw[e,Mu];cases d:a.contains _ with
 |true=>
  have:=Cu n m t todo a
  exact tc b _ _ _ _ c.pop (by omega) (Nat.le_refl _)
 |false=>
  have:=Ct b t _ _ (c.ht _ pA) d
  exact tc b _ _ _ _ (c.add b d) (by omega) (Nat.le_refl _)
theorem CU{n m L}(g:WG n m L)(P:Int->Prop)(l: ∀x y,P x->y∈L.at x->P y): ∀f todo b,Sd n m todo b->ms n m todo b<=f->(∀x,x∈todo\/x∈b->P x)->(∀x,x∈b->∀y,y∈L.at x->y∈b\/y∈todo)->
  (∀x,x∈Mu L f todo b->P x)/\(∀x,x∈todo\/x∈b->x∈Mu L f todo b)/\∀x,x∈Mu L f todo b->∀y,y∈L.at x->y∈Mu L f todo b
 |0,todo,b,_,h,c,d=>by
  have:todo=[]:=by unfold ms at h;exact List.eq_nil_of_length_eq_zero (by omega)
  subst this;exact⟨fun x a=>c x (.inr a),fun x a=>a.resolve_left (by simp),fun x a y e=>(d x a y e).resolve_right (by simp)⟩
 |f+1,[],b,_,_,c,d=>⟨fun x a=>c x (.inr a),fun x a=>a.resolve_left (by simp),fun x a y e=>(d x a y e).resolve_right (by simp)⟩
 | f +1,t::todo,b,j,h,c,d=>by
  have hd: ∀x,x∈t::todo->x∈(t::todo).dropLast\/x=fM (t::todo):=fun x a=>by
   rw[←Ai (t:=t) (todo:=todo)] at a;simpa using a
  rw[Mu];cases k:b.contains (fM (t::todo)) with
  | true=>
   have r:fM (t::todo)∈b:=by simpa using k
   have:=Cu n m t todo b
   rw[aD2];obtain⟨p,i,q⟩:=CU g P l f (t::todo).dropLast b j.pop (by omega) (fun x a=>c x (a.imp (fun h=>List.dropLast_subset _ h) id)) (fun x a y e=>by
    rcases d x a y e with h|h
    ·exact .inl h
    ·rcases hd y h with h|rfl
     ·exact .inr h
     ·exact .inl r)
   refine⟨p,fun x a=>?_,q⟩;rcases a with a|a
   ·rcases hd x a with h|rfl
    ·exact i x (.inl h)
    ·exact i _ (.inr r)
   ·exact i x (.inr a)
  | false=>
   have:=Ct g t todo b (j.ht _ pA) k
   have o:=c _ (.inl (pA (t:=t) (todo:=todo)));rw[aD0];obtain⟨p,i,q⟩:=CU g P l f _ _ (j.add g k) (by omega) (fun x a=>by
    rcases a with a|a
    ·rcases List.mem_append.1 a with a|a
     ·exact c x (.inl (List.dropLast_subset _ a))
     ·exact l _ _ o a
    ·rcases List.mem_append.1 a with a|a
     ·exact c x (.inr a)
     ·rw[List.mem_singleton] at a;rw[a];exact o) (by grind)
   grind
def iV n m L a:=yU n m L (L.at a) []
theorem nU{n m L}(d:WG n m L){a b}(f:0<=a):b∈iV n m L a↔Rc L a b:=by
 obtain⟨j,g,q⟩:=CU d (Rc L a) (fun x y h k=>h.step k) _ _ _ (Sd.start d f) (Nat.le_refl _) (fun x p=>⟨x,by grind, .refl x⟩) (by simp);refine⟨j b,?_⟩;rintro⟨c,e,i⟩;have l:=g c (.inl e);clear e;induction i with
 |refl=>exact l
 |step h _ o=>grind
def iz n m L a b:=decide (a=b)||(iV n m L a).contains b&&(iV n m L b).contains a
theorem sU{n m L}(d:WG n m L){a b}(e:0<=a)(c:0<=b):iz n m L a b=true↔a=b\/Rc L a b/\Rc L b a:=by
 grind [iz,nU]
theorem Pq n m L a:iz n m L a a=true:=by simp[iz]
theorem yo n m L a b:iz n m L a b=iz n m L b a:=by
 simp[iz,Bool.and_comm,eq_comm]
theorem qv{n m L}(d:WG n m L){a b c}(f:0<=a)(e:0<=b)(g:0<=c)(h:iz n m L a b=true)(k:iz n m L b c=true):iz n m L a c=true:=by
 rw[sU d f e] at h;rw[sU d e g] at k;rw[sU d f g];rcases h with rfl|⟨i,j⟩
 ·grind
 ·rcases k with rfl|⟨l,o⟩
  ·grind
  ·exact .inr ⟨i.trans l,o.trans j⟩
section
variable {n m:Nat} {L:Gr}
def dY n m L a:=(iH n).filter (iz n m L a)
def iG n m L(done:List Int) a:=!done.contains a&&(iV n m L a).all fun b=>done.contains b||iz n m L a b
def dL n m L done:=((iH n).find? (iG n m L done)).getD (-1)
def sa(done l:List Int):=l.foldl (fun d b=>bif d.contains b then d else d++[b]) done
def zG(n m:Nat)(L:Gr):Nat->List Int->List (List Int)
 |0,_=>[]
 |f+1,done=>bif decide (dL n m L done<0) then[] else dY n m L (dL n m L done)::zG n m L f (sa done (dY n m L (dL n m L done)))
theorem ku: ∀l done x,x∈sa done l↔x∈done\/x∈l
 |[],done,x=>by simp[sa]
 |b::l,done,x=>by
  have a:=ku l (bif done.contains b then done else done++[b]) x
  grind [sa]
theorem qw{done}(h:0<=dL n m L done):(0<=dL n m L done/\dL n m L done<n)/\iG n m L done (dL n m L done)=true:=by
 unfold dL at h⊢;cases e:(iH n).find? _<;>grind [jc]
theorem L9{done}(h:dL n m L done<0): ∀a:Int,0<=a->a<n->iG n m L done a=false:=by
 intro a b c;unfold dL at h;cases e:(iH n).find? (iG n m L done)<;>grind [jc]
theorem JJ(e:WG n m L){done}{a:Int}(c:0<=a/\a<n)(d:a∉done):0<=dL n m L done:=by
 let R:Int->Int->Bool:=fun a x=>!done.contains x&&(decide (x=a)||(iV n m L a).contains x)
 have q: ∀(k:Nat) (a:Int),0<=a/\a<n->a∉done->(iH n).countP (R a)<=k->∃b:Int,(0<=b/\b<n)/\iG n m L done b=true:=by
  intro k;induction k with
  |zero=>
   intro a c d h;have:0<(iH n).countP (R a):=List.countP_pos_iff.2 ⟨a,jc.2 c,by simp[R,d]⟩
   omega
  | succ k s=>
   intro a c d h;by_cases r:iG n m L done a=true
   ·exact⟨a,c,r⟩
   ·have: ∃b,b∈iV n m L a/\b∉done/\iz n m L a b=false:=by
     simp only[iG,aC6,Bool.not_eq_true',List.all_eq_true,not_and,List.contains_eq_mem,aC7,aD9,at3] at r;have g:=r d;simp only[Classical.not_forall,not_or,Bool.not_eq_true] at g;obtain⟨b,f,p⟩:=g;exact⟨b,f,p⟩
    obtain⟨b,f,p,t⟩:=this;have l:=(nU e c.1).1 f;have j:=l.ll e c.1;refine s b j p (Nat.le_of_lt_succ (Nat.lt_of_lt_of_le (nh (fun x _ i=>?_) ⟨a,jc.2 c,by simp[R,d],?_⟩) h))
    ·simp only[R,aC6,aD9,at3,List.contains_eq_mem,nU e c.1,nU e j.1] at i⊢
     refine⟨i.1, .inr ?_⟩;rcases i.2 with rfl|i
     ·exact l
     ·exact l.trans i
    ·have o:=t
     rw[Bool.eq_false_iff,Ne,sU e c.1 j.1,not_or] at o;rw[Bool.eq_false_iff];simp only[R,Ne,aC6,aD9,at3,List.contains_eq_mem,nU e j.1,not_and,not_or];exact fun _=>⟨o.1,fun h=>o.2 ⟨l,h⟩⟩
 obtain⟨b,g,f⟩:=q _ a c d (Nat.le_refl _);rcases Int.lt_or_le (dL n m L done) 0 with h|h
 ·rw[L9 h b g.1 g.2] at f;cases f
 ·exact h
theorem wH{a b}:b∈dY n m L a↔(0<=b/\b<n)/\iz n m L a b=true:=by
 unfold dY;rw[List.mem_filter,jc]
theorem qM{done}(h:0<=dL n m L done):Bl n (sa done (dY n m L (dL n m L done)))<Bl n done:=by
 obtain⟨b,a⟩:=qw h;have c:=by
  simp only[iG,aC6,Bool.not_eq_true'] at a;exact a.1
 refine nh (fun x _ d=>?_) ⟨dL n m L done,jc.2 b,by simpa using c,?_⟩
 ·simp_all[ku,not_or]
 simp_all[at3,ku,wH,Pq]
theorem Ar: ∀f g done,Bl n done<f->Bl n done<g->zG n m L f done=zG n m L g done
 |0,_,_,h,_=>by omega
 |_+1,0,_,_,h=>by omega
 | f+1,g+1,done,b,a=>by
  rw[zG,zG];cases h:decide (dL n m L done<0) with
  |true=>rfl
  |false=>
   have:=qM     (by simpa using h)
   rw[aD0,aD0,Ar f g _ (by omega) (by omega)]
def mm n m L done:=zG n m L (Bl n done+1) done
theorem pw done:mm n m L done=bif decide (dL n m L done<0) then[] else dY n m L (dL n m L done)::mm n m L (sa done (dY n m L (dL n m L done))):=by
 unfold mm;rw[zG];cases h:decide (dL n m L _<0) with
 |true=>rfl
 |false=>
  have:=qM     (by simpa using h)
  rw[aD0,aD0,Ar _ _ _ (by omega) (Nat.lt_succ_self _)]
def N0(n m:Nat) L(done:List _):=∀a b:Int,0<=a->0<=b->b<n->a∈done->iz n m L a b=true->b∈done
theorem FE(i:WG n m L){done}(h:N0 n m L done)(j:0<=dL n m L done):N0 n m L (sa done (dY n m L (dL n m L done))):=by
 intro a b e f g c d;rw[ku] at c⊢;rcases c with c|c
 ·exact .inl (h a b e f g c d)
 grind [wH,qv]
end
end Go.Rl
namespace Go.Proofs.YtioeffnadipbaaaGreatDoor
open Go Go.Dn Go.Rl Go.Proofs
attribute [local irreducible] a8 vc
set_option maxRecDepth 20000
def ko(op:Int):Bool:=decide (op=1)
def jn(a:Int):=bif decide (a=2) then true else decide (a>=7)
def cQ(a:Int):=bif decide (a<3) then true else decide (a>6)
theorem yKa κ op K:(a8 (ECs κ) 12 90 [.int op] [] K)=(
 K (AV.bool (op==1)) []):=by kernel_rfl
def gKa:List AV->Option (Bool×AV)
 |[.lit (.int .i64 a)]=>some (true, .bool (ko a))
 |_=>none
theorem pKa κ:cm (ECs κ) 12 90 gKa:=by
 intro b x a;unfold gKa at a;split at a
 ·rename_i c
  simp   at a;subst a;exact⟨_,rfl,rfl,Eq.mpr (yKa κ _ _) (by rfl)⟩
 grind
noncomputable def EKa κ:=(ECs κ).aO 90 gKa
theorem eKa κ:aE (EKa κ):=(eCs _).aO (mCs _) (pKa _)
theorem mKa κ:aj (EKa κ):=(mCs _).aO
theorem yKb κ op K:(a8 (EKa κ) 12 88 [.int op] [] K)=(
 aq (op==2) (K (AV.bool true) []) (K (AV.bool (decide (op>=7))) [])):=by kernel_rfl
def gKb:List AV->Option (Bool×AV)
 |[.lit (.int .i64 a)]=>some (true, .bool (jn a))
 |_=>none
theorem pKb κ:cm (EKa κ) 12 88 gKb:=by
 intro b x a;unfold gKb at a;split at a
 ·rename_i c
  simp   at a;subst a;refine⟨_,rfl,rfl,Eq.mpr (yKb _ _ _) ?_⟩;simp[ZB];unfold jn;cases decide (c=2)<;>rfl
 grind
noncomputable def EKb κ:=(EKa κ).aO 88 gKb
theorem eKb κ:aE (EKb κ):=(eKa _).aO (mKa _) (pKb _)
theorem mKb κ:aj (EKb κ):=(mKa _).aO
theorem yKc κ(a:LA) K:(a8 (EKb κ) 12 130 [a.av] [] K)=(
 aq (decide (a.op<3)) (K (AV.bool true) []) (K (AV.bool (decide (a.op>6))) [])):=by kernel_rfl
def gKc:List AV->Option (Bool×AV)
 |[.agg [.lit (.int .i64 a), .agg [.lit (.string _), .ah 38 _], .agg [.lit (.int .i64 _), .lit (.string _), .lit (.int .i64 _), .ah 38 _], .agg [.lit (.int .i64 _), .lit (.string _), .lit (.int .i64 _), .ah 38 _]]]=>some (true, .bool (cQ a))
 |_=>none
theorem pKc κ:cm (EKb κ) 12 130 gKc:=by
 intro b x a;unfold gKc at a;split at a
 ·rename_i c s l e s1 f g h s2 i d
  simp only[aC8,aD4,true_and] at a;subst a;refine⟨_,rfl,rfl,Eq.mpr (yKc κ ⟨c,s,l,e,s1,f,g,h,s2,i,d⟩ _) ?_⟩;unfold cQ;simp only;cases decide (c<3)<;>rfl
 ·cases a
noncomputable def SM κ:=(EKb κ).aO 130 gKc
theorem eKc κ:aE (SM κ):=(eKb _).aO (mKb _) (pKc _)
theorem mKc κ:aj (SM κ):=(mKb _).aO
theorem xKd κ l k i I n K:(vc (SM κ) 12 131 none 0 (ad (Pr κ).toProgram 131 2) (sp 19 [(0, .ah 3 l),(1, .int k),(7, .int l.length),(8, .int i)] []) (bg (SM κ) 131 2 0 I n K))=(
 letI a:=i<↑(l.length)
 aq (decide a) (aW (decide (0<=i)&&decide a) (aq (k==toInt (nth l i.toNat)) (K .ret (sp 19 [(4,AV.int i)] [])) (∃e0,e0<n/\I e0
 (sp 19 [(0,.ah 3 l),(1,AV.int k),(7,AV.int ↑(l.length)),(8,AV.int (IntKind.wrap .i64 (i+1)))] [])))) (K (.exit 0) (sp 19
 [] []))):=by kernel_rfl
def iN(k:Int):List AV->Int->Int
 |[],_=> -1
 |a::l,i=>bif decide (k=toInt a) then i else iN k l (i+1)
abbrev ao8(a:List _×Int×Int):=sp 19 [(0, .ah 3 a.1),(1, .int a.2.1),(7, .int a.1.length),(8, .int a.2.2)] []
def QL(a:List AV×Int×Int):=a.1.length<=aX/\0<=a.2.2/\a.2.2<=a.1.length
def J0(a:List AV×Int×Int):Out (Exit×S):= .aq (decide (iN a.2.1 (a.1.drop a.2.2.toNat) a.2.2>=0)) (.one (.ret,sp 19 [(4, .int (iN a.2.1 (a.1.drop a.2.2.toNat) a.2.2))] [])) (.one (.exit 0,sp 19 [] []))
theorem lKd κ:aU (SM κ) 12 131 2 (aG 0 ao8 QL J0):=by
 refine aC (fun a=>a.1.length - a.2.2.toNat) ?_;rintro⟨l,s,i⟩ K ⟨d,c,g⟩ b;simp only at d c g;rw[show(SM κ).P=Pr κ from rfl];refine Eq.mpr (xKd κ l s i _ _ K) ?_;simp only[aX] at d;simp only[J0,Out.run,ae] at b;simp only[ae,ai,at3,aC7,aC6,beq_iff_eq,beq_eq_false_iff_ne];refine⟨fun f=>⟨⟨c,f⟩,fun e=>?_,fun e=>?_⟩,fun f=>?_⟩
 ·rw[aD6 (show i.toNat<l.length by omega),←aV l i.toNat (by omega),iN,aD1 e,aD2,aD1 (show i>=0 from c)] at b
  exact b.1 rfl
 ·rw[az (n:=i+1) (by omega) (by omega)]
  refine⟨_,?_,(l,s,i+1),rfl,⟨by simpa[aX] using d,by simp only;omega,by simp only;omega⟩,rfl,?_⟩
  ·simp only;omega
  ·rw[aD6 (show i.toNat<l.length by omega),←aV l i.toNat (by omega),iN,aC9 e,aD0] at b
   simp only[J0,Out.run,ae,show(i+1).toNat=i.toNat+1 by omega];exact b
 ·rw[aD3 (by omega)] at b
  exact b.2 rfl
noncomputable def EKd κ:=(SM κ).an 131 2 (aG 0 ao8 QL J0)
theorem eKd κ:aE (EKd κ):=(eKc _).an (mKc _) (lKd _)
theorem mKd κ:aj (EKd κ):=(mKc _).an aK
theorem yKe κ l k K:(a8 (EKd κ) 12 131 [.ah 3 l, .int k] [] K)=(
 letI b:=AV.int
 ad (Pg.toProgram (Env.P (SM κ))) 131 2=ad (Pg.toProgram (Env.P (SM κ))) 131 2/\∃(a:List AV×Int×Int),letI c:=List.drop (Int.toNat a.2.2) a.1;sp 19 [(0,.ah 3 l),(1,b k),(7,b ↑(l.length)),(8,b 0)] []=sp 19 [(0,.ah 3 a.1),(1,b a.2.1),(7,b ↑(a.1.length)),(8,b a.2.2)] []/\(a.1.length<=9223372036854775807/\0<=a.2.2/\a.2.2<=↑(a.1.length))/\aq (decide (iN a.2.1 c a.2.2>=0)) (K (b (iN a.2.1 c a.2.2)) []) (K (b (-1)) [])):=by kernel_rfl
def gKe:List AV->Option (Bool×AV)
 |[.ah 3 l, .lit (.int .i64 k)]=>some (decide (l.length<=aX), .int (iN k l 0))
 |_=>none
theorem yM s: ∀l i,¬ iN s l i>=0->0<=i->iN s l i= -1
 |[],_,_,_=>rfl
 |a::l,i,h,b=>by
  simp only[iN] at h⊢;cases e:decide (s=toInt a) with
  |true=>grind
  |false=>rw[e] at h;exact yM s l _ h (by omega)
theorem pKe κ:cm (EKd κ) 12 131 gKe:=by
 intro b x a;unfold gKe at a;split at a
 ·rename_i l s
  simp only[aC8,aD4,at3] at a;obtain⟨c,rfl⟩:=a;refine⟨_,rfl,rfl,?_⟩;refine Eq.mpr (yKe κ l s _) ?_;refine⟨rfl,(l,s,0),rfl,⟨c,by simp only;omega,by simp only;omega⟩,?_⟩
  simp_all[Int.toNat_zero,aD5,ae,at3,trivial,yM]
 ·cases a
noncomputable def EKe κ:=(EKd κ).aO 131 gKe
theorem eKe κ:aE (EKe κ):=(eKd _).aO (mKd _) (pKe _)
theorem mKe κ:aj (EKe κ):=(mKd _).aO
theorem yKf κ l k K:(a8 (EKe κ) 12 85 [.ah 3 l, .int k] [] K)=(
 aW (decide (l.length<=9223372036854775807)) (K (AV.bool (decide (iN k l 0>=0))) [])):=by kernel_rfl
def inI k l:=decide (iN k l 0>=0)
def gKf:List AV->Option (Bool×AV)
 |[.ah 3 l, .lit (.int .i64 k)]=>some (decide (l.length<=aX), .bool (inI k l))
 |_=>none
theorem pKf κ:cm (EKe κ) 12 85 gKf:=by
 intro b x a;unfold gKf at a;split at a
 ·rename_i l s
  simp   at a;obtain⟨c,rfl⟩:=a;refine⟨_,rfl,rfl,?_⟩;refine Eq.mpr (yKf _ l s _) ?_;rw[ai,at3];exact⟨c,rfl⟩
 grind
noncomputable def SN κ:=(EKe κ).aO 85 gKf
theorem eKf κ:aE (SN κ):=(eKe _).aO (mKe _) (pKf _)
theorem mKf κ:aj (SN κ):=(mKe _).aO
theorem AY k: ∀l i,0<=i->(iN k (iA l) i>=0↔k∈l)
 |[],_,_=>by simp[iA,iN]
 |a::l,i,c=>by
  have b:=AY k l (i+1) (by omega);simp only[iA,aE4,iN] at b⊢
  grind [toInt]
theorem OQ k l:inI k (iA l)=l.contains k:=by
 grind [inI,AY]
def G6(ds:List AV)(a:Int):List AV->List (Int×Int)
 |[]=>[]
 |l::b=>bif cQ (toInt (af l 0)) then(a,bu (toStr (af (af l 1) 0)) ds)::G6 ds a b else G6 ds a b
def edR ds r:=G6 ds (bu (toStr (af (af r 0) 0)) ds) (ag (af r 1))
def Aj(ds rs:List _):=rs.flatMap (edR ds)
def Gk(E:List (Int×Int)):List AV:=E.map fun e=> .aH [.int e.1, .int e.2]
theorem TK E F:Gk (E++F)=Gk E++Gk F:=by simp[Gk]
structure R9 where
 ds:List AV
 rs:List AV
 xs:List AV
 more:List AV
 bl:List AV
 a:Int
 i:Int
 j:Int
abbrev Rt(x:R9):=sp 53 [(0, .cn 0),(1, .ptr 1 0 [] 0),(5, .int x.a),(12, .ah 48 x.rs),(13, .int x.rs.length),(14, .int x.i),(28, .ah 80 x.bl),(29, .int x.bl.length),(30, .int x.j)] [.ext (some x.xs), .box 25 (eg x.ds x.rs)]
theorem xKg(κ:Kp)(x:R9)(I:Nat->S->Prop)(n:Nat)(K:Exit->S->Prop):(vc (SN κ) 12 129 none 2 (ad (Pr κ).toProgram 129 5) (Rt x) (bg (SN κ) 129 5 2 I n K))=(
 letI a:=AV.int
 letI b:=Obj.box
 letI c:=Obj.ext
 letI d:=AV.ah
 letI e:=AV.agg [d 43 x.ds,d 48 x.rs]
 letI g:=IntKind.wrap IntKind.i64 (x.j+(1:Int))
 letI f:=x.bl.length
 aq (decide (x.j<(↑f:Int))) (aW (decide ((0:Int)<=x.j)&&decide (x.j<(↑f:Int))) (aq (!cQ (toInt (af (nth x.bl x.j.toNat) 0))) (∃(e0:Nat),e0<n
 /\I e0 (sp 53 [(0,AV.cn 0),(1,AV.ptr 1 0 [] 0),(5,a x.a),(12,d 48 x.rs),(13,a (↑(x.rs.length):Int)),(14,a x.i),(28,d 80
 x.bl),(29,a (↑f:Int)),(30,a g)] [c (some x.xs),b 25 e])) (∃(e2:List AV×ByteArray),([d 43 x.ds,AV.str (toStr (af (af
 (nth x.bl x.j.toNat) 1) 0))],aR)=([d 43 e2.1,AV.str e2.2],aR)/\gZ e2/\∃(e1:List AV),x.xs=AV.aH [a x.a,a (bu e2.2 e2.1)]::e1/\(∃
 (e0:Nat),e0<n/\I e0 (sp 53 [(0,AV.cn 0),(1,AV.ptr 1 0 [] 0),(5,a x.a),(12,d 48 x.rs),(13,a (↑(x.rs.length):Int)),(14,a
 x.i),(28,d 80 x.bl),(29,a (↑f:Int)),(30,a g)] [c (some e1),b 25 e]))/\K Exit.ret (sp 53 [] [c none,b 25
 e])))) (K (Exit.exit 2) (sp 53 [(0,AV.cn 0),(1,AV.ptr 1 0 [] 0),(12,d 48 x.rs),(13,a (↑(x.rs.length):Int)),(14,a x.i)] [c (some
 x.xs),b 25 e]))):=by kernel_rfl
def Ih(x:R9):=x.ds.length<=aX/\x.bl.length<=aX/\0<=x.j/\x.j<=x.bl.length/\x.xs=Gk (G6 x.ds x.a (x.bl.drop x.j.toNat))++x.more
def P3(x:R9):Out (Exit×S):= .all (fun _=>True) fun b=> .aq b
 (.one (.exit 2,sp 53 [(0, .cn 0),(1, .ptr 1 0 [] 0),(12, .ah 48 x.rs),(13, .int x.rs.length),(14, .int x.i)] [.ext (some x.more), .box 25 (eg x.ds x.rs)]))
 (.one (.ret,sp 53 [] [.ext none, .box 25 (eg x.ds x.rs)]))
theorem Oo ds a b k(h:k<b.length):G6 ds a (b.drop k)=bif cQ (toInt (af (nth b k) 0)) then(a,bu (toStr (af (af (nth b k) 1) 0)) ds)::G6 ds a (b.drop (k+1)) else G6 ds a (b.drop (k+1)):=by
 grind [List.drop_eq_getElem_cons,aV,G6]
theorem lKg κ:aU (SN κ) 12 129 5 (aG 2 Rt Ih P3):=by
 refine aC (fun x=>x.bl.length - x.j.toNat) ?_;rintro⟨ds,l,xs,b,d,a,i,j⟩ K ⟨p,q,s,t,c⟩ o;simp only at p q s t c;rw[show(SN κ).P=Pr κ from rfl];refine Eq.mpr (xKg κ ⟨ds,l,xs,b,d,a,i,j⟩ _ _ K) ?_;simp only[aX] at q;have f:=o true trivial;have h:=o false trivial;simp only[Out.run,aq] at f h;simp only[ae,ai,at3,aC7,aC6];refine⟨fun r=>⟨⟨s,r⟩,?_⟩,fun r=>?_⟩
 ·have hd:=Oo ds a d j.toNat (by omega)
  rw[hd] at c;rw[az (n:=j+1) (by omega) (by omega)];have g: ∀k,k=Gk (G6 ds a (d.drop (j.toNat+1)))++b->∃m,m<d.length - j.toNat/\eW Rt Ih P3 (fun x=>x.bl.length - x.j.toNat) K m (Rt ⟨ds,l,k,b,d,a,i,j+1⟩):=fun k u=>by
   refine⟨_,?_,⟨ds,l,k,b,d,a,i,j+1⟩,rfl,⟨p,by simpa[aX] using q,by simp only;omega,by simp only;omega,?_⟩,rfl,o⟩
   ·simp only;omega
   ·simp only[show(j+1).toNat=j.toNat+1 by omega];exact u
  refine⟨fun e=>?_,fun e=>?_⟩
  ·grind
  ·rw[show cQ (toInt (af (nth d j.toNat) 0))=true by simpa using e] at c
   exact⟨(ds,toStr (af (af (nth d j.toNat) 1) 0)),rfl,p,_,c,g _ rfl,h⟩
 ·rw[aD3 (by omega)] at c
  have c:xs=b:=c;subst c;exact f
noncomputable def SO κ:=(SN κ).an 129 5 (aG 2 Rt Ih P3)
theorem eKg κ:aE (SO κ):=(eKf _).an (mKf _) (lKg _)
theorem mKg κ:aj (SO κ):=(mKf _).an aK
abbrev UI(x:R9):=sp 53 [(0, .cn 0),(1, .ptr 1 0 [] 0),(12, .ah 48 x.rs),(13, .int x.rs.length),(14, .int x.i)] [.ext (some x.xs), .box 25 (eg x.ds x.rs)]
theorem xKh κ x I n K:(vc (SO κ) 12 129 none 2 (ad (Pr κ).toProgram 129 1) (UI x) (bg (SO κ) 129 1 2 I n K))=(
 letI a:=AV.int
 letI b:=Obj.box
 letI c:=Obj.ext
 letI d:=AV.ah
 letI g:=.agg [d 43 x.ds,d 48 x.rs]
 letI e:=nth x.rs x.i.toNat
 letI h:=x.i<↑(x.rs.length)
 letI i:=Pg.toProgram (Env.P (SN κ))
 aq (decide h) (aW (decide (0<=x.i)&&decide h) (∃e3,([d 43 x.ds,AV.str (toStr (af (af e 0) 0))],aR)=([d 43 e3.1,AV.str e3.2],aR)/\gZ e3/\ad i 129 5=ad i 129 5/\∃(e2:R9),letI f:=AV.agg [d 43 e2.ds,d 48 e2.rs];sp 53 [(0,AV.cn 0),(1,AV.ptr 1 0 [] 0),(5,a (bu e3.2 e3.1)),(12,d 48 x.rs),(13,a (↑(x.rs.length):Int)),(14,a x.i),(28,d 80 (ag (af e 1))),(29,a (↑(List.length (ag (af e 1))):Int)),(30,a 0)] [c (some x.xs),b 25 g]=sp 53 [(0,AV.cn 0),(1,AV.ptr 1 0 [] 0),(5,a e2.a),(12,d 48 e2.rs),(13,a (↑(e2.rs.length):Int)),(14,a e2.i),(28,d 80 e2.bl),(29,a (↑(e2.bl.length):Int)),(30,a e2.j)] [c (some e2.xs),b 25 f]/\(e2.ds.length<=9223372036854775807/\e2.bl.length<=9223372036854775807/\(0:Int)<=e2.j/\e2.j<=(↑(e2.bl.length):Int)/\e2.xs=Gk (G6 e2.ds e2.a (List.drop e2.j.toNat e2.bl))++e2.more)/\∀(e1:Bool),True->aq e1 (∃(e0:Nat),e0<n/\I e0 (sp 53 [(0,AV.cn 0),(1,AV.ptr 1 0 [] 0),(12,d 48 e2.rs),(13,a (↑(e2.rs.length):Int)),(14,a (IntKind.wrap IntKind.i64 (e2.i+(1:Int))))] [c (some e2.more),b 25 f])) (K Exit.ret (sp 53 [] [c none,b 25 f])))) (K (Exit.exit 0) (sp 53 [] [c (some x.xs),b 25 g]))):=by kernel_rfl
def Oe(a:List _):=∀r,r∈a->(ag (af r 1)).length<=aX
def Ii(x:R9):=x.ds.length<=aX/\x.rs.length<=aX/\Oe x.rs/\0<=x.i/\x.i<=x.rs.length/\x.xs=Gk (Aj x.ds (x.rs.drop x.i.toNat))
def P4(x:R9):Out (Exit×S):= .all (fun _=>True) fun b=> .aq b
 (.one (.exit 0,sp 53 [] [.ext (some []), .box 25 (eg x.ds x.rs)]))
 (.one (.ret,sp 53 [] [.ext none, .box 25 (eg x.ds x.rs)]))
theorem lKh κ:aU (SO κ) 12 129 1 (aG 2 UI Ii P4):=by
 refine aC (fun x=>x.rs.length - x.i.toNat) ?_;rintro⟨ds,b,xs,c,q,a,i,j⟩ K ⟨g,h,o,p,s,d⟩ l;simp only at g h p s d o;rw[show(SO κ).P=Pr κ from rfl];refine Eq.mpr (xKh κ ⟨ds,b,xs,c,q,a,i,j⟩ _ _ K) ?_;simp only[aX] at h;have e:=l true trivial;have f:=l false trivial;simp only[Out.run,aq] at e f;simp only[ae,ai,at3,aC7,aC6];refine⟨fun r=>⟨⟨p,r⟩,(ds,toStr (af (af (nth b i.toNat) 0) 0)),rfl,g,?_⟩,fun r=>?_⟩
 ·have k:i.toNat<b.length:=by omega
  rw[Aj,aD6 k,←aV b i.toNat k,List.flatMap_cons,TK] at d;refine⟨trivial,⟨ds,b,xs,Gk (Aj ds (b.drop (i.toNat+1))),ag (af (nth b i.toNat) 1),bu (toStr (af (af (nth b i.toNat) 0) 0)) ds,i,0⟩,rfl,⟨g,?_,by simp only;omega,by simp only;omega,d⟩,?_⟩
  ·exact o _ (by rw[aV _ _ k];exact List.getElem_mem _)
  ·intro y _
   refine⟨fun _=>?_,fun _=>f⟩
   ·show∃m,m<b.length - i.toNat/\eW UI Ii P4 (fun x=>x.rs.length - x.i.toNat) K m (sp 53 [(0, .cn 0),(1, .ptr 1 0 [] 0),(12, .ah 48 b),(13, .int b.length),(14, .int (IntKind.wrap IntKind.i64 (i+1)))] [.ext (some (Gk (Aj ds (b.drop (i.toNat+1))))), .box 25 (eg ds b)])
    rw[az (n:=i+1) (by omega) (by omega)];refine⟨_,?_,⟨ds,b,_,c,q,a,i+1,j⟩,rfl,⟨g,by simpa[aX] using h,o,by simp only;omega,by simp only;omega,?_⟩,rfl,l⟩
    ·simp only;omega
    ·simp only[show(i+1).toNat=i.toNat+1 by omega];rfl
 ·rw[aD3 (by omega)] at d
  have d:xs=[]:=d;subst d;exact e
noncomputable def EKh κ:=(SO κ).an 129 1 (aG 2 UI Ii P4)
theorem eKh κ:aE (EKh κ):=(eKg _).an (mKg _) (lKh _)
theorem mKh κ:aj (EKh κ):=(mKg _).an aK
theorem yKi κ ds rs xs K:(a8 (EKh κ) 12 129 [.cn 0, .ptr 1 0 [] 0] [.ext (some xs), .box 25 (eg ds rs)] K)=(
 letI b:=Obj.box
 letI c:=Obj.ext
 letI d:=AV.ah
 ad (Pg.toProgram (Env.P (SO κ))) 129 1=ad (Pg.toProgram (Env.P (SO κ))) 129 1/\∃(a:R9),letI e:=AV.agg [d 43 a.ds,d 48 a.rs];sp 53 [(0,AV.cn 0),(1,AV.ptr 1 0 [] 0),(12,d 48 rs),(13,AV.int (↑(rs.length):Int)),(14,AV.int 0)] [c (some xs),b 25 (AV.agg [d 43 ds,d 48 rs])]=sp 53 [(0,AV.cn 0),(1,AV.ptr 1 0 [] 0),(12,d 48 a.rs),(13,AV.int (↑(a.rs.length):Int)),(14,AV.int a.i)] [c (some a.xs),b 25 e]/\(a.ds.length<=9223372036854775807/\a.rs.length<=9223372036854775807/\(∀(r:AV),List.Mem r a.rs->List.length (ag (af r 1))<=9223372036854775807)/\(0:Int)<=a.i/\a.i<=(↑(a.rs.length):Int)/\a.xs=Gk (Aj a.ds (List.drop a.i.toNat a.rs)))/\∀(y:Bool),True->aq y (K (AV.aH []) [c (some []),b 25 e]) (K (AV.aH []) [c none,b 25 e])):=by kernel_rfl
def Y2(x:zT):List AV×List Dn.Obj:=([.cn 0, .ptr 1 0 [] 0],[.ext (some (Gk (Aj x.1 x.2))), .box 25 (eg x.1 x.2)])
def Ij(x:zT):=x.1.length<=aX/\x.2.length<=aX/\Oe x.2
def P5(_:zT):Out (AV×List Dn.Obj):= .all (fun st'=>tv st') fun st'=> .one (.aH [],st')
theorem cKi κ:bd (EKh κ) 12 129 (aM Y2 Ij P5):=by
 refine aQ ?_;rintro⟨ds,b⟩ K ⟨c,d,e⟩ a;refine Eq.mpr (yKi κ ds b _ K) ?_;refine⟨rfl,⟨ds,b,_,[],[],0,0,0⟩,rfl,⟨c,d,e,by simp,by simp only;omega,rfl⟩,fun y _=>?_⟩;cases y
 ·exact a _ trivial
 ·exact a _ trivial
set_option maxRecDepth 20000 in
noncomputable def Bt(κ:Kp):Env:=(EKh κ).ax 129 (aM Y2 Ij P5)
theorem eKi κ:aE (Bt κ):=(eKh _).ax (mKh _) (cKi _)
theorem mKi κ:aj (Bt κ):=(mKh _).ax aJ
end Go.Proofs.YtioeffnadipbaaaGreatDoor
namespace Go.Proofs.YtioeffnadipbaaaGreatDoor
open Go Go.Dn Go.Rl Go.Proofs
theorem y2{f}: ∀{a},(Kb f a).2=0↔ ∀x,x∈a->f x=0
 |[]=>by simp[Kb]
 |x::l=>by
  rw[Kb];by_cases h:f x=0
  ·rw[aD1 h,aD2,y2];grind
  grind
theorem pb{ds a}:(lA ds a).2=0↔fB ds a=true/\(Ww ds ds 0).2=0/\(∀x,x∈a->ky ds x=0)/\∀x,x∈a->lM x=0:=by
 unfold lA BH;cases fB ds a with
 |false=>simp
 | true=>
  simp only[aD2,true_and];by_cases h:(Ww ds ds 0).2=0
  ·by_cases b:(Kb (ky ds) a).2=0
   ·simp_all[aD1,aD2,y2]
   ·grind [y2]
  grind
theorem O0{ds a}(h:known (cv ds) a=0):0<=bu a.rel ds/\bu a.rel ds<ds.length:=by
 unfold known at h;cases e:jX a.rel (cv ds) with
 |none=>grind
 |some k=>obtain⟨_,c,b⟩:=lD e;omega
theorem Wy{ds r}(h:(wq (ds,r)).1=0):fA (cv ds) (aL r)=0:=by
 by_cases e:fA (cv ds) (aL r)=0
 ·omega
 ·have a: ∀n,(ej getM fY _ _ (n+1) []).1=fA _ _:=fun n=>by
   rw[ej,yH _ _ _ e,aC9 e,aD0]
  grind [wq,uY]
theorem rC{ds}: ∀{b},eV ds b=0->∀l,l∈b->Rl.cQ l=true->known ds l.a=0
 |[],_,_,h,_=>nomatch h
 | x::b,d,l,c,f=>by
  rw[eV] at d;cases e:Rl.cQ x&& !decide (known ds x.a=0) with
  |true=>
   grind
  |false=>
   rw[e] at d;rcases List.mem_cons.1 c with rfl|c
   ·grind
   ·exact rC d l c f
theorem nF{ds c}(h:(lA ds c).2=0){r}(d:r∈c):(0<=bu (toStr (af (af r 0) 0)) ds/\bu (toStr (af (af r 0) 0)) ds<ds.length)/\
  ∀l,l∈ag (af r 1)->cQ (toInt (af l 0))=true->0<=bu (toStr (af (af l 1) 0)) ds/\bu (toStr (af (af l 1) 0)) ds<ds.length:=by
 obtain⟨k,_,i,_⟩:=pb.1 h;have f:=i r d;have b:fA (cv ds) (aL (cK r))=0:=by
  refine Wy ?_;unfold ky at f
  grind
 unfold fA at b;cases e:decide (known (cv ds) (aL (cK r)).head=0) with
 |false=>grind
 |true=>
  rw[e,aD2] at b;refine⟨O0 (a:=(aL (cK r)).head) (by simpa using e),fun l g m=>?_⟩;have j:bQ l∈(aL (cK r)).body:=List.mem_map_of_mem g;refine O0 (a:=(bQ l).a) (rC b _ j ?_)
  grind [bQ,toInt,af,Rl.cQ,cQ]
theorem Cq{ds a e}: ∀{b},e∈G6 ds a b↔ ∃l,l∈b/\cQ (toInt (af l 0))=true/\e=(a,bu (toStr (af (af l 1) 0)) ds)
 |[]=>by simp[G6]
 | x::b=>by
  rw[G6];cases h:cQ _ with
  |true=>
   rw[aD2,aE5,Cq]
   grind
  |false=>
   rw[aD0,Cq]
   grind
theorem JG{ds a e}:e∈Aj ds a↔ ∃r,r∈a/\∃l,l∈ag (af r 1)/\cQ (toInt (af l 0))=true/\e=(bu (toStr (af (af r 0) 0)) ds,bu (toStr (af (af l 1) 0)) ds):=by
 unfold Aj;rw[List.mem_flatMap];exact exists_congr fun r=>and_congr_right fun _=>Cq
def ac3 ds a:=∀e,e∈Aj ds a->(0<=e.1/\e.1<ds.length)/\0<=e.2/\e.2<ds.length
theorem ac4{ds a}(h:(lA ds a).2=0):ac3 ds a:=by
 intro e c;obtain⟨r,b,l,f,d,rfl⟩:=JG.1 c;have:=nF h b
 grind
end Go.Proofs.YtioeffnadipbaaaGreatDoor
namespace Go.Rl
open Go Go.Dn
theorem uS D b: ∃t a,D++[b]=t::a/\(t::a).dropLast=D/\fM (t::a)=b:=by
 cases D with
 |nil=>exact⟨b,_,rfl,rfl,rfl⟩
 | cons t D=>
  refine⟨t,D++[b],rfl,?_,?_⟩
  ·grind
  ·have:=Ai (t:=t) (todo:=D++[b])
   rw[←List.cons_append,List.dropLast_concat] at this
   simp_all
theorem A1{n m L}(d:WG n m L){D a b}(f:Sd n m (D++[b]) a):
  yU n m L (D++[b]) a=bif a.contains b then yU n m L D a else yU n m L (D++L.at b) (a++[b]):=by
 obtain⟨t,g,e,h,c⟩:=uS D b
 grind [Mv]
theorem Sd.al8{n m D a b}(h:Sd n m (D++[b]) a):Sd n m D a/\ms n m D a<ms n m (D++[b]) a:=by
 obtain⟨t,d,e,f,g⟩:=uS D b;rw[e] at h⊢;have c:=h.pop
 grind [Cu]
theorem Sd.ab6{n m L}(d:WG n m L){D a b}(h:Sd n m (D++[b]) a)(c:a.contains b=false):Sd n m (D++L.at b) (a++[b])/\ms n m (D++L.at b) (a++[b])<ms n m (D++[b]) a:=by
 obtain⟨t,j,e,k,g⟩:=uS D b;have f:=h.ht b (by simp);rw[e] at h⊢;rw[←g] at c f;have l:=h.add d c;have i:=Ct d t _ _ f c
 grind
end Go.Rl
namespace Go.Proofs.YtioeffnadipbaaaGreatDoor
open Go Go.Dn Go.Rl Go.Proofs
attribute [local irreducible] a8 vc
set_option maxRecDepth 20000
abbrev iF(k:Int):Value:= .int .i64 k
def dM(L:Gr):=L.map fun l=>l.map iF
def jl(l:List Int):List (Value×AV):=l.map fun k=>(iF k, .lit (.bool true))
abbrev ZD(l:List Int):AV:= .fh 3 4 (l.map iF) (l.map fun _=> .lit (.bool true))
theorem JM: ∀(l:List _) k,b8 (l.map fun l=>l.map iF) k=(l.getD k []).map iF
 |[],k=>by rfl
 |_::_,0=>rfl
 |_::l,k+1=>by simpa[b8] using JM l k
theorem ny L a:b8 (dM L) a.toNat=(L.at a).map iF:=JM L _
theorem nr b: ∀l,dj (jl l) (iF b) (.lit (.bool false))= .lit (.bool (l.contains b))
 |[]=>rfl
 |a::l=>by
  have c:=nr b l;simp[jl,dj] at c⊢;have e:eP (iF b) (iF a)=(b==a):=by rfl
  grind
theorem tD b: ∀l,fb (jl l) (iF b) (.lit (.bool true))=jl (bif l.contains b then l else l++[b])
 |[]=>rfl
 |a::l=>by
  have c:=tD b l;simp[jl,fb] at c⊢;have e:eP (iF b) (iF a)=(b==a):=by rfl
  grind
theorem wB l:(jl l).map (·.1)=l.map iF:=by simp[jl]
theorem wC l:(jl l).map (·.2)=l.map fun _=> .lit (.bool true):=by simp[jl]
abbrev Qn(a:List (List Value)):Dn.Obj:= .rows 35 3 a none
abbrev v8 n b a:=[.box 145 (.agg [.ak 1 0 n, .ak 2 0 a.length]),Qn b, .row 101 a]
abbrev zF n a:=[.box 145 (.agg [.ak 1 0 n, .nil]),Qn a]
theorem TW D c x:nth (D++x::c) (0+D.length)=x:=by
 induction D with
 |nil=>rfl
 |cons a D b=>exact b
theorem J8 D b a:((D++[b]).length:Int) - 1=D.length/\iA (D++[b])++a=iA D++AV.int b::a/\nth (iA D++AV.int b::a) (0+D.length)=AV.int b/\(iA D++AV.int b::a).take D.length=iA D/\toInt (AV.int b)=b:=by
 have c:=TW (iA D) a (AV.int b);rw[jG] at c;exact⟨by simp,by simp[iA],c,List.take_left' (jG D),rfl⟩
theorem ER L a:(b8 (dM L) a.toNat).length=(L.at a).length:=by rw[ny,List.length_map]
theorem IE L a:List.map AV.lit (List.take (b8 (dM L) a.toNat).length (b8 (dM L) a.toNat))=iA (L.at a):=by
 rw[List.take_length,ny,List.map_map];rfl
structure R4 where
 n:Nat
 m:Nat
 L:Gr
 fs:List AV
 todo:List Int
 met:List Int
 tl:List AV
def Dr(x:R4):=WG x.n x.m x.L/\Sd x.n x.m x.todo x.met/\(x.n+1)*x.m<=1000000000
def kO(x:R4):=yU x.n x.m x.L x.todo x.met
theorem xRe(κ:Kp)(N:Nat) ls fs es ws(k:Nat) I(n:Nat) K:(vc (Bt κ) 12 86 none 3 (ad (Pr κ).toProgram 86 3) (sp 48 [(0, .ptr 0 0 [] 0),(5, .mp 3),(6, .ak 4 0 k)] (v8 N ls fs++[.map 3 4 es, .row 3 ws])) (bg (Bt κ) 86 3 3 I n K))=(
 letI a:=IntKind.wrap IntKind.i64
 letI b:=Obj.row
 letI c:=Dn.Obj.map
 letI d:=(↑k:Int) - (1:Int)
 letI e:=a d
 letI f:=nth ws (0+Int.toNat e)
 letI g:=AV.agg [AV.ak 1 0 N,AV.ak 2 0 fs.length]
 letI i:=(0:Int)<=a d
 letI j:=Value.int IntKind.i64 (toInt f)
 letI l:=b8 ls (Int.toNat (toInt f))
 letI h:=List.take (List.length l) l
 aq (decide ((↑k:Int)>(0:Int))) (aW (decide i&&decide (a d<(↑k:Int))) (aW (decide i&&decide (a d
 <=a d)&&decide (a d<=(↑k:Int))) (aq (!Dn.toBool (dj es j (AV.bool false))) (aW (decide ((0:Int)<=toInt
 f)&&decide (toInt f<(↑N:Int))) (aW (decide ((Int.toNat e+List.length (List.map AV.lit h)+1)*9<=70368744177664)) (∃(e0:Nat),e0<n/\I e0
 (sp 48 [(0,AV.ptr 0 0 [] 0),(5,AV.mp 3),(6,AV.ak 4 0 (Int.toNat e+List.length (List.map AV.lit h)))] [Obj.box 145 g,Obj.rows 35 3 ls none,b
 101 fs,c 3 4 (fb es j (AV.bool true)),b 3 (List.take (Int.toNat e) ws++List.map AV.lit h)])))) (∃(e0:Nat),e0<n/\I e0 (sp 48 [(0,
 AV.ptr 0 0 [] 0),(5,AV.mp 3),(6,AV.ak 4 0 (Int.toNat e))] [Obj.box 145 g,Obj.rows 35 3 ls none,b 101 fs,c 3 4 es,b 3 ws]))))) (K
 (Exit.exit 0) (sp 48 [(5,AV.mp 3)] [Obj.box 145 g,Obj.rows 35 3 ls none,b 101 fs,c 3 4 es]))):=by kernel_rfl
abbrev Y8(x:R4):=sp 48 [(0, .ptr 0 0 [] 0),(5, .mp 3),(6, .ak 4 0 x.todo.length)] (v8 x.n (dM x.L) x.fs++[.map 3 4 (jl x.met), .row 3 (iA x.todo++x.tl)])
def Fb(x:R4):Out (Exit×S):= .one (.exit 0,sp 48 [(5, .mp 3)] (v8 x.n (dM x.L) x.fs++[.map 3 4 (jl (kO x))]))
theorem lRe κ:aU (Bt κ) 12 86 3 (aG 3 Y8 Dr Fb):=by
 refine aC (fun x=>ms x.n x.m x.todo x.met) ?_;rintro⟨n,m,L,l,todo,a,i⟩ K ⟨d,f,j⟩ c;simp only at d f j;rw[show(Bt κ).P=Pr κ from rfl];refine Eq.mpr (xRe κ n (dM L) l (jl a) (iA todo++i) todo.length _ _ K) ?_;simp only[Fb,kO,Out.run] at c;rw[ae,at3,aC7];refine⟨fun h=>?_,fun h=>?_⟩
 ·obtain⟨D,b,rfl⟩: ∃D b,todo=D++[b]:=⟨_,_,(List.dropLast_concat_getLast (by intro e;subst e;simp at h)).symm⟩
  have k:=f.le;have w:=f.ht b (by simp);have q:=d.le b;have p:=d.len;have r:m<=(n+1)*m:=Nat.le_mul_of_pos_left m (Nat.succ_pos n);obtain⟨e0,s,t,u,v⟩:=J8 D b i;simp only[aE1,List.length_singleton] at k;rw[e0,az (n:=(D.length:Int)) (by omega) (by omega),s,Int.toNat_natCast,t,u,v,nr,tD,ny,List.take_length,List.map_map];rw[A1 d f] at c;simp only[ai,ae,at3,aC6,List.length_map,aE1,List.length_singleton,show Dn.toBool (AV.lit (.bool (a.contains b)))=a.contains b from rfl];refine⟨⟨by omega,by omega⟩,⟨⟨by omega,by omega⟩,by omega⟩,fun e=>?_,fun e=>?_⟩
  ·have e:a.contains b=false:=by simpa using e
   obtain⟨o,g⟩:=f.ab6 d e;rw[e,aD0] at c;refine⟨⟨by omega,by omega⟩,by omega,_,g,⟨n,m,L,l,D++L.at b,a++[b],[]⟩,?_,⟨d,o,j⟩,rfl,?_⟩
   ·rw[e,aD0]
    simp only[Y8,List.append_nil,aE1,xV];rfl
   ·simp only[Fb,kO,Out.run]
    exact c
  ·have e:a.contains b=true:=by simpa using e
   obtain⟨o,g⟩:=f.al8;rw[e,aD2] at c;refine⟨_,g,⟨n,m,L,l,D,a,AV.int b::i⟩,rfl,⟨d,o,j⟩,rfl,?_⟩;simp only[Fb,kO,Out.run];exact c
 ·obtain rfl:todo=[]:=List.eq_nil_of_length_eq_zero (by omega)
  rw[Fo] at c;exact c
theorem xRz(κ:Kp)(N:Nat) ls es ws(k:Nat) I(n:Nat) K:(vc (Bt κ) 12 86 none 2 (ad (Pr κ).toProgram 86 3) (sp 48 [(0, .ptr 0 0 [] 0),(5, .mp 2),(6, .ak 3 0 k)] (zF N ls++[.map 3 4 es, .row 3 ws])) (bg (Bt κ) 86 3 2 I n K))=(
 letI a:=IntKind.wrap IntKind.i64
 letI b:=Dn.Obj.map
 letI c:=(↑k:Int) - (1:Int)
 letI d:=a c
 letI e:=nth ws (0+Int.toNat d)
 letI f:=AV.agg [AV.ak 1 0 N,AV.nil]
 letI h:=(0:Int)<=a c
 letI i:=Value.int IntKind.i64 (toInt e)
 letI j:=b8 ls (Int.toNat (toInt e))
 letI g:=List.take (List.length j) j
 aq (decide ((↑k:Int)>(0:Int))) (aW (decide h&&decide (a c<(↑k:Int))) (aW (decide h&&decide (a c
 <=a c)&&decide (a c<=(↑k:Int))) (aq (!Dn.toBool (dj es i (AV.bool false))) (aW (decide ((0:Int)<=toInt
 e)&&decide (toInt e<(↑N:Int))) (aW (decide ((Int.toNat d+List.length (List.map AV.lit g)+1)*9<=70368744177664)) (∃(e0:Nat),e0<n/\I e0
 (sp 48 [(0,AV.ptr 0 0 [] 0),(5,AV.mp 2),(6,AV.ak 3 0 (Int.toNat d+List.length (List.map AV.lit g)))] [Obj.box 145 f,Obj.rows 35 3 ls none,b
 3 4 (fb es i (AV.bool true)),Obj.row 3 (List.take (Int.toNat d) ws++List.map AV.lit g)])))) (∃(e0:Nat),e0<n/\I e0 (sp 48 [(0,AV.ptr 0 0 [] 0),(5,
 AV.mp 2),(6,AV.ak 3 0 (Int.toNat d))] [Obj.box 145 f,Obj.rows 35 3 ls none,b 3 4 es,Obj.row 3 ws]))))) (K (Exit.exit 0) (sp 48 [(5,AV.mp 2)]
 [Obj.box 145 f,Obj.rows 35 3 ls none,b 3 4 es]))):=by kernel_rfl
abbrev Y9(x:R4):=sp 48 [(0, .ptr 0 0 [] 0),(5, .mp 2),(6, .ak 3 0 x.todo.length)] (zF x.n (dM x.L)++[.map 3 4 (jl x.met), .row 3 (iA x.todo++x.tl)])
def Fc(x:R4):Out (Exit×S):= .one (.exit 0,sp 48 [(5, .mp 2)] (zF x.n (dM x.L)++[.map 3 4 (jl (kO x))]))
theorem lRz κ:aU (Bt κ) 12 86 3 (aG 2 Y9 Dr Fc):=by
 refine aC (fun x=>ms x.n x.m x.todo x.met) ?_;rintro⟨n,m,L,o,todo,a,k⟩ K ⟨d,f,j⟩ c;simp only at d f j;rw[show(Bt κ).P=Pr κ from rfl];refine Eq.mpr (xRz κ n (dM L) (jl a) (iA todo++k) todo.length _ _ K) ?_;simp only[Fc,kO,Out.run] at c;rw[ae,at3,aC7];refine⟨fun h=>?_,fun h=>?_⟩
 ·obtain⟨D,b,rfl⟩: ∃D b,todo=D++[b]:=⟨_,_,(List.dropLast_concat_getLast (by intro e;subst e;simp at h)).symm⟩
  have i:=f.le;have q:=f.ht b (by simp);have w:=d.le b;have p:=d.len;have r:m<=(n+1)*m:=Nat.le_mul_of_pos_left m (Nat.succ_pos n);obtain⟨e0,s,t,u,v⟩:=J8 D b k;simp only[aE1,List.length_singleton] at i;rw[e0,az (n:=(D.length:Int)) (by omega) (by omega),s,Int.toNat_natCast,t,u,v,nr,tD,ny,List.take_length,List.map_map];rw[A1 d f] at c;simp only[ai,ae,at3,aC6,List.length_map,aE1,List.length_singleton,show Dn.toBool (AV.lit (.bool (a.contains b)))=a.contains b from rfl];refine⟨⟨by omega,by omega⟩,⟨⟨by omega,by omega⟩,by omega⟩,fun e=>?_,fun e=>?_⟩
  ·have e:a.contains b=false:=by simpa using e
   obtain⟨l,g⟩:=f.ab6 d e;rw[e,aD0] at c;refine⟨⟨by omega,by omega⟩,by omega,_,g,⟨n,m,L,o,D++L.at b,a++[b],[]⟩,?_,⟨d,l,j⟩,rfl,?_⟩
   ·rw[e,aD0]
    simp only[Y9,List.append_nil,aE1,xV];rfl
   ·simp only[Fc,kO,Out.run]
    exact c
  ·have e:a.contains b=true:=by simpa using e
   obtain⟨l,g⟩:=f.al8;rw[e,aD2] at c;refine⟨_,g,⟨n,m,L,o,D,a,AV.int b::k⟩,rfl,⟨d,l,j⟩,rfl,?_⟩;simp only[Fc,kO,Out.run];exact c
 ·obtain rfl:todo=[]:=List.eq_nil_of_length_eq_zero (by omega)
  rw[Fo] at c;exact c
def am2(s:S):=Nat.beq s.st.length 5
noncomputable def Xu κ:=(Bt κ).an 86 3 (tj am2 (aG 3 Y8 Dr Fb) (aG 2 Y9 Dr Fc))
theorem eRl κ:aE (Xu κ):=(eKi _).an (mKi _) (pR (lRe _) (lRz _))
theorem mRl κ:aj (Xu κ):=(mKi _).an (lT aK aK)
structure WH where
 n:Nat
 m:Nat
 L:Gr
 fs:List AV
 a:Int
def Ks(x:WH):=WG x.n x.m x.L/\(x.n+1)*x.m<=1000000000/\0<=x.a/\x.a<x.n
theorem yRe κ N ls fs a K:(a8 (Xu κ) 12 86 [.ptr 0 0 [] 0, .int a] (v8 N ls fs) K)=(
 letI b:=AV.ptr 0 0 []
 letI c:=AV.agg
 letI d:=Obj.box
 letI e:=Obj.row
 letI f:=Obj.rows
 letI g:=Dn.Obj.map
 letI h:=AV.ak
 letI i:=Pg.toProgram (Env.P (Bt κ))
 letI k:=List.length (b8 ls a.toNat)
 letI j:=List.take k (b8 ls a.toNat)
 aW (decide ((0:Int)<=a)&&decide (a<(↑N:Int))) ((Nat.beq k 0=true->ad i 86 3=ad i 86 3/\∃(e1:R4),sp 48 [(0,b 0),(5,AV.mp 3),
 (6,h 4 0 0)] [d 145 (c [h 1 0 N,h 2 0 fs.length]),f 35 3 ls none,e 101 fs,g 3 4 [],e 3 []]=sp 48 [(0,
 b 0),(5,AV.mp 3),(6,h 4 0 e1.todo.length)] [d 145 (c [h 1 0 e1.n,h 2 0 e1.fs.length]),f 35 3 (dM e1.L) none,
 e 101 e1.fs,g 3 4 (jl e1.met),e 3 (iA e1.todo++e1.tl)]/\(WG e1.n e1.m e1.L/\Sd e1.n e1.m e1.todo e1.met/\(e1.n+1)*e1.m<=
 1000000000)/\K (AV.fh 3 4 (List.map (fun(e0:Value×AV)=>e0.1) (jl (kO e1))) (List.map (fun(e0:Value×AV)=>e0.2) (jl (kO e1)))) [d 145 (c
 [h 1 0 e1.n,h 2 0 e1.fs.length]),f 35 3 (dM e1.L) none,e 101 e1.fs])/\aW (decide ((0+List.length (List.map AV.lit j)+1)*9<=
 70368744177664)) (ad i 86 3=ad i 86 3/\∃(e1:R4),sp 48 [(0,b 0),(5,AV.mp 3),(6,h 4 0 (0+List.length (List.map AV.lit j)))]
 [d 145 (c [h 1 0 N,h 2 0 fs.length]),f 35 3 ls none,e 101 fs,g 3 4 [],e 3 ([]++List.map AV.lit j)]=sp
 48 [(0,b 0),(5,AV.mp 3),(6,h 4 0 e1.todo.length)] [d 145 (c [h 1 0 e1.n,h 2 0 e1.fs.length]),f 35 3 (dM e1.L)
 none,e 101 e1.fs,g 3 4 (jl e1.met),e 3 (iA e1.todo++e1.tl)]/\(WG e1.n e1.m e1.L/\Sd e1.n e1.m e1.todo e1.met/\(e1.n+1)*e1.m<=
 1000000000)/\K (AV.fh 3 4 (List.map (fun(e0:Value×AV)=>e0.1) (jl (kO e1))) (List.map (fun(e0:Value×AV)=>e0.2) (jl (kO e1)))) [d 145 (c
 [h 1 0 e1.n,h 2 0 e1.fs.length]),f 35 3 (dM e1.L) none,e 101 e1.fs]))):=by kernel_rfl
def Wu(x:WH):List AV×List Dn.Obj:=([.ptr 0 0 [] 0, .int x.a],v8 x.n (dM x.L) x.fs)
def HN(x:WH):Out (AV×List Dn.Obj):= .one (ZD (iV x.n x.m x.L x.a),v8 x.n (dM x.L) x.fs)
theorem cRe κ:bd (Xu κ) 12 86 (aM Wu Ks HN):=by
 refine aQ ?_;rintro⟨n,m,L,f,a⟩ K ⟨b,d,g,h⟩ c;simp only at b d g h;refine Eq.mpr (yRe κ n (dM L) f a K) ?_;simp only[HN,Out.run,iV] at c;have j:=Sd.start b g;have k:=b.le a;have i:m<=(n+1)*m:=Nat.le_mul_of_pos_left m (Nat.succ_pos n);rw[IE,jG,ER,ai,ai,aC6,at3,at3,at3];refine⟨⟨g,h⟩,fun e=>⟨rfl,⟨n,m,L,f,[],[],[]⟩,rfl,⟨b,?_,d⟩,?_⟩,by omega,rfl,⟨n,m,L,f,L.at a,[],[]⟩,?_,⟨b,j,d⟩,?_⟩
 ·simp_all
 ·have e:L.at a=[]:=List.eq_nil_of_length_eq_zero (Nat.eq_of_beq_eq_true e)
  rw[e] at c;simp only[wB,wC];exact c
 ·simp only[List.append_nil,Nat.zero_add]
  rfl
 ·simp only[wB,wC]
  exact c
theorem yRz κ N ls a K:(a8 (Xu κ) 12 86 [.ptr 0 0 [] 0, .int a] (zF N ls) K)=(
 letI b:=AV.ptr 0 0 []
 letI c:=AV.agg
 letI d:=Obj.box
 letI e:=Obj.row
 letI f:=Obj.rows
 letI g:=Dn.Obj.map
 letI h:=AV.ak
 letI i:=AV.nil
 letI j:=Pg.toProgram (Env.P (Bt κ))
 letI l:=List.length (b8 ls a.toNat)
 letI k:=List.take l (b8 ls a.toNat)
 aW (decide ((0:Int)<=a)&&decide (a<(↑N:Int))) ((Nat.beq l 0=true->ad j 86 3=ad j 86 3/\∃(e1:R4),sp 48 [(0,b 0),(5,AV.mp 2),
 (6,h 3 0 0)] [d 145 (c [h 1 0 N,i]),f 35 3 ls none,g 3 4 [],e 3 []]=sp 48 [(0,b 0),(5,AV.mp
 2),(6,h 3 0 e1.todo.length)] [d 145 (c [h 1 0 e1.n,i]),f 35 3 (dM e1.L) none,g 3 4 (jl e1.met),e 3 (iA
 e1.todo++e1.tl)]/\(WG e1.n e1.m e1.L/\Sd e1.n e1.m e1.todo e1.met/\(e1.n+1)*e1.m<=1000000000)/\K (AV.fh 3 4 (List.map (fun(e0:Value×AV)=>e0.1)
 (jl (kO e1))) (List.map (fun(e0:Value×AV)=>e0.2) (jl (kO e1)))) [d 145 (c [h 1 0 e1.n,i]),f 35 3 (dM e1.L) none])/\aW
 (decide ((0+List.length (List.map AV.lit k)+1)*9<=70368744177664)) (ad j 86 3=ad j 86 3/\∃(e1:R4),sp 48 [(0,b 0),(5,AV.mp 2),
 (6,h 3 0 (0+List.length (List.map AV.lit k)))] [d 145 (c [h 1 0 N,i]),f 35 3 ls none,g 3 4 [],e 3 ([]++
 List.map AV.lit k)]=sp 48 [(0,b 0),(5,AV.mp 2),(6,h 3 0 e1.todo.length)] [d 145 (c [h 1 0 e1.n,i]),f 35 3
 (dM e1.L) none,g 3 4 (jl e1.met),e 3 (iA e1.todo++e1.tl)]/\(WG e1.n e1.m e1.L/\Sd e1.n e1.m e1.todo e1.met/\(e1.n+1)*e1.m<=
 1000000000)/\K (AV.fh 3 4 (List.map (fun(e0:Value×AV)=>e0.1) (jl (kO e1))) (List.map (fun(e0:Value×AV)=>e0.2) (jl (kO e1)))) [d 145 (c
 [h 1 0 e1.n,i]),f 35 3 (dM e1.L) none]))):=by kernel_rfl
def Wv(x:WH):List AV×List Dn.Obj:=([.ptr 0 0 [] 0, .int x.a],zF x.n (dM x.L))
def HO(x:WH):Out (AV×List Dn.Obj):= .one (ZD (iV x.n x.m x.L x.a),zF x.n (dM x.L))
theorem cRz κ:bd (Xu κ) 12 86 (aM Wv Ks HO):=by
 refine aQ ?_;rintro⟨n,m,L,h,a⟩ K ⟨b,f,d,g⟩ c;simp only at b f d g;refine Eq.mpr (yRz κ n (dM L) a K) ?_;simp only[HO,Out.run,iV] at c;have j:=Sd.start b d;have k:=b.le a;have i:m<=(n+1)*m:=Nat.le_mul_of_pos_left m (Nat.succ_pos n);rw[IE,jG,ER,ai,ai,aC6,at3,at3,at3];refine⟨⟨d,g⟩,fun e=>⟨rfl,⟨n,m,L,h,[],[],[]⟩,rfl,⟨b,?_,f⟩,?_⟩,by omega,rfl,⟨n,m,L,h,L.at a,[],[]⟩,?_,⟨b,j,f⟩,?_⟩
 ·simp_all
 ·have e:L.at a=[]:=List.eq_nil_of_length_eq_zero (Nat.eq_of_beq_eq_true e)
  rw[e] at c;simp only[wB,wC];exact c
 ·simp only[List.append_nil,Nat.zero_add]
  rfl
 ·simp only[wB,wC]
  exact c
def H7(d:List Dn.Obj->Bool)(a b:dN):dN:=fun c st K=>bif d st then a c st K else b c st K
theorem uJ{c a b}(f:a.gl)(g:b.gl):(H7 c a b).gl:=fun e st K j d h=>by
 unfold H7 at h⊢;cases i:c _<;>simp[i] at h⊢
 ·exact g _ _ _ _ d h
 ·exact f _ _ _ _ d h
theorem C6{E N f c a b}(i:bd E N f a)(g:bd E N f b):bd E N f (H7 c a b):=fun d st K h=>by
 unfold H7 at h;cases e:c _<;>rw[e] at h
 ·exact g _ _ _ h
 ·exact i _ _ _ h
def al9(st:List Dn.Obj):=Nat.beq st.length 3
noncomputable def Vn κ:=(Xu κ).ax 86 (H7 al9 (aM Wu Ks HN) (aM Wv Ks HO))
theorem eRe κ:aE (Vn κ):=(eRl _).ax (mRl _) (C6 (cRe _) (cRz _))
theorem mRe κ:aj (Vn κ):=(mRl _).ax (uJ aJ aJ)
def Lz:List Nat:=129::TD
noncomputable abbrev ae0(κ:Kp)(ds a:List AV):Dn.Obj:=
 .loop (jq (Pr κ).toProgram 42 3 .ready none (iO (bR 63) [(0,eg ds a),(1, .ptr 0 0 [] 0),(2, .lit (.pointer none)),(3, .ptr 3 0 [] 0),(7, .ptr 0 0 [0] 0),(8, .ah 43 ds),(9, .int ds.length),(10, .ak 1 0 ds.length),(11, .agg [.ak 1 0 ds.length, .nil]),(12, .ptr 2 0 [] 0),(13,eg ds a),(14, .bo 129 [.ptr 4 0 [] 0])]))
noncomputable abbrev rm κ ds a:=[.box 25 (eg ds a),Qn (List.replicate ds.length []), .box 145 (.agg [.ak 1 0 ds.length, .nil]), .box 99 (.ptr 2 0 [] 0), .box 25 (eg ds a),ae0 κ ds a]
noncomputable abbrev F1 κ ds a b:=[.box 25 (eg ds a),Qn b, .box 145 (.agg [.ak 1 0 ds.length, .nil]), .box 99 (.ptr 2 0 [] 0), .dead,ae0 κ ds a]
theorem sGf κ ds rs Q:(tidy (Pr κ).toProgram 6 (dF (rm κ ds rs) (b7 (rm κ ds rs) [.ptr 4 0 [] 0])) Q)=(
 letI a:=AV.ptr
 letI b:=AV.agg
 letI c:=AV.ah
 Q [.box 25 (b [c 43 ds,c 48 rs]),.rows 35 3 (List.replicate ds.length []) none,.box 145 (b [.ak 1 0 ds.length,AV.nil]),.box
 99 (a 2 0 [] 0),.dead,.loop (jq Tryz.prog 42 3 .ready none (iO (bR 63) [(0,b [c 43 ds,c 48 rs]),(1,a 0 0 [] 0),
 (2,.lit (.pointer none)),(3,a 3 0 [] 0),(7,a 0 0 [0] 0),(8,c 43 ds),(9,AV.int ↑(ds.length)),(10,.ak 1 0 ds.length),
 (11,b [.ak 1 0 ds.length,AV.nil]),(12,a 2 0 [] 0),(13,b [c 43 ds,c 48 rs]),(14,.bo 129 [a 4 0 [] 0])]))]):=by kernel_rfl
theorem rGf κ ds rs ls a b Q(K2:List Dn.Obj->Prop):(gx (vc (Vn κ) 12) 5 [.int a, .int b] (F1 κ ds rs ls) (fun r st''=>match r with| .lit (.bool true)=>tidy (Pr κ).toProgram 6 st'' Q| .lit (.bool false)=>K2 st''|_=>False))=(
 letI c:=AV.ptr
 letI d:=AV.agg
 letI e:=Obj.box
 letI f:=AV.ah
 letI i:=jq Tryz.prog 42 3 .ready none (iO (bR 63) [(0,d [f 43 ds,f 48 rs]),(1,c 0 0 [] 0),(2,.lit (.pointer none)),
  (3,c 3 0 [] 0),(7,c 0 0 [0] 0),(8,f 43 ds),(9,AV.int ↑(ds.length)),(10,.ak 1 0 ds.length),(11,d [.ak 1 0 ds.length,
  AV.nil]),(12,c 2 0 [] 0),(13,d [f 43 ds,f 48 rs]),(14,.bo 129 [c 4 0 [] 0])])
 letI h:=decide (0<=a)&&decide (a<↑(ds.length))
 letI g:=b8 ls a.toNat
 letI j:=decide (List.length g=List.length g)&&decide ((List.length g+1+1)*9<=70368744177664)
 letI k:=Dn.iD ls a.toNat (b8 ls a.toNat++[.int .i64 b])
 letI l:=List.map .lit (List.take (List.length g) g)
 letI m:=d [.ak 1 0 ds.length,AV.nil]
 letI n:=d [f 43 ds,f 48 rs]
 letI o:=aW h (aW (decide (a.toNat=a.toNat)&&decide (a.toNat=a.toNat)&&decide (List.length g+1=List.length (b8 k a.toNat))) (Q [e 25 n,
  .rows 35 3 k none,e 145 m,e 99 (c 2 0 [] 0),.dead,.loop i]))
 aW h (aW (decide (List.length l<=9223372036854775807)) (aq (!inI b l) (aW h (aW j o/\aW j o)) (Q [e 25 n,.rows 35 3 ls none,e 145
 m,e 99 (c 2 0 [] 0),.dead,.loop i])))):=by kernel_rfl
theorem kGf κ ds rs xs:(.cn 0::gf (iX (b7 (rm κ ds rs) [.ptr 4 0 [] 0])) [.ptr 4 0 [] 0],.ext (some xs)::gJ (iX (b7 (rm κ ds rs) [.ptr 4 0 [] 0])) (gF (rm κ ds rs) (b7 (rm κ ds rs) [.ptr 4 0 [] 0])))=([.cn 0, .ptr 1 0 [] 0],[.ext (some xs), .box 25 (eg ds rs)]):=by kernel_rfl
theorem oGf κ ds rs:mi (rm κ ds rs) [.ptr 4 0 [] 0]=true:=by kernel_rfl
theorem FA: ∀L k x,Dn.iD (dM L) k (x.map iF)=dM (L.set k x)
 |[],k,x=>by rfl
 |_::_,0,x=>rfl
 |a::L,k+1,x=>by
  have b:=FA L k x
  grind [dM,Dn.iD]
theorem Vb n:dM (List.replicate n [])=List.replicate n []:=by simp[dM]
structure wX(ds rs:List AV):Prop where
 hd:ds.length<=60
 hr:rs.length<=200
 bs: ∀r,r∈rs->(ag (af r 1)).length<=20
 ed:ac3 ds rs
theorem Ja ds a: ∀b,(G6 ds a b).length<=b.length
 |[]=>Nat.le_refl _
 |l::b=>by
  have c:=Ja ds a b
  grind [G6]
theorem BL ds: ∀a,(∀r,r∈a->(ag (af r 1)).length<=20)->(Aj ds a).length<=a.length*20
 |[],_=>Nat.le_refl _
 |r::a,h=>by
  have b:=BL ds a (by grind)
  grind [Ja,bu,af,ag,Aj,edR]
noncomputable def YO(κ:Kp):eO:=fun a st K=>∃x:zT,(a,st)=([AV.ptr 4 0 [] 0],rm κ x.1 x.2)/\wX x.1 x.2/\K (F1 κ x.1 x.2 (dM (uv x.1.length (Aj x.1 x.2))))
theorem MN κ:(YO κ).gl:=by
 rintro b st K g e ⟨a,d,f,c⟩;exact⟨a,d,f,e _ c⟩
theorem XM κ a st K(h:aM Y2 Ij P5 a st K):(Vn κ).call 129 a st K:=h
theorem gfr κ:jf (Vn κ) 12 129 (YO κ):=by
 rintro n st K ⟨⟨ds,f⟩,x,k,u⟩;obtain⟨rfl,rfl⟩:=Prod.mk.inj x;simp only at k u;have hd:=k.hd;have q:=k.hr;have C:=BL ds f k.bs;refine⟨Gk (Aj ds f),fun i st'=>∃c g,i=Gk g/\st'=F1 κ ds f (dM (uv ds.length c))/\c++g=Aj ds f,⟨oGf κ ds f,?_,?_,?_,?_⟩⟩
 ·refine XM κ _ _ _ ⟨(ds,f),?_,⟨by simp only[aX];omega,by simp only[aX];omega,fun r q=>?_⟩,fun st' h=>h⟩
  ·rw[kGf];rfl
  ·have:=k.bs r q;simp only[aX];omega
 ·rw[show(Vn κ).P=Pr κ from rfl,show(rm κ ds f).length=6 from rfl,sGf]
  refine⟨[],Aj ds f,rfl,?_,rfl⟩;rw[uv,List.foldl_nil,Vb]
 ·rintro B o st' ⟨c,g,l,rfl,j⟩
  cases g with
  |nil=>cases l
  | cons e g=>
   obtain⟨a,b⟩:=e;obtain⟨v,rfl⟩:=List.cons.inj l;obtain rfl:=AV.aH.inj v;rw[show(Vn κ).P=Pr κ from rfl,show(rm κ ds f).length=6 from rfl];refine Eq.mpr (rGf κ ds f _ a b _ _) ?_;have m:=k.ed (a,b) (by rw[←j];simp);simp only at m;have y:uv ds.length (c++[(a,b)])=qO (uv ds.length c) (a,b):=by simp[uv,List.foldl_append]
   have s:(uv ds.length c).length=ds.length:=by unfold uv;rw[tX];simp
   have A:((uv ds.length c).at a).length<=c.length:=by
    have:=Ob c (List.replicate ds.length []) a
    rw[GM] at this;simpa[uv] using this
   have D:c.length<=(Aj ds f).length:=by rw[←j];simp
   have d: ∀st',st'=F1 κ ds f (dM (qO (uv ds.length c) (a,b)))->∃p t,Gk g=Gk t/\st'=F1 κ ds f (dM (uv ds.length p))/\p++t=Aj ds f:=fun st' h=>⟨c++[(a,b)],g,rfl,by rw[y,h],by rw[←j];simp⟩
   rw[IE,OQ,ny,show[Value.int IntKind.i64 b]=[b].map iF from rfl,←List.map_append,FA];have z:(b8 (dM ((uv ds.length c).set a.toNat ((uv ds.length c).at a++[b]))) a.toNat).length=((uv ds.length c).at a).length+1:=by
    rw[ny,GN _ _ _ _ (by omega),if_pos rfl];simp
   rw[z];simp only[ai,ae,aC6,at3,List.length_map,jG];refine⟨⟨by omega,by omega⟩,by omega,fun e=>⟨⟨by omega,by omega⟩,?_⟩,fun e=>d _ ?_⟩
   ·have e:((uv ds.length c).at a).contains b=false:=by simpa using e
    have w:qO (uv ds.length c) (a,b)=(uv ds.length c).set a.toNat ((uv ds.length c).at a++[b]):=by
     unfold qO;rw[e,aD0]
    rw[w] at d;exact⟨⟨⟨trivial,by omega⟩,⟨by omega,by omega⟩,⟨⟨trivial,trivial⟩,trivial⟩,d _ rfl⟩,⟨trivial,by omega⟩,⟨by omega,by omega⟩,⟨⟨trivial,trivial⟩,trivial⟩,d _ rfl⟩
   ·have e:((uv ds.length c).at a).contains b=true:=by simpa using e
    unfold qO;rw[e,aD2]
 ·rintro st' ⟨c,g,l,rfl,j⟩
  obtain rfl:g=[]:=by cases g with|nil=>rfl|cons _ _=>cases l
  rw[List.append_nil] at j;rw[j];exact u
noncomputable def NQ κ:=((Vn κ).addRange 42 3 129 (YO κ)).dc fun f=>jr f Lz
theorem eOr κ:aE (NQ κ):=((eRe _).addRange (mRe _) (gfr _)).dc _
theorem mOr κ:aj (NQ κ):=((mRe _).addRange (MN _)).dc _
theorem xOa κ(N i:Nat) ls fs I n K:(vc (NQ κ) 12 42 none 0 (ad (Pr κ).toProgram 42 8) (sp 63 [(3, .ptr 0 0 [] 0),(45, .int N),(46, .int i)] [.box 99 (.ptr 1 0 [] 0), .box 145 (.agg [.ak 2 0 N, .ak 3 0 fs.length]),Qn ls, .row 101 fs]) (bg (NQ κ) 42 8 0 I n K))=(
 letI a:=AV.ptr 0 0 []
 letI b:=AV.agg
 letI c:=Obj.box
 letI d:=Obj.row
 letI e:=Obj.rows
 letI f:=AV.ak
 letI g:=AV.ptr 1 0 [] 0
 letI h:=b [f 2 0 N,f 3 0 fs.length]
 aq (decide ((↑i:Int)<(↑N:Int))) (∃(e2:WH),([a 0,AV.int (↑i:Int)],[c 145 (b [f 1 0 N,f 2 0 fs.length]),e 35
 3 ls none,d 101 fs])=([a 0,AV.int e2.a],[c 145 (b [f 1 0 e2.n,f 2 0 e2.fs.length]),e 35 3 (dM e2.L) none,
 d 101 e2.fs])/\(WG e2.n e2.m e2.L/\(e2.n+1)*e2.m<=1000000000/\(0:Int)<=e2.a/\e2.a<(↑(e2.n):Int))/\(c 99 g=c 99 g/\
 c 145 (b [f 2 0 e2.n,f 3 0 e2.fs.length])=c 145 h/\e 35 3 (dM e2.L) none=e 35 3 ls none/\True)/\aW (decide
 ((fs.length+1+1)*9<=70368744177664)) (∃(e1:Nat),e1<n/\I e1 (sp 63 [(3,a 0),(45,AV.int (↑N:Int)),(46,AV.int (IntKind.wrap
 IntKind.i64 ((↑i:Int)+(1:Int))))] [c 99 g,c 145 (b [f 2 0 e2.n,f 3 0 (fs.length+1)]),e 35 3 (dM e2.L) none,d
 101 (List.take fs.length e2.fs++[AV.fh 3 4 (List.map iF (iV e2.n e2.m e2.L e2.a)) (List.map (fun(e0:Int)=>AV.bool true) (iV e2.n e2.m e2.L e2.a))])])))
 (K (Exit.exit 2) (sp 63 [(3,a 0)] [c 99 g,c 145 h,e 35 3 ls none,d 101 fs]))):=by kernel_rfl
theorem xOb κ(N:Nat) ls I n K:(vc (NQ κ) 12 42 none 0 (ad (Pr κ).toProgram 42 8) (sp 63 [(3, .ptr 0 0 [] 0),(45, .int N),(46, .int 0)] [.box 99 (.ptr 1 0 [] 0), .box 145 (.agg [.ak 2 0 N, .nil]),Qn ls]) (bg (NQ κ) 42 8 0 I n K))=(
 letI a:=AV.ptr 0 0 []
 letI b:=AV.agg
 letI c:=Obj.box
 letI d:=Obj.rows
 letI e:=AV.ak
 letI f:=.ptr 1 0 [] 0
 letI g:=b [e 2 0 N,AV.nil]
 aq (decide (0<(↑N:Int))) (∃(e2:WH),([a 0,AV.int 0],[c 145 (b [e 1 0 N,AV.nil]),d 35 3 ls none])=([AV.ptr
 0 0 [] 0,AV.int e2.a],[c 145 (b [e 1 0 e2.n,AV.nil]),d 35 3 (dM e2.L) none])/\(WG e2.n e2.m e2.L/\(e2.n+1)*e2.m<=1000000000/\
 (0:Int)<=e2.a/\e2.a<(↑(e2.n):Int))/\(c 99 f=c 99 f/\c 145 (b [e 2 0 e2.n,AV.nil])=c 145 g/\d 35 3 (dM
 e2.L) none=d 35 3 ls none/\True)/\∃(e1:Nat),e1<n/\I e1 (sp 63 [(3,a 0),(45,AV.int (↑N:Int)),(46,AV.int 1)] [c 99 f,
 c 145 (b [e 2 0 e2.n,e 3 0 1]),d 35 3 (dM e2.L) none,Obj.row 101 [AV.fh 3 4 (List.map iF (iV e2.n e2.m e2.L e2.a)) (List.map (fun
 (e0:Int)=>AV.bool true) (iV e2.n e2.m e2.L e2.a))]])) (K (Exit.exit 2) (sp 63 [(3,a 0)] [c 99 f,c 145 g,d 35 3 ls
 none]))):=by kernel_rfl
def bB n m L k:=(List.range k).map fun(a:Nat)=>ZD (iV n m L a)
theorem lC n m L k:(bB n m L k).length=k:=by simp[bB]
theorem Lv n m L k:bB n m L (k+1)=bB n m L k++[ZD (iV n m L k)]:=by
 simp[bB,List.range_succ]
structure AOf where
 n:Nat
 m:Nat
 L:Gr
 i:Nat
abbrev Yo(n m:Nat)(L:Gr):Nat->List Dn.Obj
 |0=>[.box 99 (.ptr 1 0 [] 0), .box 145 (.agg [.ak 2 0 n, .nil]),Qn (dM L)]
 |k+1=>[.box 99 (.ptr 1 0 [] 0), .box 145 (.agg [.ak 2 0 n, .ak 3 0 (bB n m L (k+1)).length]),Qn (dM L), .row 101 (bB n m L (k+1))]
abbrev UQ(x:AOf):=sp 63 [(3, .ptr 0 0 [] 0),(45, .int x.n),(46, .int x.i)] (Yo x.n x.m x.L x.i)
def QT(x:AOf):=WG x.n x.m x.L/\(x.n+1)*x.m<=1000000000/\x.i<=x.n/\x.n<=60
def V2(x:AOf):Out (Exit×S):= .aq (Nat.beq x.n 0)
 (.one (.exit 2,sp 63 [(3, .ptr 0 0 [] 0)] [.box 99 (.ptr 1 0 [] 0), .box 145 (.agg [.ak 2 0 x.n, .nil]),Qn (dM x.L)]))
 (.one (.exit 2,sp 63 [(3, .ptr 0 0 [] 0)] [.box 99 (.ptr 1 0 [] 0), .box 145 (.agg [.ak 2 0 x.n, .ak 3 0 (bB x.n x.m x.L x.n).length]),Qn (dM x.L), .row 101 (bB x.n x.m x.L x.n)]))
theorem lOa κ:aU (NQ κ) 12 42 8 (aG 0 UQ QT V2):=by
 refine aC (fun x=>x.n - x.i) ?_;rintro⟨n,m,L,i⟩ K ⟨b,a,f,d⟩ c;simp only at b a f d;rw[show(NQ κ).P=Pr κ from rfl];cases i with
 | zero=>
  refine Eq.mpr (xOb κ n (dM L) _ _ K) ?_;rw[ae,at3,aC7];refine⟨fun h=>⟨⟨n,m,L,[],0⟩,rfl,⟨b,a,by simp only;omega,h⟩,⟨rfl,rfl,rfl,trivial⟩,_,?_,⟨n,m,L,1⟩,rfl,⟨b,a,?_,d⟩,rfl,c⟩,fun h=>?_⟩
  ·simp only;omega
  ·simp only;omega
  ·obtain rfl:n=0:=by omega
   exact c
 | succ k=>
  refine Eq.mpr (xOa κ n (k+1) (dM L) (bB n m L (k+1)) _ _ K) ?_;rw[ae,at3,aC7];refine⟨fun h=>⟨⟨n,m,L,bB n m L (k+1),((k+1:Nat):Int)⟩,rfl,⟨b,a,by simp only;omega,h⟩,⟨rfl,rfl,rfl,trivial⟩,?_⟩,fun h=>?_⟩
  ·have e:sp 63 [(3, .ptr 0 0 [] 0),(45, .int n),(46, .int (((k+1:Nat):Int)+1))] [.box 99 (.ptr 1 0 [] 0), .box 145 (.agg [.ak 2 0 n, .ak 3 0 ((bB n m L (k+1)).length+1)]),Qn (dM L), .row 101 (List.take (bB n m L (k+1)).length (bB n m L (k+1))++[ZD (iV n m L ((k+1:Nat):Int))])]=UQ ⟨n,m,L,k+2⟩:=by
    rw[List.take_length,←Lv];simp only[UQ,Yo,lC];rfl
   rw[ai,at3,az (n:=((k+1:Nat):Int)+1) (by omega) (by omega)];refine⟨by rw[lC];omega,_,?_,⟨n,m,L,k+2⟩,e,⟨b,a,?_,d⟩,rfl,c⟩
   ·simp only;omega
   ·simp only;omega
  ·obtain rfl:n=k+1:=by omega
   exact c
noncomputable def EOa κ:=(NQ κ).an 42 8 (aG 0 UQ QT V2)
theorem eOa κ:aE (EOa κ):=(eOr _).an (mOr _) (lOa _)
theorem mOa κ:aj (EOa κ):=(mOr _).an aK
theorem yOg κ ds rs K:(a8 (EOa κ) 12 42 [eg ds rs] [] K)=(
 letI a:=AV.ptr 0 0 []
 letI b:=AV.int
 letI c:=AV.ptr
 letI d:=AV.agg
 letI e:=Obj.box
 letI f:=Obj.rows
 letI g:=AV.ah
 letI h:=AV.ak
 letI i:=AV.nil
 letI j:=Int.toNat (↑(ds.length):Int)
 letI l:=d [g 43 ds,g 48 rs]
 letI m:=Pg.toProgram (Env.P (NQ κ))
 aW (true&&decide ((↑(ds.length):Int)<=(↑(ds.length):Int))&&decide ((Int.toNat (↑(ds.length):Int)+1)*25<=70368744177664)&&true) (∃(e1:zT),letI k:=[g 43 e1.1,g 48 e1.2];letI n:=[h 1 0 e1.1.length,i];([c 4 0 [] 0],[e 25 l,f 35 3 (List.replicate j []) none,e 145 (d [h 1 0 j,i]),e 99 (c 2 0 [] 0),e 25 l,Dn.Obj.loop (jq Tryz.prog 42 3 LoopState.ready none (iO (bR 63) [(0,d [g 43 ds,g 48 rs]),(1,a 0),(2,AV.lit (Value.pointer none)),(3,c 3 0 [] 0),(7,c 0 0 [0] 0),(8,g 43 ds),(9,b (↑(ds.length):Int)),(10,h 1 0 j),(11,d [h 1 0 j,i]),(12,c 2 0 [] 0),(13,d [g 43 ds,g 48 rs]),(14,AV.bo 129 [c 4 0 [] 0])]))])=([c 4 0 [] 0],[e 25 (d k),f 35 3 (List.replicate e1.1.length []) none,e 145 (d n),e 99 (c 2 0 [] 0),e 25 (d k),Dn.Obj.loop (jq Tryz.prog 42 3 LoopState.ready none (iO (bR 63) [(0,d k),(1,a 0),(2,AV.lit (Value.pointer none)),(3,c 3 0 [] 0),(7,c 0 0 [0] 0),(8,g 43 e1.1),(9,b (↑(e1.1.length):Int)),(10,h 1 0 e1.1.length),(11,d n),(12,c 2 0 [] 0),(13,d k),(14,AV.bo 129 [c 4 0 [] 0])]))])/\wX e1.1 e1.2/\ad m 42 8=ad m 42 8/\∃(e0:AOf),sp 63 [(3,a 0),(45,b (↑(e1.1.length):Int)),(46,b 0)] [e 99 (c 1 0 [] 0),e 145 (d [h 2 0 e1.1.length,i]),f 35 3 (dM (uv e1.1.length (Aj e1.1 e1.2))) none]=sp 63 [(3,a 0),(45,b (↑(e0.n):Int)),(46,b (↑(e0.i):Int))] (Yo e0.n e0.m e0.L e0.i)/\(WG e0.n e0.m e0.L/\(e0.n+1)*e0.m<=1000000000/\e0.i<=e0.n/\e0.n<=60)/\aq (Nat.beq e0.n 0) (K (a 0) [e 145 (d [h 1 0 e0.n,i]),f 35 3 (dM e0.L) none]) (K (a 0) [e 145 (d [h 1 0 e0.n,h 2 0 (List.length (bB e0.n e0.m e0.L e0.n))]),f 35 3 (dM e0.L) none,Obj.row 101 (bB e0.n e0.m e0.L e0.n)]))):=by kernel_rfl
def B0 ds a:=uv ds.length (Aj ds a)
def qQ ds rs:=(Aj ds rs).length
def ap9(x:zT):List AV×List Dn.Obj:=([eg x.1 x.2],[])
def V3(x:zT):Out (AV×List Dn.Obj):= .aq (Nat.beq x.1.length 0)
 (.one (.ptr 0 0 [] 0,zF x.1.length (dM (B0 x.1 x.2))))
 (.one (.ptr 0 0 [] 0,v8 x.1.length (dM (B0 x.1 x.2)) (bB x.1.length (qQ x.1 x.2) (B0 x.1 x.2) x.1.length)))
theorem wX.le{ds a}(h:wX ds a):(ds.length+1)*qQ ds a<=1000000000:=by
 have c:=h.hd;have d:=h.hr;have b:=BL ds _ h.bs;refine Nat.le_trans (Nat.mul_le_mul (show ds.length+1<=61 by omega) (by unfold qQ;omega)) (by omega)
theorem wX.wg{ds a}(h:wX ds a):WG ds.length (qQ ds a) (B0 ds a):=Yp h.ed
theorem cOg κ:bd (EOa κ) 12 42 (aM ap9 (fun x=>wX x.1 x.2) V3):=by
 refine aQ ?_;rintro⟨ds,b⟩ K a c;simp only at a;refine Eq.mpr (yOg κ ds b K) ?_;have hd:=a.hd;simp only[ai,aC6];exact⟨by grind,(ds,b),rfl,a,trivial,⟨ds.length,qQ ds b,B0 ds b,0⟩,rfl,⟨a.wg,a.le,Nat.zero_le _,hd⟩,c⟩
noncomputable def EOf κ:=(EOa κ).ax 42 (aM ap9 (fun x=>wX x.1 x.2) V3)
theorem eOf κ:aE (EOf κ):=(eOa _).ax (mOa _) (cOg _)
theorem mOf κ:aj (EOf κ):=(mOa _).ax aJ
end Go.Proofs.YtioeffnadipbaaaGreatDoor
