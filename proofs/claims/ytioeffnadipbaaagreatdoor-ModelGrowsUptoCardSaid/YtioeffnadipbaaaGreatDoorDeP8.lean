import Derived.Test.YtioeffnadipbaaaGreatDoorDeP1
import Derived.Test.YtioeffnadipbaaaGreatDoorDeP6
namespace Go.Rl
open Go Go.Dn
abbrev Gr:=List (List Int)
def Gr.at(L:Gr)(a:Int):List Int:=L.getD a.toNat []
def pQ(L:Gr)(e:Int×Int):=bif (L.at e.1).contains e.2 then L else L.set e.1.toNat (L.at e.1++[e.2])
def tu n(E:List _):=E.foldl pQ (List.replicate n [])
theorem Em L e:(pQ L e).length=L.length:=by
 grind [pQ]
theorem sP: ∀(E:List _) L,(E.foldl pQ L).length=L.length
 |[],_=>rfl
 |e::E,L=>by rw[List.foldl_cons,sP E,Em]
theorem Fq(L:Gr)(a b:Int) x(c:a.toNat<L.length):Gr.at (L.set a.toNat x) b=if a.toNat=b.toNat then x else L.at b:=by
 grind [Gr.at]
theorem Pn L e(f:0<=e.1/\e.1.toNat<L.length) a b(g:0<=a):b∈(pQ L e).at a↔b∈L.at a\/(a,b)=e:=by
 obtain⟨c,d⟩:=e;unfold pQ;cases h:(L.at c).contains d with
 |true=>
  grind
 |false=>
  rw[aq1,Fq L c a _ f.2]
  grind
theorem zn: ∀(E:List _) L,(∀e,e∈E->0<=e.1/\e.1.toNat<L.length)->∀a b:Int,0<=a->(b∈Gr.at (E.foldl pQ L) a↔b∈L.at a\/(a,b)∈E)
 |[],L,_,a,b,_=>by simp
 |e::E,L,h,a,b,c=>by
  rw[List.foldl_cons,zn E _ fun x d=>by grind [Em] a b c,Pn L e (h e (by simp)) a b c,ar4,or_assoc]
theorem NB: ∀(E:List _) L a,(Gr.at (E.foldl pQ L) a).length<=(L.at a).length+E.length
 |[],L,a=>by simp
 | e ::E,L,a=>by
  rw[List.foldl_cons];refine Nat.le_trans (NB E (pQ L e) a) ?_;have:((pQ L e).at a).length<=(L.at a).length+1:=by
   unfold pQ;cases(L.at e.1).contains e.2 with
   |true=>rw[aq3];omega
   | false=>
    rw[aq1];by_cases c:e.1.toNat<L.length
    ·rw[Fq L e.1 a _ c]
     by_cases b:e.1.toNat=a.toNat
     ·simp_all[if_pos,ar1,List.length_singleton,Gr.at]
     ·rw[if_neg b];omega
    ·rw[List.set_eq_of_length_le (by omega)];omega
  grind
theorem ED n a:Gr.at (List.replicate n []) a=[]:=by
 grind [Gr.at]
structure WG(n m:Nat)(L:Gr):Prop where
 len:L.length=n
 le: ∀a,(L.at a).length<=m
 lk: ∀a,0<=a->∀b,b∈L.at a->0<=b/\b<n
theorem Sc{n:Nat}{E:List (Int×Int)}(h: ∀e,e∈E->(0<=e.1/\e.1<n)/\0<=e.2/\e.2<n){a b}(c:0<=a):b∈(tu n E).at a↔(a,b)∈E:=by
 grind [tu,zn,ED]
theorem Wf{n:Nat}{E:List (Int×Int)}(h: ∀e,e∈E->(0<=e.1/\e.1<n)/\0<=e.2/\e.2<n):WG n E.length (tu n E):=by
 refine⟨by unfold tu;rw[sP];simp,fun a=>?_,fun a d b c=>?_⟩
 ·grind [NB,ED,tu]
 grind [Sc]
inductive yv (L:Gr):Int->Int->Prop
 |refl (a:Int):yv L a a
 |step {a b c:Int} (h:b∈L.at a) (k:yv L b c):yv L a c
def Rc L a b:=∃c,c∈L.at a/\yv L c b
theorem yv.trans{L a b c}(h:yv L a b)(k:yv L b c):yv L a c:=by
 induction h<;>grind [step]
theorem Rc.trans{L a b c}(h:Rc L a b)(k:Rc L b c):Rc L a c:=by
 obtain⟨d,g,i⟩:=h;obtain⟨e,j,f⟩:=k;exact⟨d,g,i.trans (.step j f)⟩
theorem Rc.step{L a b c}(h:Rc L a b)(k:c∈L.at b):Rc L a c:=h.trans ⟨c,k, .refl c⟩
theorem Rc.mono{L M}(h: ∀a b,0<=a->b∈L.at a->b∈M.at a/\0<=b){a b}(g:0<=a)(k:Rc L a b):Rc M a b:=by
 obtain⟨c,f,i⟩:=k;have st: ∀{x y:Int},yv L x y->0<=x->yv M x y:=fun{x y} k=>by
  induction k with
  |refl=>intro _;exact .refl _
  |step e _ j=>intro d;exact .step (h _ _ d e).1 (by grind)
 exact⟨c,by grind,by grind⟩
theorem Rc.lk{n m L}(e:WG n m L){a b}(f:0<=a)(h:Rc L a b):0<=b/\b<n:=by
 obtain⟨c,d,g⟩:=h;have:=e.lk a f c d
 clear d;induction g with
 |refl=>grind
 |step h _ i=>exact i (e.lk _ this.1 _ h)
def fr(l:List Int):Int:=l.getLastD 0
def Jx(L:Gr):Nat->List Int->List Int->List Int
 |0,_,a=>a
 |_+1,[],a=>a
 |f+1,t::todo,a=>bif a.contains (fr (t::todo)) then Jx L f (t::todo).dropLast a else Jx L f ((t::todo).dropLast++L.at (fr (t::todo))) (a++[fr (t::todo)])
def jP n:=(List.range n).map fun(k:Nat)=>(k:Int)
theorem oK{n a}:a∈jP n↔0<=a/\a<n:=by
 simp[jP];refine⟨?_,fun h=>⟨a.toNat,by omega,by omega⟩⟩;omega
theorem pn{α:Type}{p q}: ∀{l:List α},(∀x,x∈l->p x=true->q x=true)->(∃x,x∈l/\q x=true/\p x=false)->l.countP p<l.countP q
 |[],_,h=>by grind
 | a::l,h,⟨x,b,d,c⟩=>by
  have f:=List.countP_mono_left (l:=l) (p:=p) (q:=q) (by grind);simp only[List.countP_cons];rcases List.mem_cons.1 b with rfl|b
  ·grind
  ·have e:=pn (l:=l) (by grind) ⟨x,b,d,c⟩
   grind
def En n(a:List _):=(jP n).countP fun x=>!a.contains x
theorem FQ n a:En n a<=n:=by
 grind [List.countP_le_length,jP,En]
theorem HT{n:Nat}{a}{b:Int}(c:0<=b/\b<n)(e:a.contains b=false) l(d:b∈l):En n (a++l)<En n a:=by
 refine pn (fun x _ h=>?_) ⟨b,oK.2 c,by grind,by grind⟩
 grind
def ms n m(todo a:List Int):=En n a*(m+1)+todo.length
theorem ov{t todo}:fr (t::todo)∈t::todo:=by
 grind [fr]
theorem yR{t todo}:(t::todo).dropLast++[fr (t::todo)]=t::todo:=by
 grind [fr,List.dropLast_concat_getLast]
theorem BU n m t todo a:ms n m (t::todo).dropLast a<ms n m (t::todo) a:=by
 grind [ms]
theorem Bo{n m L}(e:WG n m L) t todo a(c:0<=fr (t::todo)/\fr (t::todo)<n)(b:a.contains (fr (t::todo))=false):
  ms n m ((t::todo).dropLast++L.at (fr (t::todo))) (a++[fr (t::todo)])<ms n m (t::todo) a:=by
 unfold ms;have d:=HT c b [fr (t::todo)] (by simp);have g:=e.le (fr (t::todo));have f:=Nat.mul_le_mul_right (m+1) d
 grind
structure Sd(n m:Nat)(todo met:List Int):Prop where
 ht: ∀x,x∈todo->0<=x/\x<n
 hm: ∀x,x∈met->0<=x/\x<n
 le:todo.length+En n met*m<=(n+1)*m
theorem Sd.pop{n m t todo a}(h:Sd n m (t::todo) a):Sd n m (t::todo).dropLast a:=
 ⟨fun x b=>h.ht x (List.dropLast_subset _ b),h.hm,by have:=h.le;grind⟩
theorem Sd.add{n m L}(d:WG n m L){t todo a}(h:Sd n m (t::todo) a)(g:a.contains (fr (t::todo))=false):Sd n m ((t::todo).dropLast++L.at (fr (t::todo))) (a++[fr (t::todo)]):=by
 have c:=h.ht _ ov;refine⟨fun x b=>?_,fun x b=>?_,?_⟩
 ·rcases List.mem_append.1 b with b|b
  ·exact h.ht x (List.dropLast_subset _ b)
  ·exact d.lk _ c.1 x b
 ·rcases List.mem_append.1 b with b|b
  ·exact h.hm x b
  grind
 ·have e:=HT c g [fr (t::todo)] (by simp)
  have j:=d.le (fr (t::todo));have f:=Nat.mul_le_mul_right m (show En n (a++[fr (t::todo)])+1<=En n a from e);rw[Nat.add_mul] at f;have i:=h.le
  grind
theorem Sd.start{n m L}(b:WG n m L){a}(d:0<=a):Sd n m (L.at a) []:=
 ⟨fun x c=>b.lk a d x c,by simp,by
  have f:=b.le a;have e:=Nat.mul_le_mul_right m (FQ n [])
  grind⟩
theorem rK{n m L}(b:WG n m L): ∀f g todo a,Sd n m todo a->ms n m todo a<=f->ms n m todo a<=g->Jx L f todo a=Jx L g todo a
 |0,g,todo,a,_,h,_=>by
  have:todo=[]:=by unfold ms at h;simp_all
  subst this;cases g<;>rfl
 |f+1,0,todo,a,_,_,h=>by
  have:todo=[]:=by unfold ms at h;simp_all
  subst this;rfl
 |f+1,g+1,[],a,_,_,_=>rfl
 | f+1,g+1,t::todo,a,c,e,i=>by
  rw[Jx,Jx];cases d:a.contains (fr (t::todo)) with
  |true=>
   have:=BU n m t todo a
   rw[aq3,aq3];exact rK b f g _ _ c.pop (by omega) (by omega)
  |false=>
   have:=Bo b t todo a (c.ht _ ov) d
   exact rK b f g _ _ (c.add b d) (by omega) (by omega)
def vB n m L todo a:=Jx L (ms n m todo a) todo a
theorem Dg n m L a:vB n m L [] a=a:=by
 unfold vB;cases ms n m _ _<;>rfl
theorem KH{n m L}(b:WG n m L){t todo a}(c:Sd n m (t::todo) a):
  vB n m L (t::todo) a=bif a.contains (fr (t::todo)) then vB n m L (t::todo).dropLast a else vB n m L ((t::todo).dropLast++L.at (fr (t::todo))) (a++[fr (t::todo)]):=by
 have e:ms n m (t::todo) a=ms n m (t::todo) a - 1+1:=by rfl
 unfold vB;rw[e,Jx];cases d:a.contains _ with
 |true=>
  have:=BU n m t todo a
  exact rK b _ _ _ _ c.pop (by omega) (Nat.le_refl _)
 |false=>
  have:=Bo b t _ _ (c.ht _ ov) d
  exact rK b _ _ _ _ (c.add b d) (by omega) (Nat.le_refl _)
theorem Au{n m L}(g:WG n m L)(P:Int->Prop)(l: ∀x y,P x->y∈L.at x->P y): ∀f todo b,Sd n m todo b->ms n m todo b<=f->(∀x,x∈todo\/x∈b->P x)->(∀x,x∈b->∀y,y∈L.at x->y∈b\/y∈todo)->
  (∀x,x∈Jx L f todo b->P x)/\(∀x,x∈todo\/x∈b->x∈Jx L f todo b)/\∀x,x∈Jx L f todo b->∀y,y∈L.at x->y∈Jx L f todo b
 |0,todo,b,_,h,c,d=>by
  have:todo=[]:=by unfold ms at h;exact List.eq_nil_of_length_eq_zero (by omega)
  subst this;exact⟨fun x a=>c x (.inr a),fun x a=>a.resolve_left (by simp),fun x a y e=>(d x a y e).resolve_right (by simp)⟩
 |f+1,[],b,_,_,c,d=>⟨fun x a=>c x (.inr a),fun x a=>a.resolve_left (by simp),fun x a y e=>(d x a y e).resolve_right (by simp)⟩
 | f +1,t::todo,b,j,h,c,d=>by
  have hd: ∀x,x∈t::todo->x∈(t::todo).dropLast\/x=fr (t::todo):=fun x a=>by
   rw[←yR (t:=t) (todo:=todo)] at a;simpa using a
  rw[Jx];cases k:b.contains (fr (t::todo)) with
  | true=>
   have r:fr (t::todo)∈b:=by simpa using k
   have:=BU n m t todo b
   rw[aq3];obtain⟨p,i,q⟩:=Au g P l f (t::todo).dropLast b j.pop (by omega) (fun x a=>c x (a.imp (fun h=>List.dropLast_subset _ h) id)) (fun x a y e=>by
    rcases d x a y e with h|h
    ·exact .inl h
    ·rcases hd y h with h|rfl
     ·exact .inr h
     ·exact .inl r)
   refine⟨p,fun x a=>?_,q⟩;rcases a with a|a
   ·rcases hd x a with h|rfl
    ·exact i x (.inl h)
    ·exact i _ (.inr r)
   ·exact i x (.inr a)
  | false=>
   have:=Bo g t todo b (j.ht _ ov) k
   have o:=c _ (.inl (ov (t:=t) (todo:=todo)));rw[aq1];obtain⟨p,i,q⟩:=Au g P l f _ _ (j.add g k) (by omega) (fun x a=>by
    rcases a with a|a
    ·rcases List.mem_append.1 a with a|a
     ·exact c x (.inl (List.dropLast_subset _ a))
     ·exact l _ _ o a
    ·rcases List.mem_append.1 a with a|a
     ·exact c x (.inr a)
     ·rw[List.mem_singleton] at a;rw[a];exact o) (by grind)
   grind
def iS n m L a:=vB n m L (L.at a) []
theorem Q8{n m L}(d:WG n m L){a b}(f:0<=a):b∈iS n m L a↔Rc L a b:=by
 obtain⟨j,g,q⟩:=Au d (Rc L a) (fun x y h k=>h.step k) _ _ _ (Sd.start d f) (Nat.le_refl _) (fun x p=>⟨x,by grind, .refl x⟩) (by simp);refine⟨j b,?_⟩;rintro⟨c,e,i⟩;have l:=g c (.inl e);clear e;induction i with
 |refl=>exact l
 |step h _ o=>grind
def lp n m L a b:=decide (a=b)||(iS n m L a).contains b&&(iS n m L b).contains a
theorem PI n m L a:lp n m L a a=true:=by simp[lp]
section
variable {n m:Nat} {L:Gr}
def iq n m L a:=(jP n).filter (lp n m L a)
def kU n m L(done:List Int) a:=!done.contains a&&(iS n m L a).all fun b=>done.contains b||lp n m L a b
def gZ n m L done:=((jP n).find? (kU n m L done)).getD (-1)
def wc(done l:List Int):=l.foldl (fun d b=>bif d.contains b then d else d++[b]) done
def yz(n m:Nat)(L:Gr):Nat->List Int->List (List Int)
 |0,_=>[]
 |f+1,done=>bif decide (gZ n m L done<0) then[] else iq n m L (gZ n m L done)::yz n m L f (wc done (iq n m L (gZ n m L done)))
theorem xG: ∀l done x,x∈wc done l↔x∈done\/x∈l
 |[],done,x=>by simp[wc]
 |b::l,done,x=>by
  have a:=xG l (bif done.contains b then done else done++[b]) x
  grind [wc]
theorem zA{done}(h:0<=gZ n m L done):(0<=gZ n m L done/\gZ n m L done<n)/\kU n m L done (gZ n m L done)=true:=by
 unfold gZ at h⊢;cases e:(jP n).find? _<;>grind [oK]
theorem Sy{a b}:b∈iq n m L a↔(0<=b/\b<n)/\lp n m L a b=true:=by
 unfold iq;rw[List.mem_filter,oK]
theorem Be{done}(h:0<=gZ n m L done):En n (wc done (iq n m L (gZ n m L done)))<En n done:=by
 obtain⟨b,a⟩:=zA h;have c:=by
  simp only[kU,ap7,Bool.not_eq_true'] at a;exact a.1
 refine pn (fun x _ d=>?_) ⟨gZ n m L done,oK.2 b,by simpa using c,?_⟩
 ·simp_all[xG,not_or]
 simp_all[ap6,xG,Sy,PI]
theorem zE: ∀f g done,En n done<f->En n done<g->yz n m L f done=yz n m L g done
 |0,_,_,h,_=>by omega
 |_+1,0,_,_,h=>by omega
 | f+1,g+1,done,b,a=>by
  rw[yz,yz];cases h:decide (gZ n m L done<0) with
  |true=>rfl
  |false=>
   have:=Be     (by simpa using h)
   rw[aq1,aq1,zE f g _ (by omega) (by omega)]
def ue n m L done:=yz n m L (En n done+1) done
theorem CI done:ue n m L done=bif decide (gZ n m L done<0) then[] else iq n m L (gZ n m L done)::ue n m L (wc done (iq n m L (gZ n m L done))):=by
 unfold ue;rw[yz];cases h:decide (gZ n m L _<0) with
 |true=>rfl
 |false=>
  have:=Be     (by simpa using h)
  rw[aq1,aq1,zE _ _ _ (by omega) (Nat.lt_succ_self _)]
end
end Go.Rl
namespace Go.Proofs.YtioeffnadipbaaaGreatDoor
open Go Go.Dn Go.Rl Go.Proofs
attribute [local irreducible] a0 vc
set_option maxRecDepth 20000
def jY(op:Int):Bool:=decide (op=1)
def ig(a:Int):=bif decide (a=2) then true else decide (a>=7)
def dL(a:Int):=bif decide (a<3) then true else decide (a>6)
theorem yKa κ op K:(a0 (ECs κ) 12 90 [.int op] [] K)=(
 K (AV.bool (op==(1:Int))) []):=by kernel_rfl
def gKa:List AV->Option (Bool×AV)
 |[.lit (.int .i64 a)]=>some (true, .bool (jY a))
 |_=>none
theorem pKa κ:cd (ECs κ) 12 90 gKa:=by
 intro b x a;unfold gKa at a;split at a
 ·rename_i c
  simp   at a;subst a;exact⟨_,rfl,rfl,Eq.mpr (yKa κ _ _) (by rfl)⟩
 grind
noncomputable def Ze κ:=(ECs κ).aK 90 gKa
theorem eKa κ:aE (Ze κ):=(eCs _).aK (mCs _) (pKa _)
theorem mKa κ:aj (Ze κ):=(mCs _).aK
theorem yKb κ op K:(a0 (Ze κ) 12 88 [.int op] [] K)=(
 aq (op==(2:Int)) (K (AV.bool true) []) (K (AV.bool (decide (op>=(7:Int)))) [])):=by kernel_rfl
def gKb:List AV->Option (Bool×AV)
 |[.lit (.int .i64 a)]=>some (true, .bool (ig a))
 |_=>none
theorem pKb κ:cd (Ze κ) 12 88 gKb:=by
 intro b x a;unfold gKb at a;split at a
 ·rename_i c
  simp   at a;subst a;refine⟨_,rfl,rfl,Eq.mpr (yKb _ _ _) ?_⟩;simp[Xg];unfold ig;cases decide (c=2)<;>rfl
 grind
noncomputable def Yx κ:=(Ze κ).aK 88 gKb
theorem eKb κ:aE (Yx κ):=(eKa _).aK (mKa _) (pKb _)
theorem mKb κ:aj (Yx κ):=(mKa _).aK
theorem yKc κ(a:LA) K:(a0 (Yx κ) 12 130 [a.av] [] K)=(
 aq (decide (a.op<(3:Int))) (K (AV.bool true) []) (K (AV.bool (decide (a.op>(6:Int)))) [])):=by kernel_rfl
def gKc:List AV->Option (Bool×AV)
 |[.agg [.lit (.int .i64 a), .agg [.lit (.string _), .ah 38 _], .agg [.lit (.int .i64 _), .lit (.string _), .lit (.int .i64 _), .ah 38 _], .agg [.lit (.int .i64 _), .lit (.string _), .lit (.int .i64 _), .ah 38 _]]]=>some (true, .bool (dL a))
 |_=>none
theorem pKc κ:cd (Yx κ) 12 130 gKc:=by
 intro b x a;unfold gKc at a;split at a
 ·rename_i c s l e s1 f g h s2 i d
  simp only[ap9,aq5,true_and] at a;subst a;refine⟨_,rfl,rfl,Eq.mpr (yKc κ ⟨c,s,l,e,s1,f,g,h,s2,i,d⟩ _) ?_⟩;unfold dL;simp only;cases decide (c<3)<;>rfl
 ·cases a
noncomputable def Q1 κ:=(Yx κ).aK 130 gKc
theorem eKc κ:aE (Q1 κ):=(eKb _).aK (mKb _) (pKc _)
theorem mKc κ:aj (Q1 κ):=(mKb _).aK
theorem xKd κ l k i I n K:(vc (Q1 κ) 12 131 none 0 (ad (Pr κ).toProgram 131 2) (sp 19 [(0, .ah 3 l),(1, .int k),(7, .int l.length),(8, .int i)] []) (bj (Q1 κ) 131 2 0 I n K))=(
 letI a:=i<(↑(l.length):Int)
 aq (decide a) (aV (decide ((0:Int)<=i)&&decide a) (aq (k==toInt (nth l i.toNat)) (K Exit.ret (sp 19 [(4,AV.int i)] [])) (∃(e0:Nat),e0<n/\I e0
 (sp 19 [(0,AV.ah 3 l),(1,AV.int k),(7,AV.int (↑(l.length):Int)),(8,AV.int (IntKind.wrap IntKind.i64 (i+(1:Int))))] [])))) (K (Exit.exit 0) (sp 19
 [] []))):=by kernel_rfl
def gW(k:Int):List AV->Int->Int
 |[],_=> -1
 |a::l,i=>bif decide (k=toInt a) then i else gW k l (i+1)
abbrev aa9(a:List _×Int×Int):=sp 19 [(0, .ah 3 a.1),(1, .int a.2.1),(7, .int a.1.length),(8, .int a.2.2)] []
def Mi(a:List AV×Int×Int):=a.1.length<=aW/\0<=a.2.2/\a.2.2<=a.1.length
def It(a:List AV×Int×Int):Out (Exit×S):= .aq (decide (gW a.2.1 (a.1.drop a.2.2.toNat) a.2.2>=0)) (.one (.ret,sp 19 [(4, .int (gW a.2.1 (a.1.drop a.2.2.toNat) a.2.2))] [])) (.one (.exit 0,sp 19 [] []))
theorem lKd κ:aU (Q1 κ) 12 131 2 (aG 0 aa9 Mi It):=by
 refine aC (fun a=>a.1.length - a.2.2.toNat) ?_;rintro⟨l,s,i⟩ K ⟨d,c,g⟩ b;simp only at d c g;rw[show(Q1 κ).P=Pr κ from rfl];refine Eq.mpr (xKd κ l s i _ _ K) ?_;simp only[aW] at d;simp only[It,Out.run,ae] at b;simp only[ae,ai,ap6,ap8,ap7,beq_iff_eq,beq_eq_false_iff_ne];refine⟨fun f=>⟨⟨c,f⟩,fun e=>?_,fun e=>?_⟩,fun f=>?_⟩
 ·rw[aq7 (show i.toNat<l.length by omega),←aM l i.toNat (by omega),gW,aq2 e,aq3,aq2 (show i>=0 from c)] at b
  exact b.1 rfl
 ·rw[az (n:=i+1) (by omega) (by omega)]
  refine⟨_,?_,(l,s,i+1),rfl,⟨by simpa[aW] using d,by simp only;omega,by simp only;omega⟩,rfl,?_⟩
  ·simp only;omega
  ·rw[aq7 (show i.toNat<l.length by omega),←aM l i.toNat (by omega),gW,aq0 e,aq1] at b
   simp only[It,Out.run,ae,show(i+1).toNat=i.toNat+1 by omega];exact b
 ·rw[aq4 (by omega)] at b
  exact b.2 rfl
noncomputable def YM κ:=(Q1 κ).an 131 2 (aG 0 aa9 Mi It)
theorem eKd κ:aE (YM κ):=(eKc _).an (mKc _) (lKd _)
theorem mKd κ:aj (YM κ):=(mKc _).an aI
theorem yKe κ l k K:(a0 (YM κ) 12 131 [.ah 3 l, .int k] [] K)=(
 letI b:=AV.int
 ad (Pg.toProgram (Env.P (Q1 κ))) 131 2=ad (Pg.toProgram (Env.P (Q1 κ))) 131 2/\∃(a:List AV×Int×Int),letI c:=List.drop (Int.toNat a.2.2) a.1;sp 19 [(0,AV.ah 3 l),(1,b k),(7,b (↑(l.length):Int)),(8,b 0)] []=sp 19 [(0,AV.ah 3 a.1),(1,b a.2.1),(7,b (↑(a.1.length):Int)),(8,b a.2.2)] []/\(a.1.length<=9223372036854775807/\(0:Int)<=a.2.2/\a.2.2<=(↑(a.1.length):Int))/\aq (decide (gW a.2.1 c a.2.2>=(0:Int))) (K (b (gW a.2.1 c a.2.2)) []) (K (b (-1)) [])):=by kernel_rfl
def gKe:List AV->Option (Bool×AV)
 |[.ah 3 l, .lit (.int .i64 k)]=>some (decide (l.length<=aW), .int (gW k l 0))
 |_=>none
theorem xx s: ∀l i,¬ gW s l i>=0->0<=i->gW s l i= -1
 |[],_,_,_=>rfl
 |a::l,i,h,b=>by
  simp only[gW] at h⊢;cases e:decide (s=toInt a) with
  |true=>grind
  |false=>rw[e] at h;exact xx s l _ h (by omega)
theorem pKe κ:cd (YM κ) 12 131 gKe:=by
 intro b x a;unfold gKe at a;split at a
 ·rename_i l s
  simp only[ap9,aq5,ap6] at a;obtain⟨c,rfl⟩:=a;refine⟨_,rfl,rfl,?_⟩;refine Eq.mpr (yKe κ l s _) ?_;refine⟨rfl,(l,s,0),rfl,⟨c,by simp only;omega,by simp only;omega⟩,?_⟩
  simp_all[Int.toNat_zero,aq6,ae,ap6,trivial,xx]
 ·cases a
noncomputable def Ys κ:=(YM κ).aK 131 gKe
theorem eKe κ:aE (Ys κ):=(eKd _).aK (mKd _) (pKe _)
theorem mKe κ:aj (Ys κ):=(mKd _).aK
theorem yKf κ l k K:(a0 (Ys κ) 12 85 [.ah 3 l, .int k] [] K)=(
 aV (decide (l.length<=9223372036854775807)) (K (AV.bool (decide (gW k l (0:Int)>=(0:Int)))) [])):=by kernel_rfl
def Zb k l:=decide (gW k l 0>=0)
def gKf:List AV->Option (Bool×AV)
 |[.ah 3 l, .lit (.int .i64 k)]=>some (decide (l.length<=aW), .bool (Zb k l))
 |_=>none
theorem pKf κ:cd (Ys κ) 12 85 gKf:=by
 intro b x a;unfold gKf at a;split at a
 ·rename_i l s
  simp   at a;obtain⟨c,rfl⟩:=a;refine⟨_,rfl,rfl,?_⟩;refine Eq.mpr (yKf _ l s _) ?_;rw[ai,ap6];exact⟨c,rfl⟩
 grind
noncomputable def Sn κ:=(Ys κ).aK 85 gKf
theorem eKf κ:aE (Sn κ):=(eKe _).aK (mKe _) (pKf _)
theorem mKf κ:aj (Sn κ):=(mKe _).aK
theorem zr k: ∀l i,0<=i->(gW k (iA l) i>=0↔k∈l)
 |[],_,_=>by simp[iA,gW]
 |a::l,i,c=>by
  have b:=zr k l (i+1) (by omega);simp only[iA,ar3,gW] at b⊢
  grind [toInt]
theorem OD k l:Zb k (iA l)=l.contains k:=by
 grind [Zb,zr]
def Gv(ds:List AV)(a:Int):List AV->List (Int×Int)
 |[]=>[]
 |l::b=>bif dL (toInt (ag l 0)) then(a,bx (toStr (ag (ag l 1) 0)) ds)::Gv ds a b else Gv ds a b
def edR ds r:=Gv ds (bx (toStr (ag (ag r 0) 0)) ds) (af (ag r 1))
def zd(ds rs:List _):=rs.flatMap (edR ds)
def Et(E:List (Int×Int)):List AV:=E.map fun e=> .aH [.int e.1, .int e.2]
theorem QT E F:Et (E++F)=Et E++Et F:=by simp[Et]
structure Tl where
 ds:List AV
 rs:List AV
 xs:List AV
 more:List AV
 bl:List AV
 a:Int
 i:Int
 j:Int
abbrev O0(x:Tl):=sp 53 [(0, .cf 0),(1, .ptr 1 0 [] 0),(5, .int x.a),(12, .ah 48 x.rs),(13, .int x.rs.length),(14, .int x.i),(28, .ah 80 x.bl),(29, .int x.bl.length),(30, .int x.j)] [.ext (some x.xs), .box 25 (eG x.ds x.rs)]
theorem xKg κ x I n K:(vc (Sn κ) 12 129 none 2 (ad (Pr κ).toProgram 129 5) (O0 x) (bj (Sn κ) 129 5 2 I n K))=(
 letI a:=AV.int
 letI b:=Obj.box
 letI c:=Obj.ext
 letI d:=AV.ah
 letI e:=AV.agg [d 43 x.ds,d 48 x.rs]
 letI g:=IntKind.wrap IntKind.i64 (x.j+(1:Int))
 letI f:=x.bl.length
 aq (decide (x.j<(↑f:Int))) (aV (decide ((0:Int)<=x.j)&&decide (x.j<(↑f:Int))) (aq (!dL (toInt (ag (nth x.bl x.j.toNat) 0))) (∃(e0:Nat),e0<n
 /\I e0 (sp 53 [(0,AV.cf 0),(1,AV.ptr 1 0 [] 0),(5,a x.a),(12,d 48 x.rs),(13,a (↑(x.rs.length):Int)),(14,a x.i),(28,d 80
 x.bl),(29,a (↑f:Int)),(30,a g)] [c (some x.xs),b 25 e])) (∃(e2:List AV×ByteArray),([d 43 x.ds,AV.str (toStr (ag (ag
 (nth x.bl x.j.toNat) 1) 0))],aL)=([d 43 e2.1,AV.str e2.2],aL)/\iy e2/\∃(e1:List AV),x.xs=AV.aH [a x.a,a (bx e2.2 e2.1)]::e1/\(∃
 (e0:Nat),e0<n/\I e0 (sp 53 [(0,AV.cf 0),(1,AV.ptr 1 0 [] 0),(5,a x.a),(12,d 48 x.rs),(13,a (↑(x.rs.length):Int)),(14,a
 x.i),(28,d 80 x.bl),(29,a (↑f:Int)),(30,a g)] [c (some e1),b 25 e]))/\K Exit.ret (sp 53 [] [c none,b 25
 e])))) (K (Exit.exit 2) (sp 53 [(0,AV.cf 0),(1,AV.ptr 1 0 [] 0),(12,d 48 x.rs),(13,a (↑(x.rs.length):Int)),(14,a x.i)] [c (some
 x.xs),b 25 e]))):=by kernel_rfl
def F9(x:Tl):=x.ds.length<=aW/\x.bl.length<=aW/\0<=x.j/\x.j<=x.bl.length/\x.xs=Et (Gv x.ds x.a (x.bl.drop x.j.toNat))++x.more
def O9(x:Tl):Out (Exit×S):= .all (fun _=>True) fun b=> .aq b
 (.one (.exit 2,sp 53 [(0, .cf 0),(1, .ptr 1 0 [] 0),(12, .ah 48 x.rs),(13, .int x.rs.length),(14, .int x.i)] [.ext (some x.more), .box 25 (eG x.ds x.rs)]))
 (.one (.ret,sp 53 [] [.ext none, .box 25 (eG x.ds x.rs)]))
theorem M9 ds a b k(h:k<b.length):Gv ds a (b.drop k)=bif dL (toInt (ag (nth b k) 0)) then(a,bx (toStr (ag (ag (nth b k) 1) 0)) ds)::Gv ds a (b.drop (k+1)) else Gv ds a (b.drop (k+1)):=by
 grind [List.drop_eq_getElem_cons,aM,Gv]
theorem lKg κ:aU (Sn κ) 12 129 5 (aG 2 O0 F9 O9):=by
 refine aC (fun x=>x.bl.length - x.j.toNat) ?_;rintro⟨ds,l,xs,b,d,a,i,j⟩ K ⟨p,q,s,t,c⟩ o;simp only at p q s t c;rw[show(Sn κ).P=Pr κ from rfl];refine Eq.mpr (xKg κ ⟨ds,l,xs,b,d,a,i,j⟩ _ _ K) ?_;simp only[aW] at q;have f:=o true trivial;have h:=o false trivial;simp only[Out.run,aq] at f h;simp only[ae,ai,ap6,ap8,ap7];refine⟨fun r=>⟨⟨s,r⟩,?_⟩,fun r=>?_⟩
 ·have hd:=M9 ds a d j.toNat (by omega)
  rw[hd] at c;rw[az (n:=j+1) (by omega) (by omega)];have g: ∀k,k=Et (Gv ds a (d.drop (j.toNat+1)))++b->∃m,m<d.length - j.toNat/\et O0 F9 O9 (fun x=>x.bl.length - x.j.toNat) K m (O0 ⟨ds,l,k,b,d,a,i,j+1⟩):=fun k u=>by
   refine⟨_,?_,⟨ds,l,k,b,d,a,i,j+1⟩,rfl,⟨p,by simpa[aW] using q,by simp only;omega,by simp only;omega,?_⟩,rfl,o⟩
   ·simp only;omega
   ·simp only[show(j+1).toNat=j.toNat+1 by omega];exact u
  refine⟨fun e=>?_,fun e=>?_⟩
  ·grind
  ·rw[show dL (toInt (ag (nth d j.toNat) 0))=true by simpa using e] at c
   exact⟨(ds,toStr (ag (ag (nth d j.toNat) 1) 0)),rfl,p,_,c,g _ rfl,h⟩
 ·rw[aq4 (by omega)] at c
  have c:xs=b:=c;subst c;exact f
noncomputable def Qk κ:=(Sn κ).an 129 5 (aG 2 O0 F9 O9)
theorem eKg κ:aE (Qk κ):=(eKf _).an (mKf _) (lKg _)
theorem mKg κ:aj (Qk κ):=(mKf _).an aI
abbrev QY(x:Tl):=sp 53 [(0, .cf 0),(1, .ptr 1 0 [] 0),(12, .ah 48 x.rs),(13, .int x.rs.length),(14, .int x.i)] [.ext (some x.xs), .box 25 (eG x.ds x.rs)]
theorem xKh κ x I n K:(vc (Qk κ) 12 129 none 2 (ad (Pr κ).toProgram 129 1) (QY x) (bj (Qk κ) 129 1 2 I n K))=(
 letI a:=AV.int
 letI b:=Obj.box
 letI c:=Obj.ext
 letI d:=AV.ah
 letI g:=AV.agg [d 43 x.ds,d 48 x.rs]
 letI e:=nth x.rs x.i.toNat
 letI h:=x.i<(↑(x.rs.length):Int)
 letI i:=Pg.toProgram (Env.P (Sn κ))
 aq (decide h) (aV (decide ((0:Int)<=x.i)&&decide h) (∃(e3:List AV×ByteArray),([d 43 x.ds,AV.str (toStr (ag (ag e 0) 0))],aL)=([d 43 e3.1,AV.str e3.2],aL)/\iy e3/\ad i 129 5=ad i 129 5/\∃(e2:Tl),letI f:=AV.agg [d 43 e2.ds,d 48 e2.rs];sp 53 [(0,AV.cf 0),(1,AV.ptr 1 0 [] 0),(5,a (bx e3.2 e3.1)),(12,d 48 x.rs),(13,a (↑(x.rs.length):Int)),(14,a x.i),(28,d 80 (af (ag e 1))),(29,a (↑(List.length (af (ag e 1))):Int)),(30,a 0)] [c (some x.xs),b 25 g]=sp 53 [(0,AV.cf 0),(1,AV.ptr 1 0 [] 0),(5,a e2.a),(12,d 48 e2.rs),(13,a (↑(e2.rs.length):Int)),(14,a e2.i),(28,d 80 e2.bl),(29,a (↑(e2.bl.length):Int)),(30,a e2.j)] [c (some e2.xs),b 25 f]/\(e2.ds.length<=9223372036854775807/\e2.bl.length<=9223372036854775807/\(0:Int)<=e2.j/\e2.j<=(↑(e2.bl.length):Int)/\e2.xs=Et (Gv e2.ds e2.a (List.drop e2.j.toNat e2.bl))++e2.more)/\∀(e1:Bool),True->aq e1 (∃(e0:Nat),e0<n/\I e0 (sp 53 [(0,AV.cf 0),(1,AV.ptr 1 0 [] 0),(12,d 48 e2.rs),(13,a (↑(e2.rs.length):Int)),(14,a (IntKind.wrap IntKind.i64 (e2.i+(1:Int))))] [c (some e2.more),b 25 f])) (K Exit.ret (sp 53 [] [c none,b 25 f])))) (K (Exit.exit 0) (sp 53 [] [c (some x.xs),b 25 g]))):=by kernel_rfl
def N6(a:List _):=∀r,r∈a->(af (ag r 1)).length<=aW
def Fz(x:Tl):=x.ds.length<=aW/\x.rs.length<=aW/\N6 x.rs/\0<=x.i/\x.i<=x.rs.length/\x.xs=Et (zd x.ds (x.rs.drop x.i.toNat))
def Nu(x:Tl):Out (Exit×S):= .all (fun _=>True) fun b=> .aq b
 (.one (.exit 0,sp 53 [] [.ext (some []), .box 25 (eG x.ds x.rs)]))
 (.one (.ret,sp 53 [] [.ext none, .box 25 (eG x.ds x.rs)]))
theorem lKh κ:aU (Qk κ) 12 129 1 (aG 2 QY Fz Nu):=by
 refine aC (fun x=>x.rs.length - x.i.toNat) ?_;rintro⟨ds,b,xs,c,q,a,i,j⟩ K ⟨g,h,o,p,s,d⟩ l;simp only at g h p s d o;rw[show(Qk κ).P=Pr κ from rfl];refine Eq.mpr (xKh κ ⟨ds,b,xs,c,q,a,i,j⟩ _ _ K) ?_;simp only[aW] at h;have e:=l true trivial;have f:=l false trivial;simp only[Out.run,aq] at e f;simp only[ae,ai,ap6,ap8,ap7];refine⟨fun r=>⟨⟨p,r⟩,(ds,toStr (ag (ag (nth b i.toNat) 0) 0)),rfl,g,?_⟩,fun r=>?_⟩
 ·have k:i.toNat<b.length:=by omega
  rw[zd,aq7 k,←aM b i.toNat k,List.flatMap_cons,QT] at d;refine⟨trivial,⟨ds,b,xs,Et (zd ds (b.drop (i.toNat+1))),af (ag (nth b i.toNat) 1),bx (toStr (ag (ag (nth b i.toNat) 0) 0)) ds,i,0⟩,rfl,⟨g,?_,by simp only;omega,by simp only;omega,d⟩,?_⟩
  ·exact o _ (by rw[aM _ _ k];exact List.getElem_mem _)
  ·intro y _
   refine⟨fun _=>?_,fun _=>f⟩
   ·show∃m,m<b.length - i.toNat/\et QY Fz Nu (fun x=>x.rs.length - x.i.toNat) K m (sp 53 [(0, .cf 0),(1, .ptr 1 0 [] 0),(12, .ah 48 b),(13, .int b.length),(14, .int (IntKind.wrap IntKind.i64 (i+1)))] [.ext (some (Et (zd ds (b.drop (i.toNat+1))))), .box 25 (eG ds b)])
    rw[az (n:=i+1) (by omega) (by omega)];refine⟨_,?_,⟨ds,b,_,c,q,a,i+1,j⟩,rfl,⟨g,by simpa[aW] using h,o,by simp only;omega,by simp only;omega,?_⟩,rfl,l⟩
    ·simp only;omega
    ·simp only[show(i+1).toNat=i.toNat+1 by omega];rfl
 ·rw[aq4 (by omega)] at d
  have d:xs=[]:=d;subst d;exact e
noncomputable def XR κ:=(Qk κ).an 129 1 (aG 2 QY Fz Nu)
theorem eKh κ:aE (XR κ):=(eKg _).an (mKg _) (lKh _)
theorem mKh κ:aj (XR κ):=(mKg _).an aI
theorem yKi κ ds rs xs K:(a0 (XR κ) 12 129 [.cf 0, .ptr 1 0 [] 0] [.ext (some xs), .box 25 (eG ds rs)] K)=(
 letI b:=Obj.box
 letI c:=Obj.ext
 letI d:=AV.ah
 ad (Pg.toProgram (Env.P (Qk κ))) 129 1=ad (Pg.toProgram (Env.P (Qk κ))) 129 1/\∃(a:Tl),letI e:=AV.agg [d 43 a.ds,d 48 a.rs];sp 53 [(0,AV.cf 0),(1,AV.ptr 1 0 [] 0),(12,d 48 rs),(13,AV.int (↑(rs.length):Int)),(14,AV.int 0)] [c (some xs),b 25 (AV.agg [d 43 ds,d 48 rs])]=sp 53 [(0,AV.cf 0),(1,AV.ptr 1 0 [] 0),(12,d 48 a.rs),(13,AV.int (↑(a.rs.length):Int)),(14,AV.int a.i)] [c (some a.xs),b 25 e]/\(a.ds.length<=9223372036854775807/\a.rs.length<=9223372036854775807/\(∀(r:AV),List.Mem r a.rs->List.length (af (ag r 1))<=9223372036854775807)/\(0:Int)<=a.i/\a.i<=(↑(a.rs.length):Int)/\a.xs=Et (zd a.ds (List.drop a.i.toNat a.rs)))/\∀(y:Bool),True->aq y (K (AV.aH []) [c (some []),b 25 e]) (K (AV.aH []) [c none,b 25 e])):=by kernel_rfl
def Vl(x:B3):List AV×List Dn.Obj:=([.cf 0, .ptr 1 0 [] 0],[.ext (some (Et (zd x.1 x.2))), .box 25 (eG x.1 x.2)])
def G1(x:B3):=x.1.length<=aW/\x.2.length<=aW/\N6 x.2
def Oe(_:B3):Out (AV×List Dn.Obj):= .all (fun st'=>sm st') fun st'=> .one (.aH [],st')
theorem cKi κ:bd (XR κ) 12 129 (aO Vl G1 Oe):=by
 refine aR ?_;rintro⟨ds,b⟩ K ⟨c,d,e⟩ a;refine Eq.mpr (yKi κ ds b _ K) ?_;refine⟨rfl,⟨ds,b,_,[],[],0,0,0⟩,rfl,⟨c,d,e,by simp,by simp only;omega,rfl⟩,fun y _=>?_⟩;cases y
 ·exact a _ trivial
 ·exact a _ trivial
set_option maxRecDepth 20000 in
noncomputable def Az(κ:Kp):Env:=(XR κ).aw 129 (aO Vl G1 Oe)
theorem eKi κ:aE (Az κ):=(eKh _).aw (mKh _) (cKi _)
theorem mKi κ:aj (Az κ):=(mKh _).aw aJ
end Go.Proofs.YtioeffnadipbaaaGreatDoor
namespace Go.Proofs.YtioeffnadipbaaaGreatDoor
open Go Go.Dn Go.Rl Go.Proofs
theorem ye{f}: ∀{a},(Hf f a).2=0↔ ∀x,x∈a->f x=0
 |[]=>by simp[Hf]
 |x::l=>by
  rw[Hf];by_cases h:f x=0
  ·rw[aq2 h,aq3,ye];grind
  grind
theorem tq{ds a}:(lZ ds a).2=0↔fB ds a=true/\(Tx ds ds 0).2=0/\(∀x,x∈a->kj ds x=0)/\∀x,x∈a->kQ x=0:=by
 unfold lZ BY;cases fB ds a with
 |false=>simp
 | true=>
  simp only[aq3,true_and];by_cases h:(Tx ds ds 0).2=0
  ·by_cases b:(Hf (kj ds) a).2=0
   ·simp_all[aq2,aq3,ye]
   ·grind [ye]
  grind
theorem Mx{ds a}(h:known (cP ds) a=0):0<=bx a.rel ds/\bx a.rel ds<ds.length:=by
 unfold known at h;cases e:kV a.rel (cP ds) with
 |none=>grind
 |some k=>obtain⟨_,c,b⟩:=n8 e;omega
theorem Uh{ds r}(h:(uO (ds,r)).1=0):iY (cP ds) (aQ r)=0:=by
 by_cases e:iY (cP ds) (aQ r)=0
 ·omega
 ·have a: ∀n,(fJ getM gx _ _ (n+1) []).1=iY _ _:=fun n=>by
   rw[fJ,Dy _ _ _ e,aq0 e,aq1]
  grind [uO,L2]
theorem qm{ds}: ∀{b},jm ds b=0->∀l,l∈b->Rl.dL l=true->known ds l.a=0
 |[],_,_,h,_=>nomatch h
 | x::b,d,l,c,f=>by
  rw[jm] at d;cases e:Rl.dL x&& !decide (known ds x.a=0) with
  |true=>
   grind
  |false=>
   rw[e] at d;rcases List.mem_cons.1 c with rfl|c
   ·grind
   ·exact qm d l c f
theorem rj{ds c}(h:(lZ ds c).2=0){r}(d:r∈c):(0<=bx (toStr (ag (ag r 0) 0)) ds/\bx (toStr (ag (ag r 0) 0)) ds<ds.length)/\
  ∀l,l∈af (ag r 1)->dL (toInt (ag l 0))=true->0<=bx (toStr (ag (ag l 1) 0)) ds/\bx (toStr (ag (ag l 1) 0)) ds<ds.length:=by
 obtain⟨k,_,i,_⟩:=tq.1 h;have f:=i r d;have b:iY (cP ds) (aQ (dr r))=0:=by
  refine Uh ?_;unfold kj at f
  grind
 unfold iY at b;cases e:decide (known (cP ds) (aQ (dr r)).head=0) with
 |false=>grind
 |true=>
  rw[e,aq3] at b;refine⟨Mx (a:=(aQ (dr r)).head) (by simpa using e),fun l g m=>?_⟩;have j:da l∈(aQ (dr r)).body:=List.mem_map_of_mem g;refine Mx (a:=(da l).a) (qm b _ j ?_)
  grind [da,toInt,ag,Rl.dL,dL]
theorem BZ{ds a e}: ∀{b},e∈Gv ds a b↔ ∃l,l∈b/\dL (toInt (ag l 0))=true/\e=(a,bx (toStr (ag (ag l 1) 0)) ds)
 |[]=>by simp[Gv]
 | x::b=>by
  rw[Gv];cases h:dL _ with
  |true=>
   rw[aq3,ar4,BZ]
   grind
  |false=>
   rw[aq1,BZ]
   grind
theorem Q7{ds a e}:e∈zd ds a↔ ∃r,r∈a/\∃l,l∈af (ag r 1)/\dL (toInt (ag l 0))=true/\e=(bx (toStr (ag (ag r 0) 0)) ds,bx (toStr (ag (ag l 1) 0)) ds):=by
 unfold zd;rw[List.mem_flatMap];exact exists_congr fun r=>and_congr_right fun _=>BZ
def ZO ds a:=∀e,e∈zd ds a->(0<=e.1/\e.1<ds.length)/\0<=e.2/\e.2<ds.length
theorem Y5{ds a}(h:(lZ ds a).2=0):ZO ds a:=by
 intro e c;obtain⟨r,b,l,f,d,rfl⟩:=Q7.1 c;have:=rj h b
 grind
end Go.Proofs.YtioeffnadipbaaaGreatDoor
namespace Go.Rl
open Go Go.Dn
theorem sI D b: ∃t a,D++[b]=t::a/\(t::a).dropLast=D/\fr (t::a)=b:=by
 cases D with
 |nil=>exact⟨b,_,rfl,rfl,rfl⟩
 | cons t D=>
  refine⟨t,D++[b],rfl,?_,?_⟩
  ·grind
  ·have:=yR (t:=t) (todo:=D++[b])
   rw[←List.cons_append,List.dropLast_concat] at this
   simp_all
theorem ze{n m L}(d:WG n m L){D a b}(f:Sd n m (D++[b]) a):
  vB n m L (D++[b]) a=bif a.contains b then vB n m L D a else vB n m L (D++L.at b) (a++[b]):=by
 obtain⟨t,g,e,h,c⟩:=sI D b
 grind [KH]
theorem Sd.YB{n m D a b}(h:Sd n m (D++[b]) a):Sd n m D a/\ms n m D a<ms n m (D++[b]) a:=by
 obtain⟨t,d,e,f,g⟩:=sI D b;rw[e] at h⊢;have c:=h.pop
 grind [BU]
theorem Sd.YP{n m L}(d:WG n m L){D a b}(h:Sd n m (D++[b]) a)(c:a.contains b=false):Sd n m (D++L.at b) (a++[b])/\ms n m (D++L.at b) (a++[b])<ms n m (D++[b]) a:=by
 obtain⟨t,j,e,k,g⟩:=sI D b;have f:=h.ht b (by simp);rw[e] at h⊢;rw[←g] at c f;have l:=h.add d c;have i:=Bo d t _ _ f c
 grind
end Go.Rl
namespace Go.Proofs.YtioeffnadipbaaaGreatDoor
open Go Go.Dn Go.Rl Go.Proofs
attribute [local irreducible] a0 vc
set_option maxRecDepth 20000
abbrev gN(k:Int):Value:= .int .i64 k
def dy(L:Gr):=L.map fun l=>l.map gN
def iz(l:List Int):List (Value×AV):=l.map fun k=>(gN k, .lit (.bool true))
abbrev Xq(l:List Int):AV:= .eS 3 4 (l.map gN) (l.map fun _=> .lit (.bool true))
theorem HC: ∀(l:List _) k,bW (l.map fun l=>l.map gN) k=(l.getD k []).map gN
 |[],k=>by rfl
 |_::_,0=>rfl
 |_::l,k+1=>by simpa[bW] using HC l k
theorem mm L a:bW (dy L) a.toNat=(L.at a).map gN:=HC L _
theorem mg b: ∀l,c6 (iz l) (gN b) (.lit (.bool false))= .lit (.bool (l.contains b))
 |[]=>rfl
 |a::l=>by
  have c:=mg b l;simp[iz,c6] at c⊢;have e:eg (gN b) (gN a)=(b==a):=by rfl
  grind
theorem rk b: ∀l,eC (iz l) (gN b) (.lit (.bool true))=iz (bif l.contains b then l else l++[b])
 |[]=>rfl
 |a::l=>by
  have c:=rk b l;simp[iz,eC] at c⊢;have e:eg (gN b) (gN a)=(b==a):=by rfl
  grind
theorem uY l:(iz l).map (·.1)=l.map gN:=by simp[iz]
theorem uW l:(iz l).map (·.2)=l.map fun _=> .lit (.bool true):=by simp[iz]
abbrev NU(a:List (List Value)):Dn.Obj:= .rows 35 3 a none
abbrev uv n b a:=[.box 145 (.agg [.ak 1 0 n, .ak 2 0 a.length]),NU b, .row 101 a]
abbrev yi n a:=[.box 145 (.agg [.ak 1 0 n, .nil]),NU a]
theorem RT D c x:nth (D++x::c) (0+D.length)=x:=by
 induction D with
 |nil=>rfl
 |cons a D b=>exact b
theorem Hx D b a:((D++[b]).length:Int) - 1=D.length/\iA (D++[b])++a=iA D++AV.int b::a/\nth (iA D++AV.int b::a) (0+D.length)=AV.int b/\(iA D++AV.int b::a).take D.length=iA D/\toInt (AV.int b)=b:=by
 have c:=RT (iA D) a (AV.int b);rw[iV] at c;exact⟨by simp,by simp[iA],c,List.take_left' (iV D),rfl⟩
theorem Ds L a:(bW (dy L) a.toNat).length=(L.at a).length:=by rw[mm,List.length_map]
theorem E4 L a:List.map AV.lit (List.take (bW (dy L) a.toNat).length (bW (dy L) a.toNat))=iA (L.at a):=by
 rw[List.take_length,mm,List.map_map];rfl
structure PZ where
 n:Nat
 m:Nat
 L:Gr
 fs:List AV
 todo:List Int
 met:List Int
 tl:List AV
def Ak(x:PZ):=WG x.n x.m x.L/\Sd x.n x.m x.todo x.met/\(x.n+1)*x.m<=1000000000
def kf(x:PZ):=vB x.n x.m x.L x.todo x.met
theorem xRe(κ:Kp)(N:Nat) ls fs es ws(k:Nat) I(n:Nat) K:(vc (Az κ) 12 86 none 3 (ad (Pr κ).toProgram 86 3) (sp 48 [(0, .ptr 0 0 [] 0),(5, .mp 3),(6, .ak 4 0 k)] (uv N ls fs++[.map 3 4 es, .row 3 ws])) (bj (Az κ) 86 3 3 I n K))=(
 letI a:=IntKind.wrap IntKind.i64
 letI b:=Obj.row
 letI c:=Dn.Obj.map
 letI d:=(↑k:Int) - (1:Int)
 letI e:=a d
 letI f:=nth ws (0+Int.toNat e)
 letI g:=AV.agg [AV.ak 1 0 N,AV.ak 2 0 fs.length]
 letI i:=(0:Int)<=a d
 letI j:=Value.int IntKind.i64 (toInt f)
 letI l:=bW ls (Int.toNat (toInt f))
 letI h:=List.take (List.length l) l
 aq (decide ((↑k:Int)>(0:Int))) (aV (decide i&&decide (a d<(↑k:Int))) (aV (decide i&&decide (a d
 <=a d)&&decide (a d<=(↑k:Int))) (aq (!Dn.toBool (c6 es j (AV.bool false))) (aV (decide ((0:Int)<=toInt
 f)&&decide (toInt f<(↑N:Int))) (aV (decide ((Int.toNat e+List.length (List.map AV.lit h)+1)*9<=70368744177664)) (∃(e0:Nat),e0<n/\I e0
 (sp 48 [(0,AV.ptr 0 0 [] 0),(5,AV.mp 3),(6,AV.ak 4 0 (Int.toNat e+List.length (List.map AV.lit h)))] [Obj.box 145 g,Obj.rows 35 3 ls none,b
 101 fs,c 3 4 (eC es j (AV.bool true)),b 3 (List.take (Int.toNat e) ws++List.map AV.lit h)])))) (∃(e0:Nat),e0<n/\I e0 (sp 48 [(0,
 AV.ptr 0 0 [] 0),(5,AV.mp 3),(6,AV.ak 4 0 (Int.toNat e))] [Obj.box 145 g,Obj.rows 35 3 ls none,b 101 fs,c 3 4 es,b 3 ws]))))) (K
 (Exit.exit 0) (sp 48 [(5,AV.mp 3)] [Obj.box 145 g,Obj.rows 35 3 ls none,b 101 fs,c 3 4 es]))):=by kernel_rfl
abbrev VB(x:PZ):=sp 48 [(0, .ptr 0 0 [] 0),(5, .mp 3),(6, .ak 4 0 x.todo.length)] (uv x.n (dy x.L) x.fs++[.map 3 4 (iz x.met), .row 3 (iA x.todo++x.tl)])
def Cy(x:PZ):Out (Exit×S):= .one (.exit 0,sp 48 [(5, .mp 3)] (uv x.n (dy x.L) x.fs++[.map 3 4 (iz (kf x))]))
theorem lRe κ:aU (Az κ) 12 86 3 (aG 3 VB Ak Cy):=by
 refine aC (fun x=>ms x.n x.m x.todo x.met) ?_;rintro⟨n,m,L,l,todo,a,i⟩ K ⟨d,f,j⟩ c;simp only at d f j;rw[show(Az κ).P=Pr κ from rfl];refine Eq.mpr (xRe κ n (dy L) l (iz a) (iA todo++i) todo.length _ _ K) ?_;simp only[Cy,kf,Out.run] at c;rw[ae,ap6,ap8];refine⟨fun h=>?_,fun h=>?_⟩
 ·obtain⟨D,b,rfl⟩: ∃D b,todo=D++[b]:=⟨_,_,(List.dropLast_concat_getLast (by intro e;subst e;simp at h)).symm⟩
  have k:=f.le;have w:=f.ht b (by simp);have q:=d.le b;have p:=d.len;have r:m<=(n+1)*m:=Nat.le_mul_of_pos_left m (Nat.succ_pos n);obtain⟨e0,s,t,u,v⟩:=Hx D b i;simp only[ar1,List.length_singleton] at k;rw[e0,az (n:=(D.length:Int)) (by omega) (by omega),s,Int.toNat_natCast,t,u,v,mg,rk,mm,List.take_length,List.map_map];rw[ze d f] at c;simp only[ai,ae,ap6,ap7,List.length_map,ar1,List.length_singleton,show Dn.toBool (AV.lit (.bool (a.contains b)))=a.contains b from rfl];refine⟨⟨by omega,by omega⟩,⟨⟨by omega,by omega⟩,by omega⟩,fun e=>?_,fun e=>?_⟩
  ·have e:a.contains b=false:=by simpa using e
   obtain⟨o,g⟩:=f.YP d e;rw[e,aq1] at c;refine⟨⟨by omega,by omega⟩,by omega,_,g,⟨n,m,L,l,D++L.at b,a++[b],[]⟩,?_,⟨d,o,j⟩,rfl,?_⟩
   ·rw[e,aq1]
    simp only[VB,List.append_nil,ar1,wH];rfl
   ·simp only[Cy,kf,Out.run]
    exact c
  ·have e:a.contains b=true:=by simpa using e
   obtain⟨o,g⟩:=f.YB;rw[e,aq3] at c;refine⟨_,g,⟨n,m,L,l,D,a,AV.int b::i⟩,rfl,⟨d,o,j⟩,rfl,?_⟩;simp only[Cy,kf,Out.run];exact c
 ·obtain rfl:todo=[]:=List.eq_nil_of_length_eq_zero (by omega)
  rw[Dg] at c;exact c
theorem xRz(κ:Kp)(N:Nat) ls es ws(k:Nat) I(n:Nat) K:(vc (Az κ) 12 86 none 2 (ad (Pr κ).toProgram 86 3) (sp 48 [(0, .ptr 0 0 [] 0),(5, .mp 2),(6, .ak 3 0 k)] (yi N ls++[.map 3 4 es, .row 3 ws])) (bj (Az κ) 86 3 2 I n K))=(
 letI a:=IntKind.wrap IntKind.i64
 letI b:=Dn.Obj.map
 letI c:=(↑k:Int) - (1:Int)
 letI d:=a c
 letI e:=nth ws (0+Int.toNat d)
 letI f:=AV.agg [AV.ak 1 0 N,AV.nil]
 letI h:=(0:Int)<=a c
 letI i:=Value.int IntKind.i64 (toInt e)
 letI j:=bW ls (Int.toNat (toInt e))
 letI g:=List.take (List.length j) j
 aq (decide ((↑k:Int)>(0:Int))) (aV (decide h&&decide (a c<(↑k:Int))) (aV (decide h&&decide (a c
 <=a c)&&decide (a c<=(↑k:Int))) (aq (!Dn.toBool (c6 es i (AV.bool false))) (aV (decide ((0:Int)<=toInt
 e)&&decide (toInt e<(↑N:Int))) (aV (decide ((Int.toNat d+List.length (List.map AV.lit g)+1)*9<=70368744177664)) (∃(e0:Nat),e0<n/\I e0
 (sp 48 [(0,AV.ptr 0 0 [] 0),(5,AV.mp 2),(6,AV.ak 3 0 (Int.toNat d+List.length (List.map AV.lit g)))] [Obj.box 145 f,Obj.rows 35 3 ls none,b
 3 4 (eC es i (AV.bool true)),Obj.row 3 (List.take (Int.toNat d) ws++List.map AV.lit g)])))) (∃(e0:Nat),e0<n/\I e0 (sp 48 [(0,AV.ptr 0 0 [] 0),(5,
 AV.mp 2),(6,AV.ak 3 0 (Int.toNat d))] [Obj.box 145 f,Obj.rows 35 3 ls none,b 3 4 es,Obj.row 3 ws]))))) (K (Exit.exit 0) (sp 48 [(5,AV.mp 2)]
 [Obj.box 145 f,Obj.rows 35 3 ls none,b 3 4 es]))):=by kernel_rfl
abbrev Vp(x:PZ):=sp 48 [(0, .ptr 0 0 [] 0),(5, .mp 2),(6, .ak 3 0 x.todo.length)] (yi x.n (dy x.L)++[.map 3 4 (iz x.met), .row 3 (iA x.todo++x.tl)])
def DL(x:PZ):Out (Exit×S):= .one (.exit 0,sp 48 [(5, .mp 2)] (yi x.n (dy x.L)++[.map 3 4 (iz (kf x))]))
theorem lRz κ:aU (Az κ) 12 86 3 (aG 2 Vp Ak DL):=by
 refine aC (fun x=>ms x.n x.m x.todo x.met) ?_;rintro⟨n,m,L,o,todo,a,k⟩ K ⟨d,f,j⟩ c;simp only at d f j;rw[show(Az κ).P=Pr κ from rfl];refine Eq.mpr (xRz κ n (dy L) (iz a) (iA todo++k) todo.length _ _ K) ?_;simp only[DL,kf,Out.run] at c;rw[ae,ap6,ap8];refine⟨fun h=>?_,fun h=>?_⟩
 ·obtain⟨D,b,rfl⟩: ∃D b,todo=D++[b]:=⟨_,_,(List.dropLast_concat_getLast (by intro e;subst e;simp at h)).symm⟩
  have i:=f.le;have q:=f.ht b (by simp);have w:=d.le b;have p:=d.len;have r:m<=(n+1)*m:=Nat.le_mul_of_pos_left m (Nat.succ_pos n);obtain⟨e0,s,t,u,v⟩:=Hx D b k;simp only[ar1,List.length_singleton] at i;rw[e0,az (n:=(D.length:Int)) (by omega) (by omega),s,Int.toNat_natCast,t,u,v,mg,rk,mm,List.take_length,List.map_map];rw[ze d f] at c;simp only[ai,ae,ap6,ap7,List.length_map,ar1,List.length_singleton,show Dn.toBool (AV.lit (.bool (a.contains b)))=a.contains b from rfl];refine⟨⟨by omega,by omega⟩,⟨⟨by omega,by omega⟩,by omega⟩,fun e=>?_,fun e=>?_⟩
  ·have e:a.contains b=false:=by simpa using e
   obtain⟨l,g⟩:=f.YP d e;rw[e,aq1] at c;refine⟨⟨by omega,by omega⟩,by omega,_,g,⟨n,m,L,o,D++L.at b,a++[b],[]⟩,?_,⟨d,l,j⟩,rfl,?_⟩
   ·rw[e,aq1]
    simp only[Vp,List.append_nil,ar1,wH];rfl
   ·simp only[DL,kf,Out.run]
    exact c
  ·have e:a.contains b=true:=by simpa using e
   obtain⟨l,g⟩:=f.YB;rw[e,aq3] at c;refine⟨_,g,⟨n,m,L,o,D,a,AV.int b::k⟩,rfl,⟨d,l,j⟩,rfl,?_⟩;simp only[DL,kf,Out.run];exact c
 ·obtain rfl:todo=[]:=List.eq_nil_of_length_eq_zero (by omega)
  rw[Dg] at c;exact c
def ad7(s:S):=Nat.beq s.st.length 5
noncomputable def V5 κ:=(Az κ).an 86 3 (rS ad7 (aG 3 VB Ak Cy) (aG 2 Vp Ak DL))
theorem eRl κ:aE (V5 κ):=(eKi _).an (mKi _) (oY (lRe _) (lRz _))
theorem mRl κ:aj (V5 κ):=(mKi _).an (kJ aI aI)
structure V2 where
 n:Nat
 m:Nat
 L:Gr
 fs:List AV
 a:Int
def I1(x:V2):=WG x.n x.m x.L/\(x.n+1)*x.m<=1000000000/\0<=x.a/\x.a<x.n
theorem yRe κ N ls fs a K:(a0 (V5 κ) 12 86 [.ptr 0 0 [] 0, .int a] (uv N ls fs) K)=(
 letI b:=AV.ptr 0 0 []
 letI c:=AV.agg
 letI d:=Obj.box
 letI e:=Obj.row
 letI f:=Obj.rows
 letI g:=Dn.Obj.map
 letI h:=AV.ak
 letI i:=Pg.toProgram (Env.P (Az κ))
 letI k:=List.length (bW ls a.toNat)
 letI j:=List.take k (bW ls a.toNat)
 aV (decide ((0:Int)<=a)&&decide (a<(↑N:Int))) ((Nat.beq k 0=true->ad i 86 3=ad i 86 3/\∃(e1:PZ),sp 48 [(0,b 0),(5,AV.mp 3),
 (6,h 4 0 0)] [d 145 (c [h 1 0 N,h 2 0 fs.length]),f 35 3 ls none,e 101 fs,g 3 4 [],e 3 []]=sp 48 [(0,
 b 0),(5,AV.mp 3),(6,h 4 0 e1.todo.length)] [d 145 (c [h 1 0 e1.n,h 2 0 e1.fs.length]),f 35 3 (dy e1.L) none,
 e 101 e1.fs,g 3 4 (iz e1.met),e 3 (iA e1.todo++e1.tl)]/\(WG e1.n e1.m e1.L/\Sd e1.n e1.m e1.todo e1.met/\(e1.n+1)*e1.m<=
 1000000000)/\K (AV.eS 3 4 (List.map (fun(e0:Value×AV)=>e0.1) (iz (kf e1))) (List.map (fun(e0:Value×AV)=>e0.2) (iz (kf e1)))) [d 145 (c
 [h 1 0 e1.n,h 2 0 e1.fs.length]),f 35 3 (dy e1.L) none,e 101 e1.fs])/\aV (decide ((0+List.length (List.map AV.lit j)+1)*9<=
 70368744177664)) (ad i 86 3=ad i 86 3/\∃(e1:PZ),sp 48 [(0,b 0),(5,AV.mp 3),(6,h 4 0 (0+List.length (List.map AV.lit j)))]
 [d 145 (c [h 1 0 N,h 2 0 fs.length]),f 35 3 ls none,e 101 fs,g 3 4 [],e 3 ([]++List.map AV.lit j)]=sp
 48 [(0,b 0),(5,AV.mp 3),(6,h 4 0 e1.todo.length)] [d 145 (c [h 1 0 e1.n,h 2 0 e1.fs.length]),f 35 3 (dy e1.L)
 none,e 101 e1.fs,g 3 4 (iz e1.met),e 3 (iA e1.todo++e1.tl)]/\(WG e1.n e1.m e1.L/\Sd e1.n e1.m e1.todo e1.met/\(e1.n+1)*e1.m<=
 1000000000)/\K (AV.eS 3 4 (List.map (fun(e0:Value×AV)=>e0.1) (iz (kf e1))) (List.map (fun(e0:Value×AV)=>e0.2) (iz (kf e1)))) [d 145 (c
 [h 1 0 e1.n,h 2 0 e1.fs.length]),f 35 3 (dy e1.L) none,e 101 e1.fs]))):=by kernel_rfl
def S2(x:V2):List AV×List Dn.Obj:=([.ptr 0 0 [] 0, .int x.a],uv x.n (dy x.L) x.fs)
def FD(x:V2):Out (AV×List Dn.Obj):= .one (Xq (iS x.n x.m x.L x.a),uv x.n (dy x.L) x.fs)
theorem cRe κ:bd (V5 κ) 12 86 (aO S2 I1 FD):=by
 refine aR ?_;rintro⟨n,m,L,f,a⟩ K ⟨b,d,g,h⟩ c;simp only at b d g h;refine Eq.mpr (yRe κ n (dy L) f a K) ?_;simp only[FD,Out.run,iS] at c;have j:=Sd.start b g;have k:=b.le a;have i:m<=(n+1)*m:=Nat.le_mul_of_pos_left m (Nat.succ_pos n);rw[E4,iV,Ds,ai,ai,ap7,ap6,ap6,ap6];refine⟨⟨g,h⟩,fun e=>⟨rfl,⟨n,m,L,f,[],[],[]⟩,rfl,⟨b,?_,d⟩,?_⟩,by omega,rfl,⟨n,m,L,f,L.at a,[],[]⟩,?_,⟨b,j,d⟩,?_⟩
 ·simp_all
 ·have e:L.at a=[]:=List.eq_nil_of_length_eq_zero (Nat.eq_of_beq_eq_true e)
  rw[e] at c;simp only[uY,uW];exact c
 ·simp only[List.append_nil,Nat.zero_add]
  rfl
 ·simp only[uY,uW]
  exact c
theorem yRz κ N ls a K:(a0 (V5 κ) 12 86 [.ptr 0 0 [] 0, .int a] (yi N ls) K)=(
 letI b:=AV.ptr 0 0 []
 letI c:=AV.agg
 letI d:=Obj.box
 letI e:=Obj.row
 letI f:=Obj.rows
 letI g:=Dn.Obj.map
 letI h:=AV.ak
 letI i:=AV.nil
 letI j:=Pg.toProgram (Env.P (Az κ))
 letI l:=List.length (bW ls a.toNat)
 letI k:=List.take l (bW ls a.toNat)
 aV (decide ((0:Int)<=a)&&decide (a<(↑N:Int))) ((Nat.beq l 0=true->ad j 86 3=ad j 86 3/\∃(e1:PZ),sp 48 [(0,b 0),(5,AV.mp 2),
 (6,h 3 0 0)] [d 145 (c [h 1 0 N,i]),f 35 3 ls none,g 3 4 [],e 3 []]=sp 48 [(0,b 0),(5,AV.mp
 2),(6,h 3 0 e1.todo.length)] [d 145 (c [h 1 0 e1.n,i]),f 35 3 (dy e1.L) none,g 3 4 (iz e1.met),e 3 (iA
 e1.todo++e1.tl)]/\(WG e1.n e1.m e1.L/\Sd e1.n e1.m e1.todo e1.met/\(e1.n+1)*e1.m<=1000000000)/\K (AV.eS 3 4 (List.map (fun(e0:Value×AV)=>e0.1)
 (iz (kf e1))) (List.map (fun(e0:Value×AV)=>e0.2) (iz (kf e1)))) [d 145 (c [h 1 0 e1.n,i]),f 35 3 (dy e1.L) none])/\aV
 (decide ((0+List.length (List.map AV.lit k)+1)*9<=70368744177664)) (ad j 86 3=ad j 86 3/\∃(e1:PZ),sp 48 [(0,b 0),(5,AV.mp 2),
 (6,h 3 0 (0+List.length (List.map AV.lit k)))] [d 145 (c [h 1 0 N,i]),f 35 3 ls none,g 3 4 [],e 3 ([]++
 List.map AV.lit k)]=sp 48 [(0,b 0),(5,AV.mp 2),(6,h 3 0 e1.todo.length)] [d 145 (c [h 1 0 e1.n,i]),f 35 3
 (dy e1.L) none,g 3 4 (iz e1.met),e 3 (iA e1.todo++e1.tl)]/\(WG e1.n e1.m e1.L/\Sd e1.n e1.m e1.todo e1.met/\(e1.n+1)*e1.m<=
 1000000000)/\K (AV.eS 3 4 (List.map (fun(e0:Value×AV)=>e0.1) (iz (kf e1))) (List.map (fun(e0:Value×AV)=>e0.2) (iz (kf e1)))) [d 145 (c
 [h 1 0 e1.n,i]),f 35 3 (dy e1.L) none]))):=by kernel_rfl
def SL(x:V2):List AV×List Dn.Obj:=([.ptr 0 0 [] 0, .int x.a],yi x.n (dy x.L))
def F8(x:V2):Out (AV×List Dn.Obj):= .one (Xq (iS x.n x.m x.L x.a),yi x.n (dy x.L))
theorem cRz κ:bd (V5 κ) 12 86 (aO SL I1 F8):=by
 refine aR ?_;rintro⟨n,m,L,h,a⟩ K ⟨b,f,d,g⟩ c;simp only at b f d g;refine Eq.mpr (yRz κ n (dy L) a K) ?_;simp only[F8,Out.run,iS] at c;have j:=Sd.start b d;have k:=b.le a;have i:m<=(n+1)*m:=Nat.le_mul_of_pos_left m (Nat.succ_pos n);rw[E4,iV,Ds,ai,ai,ap7,ap6,ap6,ap6];refine⟨⟨d,g⟩,fun e=>⟨rfl,⟨n,m,L,h,[],[],[]⟩,rfl,⟨b,?_,f⟩,?_⟩,by omega,rfl,⟨n,m,L,h,L.at a,[],[]⟩,?_,⟨b,j,f⟩,?_⟩
 ·simp_all
 ·have e:L.at a=[]:=List.eq_nil_of_length_eq_zero (Nat.eq_of_beq_eq_true e)
  rw[e] at c;simp only[uY,uW];exact c
 ·simp only[List.append_nil,Nat.zero_add]
  rfl
 ·simp only[uY,uW]
  exact c
def ER(d:List Dn.Obj->Bool)(a b:dM):dM:=fun c st K=>bif d st then a c st K else b c st K
theorem te{c a b}(f:a.fY)(g:b.fY):(ER c a b).fY:=fun e st K j d h=>by
 unfold ER at h⊢;cases i:c _<;>simp[i] at h⊢
 ·exact g _ _ _ _ d h
 ·exact f _ _ _ _ d h
theorem As{E N f c a b}(i:bd E N f a)(g:bd E N f b):bd E N f (ER c a b):=fun d st K h=>by
 unfold ER at h;cases e:c _<;>rw[e] at h
 ·exact g _ _ _ h
 ·exact i _ _ _ h
def X5(st:List Dn.Obj):=Nat.beq st.length 3
noncomputable def T7 κ:=(V5 κ).aw 86 (ER X5 (aO S2 I1 FD) (aO SL I1 F8))
theorem eRe κ:aE (T7 κ):=(eRl _).aw (mRl _) (As (cRe _) (cRz _))
theorem mRe κ:aj (T7 κ):=(mRl _).aw (te aJ aJ)
def JJ:List Nat:=129::R6
noncomputable abbrev aa8(κ:Kp)(ds a:List AV):Dn.Obj:=
 .loop (iI (Pr κ).toProgram 42 3 .ready none (gX (bM 63) [(0,eG ds a),(1, .ptr 0 0 [] 0),(2, .lit (.pointer none)),(3, .ptr 3 0 [] 0),(7, .ptr 0 0 [0] 0),(8, .ah 43 ds),(9, .int ds.length),(10, .ak 1 0 ds.length),(11, .agg [.ak 1 0 ds.length, .nil]),(12, .ptr 2 0 [] 0),(13,eG ds a),(14, .bm 129 [.ptr 4 0 [] 0])]))
noncomputable abbrev qc κ ds a:=[.box 25 (eG ds a),NU (List.replicate ds.length []), .box 145 (.agg [.ak 1 0 ds.length, .nil]), .box 99 (.ptr 2 0 [] 0), .box 25 (eG ds a),aa8 κ ds a]
noncomputable abbrev CW κ ds a b:=[.box 25 (eG ds a),NU b, .box 145 (.agg [.ak 1 0 ds.length, .nil]), .box 99 (.ptr 2 0 [] 0), .dead,aa8 κ ds a]
theorem sGf κ ds rs Q:(tidy (Pr κ).toProgram 6 (dt (qc κ ds rs) (bV (qc κ ds rs) [.ptr 4 0 [] 0])) Q)=(
 letI a:=AV.ptr
 letI b:=AV.agg
 letI c:=AV.ah
 Q [Obj.box 25 (b [c 43 ds,c 48 rs]),Obj.rows 35 3 (List.replicate ds.length []) none,Obj.box 145 (b [AV.ak 1 0 ds.length,AV.nil]),Obj.box
 99 (a 2 0 [] 0),Obj.dead,Dn.Obj.loop (iI Tryz.prog 42 3 LoopState.ready none (gX (bM 63) [(0,b [c 43 ds,c 48 rs]),(1,a 0 0 [] 0),
 (2,AV.lit (Value.pointer none)),(3,a 3 0 [] 0),(7,a 0 0 [0] 0),(8,c 43 ds),(9,AV.int (↑(ds.length):Int)),(10,AV.ak 1 0 ds.length),
 (11,b [AV.ak 1 0 ds.length,AV.nil]),(12,a 2 0 [] 0),(13,b [c 43 ds,c 48 rs]),(14,AV.bm 129 [a 4 0 [] 0])]))]):=by kernel_rfl
theorem rGf κ ds rs ls a b Q(K2:List Dn.Obj->Prop):(fQ (vc (T7 κ) 12) 5 [.int a, .int b] (CW κ ds rs ls) (fun r st''=>match r with| .lit (.bool true)=>tidy (Pr κ).toProgram 6 st'' Q| .lit (.bool false)=>K2 st''|_=>False))=(
 letI c:=AV.ptr
 letI d:=AV.agg
 letI e:=Obj.box
 letI f:=AV.ah
 letI i:=iI Tryz.prog 42 3 LoopState.ready none (gX (bM 63) [(0,d [f 43 ds,f 48 rs]),(1,c 0 0 [] 0),(2,AV.lit (Value.pointer none)),
  (3,c 3 0 [] 0),(7,c 0 0 [0] 0),(8,f 43 ds),(9,AV.int (↑(ds.length):Int)),(10,AV.ak 1 0 ds.length),(11,d [AV.ak 1 0 ds.length,
  AV.nil]),(12,c 2 0 [] 0),(13,d [f 43 ds,f 48 rs]),(14,AV.bm 129 [c 4 0 [] 0])])
 letI h:=decide ((0:Int)<=a)&&decide (a<(↑(ds.length):Int))
 letI g:=bW ls a.toNat
 letI j:=decide (List.length g=List.length g)&&decide ((List.length g+1+1)*9<=70368744177664)
 letI k:=Dn.jQ ls a.toNat (bW ls a.toNat++[Value.int IntKind.i64 b])
 letI l:=List.map AV.lit (List.take (List.length g) g)
 letI m:=d [AV.ak 1 0 ds.length,AV.nil]
 letI n:=d [f 43 ds,f 48 rs]
 letI o:=aV h (aV (decide (a.toNat=a.toNat)&&decide (a.toNat=a.toNat)&&decide (List.length g+1=List.length (bW k a.toNat))) (Q [e 25 n,
  Obj.rows 35 3 k none,e 145 m,e 99 (c 2 0 [] 0),Obj.dead,Dn.Obj.loop i]))
 aV h (aV (decide (List.length l<=9223372036854775807)) (aq (!Zb b l) (aV h (aV j o/\aV j o)) (Q [e 25 n,Obj.rows 35 3 ls none,e 145 m,
 e 99 (c 2 0 [] 0),Obj.dead,Dn.Obj.loop i])))):=by kernel_rfl
theorem kGf κ ds rs xs:(AV.cf 0::fC (ia (bV (qc κ ds rs) [.ptr 4 0 [] 0])) [.ptr 4 0 [] 0],Obj.ext (some xs)::fU (ia (bV (qc κ ds rs) [.ptr 4 0 [] 0])) (fV (qc κ ds rs) (bV (qc κ ds rs) [.ptr 4 0 [] 0])))=([.cf 0, .ptr 1 0 [] 0],[.ext (some xs), .box 25 (eG ds rs)]):=by kernel_rfl
theorem oGf κ ds rs:lT (qc κ ds rs) [.ptr 4 0 [] 0]=true:=by kernel_rfl
theorem Eb: ∀L k x,Dn.jQ (dy L) k (x.map gN)=dy (L.set k x)
 |[],k,x=>by rfl
 |_::_,0,x=>rfl
 |a::L,k+1,x=>by
  have b:=Eb L k x
  grind [dy,Dn.jQ]
theorem P4 n:dy (List.replicate n [])=List.replicate n []:=by simp[dy]
structure yr(ds rs:List AV):Prop where
 hd:ds.length<=60
 hr:rs.length<=200
 bs: ∀r,r∈rs->(af (ag r 1)).length<=20
 ed:ZO ds rs
theorem Hv ds a: ∀b,(Gv ds a b).length<=b.length
 |[]=>Nat.le_refl _
 |l::b=>by
  have c:=Hv ds a b
  grind [Gv]
theorem Bj ds: ∀a,(∀r,r∈a->(af (ag r 1)).length<=20)->(zd ds a).length<=a.length*20
 |[],_=>Nat.le_refl _
 |r::a,h=>by
  have b:=Bj ds a (by grind)
  grind [Hv,bx,ag,af,zd,edR]
noncomputable def Um(κ:Kp):eh:=fun a st K=>∃x:B3,(a,st)=([AV.ptr 4 0 [] 0],qc κ x.1 x.2)/\yr x.1 x.2/\K (CW κ x.1 x.2 (dy (tu x.1.length (zd x.1 x.2))))
theorem K6 κ:(Um κ).fY:=by
 rintro b st K g e ⟨a,d,f,c⟩;exact⟨a,d,f,e _ c⟩
theorem Wu κ a st K(h:aO Vl G1 Oe a st K):(T7 κ).call 129 a st K:=h
theorem gfr κ:iw (T7 κ) 12 129 (Um κ):=by
 rintro n st K ⟨⟨ds,f⟩,x,k,u⟩;obtain⟨rfl,rfl⟩:=Prod.mk.inj x;simp only at k u;have hd:=k.hd;have q:=k.hr;have C:=Bj ds f k.bs;refine⟨Et (zd ds f),fun i st'=>∃c g,i=Et g/\st'=CW κ ds f (dy (tu ds.length c))/\c++g=zd ds f,⟨oGf κ ds f,?_,?_,?_,?_⟩⟩
 ·refine Wu κ _ _ _ ⟨(ds,f),?_,⟨by simp only[aW];omega,by simp only[aW];omega,fun r q=>?_⟩,fun st' h=>h⟩
  ·rw[kGf];rfl
  ·have:=k.bs r q;simp only[aW];omega
 ·rw[show(T7 κ).P=Pr κ from rfl,show(qc κ ds f).length=6 from rfl,sGf]
  refine⟨[],zd ds f,rfl,?_,rfl⟩;rw[tu,List.foldl_nil,P4]
 ·rintro B o st' ⟨c,g,l,rfl,j⟩
  cases g with
  |nil=>cases l
  | cons e g=>
   obtain⟨a,b⟩:=e;obtain⟨v,rfl⟩:=List.cons.inj l;obtain rfl:=AV.aH.inj v;rw[show(T7 κ).P=Pr κ from rfl,show(qc κ ds f).length=6 from rfl];refine Eq.mpr (rGf κ ds f _ a b _ _) ?_;have m:=k.ed (a,b) (by rw[←j];simp);simp only at m;have y:tu ds.length (c++[(a,b)])=pQ (tu ds.length c) (a,b):=by simp[tu,List.foldl_append]
   have s:(tu ds.length c).length=ds.length:=by unfold tu;rw[sP];simp
   have A:((tu ds.length c).at a).length<=c.length:=by
    have:=NB c (List.replicate ds.length []) a
    rw[ED] at this;simpa[tu] using this
   have D:c.length<=(zd ds f).length:=by rw[←j];simp
   have d: ∀st',st'=CW κ ds f (dy (pQ (tu ds.length c) (a,b)))->∃p t,Et g=Et t/\st'=CW κ ds f (dy (tu ds.length p))/\p++t=zd ds f:=fun st' h=>⟨c++[(a,b)],g,rfl,by rw[y,h],by rw[←j];simp⟩
   rw[E4,OD,mm,show[Value.int IntKind.i64 b]=[b].map gN from rfl,←List.map_append,Eb];have z:(bW (dy ((tu ds.length c).set a.toNat ((tu ds.length c).at a++[b]))) a.toNat).length=((tu ds.length c).at a).length+1:=by
    rw[mm,Fq _ _ _ _ (by omega),if_pos rfl];simp
   rw[z];simp only[ai,ae,ap7,ap6,List.length_map,iV];refine⟨⟨by omega,by omega⟩,by omega,fun e=>⟨⟨by omega,by omega⟩,?_⟩,fun e=>d _ ?_⟩
   ·have e:((tu ds.length c).at a).contains b=false:=by simpa using e
    have w:pQ (tu ds.length c) (a,b)=(tu ds.length c).set a.toNat ((tu ds.length c).at a++[b]):=by
     unfold pQ;rw[e,aq1]
    rw[w] at d;exact⟨⟨⟨trivial,by omega⟩,⟨by omega,by omega⟩,⟨⟨trivial,trivial⟩,trivial⟩,d _ rfl⟩,⟨trivial,by omega⟩,⟨by omega,by omega⟩,⟨⟨trivial,trivial⟩,trivial⟩,d _ rfl⟩
   ·have e:((tu ds.length c).at a).contains b=true:=by simpa using e
    unfold pQ;rw[e,aq3]
 ·rintro st' ⟨c,g,l,rfl,j⟩
  obtain rfl:g=[]:=by cases g with|nil=>rfl|cons _ _=>cases l
  rw[List.append_nil] at j;rw[j];exact u
noncomputable def NL κ:=((T7 κ).addRange 42 3 129 (Um κ)).cV fun f=>iD f JJ
theorem eOr κ:aE (NL κ):=((eRe _).addRange (mRe _) (gfr _)).cV _
theorem mOr κ:aj (NL κ):=((mRe _).addRange (K6 _)).cV _
theorem xOa κ(N i:Nat) ls fs I n K:(vc (NL κ) 12 42 none 0 (ad (Pr κ).toProgram 42 8) (sp 63 [(3, .ptr 0 0 [] 0),(45, .int N),(46, .int i)] [.box 99 (.ptr 1 0 [] 0), .box 145 (.agg [.ak 2 0 N, .ak 3 0 fs.length]),NU ls, .row 101 fs]) (bj (NL κ) 42 8 0 I n K))=(
 letI a:=AV.ptr 0 0 []
 letI b:=AV.agg
 letI c:=Obj.box
 letI d:=Obj.row
 letI e:=Obj.rows
 letI f:=AV.ak
 letI g:=AV.ptr 1 0 [] 0
 letI h:=b [f 2 0 N,f 3 0 fs.length]
 aq (decide ((↑i:Int)<(↑N:Int))) (∃(e2:V2),([a 0,AV.int (↑i:Int)],[c 145 (b [f 1 0 N,f 2 0 fs.length]),e 35
 3 ls none,d 101 fs])=([a 0,AV.int e2.a],[c 145 (b [f 1 0 e2.n,f 2 0 e2.fs.length]),e 35 3 (dy e2.L) none,
 d 101 e2.fs])/\(WG e2.n e2.m e2.L/\(e2.n+1)*e2.m<=1000000000/\(0:Int)<=e2.a/\e2.a<(↑(e2.n):Int))/\(c 99 g=c 99 g/\
 c 145 (b [f 2 0 e2.n,f 3 0 e2.fs.length])=c 145 h/\e 35 3 (dy e2.L) none=e 35 3 ls none/\True)/\aV (decide
 ((fs.length+1+1)*9<=70368744177664)) (∃(e1:Nat),e1<n/\I e1 (sp 63 [(3,a 0),(45,AV.int (↑N:Int)),(46,AV.int (IntKind.wrap
 IntKind.i64 ((↑i:Int)+(1:Int))))] [c 99 g,c 145 (b [f 2 0 e2.n,f 3 0 (fs.length+1)]),e 35 3 (dy e2.L) none,d
 101 (List.take fs.length e2.fs++[AV.eS 3 4 (List.map gN (iS e2.n e2.m e2.L e2.a)) (List.map (fun(e0:Int)=>AV.bool true) (iS e2.n e2.m e2.L e2.a))])])))
 (K (Exit.exit 2) (sp 63 [(3,a 0)] [c 99 g,c 145 h,e 35 3 ls none,d 101 fs]))):=by kernel_rfl
theorem xOb κ(N:Nat) ls I n K:(vc (NL κ) 12 42 none 0 (ad (Pr κ).toProgram 42 8) (sp 63 [(3, .ptr 0 0 [] 0),(45, .int N),(46, .int 0)] [.box 99 (.ptr 1 0 [] 0), .box 145 (.agg [.ak 2 0 N, .nil]),NU ls]) (bj (NL κ) 42 8 0 I n K))=(
 letI a:=AV.ptr 0 0 []
 letI b:=AV.agg
 letI c:=Obj.box
 letI d:=Obj.rows
 letI e:=AV.ak
 letI f:=AV.ptr 1 0 [] 0
 letI g:=b [e 2 0 N,AV.nil]
 aq (decide ((0:Int)<(↑N:Int))) (∃(e2:V2),([a 0,AV.int 0],[c 145 (b [e 1 0 N,AV.nil]),d 35 3 ls none])=([AV.ptr
 0 0 [] 0,AV.int e2.a],[c 145 (b [e 1 0 e2.n,AV.nil]),d 35 3 (dy e2.L) none])/\(WG e2.n e2.m e2.L/\(e2.n+1)*e2.m<=1000000000/\
 (0:Int)<=e2.a/\e2.a<(↑(e2.n):Int))/\(c 99 f=c 99 f/\c 145 (b [e 2 0 e2.n,AV.nil])=c 145 g/\d 35 3 (dy
 e2.L) none=d 35 3 ls none/\True)/\∃(e1:Nat),e1<n/\I e1 (sp 63 [(3,a 0),(45,AV.int (↑N:Int)),(46,AV.int 1)] [c 99 f,
 c 145 (b [e 2 0 e2.n,e 3 0 1]),d 35 3 (dy e2.L) none,Obj.row 101 [AV.eS 3 4 (List.map gN (iS e2.n e2.m e2.L e2.a)) (List.map (fun
 (e0:Int)=>AV.bool true) (iS e2.n e2.m e2.L e2.a))]])) (K (Exit.exit 2) (sp 63 [(3,a 0)] [c 99 f,c 145 g,d 35 3 ls
 none]))):=by kernel_rfl
def bu n m L k:=(List.range k).map fun(a:Nat)=>Xq (iS n m L a)
theorem kO n m L k:(bu n m L k).length=k:=by simp[bu]
theorem Kz n m L k:bu n m L (k+1)=bu n m L k++[Xq (iS n m L k)]:=by
 simp[bu,List.range_succ]
structure AOf where
 n:Nat
 m:Nat
 L:Gr
 i:Nat
abbrev Ws(n m:Nat)(L:Gr):Nat->List Dn.Obj
 |0=>[.box 99 (.ptr 1 0 [] 0), .box 145 (.agg [.ak 2 0 n, .nil]),NU (dy L)]
 |k+1=>[.box 99 (.ptr 1 0 [] 0), .box 145 (.agg [.ak 2 0 n, .ak 3 0 (bu n m L (k+1)).length]),NU (dy L), .row 101 (bu n m L (k+1))]
abbrev P5(x:AOf):=sp 63 [(3, .ptr 0 0 [] 0),(45, .int x.n),(46, .int x.i)] (Ws x.n x.m x.L x.i)
def NK(x:AOf):=WG x.n x.m x.L/\(x.n+1)*x.m<=1000000000/\x.i<=x.n/\x.n<=60
def Tp(x:AOf):Out (Exit×S):= .aq (Nat.beq x.n 0)
 (.one (.exit 2,sp 63 [(3, .ptr 0 0 [] 0)] [.box 99 (.ptr 1 0 [] 0), .box 145 (.agg [.ak 2 0 x.n, .nil]),NU (dy x.L)]))
 (.one (.exit 2,sp 63 [(3, .ptr 0 0 [] 0)] [.box 99 (.ptr 1 0 [] 0), .box 145 (.agg [.ak 2 0 x.n, .ak 3 0 (bu x.n x.m x.L x.n).length]),NU (dy x.L), .row 101 (bu x.n x.m x.L x.n)]))
theorem lOa κ:aU (NL κ) 12 42 8 (aG 0 P5 NK Tp):=by
 refine aC (fun x=>x.n - x.i) ?_;rintro⟨n,m,L,i⟩ K ⟨b,a,f,d⟩ c;simp only at b a f d;rw[show(NL κ).P=Pr κ from rfl];cases i with
 | zero=>
  refine Eq.mpr (xOb κ n (dy L) _ _ K) ?_;rw[ae,ap6,ap8];refine⟨fun h=>⟨⟨n,m,L,[],0⟩,rfl,⟨b,a,by simp only;omega,h⟩,⟨rfl,rfl,rfl,trivial⟩,_,?_,⟨n,m,L,1⟩,rfl,⟨b,a,?_,d⟩,rfl,c⟩,fun h=>?_⟩
  ·simp only;omega
  ·simp only;omega
  ·obtain rfl:n=0:=by omega
   exact c
 | succ k=>
  refine Eq.mpr (xOa κ n (k+1) (dy L) (bu n m L (k+1)) _ _ K) ?_;rw[ae,ap6,ap8];refine⟨fun h=>⟨⟨n,m,L,bu n m L (k+1),((k+1:Nat):Int)⟩,rfl,⟨b,a,by simp only;omega,h⟩,⟨rfl,rfl,rfl,trivial⟩,?_⟩,fun h=>?_⟩
  ·have e:sp 63 [(3, .ptr 0 0 [] 0),(45, .int n),(46, .int (((k+1:Nat):Int)+1))] [.box 99 (.ptr 1 0 [] 0), .box 145 (.agg [.ak 2 0 n, .ak 3 0 ((bu n m L (k+1)).length+1)]),NU (dy L), .row 101 (List.take (bu n m L (k+1)).length (bu n m L (k+1))++[Xq (iS n m L ((k+1:Nat):Int))])]=P5 ⟨n,m,L,k+2⟩:=by
    rw[List.take_length,←Kz];simp only[P5,Ws,kO];rfl
   rw[ai,ap6,az (n:=((k+1:Nat):Int)+1) (by omega) (by omega)];refine⟨by rw[kO];omega,_,?_,⟨n,m,L,k+2⟩,e,⟨b,a,?_,d⟩,rfl,c⟩
   ·simp only;omega
   ·simp only;omega
  ·obtain rfl:n=k+1:=by omega
   exact c
noncomputable def Zc κ:=(NL κ).an 42 8 (aG 0 P5 NK Tp)
theorem eOa κ:aE (Zc κ):=(eOr _).an (mOr _) (lOa _)
theorem mOa κ:aj (Zc κ):=(mOr _).an aI
theorem yOg κ ds rs K:(a0 (Zc κ) 12 42 [eG ds rs] [] K)=(
 letI a:=AV.ptr 0 0 []
 letI b:=AV.int
 letI c:=AV.ptr
 letI d:=AV.agg
 letI e:=Obj.box
 letI f:=Obj.rows
 letI g:=AV.ah
 letI h:=AV.ak
 letI i:=AV.nil
 letI j:=Int.toNat (↑(ds.length):Int)
 letI l:=d [g 43 ds,g 48 rs]
 letI m:=Pg.toProgram (Env.P (NL κ))
 aV (true&&decide ((↑(ds.length):Int)<=(↑(ds.length):Int))&&decide ((Int.toNat (↑(ds.length):Int)+1)*25<=70368744177664)&&true) (∃(e1:B3),letI k:=[g 43 e1.1,g 48 e1.2];letI n:=[h 1 0 e1.1.length,i];([c 4 0 [] 0],[e 25 l,f 35 3 (List.replicate j []) none,e 145 (d [h 1 0 j,i]),e 99 (c 2 0 [] 0),e 25 l,Dn.Obj.loop (iI Tryz.prog 42 3 LoopState.ready none (gX (bM 63) [(0,d [g 43 ds,g 48 rs]),(1,a 0),(2,AV.lit (Value.pointer none)),(3,c 3 0 [] 0),(7,c 0 0 [0] 0),(8,g 43 ds),(9,b (↑(ds.length):Int)),(10,h 1 0 j),(11,d [h 1 0 j,i]),(12,c 2 0 [] 0),(13,d [g 43 ds,g 48 rs]),(14,AV.bm 129 [c 4 0 [] 0])]))])=([c 4 0 [] 0],[e 25 (d k),f 35 3 (List.replicate e1.1.length []) none,e 145 (d n),e 99 (c 2 0 [] 0),e 25 (d k),Dn.Obj.loop (iI Tryz.prog 42 3 LoopState.ready none (gX (bM 63) [(0,d k),(1,a 0),(2,AV.lit (Value.pointer none)),(3,c 3 0 [] 0),(7,c 0 0 [0] 0),(8,g 43 e1.1),(9,b (↑(e1.1.length):Int)),(10,h 1 0 e1.1.length),(11,d n),(12,c 2 0 [] 0),(13,d k),(14,AV.bm 129 [c 4 0 [] 0])]))])/\yr e1.1 e1.2/\ad m 42 8=ad m 42 8/\∃(e0:AOf),sp 63 [(3,a 0),(45,b (↑(e1.1.length):Int)),(46,b 0)] [e 99 (c 1 0 [] 0),e 145 (d [h 2 0 e1.1.length,i]),f 35 3 (dy (tu e1.1.length (zd e1.1 e1.2))) none]=sp 63 [(3,a 0),(45,b (↑(e0.n):Int)),(46,b (↑(e0.i):Int))] (Ws e0.n e0.m e0.L e0.i)/\(WG e0.n e0.m e0.L/\(e0.n+1)*e0.m<=1000000000/\e0.i<=e0.n/\e0.n<=60)/\aq (Nat.beq e0.n 0) (K (a 0) [e 145 (d [h 1 0 e0.n,i]),f 35 3 (dy e0.L) none]) (K (a 0) [e 145 (d [h 1 0 e0.n,h 2 0 (List.length (bu e0.n e0.m e0.L e0.n))]),f 35 3 (dy e0.L) none,Obj.row 101 (bu e0.n e0.m e0.L e0.n)]))):=by kernel_rfl
def DW ds a:=tu ds.length (zd ds a)
def sg ds rs:=(zd ds rs).length
def Xv(x:B3):List AV×List Dn.Obj:=([eG x.1 x.2],[])
def Tv(x:B3):Out (AV×List Dn.Obj):= .aq (Nat.beq x.1.length 0)
 (.one (.ptr 0 0 [] 0,yi x.1.length (dy (DW x.1 x.2))))
 (.one (.ptr 0 0 [] 0,uv x.1.length (dy (DW x.1 x.2)) (bu x.1.length (sg x.1 x.2) (DW x.1 x.2) x.1.length)))
theorem yr.le{ds a}(h:yr ds a):(ds.length+1)*sg ds a<=1000000000:=by
 have c:=h.hd;have d:=h.hr;have b:=Bj ds _ h.bs;refine Nat.le_trans (Nat.mul_le_mul (show ds.length+1<=61 by omega) (by unfold sg;omega)) (by omega)
theorem yr.wg{ds a}(h:yr ds a):WG ds.length (sg ds a) (DW ds a):=Wf h.ed
theorem cOg κ:bd (Zc κ) 12 42 (aO Xv (fun x=>yr x.1 x.2) Tv):=by
 refine aR ?_;rintro⟨ds,b⟩ K a c;simp only at a;refine Eq.mpr (yOg κ ds b K) ?_;have hd:=a.hd;simp only[ai,ap7];exact⟨by grind,(ds,b),rfl,a,trivial,⟨ds.length,sg ds b,DW ds b,0⟩,rfl,⟨a.wg,a.le,Nat.zero_le _,hd⟩,c⟩
noncomputable def Y3 κ:=(Zc κ).aw 42 (aO Xv (fun x=>yr x.1 x.2) Tv)
theorem eOf κ:aE (Y3 κ):=(eOa _).aw (mOa _) (cOg _)
theorem mOf κ:aj (Y3 κ):=(mOa _).aw aJ
end Go.Proofs.YtioeffnadipbaaaGreatDoor
